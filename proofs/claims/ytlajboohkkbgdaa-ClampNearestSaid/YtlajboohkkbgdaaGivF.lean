/- clamp.Fits: whether starts are such that spans are within their parents; as a Lean function, with its contract in the print's shape. Conditions: those stated in the function. -/
import Derived.Test.YtlajboohkkbgdaaGivS
namespace Go.Proofs.Ytlajboohkkbgdaa
open Go.RowKit
open Go.Proofs.YtlajboohkkbgdaaX (SP spOf)
set_option linter.unusedSimpArgs false
set_option linter.unusedVariables false

/-- Is a start none? -/
def badS (x : Int) : Bool := decide (x < 0) || decide (1152921504606846976 ≤ x)
/-- Does place i fit? -/
def fitAt (l : List SP) (P st : List Int) (i : Nat) : Bool :=
  if P.getD i (-1) < 0 then st.getD i 0 == (l.getD i z0).f6
  else if (l.getD (P.getD i (-1)).toNat z0).f7 < (l.getD i z0).f7 then st.getD i 0 == st.getD (P.getD i (-1)).toNat 0
  else !(decide (st.getD i 0 < st.getD (P.getD i (-1)).toNat 0) || decide (st.getD (P.getD i (-1)).toNat 0 + (l.getD (P.getD i (-1)).toNat z0).f7 < st.getD i 0 + (l.getD i z0).f7))
def fitsB (l : List SP) (P st : List Int) : Bool := rightB (l.map spOf) P && (decide (st.length = l.length) && (!st.any badS && (List.range l.length).all (fitAt l P st)))

theorem dur_of (l : List SP) (P : List Int) (h : rightB (l.map spOf) P = true) (i : Nat) (hi : i < l.length) : 0 ≤ (l.getD i z0).f7 ∧ (l.getD i z0).f7 ≤ 1125899906842624 := by
  simp only [rightB, Bool.and_eq_true, Bool.not_eq_true', List.any_eq_false] at h
  have h1 := h.2 (spOf (l.getD i z0)) (by rw [List.getD_eq_getElem?_getD, List.getElem?_eq_getElem hi]; exact List.mem_map.2 ⟨_, List.getElem_mem hi, rfl⟩)
  simp only [mayP, Bool.not_eq_true', Bool.not_eq_false, Bool.and_eq_true, decide_eq_true_eq, Bool.not_eq_eq_eq_not, Bool.not_true] at h1
  have h2 := h1.1.1
  exact ⟨h2.2.2.2.2.2.2.1, h2.2.2.2.2.2.2.2⟩


set_option maxRecDepth 100000 in
theorem fits_a (l : List SP) (P st : List Int) (A B C : Option Addr) (c d f : Nat) (w : World) (hl : Rd w 8 (l.map spOf).length A c (spans (l.map spOf))) (hP : Rd w 1 P.length B d (ints P)) (hB : ∀ ad, B = some ad → 0 < P.length → ad.block < w.heap.size) (hs : Rd w 1 st.length C f (ints st)) (hn : P.length ≤ 1099511627776) (hr : rightB (l.map spOf) P = false) : Calls Try.prog 16 #[.slice A l.length c, .slice B P.length d, .slice C st.length f] w fun e w' => e = .returned (.bool false) ∧ Below w.heap.size w w' := by
  have HR := Lib.hid (cright_any (l.map spOf) P A B c d w hl hP hB hn)
  rw [hr, List.length_map] at HR
  have hs' := hs
  clear hl hP hB hr hs hs'
  go_enter Try.func16, Try.ntmps16
  go_wp2_with (go_at_call 19; go_must (refine HR.out.mono ?_; rintro e w1 ⟨rfl, hb1⟩))
  go_ret
  exact ⟨rfl, hb1⟩

set_option maxRecDepth 100000 in
theorem fits_b (l : List SP) (P st : List Int) (A B C : Option Addr) (c d f : Nat) (w : World) (hl : Rd w 8 (l.map spOf).length A c (spans (l.map spOf))) (hP : Rd w 1 P.length B d (ints P)) (hB : ∀ ad, B = some ad → 0 < P.length → ad.block < w.heap.size) (hs : Rd w 1 st.length C f (ints st)) (hn : P.length ≤ 1099511627776) (hr : rightB (l.map spOf) P = true) (hlen : ¬ st.length = l.length) : Calls Try.prog 16 #[.slice A l.length c, .slice B P.length d, .slice C st.length f] w fun e w' => e = .returned (.bool false) ∧ Below w.heap.size w w' := by
  have HR := Lib.hid (cright_any (l.map spOf) P A B c d w hl hP hB hn)
  rw [hr, List.length_map] at HR
  have t1 : (st.length != l.length) = true := by simpa using hlen
  have t2 : ((st.length : Int) != (l.length : Int)) = true := by simp; omega
  have hs' := hs
  clear hl hP hB hr hs hlen hs'
  go_enter Try.func16, Try.ntmps16
  go_wp2_with (go_at_call 19; go_must (refine HR.out.mono ?_; rintro e w1 ⟨rfl, hb1⟩))
  go_ret
  exact ⟨rfl, hb1⟩

set_option maxRecDepth 100000 in
theorem fits_c (l : List SP) (P st : List Int) (A B C : Option Addr) (c d f : Nat) (w : World) (hl : Rd w 8 (l.map spOf).length A c (spans (l.map spOf))) (hP : Rd w 1 P.length B d (ints P)) (hB : ∀ ad, B = some ad → 0 < P.length → ad.block < w.heap.size) (hs : Rd w 1 st.length C f (ints st)) (hn : P.length ≤ 1099511627776) (hr : rightB (l.map spOf) P = true) (hlen : st.length = l.length) (hb : st.any badS = true) : Calls Try.prog 16 #[.slice A l.length c, .slice B P.length d, .slice C st.length f] w fun e w' => e = .returned (.bool false) ∧ Below w.heap.size w w' := by
  have HR := Lib.hid (cright_any (l.map spOf) P A B c d w hl hP hB hn)
  rw [hr, List.length_map] at HR
  have t1 : (st.length != l.length) = false := by simpa using hlen
  have t2 : ((st.length : Int) != (l.length : Int)) = false := by simp [hlen]
  have HC := Lib.hid (fun (W : World) (hW : Rd W 1 st.length C f (ints st)) => contains_i64 27 #[] badS st C f W hW (enters_of Try.func27 (by kernel_rfl) rfl) (fun s W => fits1_any s W))
  rw [hb] at HC
  have HS := Lib.hid hs
  clear hl hP hB hr hs hlen hb
  go_enter Try.func16, Try.ntmps16
  go_wp2_with (first | (go_at_call 19; go_must (refine HR.out.mono ?_; rintro e w1 ⟨rfl, hb1⟩; have HB1 := Lib.hid hb1; clear hb1)) | (go_at_call 26; go_must (refine (HC.out _ (HS.out.below HB1.out (Nat.le_refl _))).mono ?_; rintro e w2 ⟨rfl, hb2⟩)))
  go_ret
  exact ⟨rfl, HB1.out.trans (hb2.mono HB1.out.size)⟩

set_option maxRecDepth 100000 in
set_option maxHeartbeats 8000000 in
theorem fits_d (l : List SP) (P st : List Int) (A B C : Option Addr) (c d f : Nat) (w : World) (hl : Rd w 8 (l.map spOf).length A c (spans (l.map spOf))) (hP : Rd w 1 P.length B d (ints P)) (hB : ∀ ad, B = some ad → 0 < P.length → ad.block < w.heap.size) (hs : Rd w 1 st.length C f (ints st)) (hn : P.length ≤ 1099511627776) (hr : rightB (l.map spOf) P = true) (hlen : st.length = l.length) (hb : st.any badS = false) : Calls Try.prog 16 #[.slice A l.length c, .slice B P.length d, .slice C st.length f] w fun e w' => e = .returned (.bool ((List.range l.length).all (fitAt l P st))) ∧ Below w.heap.size w w' := by
  have HR := Lib.hid (cright_any (l.map spOf) P A B c d w hl hP hB hn)
  rw [hr, List.length_map] at HR
  have HDU := Lib.hid (dur_of l P hr)
  simp only [rightB, Bool.and_eq_true, decide_eq_true_eq, List.length_map] at hr
  obtain ⟨⟨hlen2, hfb⟩, hmm⟩ := hr
  have HF := Lib.hid ((forestB_iff P).1 hfb)
  clear hmm hfb
  have hst : ∀ i, i < l.length → 0 ≤ st.getD i 0 ∧ st.getD i 0 < 1152921504606846976 := fun i hi => by
    rw [List.any_eq_false] at hb
    have h1 := hb (st.getD i 0) (by rw [List.getD_eq_getElem?_getD, List.getElem?_eq_getElem (by omega)]; simp)
    simp only [badS, Bool.or_eq_true, decide_eq_true_eq] at h1
    omega
  have HST := Lib.hid hst
  have t1 : (st.length != l.length) = false := by simpa using hlen
  have t2 : ((st.length : Int) != (l.length : Int)) = false := by simp [hlen]
  have HC := Lib.hid (fun (W : World) (hW : Rd W 1 st.length C f (ints st)) => contains_i64 27 #[] badS st C f W hW (enters_of Try.func27 (by kernel_rfl) rfl) (fun s W => fits1_any s W))
  rw [hb] at HC
  have HS := Lib.hid hs
  have HL := Lib.hid hl
  have HP := Lib.hid hP
  have HLEN := Lib.hid (And.intro hlen hlen2)
  have hnl : l.length ≤ 1099511627776 := by omega
  clear hl hP hB hs hb hst hlen hlen2
  go_enter Try.func16, Try.ntmps16
  go_wp2_with (first | (go_at_call 19; go_must (refine HR.out.mono ?_; rintro e w1 ⟨rfl, hb1⟩; have HB1 := Lib.hid hb1; clear hb1)) | (go_at_call 26; go_must (refine (HC.out _ (HS.out.below HB1.out (Nat.le_refl _))).mono ?_; rintro e w2 ⟨rfl, hb2⟩; have HB2 := Lib.hid (HB1.out.trans (hb2.mono HB1.out.size)); clear hb2)))
  go_loopg [26] P.length (fun k s26 wr => ∃ i : Nat, i ≤ P.length ∧ P.length - i ≤ k ∧ s26 = .int .i64 i ∧ Aside (Below w.heap.size w wr ∧ ∀ j, j < i → fitAt l P st j = true))
  case atStart => exact ⟨0, Nat.zero_le _, by omega, rfl, HB2.out, by intro j hj; omega⟩
  case round =>
    obtain ⟨i, hi, hk, rfl, hx⟩ := hrel
    clear HB2
    rcases Nat.lt_or_ge i P.length with hlt | hge
    · obtain ⟨hbw, hall⟩ := hx.out
      have hll := HLEN.out.2
      have hsl := HLEN.out.1
      have hil : i < l.length := by omega
      have hisl : i < st.length := by omega
      obtain ⟨bP, oP, rfl, hlP, hcP⟩ := HP.out.at_ (by omega)
      have kP := (hbw.cell (p := ⟨bP, oP + i, none⟩) hlP).trans (hcP i _ (ints_at P i hlt))
      obtain ⟨bS, oS, rfl, hlS, hcS⟩ := HS.out.at_ (by omega)
      have hats : ∀ j, j < l.length → (ints st)[j]? = some (.int .i64 (st.getD j 0)) := fun j hj => by
        have h1 : j < st.length := by omega
        simp only [ints, List.getElem?_map, List.getD_eq_getElem?_getD, List.getElem?_eq_getElem h1]
        rfl
      have kS := (hbw.cell (p := ⟨bS, oS + i, none⟩) hlS).trans (hcS i _ (hats i hil))
      obtain ⟨b, o, rfl, hlb, h8⟩ := span_at HL.out i hil
      have cell : ∀ q u, w.cell? ⟨b, q, none⟩ = some u → wr.cell? ⟨b, q, none⟩ = some u := fun q u hu => (hbw.cell (p := ⟨b, q, none⟩) hlb).trans hu
      have k6 := (h8.keep cell).2.2.2.2.2.2.1
      have k7 := (h8.keep cell).2.2.2.2.2.2.2
      have hrng : -1 ≤ P.getD i (-1) ∧ P.getD i (-1) < P.length := by
        refine HF.out.1 _ ?_
        rw [List.getD_eq_getElem?_getD, List.getElem?_eq_getElem hlt]; simp
      have hdi := HDU.out i hil
      have hsi := HST.out i hil
      have hfa : fitAt l P st i = fitAt l P st i := rfl
      conv at hfa => rhs; unfold fitAt
      have hz1 := HS.out.2.1
      have hz2 := HL.out.2.1
      rw [List.length_map] at hz2
      have hcase := Int.lt_or_le (P.getD i (-1)) 0
      have hsp : ∀ p : Nat, P.getD i (-1) = (p : Int) → (p < l.length ∧ p < st.length) ∧ wr.cell? ⟨bS, oS + p, none⟩ = some (.int .i64 (st.getD p 0)) ∧ wr.cell? ⟨b, o + p * 8 + 7, none⟩ = some (.int .i64 (l.getD p z0).f7) ∧ (0 ≤ (l.getD p z0).f7 ∧ (l.getD p z0).f7 ≤ 1125899906842624) ∧ (0 ≤ st.getD p 0 ∧ st.getD p 0 < 1152921504606846976) := fun p hp => by
        have hpl : p < l.length := by omega
        obtain ⟨b', o', hbo, _, h8'⟩ := span_at HL.out p hpl
        cases hbo
        exact ⟨⟨hpl, by omega⟩, (hbw.cell (p := ⟨bS, oS + p, none⟩) hlS).trans (hcS p _ (hats p hpl)), (h8'.keep cell).2.2.2.2.2.2.2, HDU.out p hpl, HST.out p hpl⟩
      have HX := Lib.hid (And.intro hbw hall)
      clear hbw hall hx hcP hcS hats h8 cell hll hsl
      generalize P.getD i (-1) = p at kP hrng hfa hcase hsp
      generalize hsv : st.getD i 0 = si at kS hsi hfa
      generalize hd7 : (l.getD i z0).f7 = di at k7 hdi hfa
      generalize hd6 : (l.getD i z0).f6 = xi at k6 hfa
      clear hsv hd7 hd6
      rcases hcase with hneg | hpos
      · have u1 : decide (p < 0) = true := decide_eq_true hneg
        rw [if_pos hneg] at hfa
        clear hsp
        by_cases he : si = xi
        · have u2 : (si != xi) = false := by simp [he]
          have HFA := Lib.hid (show fitAt l P st i = true by rw [hfa]; simpa using he)
          clear hfa he
          go_upto_region 7 with fail
          go_quiet (fail)
          go_wp2
          go_roundg (P.length - (i + 1))
          case measure => omega
          case rel => exact ⟨i + 1, by omega, Nat.le_refl _, by simp, by repeat (first | exact HX.out.1 | refine Below.drewN ?_ _), by intro j hj; rcases Nat.lt_or_ge j i with h | h; exact HX.out.2 j h; (obtain rfl : j = i := by omega); exact HFA.out⟩
        · have u2 : (si != xi) = true := by simpa using he
          have HFA := Lib.hid (show (List.range l.length).all (fitAt l P st) = false by rw [List.all_eq_false]; exact ⟨i, List.mem_range.2 hil, by rw [hfa]; simpa using he⟩)
          clear hfa he
          go_upto_region 7 with fail
          go_quiet (fail)
          go_wp2
          go_ret
          exact ⟨by rw [HFA.out]; rfl, by repeat (first | exact HX.out.1 | refine Below.drewN ?_ _)⟩
      · obtain ⟨q, rfl⟩ := Int.eq_ofNat_of_zero_le hpos
        obtain ⟨⟨hpl, hpsl⟩, kSp, q7, hdp, hspp⟩ := hsp q rfl
        have u1 : decide ((q : Int) < 0) = false := decide_eq_false (by omega)
        rw [if_neg (by omega), show ((q : Int)).toNat = q from rfl] at hfa
        clear hsp
        generalize hsv : st.getD q 0 = sp at kSp hspp hfa
        generalize hd7 : (l.getD q z0).f7 = dp at q7 hdp hfa
        clear hsv hd7
        by_cases hdd : dp < di
        · have u3 : decide (dp < di) = true := decide_eq_true hdd
          rw [if_pos hdd] at hfa
          by_cases he : si = sp
          · have u2 : (si != sp) = false := by simp [he]
            have HFA := Lib.hid (show fitAt l P st i = true by rw [hfa]; simpa using he)
            clear hfa he
            go_upto_region 9 with fail
            go_quiet (fail)
            go_upto_region 10 with fail
            go_quiet (fail)
            go_wp2
            go_roundg (P.length - (i + 1))
            case measure => omega
            case rel => exact ⟨i + 1, by omega, Nat.le_refl _, by simp, by repeat (first | exact HX.out.1 | refine Below.drewN ?_ _), by intro j hj; rcases Nat.lt_or_ge j i with h | h; exact HX.out.2 j h; (obtain rfl : j = i := by omega); exact HFA.out⟩
          · have u2 : (si != sp) = true := by simpa using he
            have HFA := Lib.hid (show (List.range l.length).all (fitAt l P st) = false by rw [List.all_eq_false]; exact ⟨i, List.mem_range.2 hil, by rw [hfa]; simpa using he⟩)
            clear hfa he
            go_upto_region 9 with fail
            go_quiet (fail)
            go_upto_region 10 with fail
            go_quiet (fail)
            go_wp2
            go_ret
            exact ⟨by rw [HFA.out]; rfl, by repeat (first | exact HX.out.1 | refine Below.drewN ?_ _)⟩
        · have u3 : decide (dp < di) = false := decide_eq_false hdd
          rw [if_neg hdd] at hfa
          by_cases he : si < sp
          · have u2 : decide (si < sp) = true := decide_eq_true he
            have HFA := Lib.hid (show (List.range l.length).all (fitAt l P st) = false by rw [List.all_eq_false]; exact ⟨i, List.mem_range.2 hil, by rw [hfa, u2]; simp⟩)
            clear hfa he
            go_upto_region 9 with fail
            go_quiet (fail)
            go_upto_region 12 with fail
            go_quiet (fail)
            go_wp2
            go_ret
            exact ⟨by rw [HFA.out]; rfl, by repeat (first | exact HX.out.1 | refine Below.drewN ?_ _)⟩
          · have u2 : decide (si < sp) = false := decide_eq_false he
            by_cases hg : sp + dp < si + di
            · have u4 : decide (sp + dp < si + di) = true := decide_eq_true hg
              have HFA := Lib.hid (show (List.range l.length).all (fitAt l P st) = false by rw [List.all_eq_false]; exact ⟨i, List.mem_range.2 hil, by rw [hfa, u4]; simp⟩)
              clear hfa he hg
              go_upto_region 9 with fail
              go_quiet (fail)
              go_upto_region 12 with fail
              go_quiet (fail)
              go_wp2
              go_ret
              exact ⟨by rw [HFA.out]; rfl, by repeat (first | exact HX.out.1 | refine Below.drewN ?_ _)⟩
            · have u4 : decide (sp + dp < si + di) = false := decide_eq_false hg
              have HFA := Lib.hid (show fitAt l P st i = true by rw [hfa, u2, u4]; rfl)
              clear hfa he hg
              go_upto_region 9 with fail
              go_quiet (fail)
              go_upto_region 12 with fail
              go_quiet (fail)
              go_wp2
              go_roundg (P.length - (i + 1))
              case measure => omega
              case rel => exact ⟨i + 1, by omega, Nat.le_refl _, by simp, by repeat (first | exact HX.out.1 | refine Below.drewN ?_ _), by intro j hj; rcases Nat.lt_or_ge j i with h | h; exact HX.out.2 j h; (obtain rfl : j = i := by omega); exact HFA.out⟩
    · obtain rfl : i = P.length := by omega
      obtain ⟨hbw, hall⟩ := hx.out
      have HFA := Lib.hid (show (List.range l.length).all (fitAt l P st) = true by rw [List.all_eq_true]; intro j hj; exact hall j (by have := List.mem_range.1 hj; have := HLEN.out.2; omega))
      have HX := Lib.hid hbw
      clear hx hbw hall
      go_wp2
      go_ret
      exact ⟨by rw [HFA.out]; rfl, HX.out⟩

end Go.Proofs.Ytlajboohkkbgdaa
namespace Go.Proofs.YtlajboohkkbgdaaX
open Go.RowKit Go.Proofs.YtlajboohkkbgdaaW.PrintWords Go.Proofs.YtlajboohkkbgdaaW.PrintLast Go.Proofs.YtlajboohkkbgdaaW.PrintMore
def clamp_Fits.f (l0 : List SP) (l1 l2 : List Int) : Option Bool := if l1.length ≤ 1099511627776 then some (Go.Proofs.Ytlajboohkkbgdaa.fitsB l0 l1 l2) else none
theorem clamp_Fits.calls (A0 : Option Addr) (c0 : Nat) (l0 : List (S34)) (A1 : Option Addr) (c1 : Nat) (l1 : List Int) (A2 : Option Addr) (c2 : Nat) (l2 : List Int) (r : Bool) (w : World) (hr0 : Kd.C k34 w A0 l0.length l0) (hc0 : l0.length ≤ c0) (hr1 : Kd.C (Kd.int .i64) w A1 l1.length l1) (hc1 : l1.length ≤ c1) (hr2 : Kd.C (Kd.int .i64) w A2 l2.length l2) (hc2 : l2.length ≤ c2) (h : clamp_Fits.f l0 l1 l2 = some r) :
    Calls Try.prog 16 #[.slice A0 l0.length c0, .slice A1 l1.length c1, .slice A2 l2.length c2] w fun e w' => e = .returned (.bool r) ∧ Below w.heap.size w w' := by
  unfold clamp_Fits.f at h
  split at h
  · rename_i hn
    cases h
    have h0 := rd_sp hr0 hc0
    have h1 := rd_int hr1 hc1
    have h2 := rd_int hr2 hc2
    unfold Go.Proofs.Ytlajboohkkbgdaa.fitsB
    cases hr : Go.Proofs.Ytlajboohkkbgdaa.rightB (l0.map spOf) l1 with
    | false => exact Go.Proofs.Ytlajboohkkbgdaa.fits_a l0 l1 l2 A0 A1 A2 c0 c1 c2 w h0 h1 (rd_lt h1) h2 hn hr
    | true =>
      by_cases hl : l2.length = l0.length
      · rw [decide_eq_true hl]
        cases hb : l2.any Go.Proofs.Ytlajboohkkbgdaa.badS with
        | true => exact Go.Proofs.Ytlajboohkkbgdaa.fits_c l0 l1 l2 A0 A1 A2 c0 c1 c2 w h0 h1 (rd_lt h1) h2 hn hr hl hb
        | false => exact Go.Proofs.Ytlajboohkkbgdaa.fits_d l0 l1 l2 A0 A1 A2 c0 c1 c2 w h0 h1 (rd_lt h1) h2 hn hr hl hb
      · rw [decide_eq_false hl]
        exact Go.Proofs.Ytlajboohkkbgdaa.fits_b l0 l1 l2 A0 A1 A2 c0 c1 c2 w h0 h1 (rd_lt h1) h2 hn hr hl
  · cases h
end Go.Proofs.YtlajboohkkbgdaaX
