/- ClampNearest: the walk. The spans' kinds are no numbers below 0. -/
import Derived.Test.YtlajboohkkbgdaaPureB
import Derived.Test.YtlajboohkkbgdaaPXx11
import Derived.Test.YtlajboohkkbgdaaGivF
import Derived.Deep.RegionWith
namespace Go.Proofs.Ytlajboohkkbgdaa
open Go.RowKit Go.Proofs.YtlajboohkkbgdaaW.PrintWords Go.Proofs.YtlajboohkkbgdaaW.PrintMore Go.Proofs.YtlajboohkkbgdaaW.PrintLast
open Go.Proofs.YtlajboohkkbgdaaX (SP spOf greatB great_ev of_ev may_ev allMay right_all starts_at starts_bd startsL_length rt_of Rt stP zS cs_fB great_smallB rd_sp rd_int)
set_option linter.unusedSimpArgs false
set_option linter.unusedVariables false

set_option maxRecDepth 100000 in
theorem near_a (l : List SP) (pl by_ : Int) (A : Option Addr) (c : Nat) (w : World) (hr0 : Kd.C Go.Proofs.YtlajboohkkbgdaaX.k34 w A l.length l) (hc0 : l.length ≤ c) (hg : greatB l = true) :
    Calls Try.prog 4 #[.slice A l.length c, .int .u8 pl, .int .i32 by_] w fun e w' => e = .returned (.bool true) ∧ Below w.heap.size w w' := by
  obtain ⟨k, hk⟩ := (great_ev l).rounds
  rw [hg] at hk
  have HG := Lib.hid (Go.Proofs.YtlajboohkkbgdaaX.merkhetlaw04_Great.calls k A c l true w hr0 hc0 hk)
  have HF := Lib.hid fixed19_any
  clear hr0 hc0 hg hk
  go_enter Try.func4, Try.ntmps4
  go_wp2_with (first | (go_at_call 8; go_must (refine HG.out.mono ?_; rintro e w1 ⟨rfl, hb1⟩; have HB1 := Lib.hid hb1; clear hb1)) | (go_at_call 9; go_must (refine (HF.out _).mono ?_; rintro e w2 ⟨rfl, hb2⟩)))
  go_ret
  exact ⟨rfl, HB1.out.trans (hb2.mono HB1.out.size)⟩

set_option maxRecDepth 100000 in
theorem near_b (l : List SP) (pl by_ : Int) (A : Option Addr) (c : Nat) (w : World) (hr0 : Kd.C Go.Proofs.YtlajboohkkbgdaaX.k34 w A l.length l) (hc0 : l.length ≤ c) (hg : greatB l = false) (hz : l.length = 0) :
    Calls Try.prog 4 #[.slice A l.length c, .int .u8 pl, .int .i32 by_] w fun e w' => e = .returned (.bool true) ∧ Below w.heap.size w w' := by
  obtain ⟨k, hk⟩ := (great_ev l).rounds
  rw [hg] at hk
  have HG := Lib.hid (Go.Proofs.YtlajboohkkbgdaaX.merkhetlaw04_Great.calls k A c l false w hr0 hc0 hk)
  have HF := Lib.hid fixed19_any
  rw [hz] at HG ⊢
  clear hr0 hc0 hg hk hz
  go_enter Try.func4, Try.ntmps4
  go_wp2_with (first | (go_at_call 8; go_must (refine HG.out.mono ?_; rintro e w1 ⟨rfl, hb1⟩; have HB1 := Lib.hid hb1; clear hb1)) | (go_at_call 9; go_must (refine (HF.out _).mono ?_; rintro e w2 ⟨rfl, hb2⟩)))
  go_ret
  exact ⟨rfl, HB1.out.trans (hb2.mono HB1.out.size)⟩

/-- How far two are from one another. -/
def farV (a b : Int) : Int := mx (a - b) (b - a)
theorem far_any (a b : Int) (h1 : -1000000000000000000 ≤ a - b) (h2 : a - b ≤ 1000000000000000000) (W : World) : Calls Try.prog 15 #[.int .i64 a, .int .i64 b] W fun e w' => e = .returned (.int .i64 (farV a b)) ∧ Below W.heap.size W w' := by
  refine (Go.Proofs.YtlajboohkkbgdaaX.merkhetlaw19_far.calls a b (farV a b) W ?_).mono ?_
  · unfold Go.Proofs.YtlajboohkkbgdaaX.merkhetlaw19_far.f farV
    rw [Go.Proofs.YtlajboohkkbgdaaX.wr (by omega) (by omega), Go.Proofs.YtlajboohkkbgdaaX.wr (by omega) (by omega)]
  · rintro e w' ⟨rfl, hb⟩
    exact ⟨rfl, hb⟩

set_option maxRecDepth 100000 in
set_option maxHeartbeats 8000000 in
theorem near_c (l : List SP) (pl by_ : Int) (hpl : 0 ≤ pl ∧ pl ≤ 255) (hby : -2147483648 ≤ by_ ∧ by_ ≤ 2147483647) (A : Option Addr) (c : Nat) (w : World) (h0 : ∀ x ∈ l, 0 ≤ x.f3) (hr0 : Kd.C Go.Proofs.YtlajboohkkbgdaaX.k34 w A l.length l) (hc0 : l.length ≤ c) (hg : greatB l = false) (hz : 0 < l.length) :
    Calls Try.prog 4 #[.slice A l.length c, .int .u8 pl, .int .i32 by_] w fun e w' => e = .returned (.bool true) ∧ Below w.heap.size w w' := by
  have hl := great_smallB hg
  obtain ⟨k, hk⟩ := (great_ev l).rounds
  rw [hg] at hk
  have HG := Lib.hid (Go.Proofs.YtlajboohkkbgdaaX.merkhetlaw04_Great.calls k A c l false w hr0 hc0 hk)
  have HF := Lib.hid fixed19_any
  obtain ⟨o, ho1, ho2, ho3⟩ := of_ev l hl
  obtain ⟨k2, hk2⟩ := ho1.rounds
  have HO := Lib.hid (fun (W : World) (hb : Below w.heap.size w W) => Go.Proofs.YtlajboohkkbgdaaX.merkhetref10_Of.calls k2 A c l o W (Kd.C_below hr0 hb) hc0 hk2)
  obtain ⟨k3, hk3⟩ := (may_ev l (by omega) h0).rounds
  have HM := Lib.hid (fun (W : World) (hb : Below w.heap.size w W) => Go.Proofs.YtlajboohkkbgdaaX.merkhetref18_May.calls k3 A c l (allMay l) W (Kd.C_below hr0 hb) hc0 hk3)
  have hcs := cs_fB l o (by omega)
  have t0 : (l.length == 0) = false := by rw [beq_eq_false_iff_ne]; omega
  have t0' : ((l.length : Int) == 0) = false := by rw [beq_eq_false_iff_ne]; omega
  have t0'' : ¬ (l = []) := fun h => by rw [h] at hz; simp at hz
  have H0 := Lib.hid (And.intro hr0 hc0)
  cases hr : rightB (l.map spOf) o with
  | false =>
    have hm : allMay l = false := by
      cases hm : allMay l with
      | false => rfl
      | true => rw [right_all hm ho2 ho3] at hr; cases hr
    rw [hr] at hcs
    rw [hm] at HM
    have HS := Lib.hid (fun (W : World) (hb : Below w.heap.size w W) (B : Option Addr) (d : Nat) (hC : Kd.C (Kd.int .i64) W B o.length o) (hd : o.length ≤ d) => Go.Proofs.YtlajboohkkbgdaaX.clamp_Starts.calls A c l B d o [] false W (Kd.C_below hr0 hb) hc0 hC hd hcs)
    clear hr0 hc0 hg hk hk2 hk3 hcs hr hm ho1 ho2 ho3 h0 hl
    go_enter Try.func4, Try.ntmps4
    go_wp2_with (first | (go_at_call 8; go_must (refine HG.out.mono ?_; rintro e w1 ⟨rfl, hb1⟩; have HB1 := Lib.hid hb1; clear hb1)) | (go_at_call 12; go_must (refine (HO.out _ HB1.out).mono ?_; rintro e w2 ⟨v, rfl, hR, hb2⟩; obtain ⟨A2, c2, rfl, hl2, hC2⟩ := Kd.R_reads hR; have H2 := Lib.hid (And.intro (HB1.out.trans (hb2.mono HB1.out.size)) (And.intro hl2 hC2)); clear hR hb2 hl2 hC2)) | (go_at_call 10; go_must (refine (HS.out _ H2.out.1 A2 c2 H2.out.2.2 H2.out.2.1).mono ?_; rintro e w3 ⟨v3, rfl, _, hb3⟩; have H3 := Lib.hid (H2.out.1.trans (hb3.mono H2.out.1.size)); clear hb3)) | (go_at_call 9; go_must (refine (HF.out _).mono ?_; rintro e w4 ⟨rfl, hb4⟩; have H4 := Lib.hid (H3.out.trans (hb4.mono H3.out.size)); clear hb4)) | (go_at_call 14; go_must (refine (HM.out _ H4.out).mono ?_; rintro e w5 ⟨rfl, hb5⟩)))
    go_ret
    exact ⟨rfl, H4.out.trans (hb5.mono H4.out.size)⟩
  | true =>
    have h := rt_of hr
    rw [hr] at hcs
    have HS := Lib.hid (fun (W : World) (hb : Below w.heap.size w W) (B : Option Addr) (d : Nat) (hC : Kd.C (Kd.int .i64) W B o.length o) (hd : o.length ≤ d) => Go.Proofs.YtlajboohkkbgdaaX.clamp_Starts.calls A c l B d o (startsL l o) true W (Kd.C_below hr0 hb) hc0 hC hd hcs)
    have HR := Lib.hid (And.intro h hl)
    have hsl := startsL_length l o
    have HT := Lib.hid (And.intro ho2 hsl)
    have t3 : ((startsL l o).length != l.length) = false := by rw [hsl]; simp
    have t3' : (((startsL l o).length : Int) != (l.length : Int)) = false := by rw [hsl]; simp
    clear hr0 hc0 hg hk hk2 hk3 hcs hr ho1 ho2 ho3 h0 hl h HM hsl
    go_enter Try.func4, Try.ntmps4
    go_upto_region 10 with (first | (go_at_call 8; go_must (refine HG.out.mono ?_; rintro e w1 ⟨rfl, hb1⟩; have HB1 := Lib.hid hb1; clear hb1)) | (go_at_call 12; go_must (refine (HO.out _ HB1.out).mono ?_; rintro e w2 ⟨v, rfl, hR, hb2⟩; obtain ⟨A2, c2, rfl, hl2, hC2⟩ := Kd.R_reads hR; have H2 := Lib.hid (And.intro (HB1.out.trans (hb2.mono HB1.out.size)) (And.intro hl2 hC2)); clear hR hb2 hl2 hC2)) | (go_at_call 10; go_must (refine (HS.out _ H2.out.1 A2 c2 H2.out.2.2 H2.out.2.1).mono ?_; rintro e w3 ⟨v3, rfl, hR, hb3⟩; obtain ⟨A3, c3, rfl, hl3, hC3⟩ := Kd.R_reads hR; have H3 := Lib.hid (And.intro hb3 (And.intro hl3 hC3)); clear hR hb3 hl3 hC3)))
    have hi0 : 0 ≤ pl % (l.length : Int) := Int.emod_nonneg _ (by omega)
    have hi1 : pl % (l.length : Int) < l.length := Int.emod_lt_of_pos _ (by omega)
    generalize pl % (l.length : Int) = iz at hi0 hi1 ⊢
    obtain ⟨i, rfl⟩ := Int.eq_ofNat_of_zero_le hi0
    have hi : i < l.length := by omega
    have hb23 := H3.out.1
    have hbw3 := H2.out.1.trans (hb23.mono H2.out.1.size)
    have RL := rd_sp (Kd.C_below H0.out.1 hbw3) H0.out.2
    have RO := rd_int (Kd.C_below H2.out.2.2 hb23) H2.out.2.1
    have RS := rd_int H3.out.2.2 H3.out.2.1
    have hol := HT.out.1
    have hsl := HT.out.2
    obtain ⟨b, q, rfl, hlb, h8⟩ := span_at RL i hi
    obtain ⟨b2, q2, rfl, hlb2, hc2⟩ := RO.at_ (by omega)
    obtain ⟨b3, q3, rfl, hlb3, hc3⟩ := RS.at_ (by omega)
    have hats : ∀ j, j < l.length → w3.cell? ⟨b3, q3 + j, none⟩ = some (.int .i64 ((startsL l o).getD j 0)) := fun j hj => by
      refine hc3 j _ ?_
      have h1 : j < (startsL l o).length := by omega
      simp only [ints, List.getElem?_map, List.getD_eq_getElem?_getD, List.getElem?_eq_getElem h1]
      rfl
    have ko := hc2 i _ (ints_at o i (by omega))
    have ks := hats i hi
    have hlc : l.length ≤ c := H0.out.2
    have hio : i < o.length := by omega
    have hisl : i < (startsL l o).length := by omega
    have hrec := starts_at HR.out.1 HR.out.2 i hi
    have hbi := starts_bd HR.out.1 HR.out.2 i hi
    have hmi := HR.out.1.may i hi
    have hpar := HR.out.1.par i hi
    rw [stP] at hrec
    have hsp : ∀ p : Nat, o.getD i (-1) = (p : Int) → p < l.length ∧ p < (startsL l o).length ∧ w3.cell? ⟨b3, q3 + p, none⟩ = some (.int .i64 ((startsL l o).getD p 0)) ∧ At8 w3 b (q + p * 8) (l.getD p zS) ∧ (0 ≤ (startsL l o).getD p 0 ∧ (startsL l o).getD p 0 ≤ 72057594037927936) ∧ ((0 ≤ (l.getD p zS).f6 ∧ (l.getD p zS).f6 < 1125899906842624) ∧ (0 ≤ (l.getD p zS).f7 ∧ (l.getD p zS).f7 ≤ 1125899906842624)) := fun p hp => by
      have hpl : p < l.length := by omega
      obtain ⟨b', q', hbq, _, h8'⟩ := span_at RL p hpl
      cases hbq
      exact ⟨hpl, by omega, hats p hpl, h8', starts_bd HR.out.1 HR.out.2 p hpl, HR.out.1.may p hpl⟩
    have k6 := h8.2.2.2.2.2.2.1
    have k7 := h8.2.2.2.2.2.2.2
    have HB3 := Lib.hid hbw3
    clear hi0 hb23 hbw3 RL RO RS hol hsl h8 hc2 hc3 hats H0 HG HO HS
    have hcase := Int.lt_or_le (o.getD i (-1)) 0
    generalize o.getD i (-1) = p at ko hrec hpar hsp hcase
    generalize hS : (startsL l o).getD i 0 = si at ks hrec hbi
    generalize hd6 : (l.getD i zS).f6 = xi at k6 hrec hmi
    generalize hd7 : (l.getD i zS).f7 = di at k7 hrec hmi
    clear hS hd6 hd7
    rcases hcase with hneg | hpos
    · have u1 : decide (p < 0) = true := decide_eq_true hneg
      rw [if_pos hneg] at hrec
      subst hrec
      clear hsp
      go_upto_region 12 with fail
      go_region_held3 (fun w' => w'.cell? ⟨b3, q3 + i, none⟩ = some (.int .i64 si) ∧ w'.cell? ⟨b, q + i * 8 + 6, none⟩ = some (.int .i64 si) ∧ Below w3.heap.size w3 w')
        (first | (refine ⟨?_, ?_, ?_⟩ <;> first | assumption | exact (Below.refl _ _).drew | (go_keep; done)) | (go_split_ands; refine ⟨?_, ?_, ?_⟩ <;> first | exact cs_later (by assumption) (by assumption) | exact below_step (by assumption) (by assumption) (Below.size (by assumption))))
        (first | (go_at_call 9; refine (HF.out _).mono ?_; rintro e w' ⟨rfl, hbb⟩))
      rename_i hH
      obtain ⟨_, _, hb4⟩ := hH
      have H4 := Lib.hid hb4
      clear hb4
      go_wp2
      go_ret
      exact ⟨rfl, HB3.out.trans (H4.out.mono HB3.out.size)⟩
    · obtain ⟨p, rfl⟩ := Int.eq_ofNat_of_zero_le hpos
      obtain ⟨hpl, hpsl, kp, hp8, hbp, hmp⟩ := hsp p rfl
      have u1 : decide ((p : Int) < 0) = false := decide_eq_false (by omega)
      rw [if_neg (by omega)] at hrec
      simp only [Int.toNat_natCast] at hrec
      have kp6 := hp8.2.2.2.2.2.2.1
      have kp7 := hp8.2.2.2.2.2.2.2
      generalize hS : (startsL l o).getD p 0 = sp at kp hrec hbp
      generalize hd6 : (l.getD p zS).f6 = xp at kp6 hrec hmp
      generalize hd7 : (l.getD p zS).f7 = dp at kp7 hrec hmp
      clear hS hd6 hd7 hsp hp8
      by_cases hdd : di > dp
      · have u2 : decide (dp < di) = true := decide_eq_true hdd
        rw [if_pos hdd] at hrec
        subst hrec
        go_upto_region 13 with fail
        go_quiet (fail)
        go_upto_region 14 with fail
        go_region_held3 (fun w' => w'.cell? ⟨b3, q3 + i, none⟩ = some (.int .i64 si) ∧ w'.cell? ⟨b3, q3 + p, none⟩ = some (.int .i64 si) ∧ Below w3.heap.size w3 w')
          (first | (refine ⟨?_, ?_, ?_⟩ <;> first | assumption | exact (Below.drewN (Below.refl _ _) _).drew | (go_keep; done)) | (go_split_ands; refine ⟨?_, ?_, ?_⟩ <;> first | exact cs_later (by assumption) (by assumption) | exact below_step (by assumption) (by assumption) (Below.size (by assumption))))
          (first | (go_at_call 9; refine (HF.out _).mono ?_; rintro e w' ⟨rfl, hbb⟩))
        rename_i hH
        obtain ⟨_, _, hb4⟩ := hH
        have H4 := Lib.hid hb4
        clear hb4
        go_wp2
        go_ret
        exact ⟨rfl, HB3.out.trans (H4.out.mono HB3.out.size)⟩
      · have u2 : decide (dp < di) = false := decide_eq_false hdd
        rw [if_neg hdd] at hrec
        have hfar : (sp ≤ si + by_ ∧ si + by_ + di ≤ sp + dp) → (farV si (xi + sp - xp) < farV (si + by_) (xi + sp - xp) ∨ si + by_ = si) := fun ⟨f1, f2⟩ => by
          have h1 : (xi + sp - xp < sp ∧ si = sp) ∨ (sp ≤ xi + sp - xp ∧ xi + sp - xp ≤ sp + dp - di ∧ si = xi + sp - xp) ∨ (sp + dp - di < xi + sp - xp ∧ si = sp + dp - di) := by
            unfold mx mn at hrec
            split at hrec <;> split at hrec <;> omega
          unfold farV mx
          split <;> split <;> omega
        have HFar := Lib.hid hfar
        clear hfar hrec
        have hw : 0 ≤ xi + sp ∧ xi + sp ≤ 100000000000000000 := by omega
        have hw2 : -2000000000000000 ≤ xi + sp - xp ∧ xi + sp - xp ≤ 100000000000000000 := by omega
        have hw3 : -3000000000 ≤ si + by_ ∧ si + by_ ≤ 100000000000000000 := by omega
        have HA := Lib.hid (far_any si (xi + sp - xp) (by omega) (by omega))
        have HA2 := Lib.hid (far_any (si + by_) (xi + sp - xp) (by omega) (by omega))
        generalize farV si (xi + sp - xp) = f1 at HA HFar
        generalize farV (si + by_) (xi + sp - xp) = f2 at HA2 HFar
        have ksN : ∀ n, (w3.drewN n).cell? ⟨b3, q3 + i, none⟩ = some (.int .i64 si) := fun n => ks
        by_cases c1 : sp ≤ si + by_
        · have v1 : decide (sp ≤ si + by_) = true := decide_eq_true c1
          by_cases c2 : si + by_ + di ≤ sp + dp
          · have v2 : decide (si + by_ + di ≤ sp + dp) = true := decide_eq_true c2
            have hf := HFar.out ⟨c1, c2⟩
            by_cases c3 : f1 < f2
            · have v3 : decide (f1 < f2) = true := decide_eq_true c3
              clear hf c1 c2 c3 HFar
              go_upto_region 13 with fail
              go_quiet (fail)
              go_upto_region 15 with fail
              go_quiet (fail)
              go_upto_region 17 with fail
              go_quiet (fail)
              go_upto_region 18 with fail
              go_wp2_with (first | (go_at_call 9; go_must (refine (HF.out _).mono ?_; rintro e w4 ⟨rfl, hb4⟩; have e4 := cs_later hb4 (ksN _); have H4 := Lib.hid hb4; clear hb4)) | (go_at_call_of 15 (Value.int IntKind.i64 si); go_must (refine (HA.out _).mono ?_; rintro e w5 ⟨rfl, hb5⟩; have e5 := cs_later hb5 e4; have H5 := Lib.hid hb5; clear hb5)) | (go_at_call_of 15 (Value.int IntKind.i64 (si + by_)); go_must (refine (HA2.out _).mono ?_; rintro e w6 ⟨rfl, hb6⟩; have e6 := cs_later hb6 e5; have H6 := Lib.hid hb6; clear hb6)))
              go_ret
              have z4 : Below w.heap.size w w4 := HB3.out.trans (((Below.drewN (Below.refl w3.heap.size w3) _).trans H4.out).mono HB3.out.size)
              have z5 := z4.trans (H5.out.mono z4.size)
              exact ⟨rfl, z5.trans (H6.out.mono z5.size)⟩
            · have v3 : decide (f1 < f2) = false := decide_eq_false c3
              have v4 : (si + by_ == si) = true := by rw [beq_iff_eq]; exact hf.resolve_left c3
              clear hf c1 c2 c3 HFar
              go_upto_region 13 with fail
              go_quiet (fail)
              go_upto_region 15 with fail
              go_quiet (fail)
              go_upto_region 17 with fail
              go_quiet (fail)
              go_upto_region 18 with fail
              go_wp2_with (first | (go_at_call 9; go_must (refine (HF.out _).mono ?_; rintro e w4 ⟨rfl, hb4⟩; have e4 := cs_later hb4 (ksN _); have H4 := Lib.hid hb4; clear hb4)) | (go_at_call_of 15 (Value.int IntKind.i64 si); go_must (refine (HA.out _).mono ?_; rintro e w5 ⟨rfl, hb5⟩; have e5 := cs_later hb5 e4; have H5 := Lib.hid hb5; clear hb5)) | (go_at_call_of 15 (Value.int IntKind.i64 (si + by_)); go_must (refine (HA2.out _).mono ?_; rintro e w6 ⟨rfl, hb6⟩; have e6 := cs_later hb6 e5; have H6 := Lib.hid hb6; clear hb6)))
              go_ret
              have z4 : Below w.heap.size w w4 := HB3.out.trans (((Below.drewN (Below.refl w3.heap.size w3) _).trans H4.out).mono HB3.out.size)
              have z5 := z4.trans (H5.out.mono z4.size)
              exact ⟨rfl, z5.trans (H6.out.mono z5.size)⟩
          · have v2 : decide (si + by_ + di ≤ sp + dp) = false := decide_eq_false c2
            clear HA HA2 HFar c1 c2
            go_upto_region 13 with fail
            go_quiet (fail)
            go_upto_region 15 with fail
            go_quiet (fail)
            go_upto_region 17 with fail
            go_quiet (fail)
            go_upto_region 18 with fail
            go_wp2_with (go_at_call 9; go_must (refine (HF.out _).mono ?_; rintro e w4 ⟨rfl, hb4⟩; have e4 := cs_later hb4 (ksN _); have H4 := Lib.hid hb4; clear hb4))
            go_ret
            exact ⟨rfl, HB3.out.trans (((Below.drewN (Below.refl w3.heap.size w3) _).trans H4.out).mono HB3.out.size)⟩
        · have v1 : decide (sp ≤ si + by_) = false := decide_eq_false c1
          clear HA HA2 HFar c1
          go_upto_region 13 with fail
          go_quiet (fail)
          go_upto_region 15 with fail
          go_quiet (fail)
          go_upto_region 17 with fail
          go_quiet (fail)
          go_upto_region 18 with fail
          go_wp2_with (go_at_call 9; go_must (refine (HF.out _).mono ?_; rintro e w4 ⟨rfl, hb4⟩; have e4 := cs_later hb4 (ksN _); have H4 := Lib.hid hb4; clear hb4))
          go_ret
          exact ⟨rfl, HB3.out.trans (((Below.drewN (Below.refl w3.heap.size w3) _).trans H4.out).mono HB3.out.size)⟩

theorem near_any {l : List SP} {pl : Nat} {by_ : Int} {A : Option Addr} {c : Nat} {w : World} (h0 : ∀ x ∈ l, 0 ≤ x.f3) (hpl : pl ≤ 255) (hby : -2147483648 ≤ by_ ∧ by_ ≤ 2147483647) (hr0 : Kd.C Go.Proofs.YtlajboohkkbgdaaX.k34 w A l.length l) (hc0 : l.length ≤ c) :
    Calls Try.prog 4 #[.slice A l.length c, .int .u8 (pl : Int), .int .i32 by_] w fun e w' => e = .returned (.bool true) ∧ Below w.heap.size w w' := by
  cases hg : greatB l with
  | true => exact near_a l pl by_ A c w hr0 hc0 hg
  | false =>
    rcases Nat.eq_zero_or_pos l.length with hz | hz
    · exact near_b l pl by_ A c w hr0 hc0 hg hz
    · exact near_c l pl by_ ⟨by omega, by omega⟩ hby A c w h0 hr0 hc0 hg hz

end Go.Proofs.Ytlajboohkkbgdaa
