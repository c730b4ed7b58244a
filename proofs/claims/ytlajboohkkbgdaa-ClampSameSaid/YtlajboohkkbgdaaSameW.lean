/- ClampSame: the walk. The spans' kinds are no numbers below 0. -/
import Derived.Test.YtlajboohkkbgdaaPureB
import Derived.Test.YtlajboohkkbgdaaGivX
import Derived.Deep.RegionWith
namespace Go.Proofs.Ytlajboohkkbgdaa
open Go.RowKit Go.Proofs.YtlajboohkkbgdaaW.PrintWords Go.Proofs.YtlajboohkkbgdaaW.PrintMore Go.Proofs.YtlajboohkkbgdaaW.PrintLast
open Go.Proofs.YtlajboohkkbgdaaX (SP spOf encSp greatB great_ev of_ev may_ev same_ev allMay allMay_iff right_all starts_at starts_bd startsL_length rt_of Rt stP zS cs_fB great_smallB rd_sp rd_int flat_sp getD_at)
set_option linter.unusedSimpArgs false
set_option linter.unusedVariables false

theorem info_sp : (Try.prog.info? 34).map (fun i => (i.zero, i.size, i.bytes)) = some (some (.agg #[.int .u64 0, .int .u64 0, .int .u64 0, .int .u8 0, .string ⟨#[]⟩, .string ⟨#[]⟩, .int .i64 0, .int .i64 0]), 8, 80) := by kernel_rfl

/-! ### plain -/
def againAt (l : List SP) (st : List Int) (i : Nat) : SP := ⟨(l.getD i zS).f0, (l.getD i zS).f1, (l.getD i zS).f2, (l.getD i zS).f3, (l.getD i zS).f4, (l.getD i zS).f5, st.getD i 0, (l.getD i zS).f7⟩
def againTo (l : List SP) (st : List Int) (j : Nat) : List SP := (List.range j).map (againAt l st)
theorem againTo_length (l : List SP) (st : List Int) (j : Nat) : (againTo l st j).length = j := by simp [againTo]
theorem againTo_succ (l : List SP) (st : List Int) (j : Nat) : againTo l st (j + 1) = againTo l st j ++ [againAt l st j] := by simp [againTo, List.range_succ]
theorem againTo_at (l : List SP) (st : List Int) (j i : Nat) (h : i < j) : (againTo l st j).getD i zS = againAt l st i := by
  rw [getD_at _ _ _ (by rw [againTo_length]; exact h)]; simp [againTo]
def withinB (l : List SP) (o : List Int) (i : Nat) : Bool :=
  if o.getD i (-1) < 0 then true else decide ((l.getD (o.getD i (-1)).toNat zS).f6 ≤ (l.getD i zS).f6) && decide ((l.getD i zS).f6 + (l.getD i zS).f7 ≤ (l.getD (o.getD i (-1)).toNat zS).f6 + (l.getD (o.getD i (-1)).toNat zS).f7)
def allTo (l : List SP) (o : List Int) (j : Nat) : Bool := (List.range j).all (withinB l o)
theorem allTo_succ (l : List SP) (o : List Int) (j : Nat) : allTo l o (j + 1) = (allTo l o j && withinB l o j) := by simp [allTo, List.range_succ]

theorem allTo_neg (l : List SP) (o : List Int) (j : Nat) (h : o.getD j (-1) < 0) : allTo l o (j + 1) = allTo l o j := by
  rw [allTo_succ, withinB, if_pos h, Bool.and_true]
theorem allTo_pos (l : List SP) (o : List Int) (j : Nat) (p : Nat) (h : o.getD j (-1) = (p : Int)) : allTo l o (j + 1) = (allTo l o j && (decide ((l.getD p zS).f6 ≤ (l.getD j zS).f6) && decide ((l.getD j zS).f6 + (l.getD j zS).f7 ≤ (l.getD p zS).f6 + (l.getD p zS).f7))) := by
  rw [allTo_succ, withinB, h, if_neg (by omega)]
  rfl

theorem all_keep {l : List SP} {o : List Int} (h : Rt l o) (hl : l.length ≤ 60) (ha : allTo l o l.length = true) (i : Nat) (hi : i < l.length) : (startsL l o).getD i 0 = (l.getD i zS).f6 := by
  have hw : ∀ i, i < l.length → withinB l o i = true := fun i hi => (List.all_eq_true.1 ha) i (List.mem_range.2 hi)
  obtain ⟨_, _, _, hk⟩ := h.ind (fun i _ => (startsL l o).getD i 0 = (l.getD i zS).f6) (fun i hi h0 => by rw [starts_at h hl i hi, stP, if_pos h0]) (fun i p k hi hp hpi ih _ _ => by
    have hwi := hw i hi
    unfold withinB at hwi
    rw [hpi, if_neg (by omega)] at hwi
    simp only [Int.toNat_natCast, Bool.and_eq_true, decide_eq_true_eq] at hwi
    rw [starts_at h hl i hi, stP, hpi, if_neg (by omega)]
    simp only [Int.toNat_natCast]
    rw [ih]
    rw [if_neg (by omega)]
    unfold mx mn
    split <;> split <;> omega) i hi
  exact hk
theorem again_rt {l : List SP} {o : List Int} (h : Rt l o) (hm : allMay (againTo l (startsL l o) l.length) = true) : rightB ((againTo l (startsL l o) l.length).map spOf) o = true :=
  right_all hm (by rw [againTo_length]; exact h.len.symm) h.forest
theorem again_same {l : List SP} {o : List Int} (h : Rt l o) (hl : l.length ≤ 60) (hm : allMay (againTo l (startsL l o) l.length) = true) : startsL (againTo l (startsL l o) l.length) o = startsL l o := by
  have hr := again_rt h hm
  have h2 := rt_of hr
  have hll : (againTo l (startsL l o) l.length).length = l.length := againTo_length _ _ _
  have key : ∀ i, i < l.length → (startsL (againTo l (startsL l o) l.length) o).getD i 0 = (startsL l o).getD i 0 := fun i hi => by
    obtain ⟨_, _, _, hk⟩ := h2.ind (fun i _ => (startsL (againTo l (startsL l o) l.length) o).getD i 0 = (startsL l o).getD i 0) (fun i hi h0 => by
      rw [starts_at h2 (by omega) i hi, stP, if_pos h0, againTo_at _ _ _ _ (by omega)]
      rfl) (fun i p k hi hp hpi ih _ _ => by
      rw [hll] at hi hp
      rw [starts_at h2 (by omega) i (by omega), stP, hpi, if_neg (by omega)]
      simp only [Int.toNat_natCast]
      rw [ih, againTo_at _ _ _ _ hi, againTo_at _ _ _ _ hp]
      have hs := starts_at h hl i hi
      rw [stP, hpi, if_neg (by omega)] at hs
      simp only [Int.toNat_natCast] at hs
      show (if (l.getD i zS).f7 > (l.getD p zS).f7 then (startsL l o).getD p 0 else mx ((startsL l o).getD p 0) (mn ((startsL l o).getD i 0 + (startsL l o).getD p 0 - (startsL l o).getD p 0) ((startsL l o).getD p 0 + (l.getD p zS).f7 - (l.getD i zS).f7))) = _
      split
      · rename_i hd
        rw [if_pos hd] at hs
        exact hs.symm
      · rename_i hd
        rw [if_neg hd] at hs
        have m1 := h.may i hi
        have m2 := h.may p hp
        have hb : (startsL l o).getD p 0 ≤ (startsL l o).getD i 0 ∧ (startsL l o).getD i 0 ≤ (startsL l o).getD p 0 + (l.getD p zS).f7 - (l.getD i zS).f7 := by
          rw [hs]; unfold mx mn; split <;> split <;> omega
        unfold mx mn
        split <;> split <;> omega) i (by omega)
    exact hk
  apply List.ext_getElem
  · rw [startsL_length, startsL_length, hll]
  · intro i h1 h2'
    have := key i (by rw [startsL_length] at h2'; exact h2')
    rw [getD_at _ _ _ h1, getD_at _ _ _ h2'] at this
    exact this

theorem enc_one (x : SP) : ∀ u ∈ encSp x, u.oneCell' = true := by
  intro u hu
  simp only [encSp, spOf, Sp.cells, List.mem_cons, List.not_mem_nil, or_false] at hu
  rcases hu with rfl | rfl | rfl | rfl | rfl | rfl | rfl | rfl <;> rfl
theorem flat_snoc (l : List SP) (x : SP) : (l ++ [x]).flatMap encSp = l.flatMap encSp ++ encSp x := by rw [List.flatMap_append]; simp

/-! ### the walk -/
set_option maxRecDepth 100000 in
theorem same_a (l : List SP) (A : Option Addr) (c : Nat) (w : World) (hr0 : Kd.C Go.Proofs.YtlajboohkkbgdaaX.k34 w A l.length l) (hc0 : l.length ≤ c) (hg : greatB l = true) :
    Calls Try.prog 5 #[.slice A l.length c] w fun e w' => e = .returned (.bool true) ∧ Below w.heap.size w w' := by
  obtain ⟨k, hk⟩ := (great_ev l).rounds
  rw [hg] at hk
  have HG := Lib.hid (Go.Proofs.YtlajboohkkbgdaaX.merkhetlaw04_Great.calls k A c l true w hr0 hc0 hk)
  have HF := Lib.hid fixed19_any
  clear hr0 hc0 hg hk
  go_enter Try.func5, Try.ntmps5
  go_wp2_with (first | (go_at_call 8; go_must (refine HG.out.mono ?_; rintro e w1 ⟨rfl, hb1⟩; have HB1 := Lib.hid hb1; clear hb1)) | (go_at_call 9; go_must (refine (HF.out _).mono ?_; rintro e w2 ⟨rfl, hb2⟩)))
  go_ret
  exact ⟨rfl, HB1.out.trans (hb2.mono HB1.out.size)⟩

set_option maxRecDepth 100000 in
theorem same_b (l : List SP) (A : Option Addr) (c : Nat) (w : World) (h0 : ∀ x ∈ l, 0 ≤ x.f3) (hr0 : Kd.C Go.Proofs.YtlajboohkkbgdaaX.k34 w A l.length l) (hc0 : l.length ≤ c) (hg : greatB l = false) (hm : allMay l = false) :
    Calls Try.prog 5 #[.slice A l.length c] w fun e w' => e = .returned (.bool true) ∧ Below w.heap.size w w' := by
  have hl := great_smallB hg
  obtain ⟨k, hk⟩ := (great_ev l).rounds
  rw [hg] at hk
  have HG := Lib.hid (Go.Proofs.YtlajboohkkbgdaaX.merkhetlaw04_Great.calls k A c l false w hr0 hc0 hk)
  obtain ⟨k3, hk3⟩ := (may_ev l (by omega) h0).rounds
  rw [hm] at hk3
  have HM := Lib.hid (fun (W : World) (hb : Below w.heap.size w W) => Go.Proofs.YtlajboohkkbgdaaX.merkhetref18_May.calls k3 A c l false W (Kd.C_below hr0 hb) hc0 hk3)
  have HF := Lib.hid fixed19_any
  clear hr0 hc0 hg hk hk3 hm h0 hl
  go_enter Try.func5, Try.ntmps5
  go_wp2_with (first | (go_at_call 8; go_must (refine HG.out.mono ?_; rintro e w1 ⟨rfl, hb1⟩; have HB1 := Lib.hid hb1; clear hb1)) | (go_at_call 14; go_must (refine (HM.out _ HB1.out).mono ?_; rintro e w5 ⟨rfl, hb5⟩; have HB5 := Lib.hid (HB1.out.trans (hb5.mono HB1.out.size)); clear hb5)) | (go_at_call 9; go_must (refine (HF.out _).mono ?_; rintro e w2 ⟨rfl, hb2⟩)))
  go_ret
  exact ⟨rfl, HB5.out.trans (hb2.mono HB5.out.size)⟩

/-- What the end of a round leans on. -/
def TailF (w3 W : World) (v : Value) (j : Nat) (xs : List Value) (xb : Nat) (x : SP) (b3 q3 : Nat) (sj : Int) : Prop :=
  W.ownsRow w3.heap.size 34 8 v j xs ∧ Below w3.heap.size w3 W ∧ W.heap[xb]? = some (.cells #[.int .u64 x.f0, .int .u64 x.f1, .int .u64 x.f2, .int .u8 x.f3, .string x.f4, .string x.f5, .int .i64 x.f6, .int .i64 x.f7] 34 (0, 0)) ∧
    w3.heap.size ≤ xb ∧ (∀ g, v.ownBlock = some g → g ≠ xb) ∧ W.cell? ⟨b3, q3, none⟩ = some (.int .i64 sj)
theorem TailF.drewN {w3 W : World} {v : Value} {j : Nat} {xs : List Value} {xb : Nat} {x : SP} {b3 q3 : Nat} {sj : Int} (h : TailF w3 W v j xs xb x b3 q3 sj) (n : Nat) : TailF w3 (W.drewN n) v j xs xb x b3 q3 sj :=
  ⟨h.1, Below.drewN h.2.1 n, h.2.2.1, h.2.2.2.1, h.2.2.2.2.1, h.2.2.2.2.2⟩
theorem TailF.store {w3 W : World} {v : Value} {j : Nat} {xs : List Value} {xb : Nat} {x : SP} {b3 q3 : Nat} {sj : Int} (h : TailF w3 W v j xs xb x b3 q3 sj) (u : Value) :
    (W.setCell ⟨xb, 6, none⟩ u).ownsRow w3.heap.size 34 8 v j xs ∧ Below w3.heap.size w3 (W.setCell ⟨xb, 6, none⟩ u) :=
  ⟨own_move h.1 (fun k hk => Below.heap_setCell W _ u k (h.2.2.2.2.1 k hk)), h.2.1.setCell h.2.2.2.1 u⟩
theorem eight_one (x : SP) (sj : Int) : ∀ u ∈ [Value.int .u64 x.f0, .int .u64 x.f1, .int .u64 x.f2, .int .u8 x.f3, .string x.f4, .string x.f5, .int .i64 sj, .int .i64 x.f7], u.oneCell' = true := by
  intro u hu
  simp only [List.mem_cons, List.not_mem_nil, or_false] at hu
  rcases hu with rfl | rfl | rfl | rfl | rfl | rfl | rfl | rfl <;> rfl

/-- A round's box. -/
theorem box_world {w3 wr : World} {n : Nat} {v : Value} {xs : List Value} (cs : Array Value) (how : wr.ownsRow w3.heap.size 34 8 v n xs) (hb : Below w3.heap.size w3 wr) :
    (wr.alloc (.cells cs 34)).ownsRow w3.heap.size 34 8 v n xs ∧ Below w3.heap.size w3 (wr.alloc (.cells cs 34)) ∧ (wr.alloc (.cells cs 34)).heap[wr.heap.size]? = some (.cells cs 34 (0, 0)) ∧
      wr.heap.size < (wr.alloc (.cells cs 34)).heap.size ∧ (∀ g, v.ownBlock = some g → g ≠ wr.heap.size) :=
  ⟨how.alloc _, hb.alloc hb.size _, blk_new wr cs _, by simp, fun g hg => by have := (how.lt g hg).2; omega⟩

set_option maxRecDepth 100000 in
set_option maxHeartbeats 8000000 in
theorem same_c (l : List SP) (A : Option Addr) (c : Nat) (w : World) (h0 : ∀ x ∈ l, 0 ≤ x.f3) (hr0 : Kd.C Go.Proofs.YtlajboohkkbgdaaX.k34 w A l.length l) (hc0 : l.length ≤ c) (hg : greatB l = false) (hm : allMay l = true) :
    Calls Try.prog 5 #[.slice A l.length c] w fun e w' => e = .returned (.bool true) ∧ Below w.heap.size w w' := by
  have hl := great_smallB hg
  obtain ⟨k, hk⟩ := (great_ev l).rounds
  rw [hg] at hk
  have HG := Lib.hid (Go.Proofs.YtlajboohkkbgdaaX.merkhetlaw04_Great.calls k A c l false w hr0 hc0 hk)
  have HF := Lib.hid fixed19_any
  obtain ⟨o, ho1, ho2, ho3⟩ := of_ev l hl
  obtain ⟨k2, hk2⟩ := ho1.rounds
  have HO := Lib.hid (fun (W : World) (hb : Below w.heap.size w W) => Go.Proofs.YtlajboohkkbgdaaX.merkhetref10_Of.calls k2 A c l o W (Kd.C_below hr0 hb) hc0 hk2)
  obtain ⟨k3, hk3⟩ := (may_ev l (by omega) h0).rounds
  rw [hm] at hk3
  have HM := Lib.hid (fun (W : World) (hb : Below w.heap.size w W) => Go.Proofs.YtlajboohkkbgdaaX.merkhetref18_May.calls k3 A c l true W (Kd.C_below hr0 hb) hc0 hk3)
  have hr := right_all hm ho2 ho3
  have h := rt_of hr
  have hcs := cs_fB l o (by omega)
  rw [hr] at hcs
  have HS := Lib.hid (fun (W : World) (hb : Below w.heap.size w W) (B : Option Addr) (d : Nat) (hC : Kd.C (Kd.int .i64) W B o.length o) (hd : o.length ≤ d) => Go.Proofs.YtlajboohkkbgdaaX.clamp_Starts.calls A c l B d o (startsL l o) true W (Kd.C_below hr0 hb) hc0 hC hd hcs)
  have hsl := startsL_length l o
  -- what is clamped again
  have hagl : (againTo l (startsL l o) l.length).length = l.length := againTo_length _ _ _
  have hag3 : ∀ x ∈ againTo l (startsL l o) l.length, 0 ≤ x.f3 := fun x hx => by
    obtain ⟨i, hi, rfl⟩ := List.mem_map.1 hx
    have hi' := List.mem_range.1 hi
    show 0 ≤ (l.getD i zS).f3
    rw [getD_at _ _ _ hi']
    exact h0 _ (List.getElem_mem hi')
  obtain ⟨k4, hk4⟩ := (may_ev (againTo l (startsL l o) l.length) (by omega) hag3).rounds
  have hcs2 := cs_fB (againTo l (startsL l o) l.length) o (by omega)
  have HM2 := Lib.hid (fun (W : World) (B : Option Addr) (d : Nat) (hC : Kd.C Go.Proofs.YtlajboohkkbgdaaX.k34 W B l.length (againTo l (startsL l o) l.length)) (hd : l.length ≤ d) => (show Calls Try.prog 14 #[.slice B l.length d] W fun e w' => e = .returned (.bool (allMay (againTo l (startsL l o) l.length))) ∧ Below W.heap.size W w' from by
    have K := Go.Proofs.YtlajboohkkbgdaaX.merkhetref18_May.calls k4 B d (againTo l (startsL l o) l.length) (allMay (againTo l (startsL l o) l.length)) W (by rw [againTo_length]; exact hC) (by rw [againTo_length]; exact hd) hk4
    rwa [againTo_length] at K))
  have HS2 := Lib.hid (fun (r1 : List Int) (r2 : Bool) (hrr : (if rightB ((againTo l (startsL l o) l.length).map spOf) o then (startsL (againTo l (startsL l o) l.length) o, true) else ([], false)) = (r1, r2)) (W : World) (B : Option Addr) (d : Nat) (hC : Kd.C Go.Proofs.YtlajboohkkbgdaaX.k34 W B l.length (againTo l (startsL l o) l.length)) (hd : l.length ≤ d) (B' : Option Addr) (d' : Nat) (hC' : Kd.C (Kd.int .i64) W B' o.length o) (hd' : o.length ≤ d') => (show Calls Try.prog 10 #[.slice B l.length d, .slice B' o.length d'] W fun e w' => ∃ v0_ : Value, e = .returned (.tuple #[v0_, .bool r2]) ∧ Kd.R (Kd.int .i64) 2 w' W.heap.size (fun _ => True) v0_ r1 ∧ Below W.heap.size W w' from by
    have K := Go.Proofs.YtlajboohkkbgdaaX.clamp_Starts.calls B d (againTo l (startsL l o) l.length) B' d' o r1 r2 W (by rw [againTo_length]; exact hC) (by rw [againTo_length]; exact hd) hC' hd' (by rw [hcs2, hrr])
    rwa [againTo_length] at K))
  obtain ⟨k5, hk5⟩ := (same_ev (startsL l o) (by omega)).rounds
  have HSa := Lib.hid (fun (W : World) (B : Option Addr) (d : Nat) (hC : Kd.C (Kd.int .i64) W B (startsL l o).length (startsL l o)) (hd : (startsL l o).length ≤ d) (B' : Option Addr) (d' : Nat) (hC' : Kd.C (Kd.int .i64) W B' (startsL l o).length (startsL l o)) (hd' : (startsL l o).length ≤ d') => Go.Proofs.YtlajboohkkbgdaaX.merkhetref15_Same.calls k5 B d _ B' d' _ true W hC hd hC' hd' hk5)
  have HRt := Lib.hid (And.intro h hl)
  have H0 := Lib.hid (And.intro hr0 hc0)
  have HT := Lib.hid (And.intro ho2 hsl)
  have t3 : ((startsL l o).length != l.length) = false := by rw [hsl]; simp
  have t3' : (((startsL l o).length : Int) != (l.length : Int)) = false := by rw [hsl]; simp
  clear hr0 hc0 hg hm h0 hk hk2 hk3 hk4 hk5 hcs hcs2 hr ho1 ho2 ho3 h hsl hagl hag3
  go_enter Try.func5, Try.ntmps5
  go_wp2_with (first | (go_at_call 8; go_must (refine HG.out.mono ?_; rintro e w1 ⟨rfl, hb1⟩; have HB1 := Lib.hid hb1; clear hb1)) | (go_at_call 14; go_must (refine (HM.out _ HB1.out).mono ?_; rintro e w5 ⟨rfl, hb5⟩; have HB5 := Lib.hid (HB1.out.trans (hb5.mono HB1.out.size)); clear hb5)) | (go_at_call 12; go_must (refine (HO.out _ HB5.out).mono ?_; rintro e w2 ⟨v, rfl, hR, hb2⟩; obtain ⟨A2, c2, rfl, hl2, hC2⟩ := Kd.R_reads hR; have H2 := Lib.hid (And.intro (HB5.out.trans (hb2.mono HB5.out.size)) (And.intro hl2 hC2)); clear hR hb2 hl2 hC2)) | (go_at_call 10; go_must (refine (HS.out _ H2.out.1 A2 c2 H2.out.2.2 H2.out.2.1).mono ?_; rintro e w3 ⟨v3, rfl, hR, hb3⟩; obtain ⟨A3, c3, rfl, hl3, hC3⟩ := Kd.R_reads hR; have H3 := Lib.hid (And.intro hb3 (And.intro hl3 hC3)); clear hR hb3 hl3 hC3)))
  go_loopg [6, 7, 41] l.length (fun k s6 s7 s41 W => ∃ (j : Nat) (v : Value), j ≤ l.length ∧ l.length - j ≤ k ∧ v = s7 ∧ s41 = .int .i64 j ∧ s6 = .bool (allTo l o j) ∧ Aside (W.ownsRow w3.heap.size 34 8 v j ((againTo l (startsL l o) j).flatMap encSp) ∧ Below w3.heap.size w3 W))
  case atStart => exact ⟨0, _, Nat.zero_le _, by omega, rfl, rfl, rfl, World.ownsRow_nil _ _ _ _, Below.refl _ _⟩
  case round =>
    obtain ⟨j, v, hj, hk, rfl, rfl, rfl, hx⟩ := hrel
    have hb23 := H3.out.1
    have hbw3 := H2.out.1.trans (hb23.mono H2.out.1.size)
    have RL := rd_sp (Kd.C_below H0.out.1 hbw3) H0.out.2
    have RO := rd_int (Kd.C_below H2.out.2.2 hb23) H2.out.2.1
    have RS := rd_int H3.out.2.2 H3.out.2.1
    rcases Nat.lt_or_ge j l.length with hlt | hge
    · have hol := HT.out.1
      have hsl := HT.out.2
      obtain ⟨how, hb⟩ := hx.out
      obtain ⟨b, q, rfl, hlb, h8⟩ := span_at RL j hlt
      obtain ⟨b2, q2, rfl, hlb2, hc2⟩ := RO.at_ (by omega)
      obtain ⟨b3, q3, rfl, hlb3, hc3⟩ := RS.at_ (by omega)
      have ko := (hb.cell (p := ⟨b2, q2 + j, none⟩) hlb2).trans (hc2 j _ (ints_at o j (by omega)))
      have ks : wr.cell? ⟨b3, q3 + j, none⟩ = some (.int .i64 ((startsL l o).getD j 0)) := (hb.cell (p := ⟨b3, q3 + j, none⟩) hlb3).trans (hc3 j _ (by
        have h1 : j < (startsL l o).length := by omega
        simp only [ints, List.getElem?_map, List.getD_eq_getElem?_getD, List.getElem?_eq_getElem h1]
        rfl))
      have cell : ∀ q u, w3.cell? ⟨b, q, none⟩ = some u → wr.cell? ⟨b, q, none⟩ = some u := fun q u hu => (hb.cell (p := ⟨b, q, none⟩) hlb).trans hu
      obtain ⟨k0, k1, k2, k3, k4, k5, k6, k7⟩ := h8.keep cell
      have hmj := HRt.out.1.may j hlt
      have hpar := HRt.out.1.par j hlt
      have hsp : ∀ p : Nat, o.getD j (-1) = (p : Int) → p < l.length ∧ wr.cell? ⟨b, q + p * 8 + 6, none⟩ = some (.int .i64 (l.getD p zS).f6) ∧ wr.cell? ⟨b, q + p * 8 + 7, none⟩ = some (.int .i64 (l.getD p zS).f7) ∧ ((0 ≤ (l.getD p zS).f6 ∧ (l.getD p zS).f6 < 1125899906842624) ∧ (0 ≤ (l.getD p zS).f7 ∧ (l.getD p zS).f7 ≤ 1125899906842624)) := fun p hp => by
        have hpl : p < l.length := by omega
        obtain ⟨b', q', hbq, _, h8'⟩ := span_at RL p hpl
        cases hbq
        exact ⟨hpl, (h8'.keep cell).2.2.2.2.2.2.1, (h8'.keep cell).2.2.2.2.2.2.2, HRt.out.1.may p hpl⟩
      have hlc : l.length ≤ c := H0.out.2
      have hio : j < o.length := by omega
      have hisl : j < (startsL l o).length := by omega
      have hlbW : b < wr.heap.size := by have := hb.size; omega
      have hlb2W : b2 < wr.heap.size := by have := hb.size; omega
      have hlb3W : b3 < wr.heap.size := by have := hb.size; omega
      have hallN := allTo_neg l o j
      have hallP := allTo_pos l o j
      have hag : (againTo l (startsL l o) (j + 1)).flatMap encSp = (againTo l (startsL l o) j).flatMap encSp ++ encSp (againAt l (startsL l o) j) := by rw [againTo_succ, flat_snoc]
      unfold againAt at hag
      have HW := Lib.hid (And.intro how hb)
      clear RL RO RS hb23 hbw3 hx h8 hc2 hc3 cell hol hsl how hb
      generalize hsj : (startsL l o).getD j 0 = sj at ks hag
      generalize l.getD j zS = x at k0 k1 k2 k3 k4 k5 k6 k7 hmj hallP hag
      have hcase := Int.lt_or_le (o.getD j (-1)) 0
      generalize o.getD j (-1) = p at ko hpar hsp hallN hallP hcase
      clear hsj
      have HAg := Lib.hid hag
      clear hag
      go_upto_region 12 with fail
      obtain ⟨z1, z2, z3, z4, z5⟩ := box_world #[.int .u64 x.f0, .int .u64 x.f1, .int .u64 x.f2, .int .u8 x.f3, .string x.f4, .string x.f5, .int .i64 x.f6, .int .i64 x.f7] HW.out.1 HW.out.2
      have hba := (Below.refl wr.heap.size wr).alloc (Nat.le_refl _) (.cells #[.int .u64 x.f0, .int .u64 x.f1, .int .u64 x.f2, .int .u8 x.f3, .string x.f4, .string x.f5, .int .i64 x.f6, .int .i64 x.f7] 34)
      have ko' := cs_later hba ko
      have ks' := cs_later hba ks
      have hwx : w3.heap.size ≤ wr.heap.size := HW.out.2.size
      have HTF := Lib.hid (show TailF w3 (wr.alloc (.cells #[.int .u64 x.f0, .int .u64 x.f1, .int .u64 x.f2, .int .u8 x.f3, .string x.f4, .string x.f5, .int .i64 x.f6, .int .i64 x.f7] 34)) v j _ wr.heap.size x b3 (q3 + j) sj from ⟨z1, z2, z3, hwx, z5, ks'⟩)
      have hsp' : ∀ p' : Nat, p = (p' : Int) → p' < l.length ∧ (wr.alloc (.cells #[.int .u64 x.f0, .int .u64 x.f1, .int .u64 x.f2, .int .u8 x.f3, .string x.f4, .string x.f5, .int .i64 x.f6, .int .i64 x.f7] 34)).cell? ⟨b, q + p' * 8 + 6, none⟩ = some (.int .i64 (l.getD p' zS).f6) ∧ (wr.alloc (.cells #[.int .u64 x.f0, .int .u64 x.f1, .int .u64 x.f2, .int .u8 x.f3, .string x.f4, .string x.f5, .int .i64 x.f6, .int .i64 x.f7] 34)).cell? ⟨b, q + p' * 8 + 7, none⟩ = some (.int .i64 (l.getD p' zS).f7) ∧ ((0 ≤ (l.getD p' zS).f6 ∧ (l.getD p' zS).f6 < 1125899906842624) ∧ (0 ≤ (l.getD p' zS).f7 ∧ (l.getD p' zS).f7 ≤ 1125899906842624)) := fun p' hp' => by
        obtain ⟨h1, h2, h3, h4⟩ := hsp p' hp'
        exact ⟨h1, cs_later hba h2, cs_later hba h3, h4⟩
      clear hsp ko ks k0 k1 k2 k3 k4 k5 k6 k7 z1 z2 z3 z5 hba HW
      generalize (wr.alloc (.cells #[.int .u64 x.f0, .int .u64 x.f1, .int .u64 x.f2, .int .u8 x.f3, .string x.f4, .string x.f5, .int .i64 x.f6, .int .i64 x.f7] 34)) = WB at ko' ks' HTF hsp' z4 ⊢
      generalize wr.heap.size = xb at HTF z4 hwx hlbW hlb2W hlb3W ⊢
      rcases hcase with hneg | hpos
      · have u1 : decide (0 ≤ p) = false := decide_eq_false (by omega)
        have HAll := Lib.hid (hallN hneg)
        clear hallN hallP hsp' ks'
        have HTn := Lib.hid HTF.out
        clear HTF
        go_upto_region 15 with fail
        generalize WB = WA at HTn ⊢
        have HAo := Lib.hid (And.intro (HTn.out.store (.int .i64 sj)).1 (And.intro (HTn.out.store (.int .i64 sj)).2 (eight_one x sj)))
        have y0 := blk_cell HTn.out.2.2.1 0 rfl
        have y1 := blk_cell HTn.out.2.2.1 1 rfl
        have y2 := blk_cell HTn.out.2.2.1 2 rfl
        have y3 := blk_cell HTn.out.2.2.1 3 rfl
        have y4 := blk_cell HTn.out.2.2.1 4 rfl
        have y5 := blk_cell HTn.out.2.2.1 5 rfl
        have y6 := blk_cell HTn.out.2.2.1 6 rfl
        have y7 := blk_cell HTn.out.2.2.1 7 rfl
        have yf := blk_free HTn.out.2.2.1 6
        have ks1 := HTn.out.2.2.2.2.2
        have hxs := blk_lt HTn.out.2.2.1
        go_wp2_with (at_builtin; go_must (refine append_one (w0 := WA.setCell ⟨xb, 6, none⟩ (.int .i64 sj)) (B := w3.heap.size) (wb := w3) rfl _ _ 22 rfl w3.heap.size 34 (.agg #[.int .u64 0, .int .u64 0, .int .u64 0, .int .u8 0, .string ⟨#[]⟩, .string ⟨#[]⟩, .int .i64 0, .int .i64 0]) 8 80 Try.underlying22 info_sp rfl (by omega) v j _ [.int .u64 x.f0, .int .u64 x.f1, .int .u64 x.f2, .int .u8 x.f3, .string x.f4, .string x.f5, .int .i64 sj, .int .i64 x.f7] (by rfl) (by first | rfl | (simp [World.setCell]; done) | (simp [World.setCell]; rfl)) HAo.out.1 rfl HAo.out.2.2 (by omega) (by omega) HAo.out.2.1 (Nat.le_refl _) HAo.out.2.1.size ?_; intro v' w4 hown4 hb4 _ _; have H4 := Lib.hid (And.intro hown4 hb4); clear hown4 hb4))
        go_roundg (l.length - (j + 1))
        case measure => omega
        case rel => exact ⟨j + 1, v', by omega, Nat.le_refl _, rfl, by simp, by rw [HAll.out], by rw [HAg.out]; exact H4.out.1, H4.out.2⟩
      · obtain ⟨p, rfl⟩ := Int.eq_ofNat_of_zero_le hpos
        have u1 : decide ((0 : Int) ≤ (p : Int)) = true := decide_eq_true hpos
        obtain ⟨hpl, p6, p7, hmp⟩ := hsp' p rfl
        have hall := hallP p rfl
        clear hallN hallP
        have x6 := blk_cell HTF.out.2.2.1 6 rfl
        have x7 := blk_cell HTF.out.2.2.1 7 rfl
        generalize (l.getD p zS).f6 = a6 at p6 hmp hall
        generalize (l.getD p zS).f7 = a7 at p7 hmp hall
        clear hsp' ks'
        cases ha : allTo l o j with
        | false =>
          have HAll := Lib.hid (show allTo l o (j + 1) = false by rw [hall, ha]; rfl)
          clear hall ha
          go_upto_region 14 with fail
          go_quiet (fail)
          have HTn := Lib.hid (HTF.out.drewN nq)
          clear HTF x6 x7 p6 p7
          go_upto_region 15 with fail
          generalize WB.drewN nq = WA at HTn ⊢
          have HAo := Lib.hid (And.intro (HTn.out.store (.int .i64 sj)).1 (And.intro (HTn.out.store (.int .i64 sj)).2 (eight_one x sj)))
          have y0 := blk_cell HTn.out.2.2.1 0 rfl
          have y1 := blk_cell HTn.out.2.2.1 1 rfl
          have y2 := blk_cell HTn.out.2.2.1 2 rfl
          have y3 := blk_cell HTn.out.2.2.1 3 rfl
          have y4 := blk_cell HTn.out.2.2.1 4 rfl
          have y5 := blk_cell HTn.out.2.2.1 5 rfl
          have y6 := blk_cell HTn.out.2.2.1 6 rfl
          have y7 := blk_cell HTn.out.2.2.1 7 rfl
          have yf := blk_free HTn.out.2.2.1 6
          have ks1 := HTn.out.2.2.2.2.2
          have hxs := blk_lt HTn.out.2.2.1
          go_wp2_with (at_builtin; go_must (refine append_one (w0 := WA.setCell ⟨xb, 6, none⟩ (.int .i64 sj)) (B := w3.heap.size) (wb := w3) rfl _ _ 22 rfl w3.heap.size 34 (.agg #[.int .u64 0, .int .u64 0, .int .u64 0, .int .u8 0, .string ⟨#[]⟩, .string ⟨#[]⟩, .int .i64 0, .int .i64 0]) 8 80 Try.underlying22 info_sp rfl (by omega) v j _ [.int .u64 x.f0, .int .u64 x.f1, .int .u64 x.f2, .int .u8 x.f3, .string x.f4, .string x.f5, .int .i64 sj, .int .i64 x.f7] (by rfl) (by first | rfl | (simp [World.setCell]; done) | (simp [World.setCell]; rfl)) HAo.out.1 rfl HAo.out.2.2 (by omega) (by omega) HAo.out.2.1 (Nat.le_refl _) HAo.out.2.1.size ?_; intro v' w4 hown4 hb4 _ _; have H4 := Lib.hid (And.intro hown4 hb4); clear hown4 hb4))
          go_roundg (l.length - (j + 1))
          case measure => omega
          case rel => exact ⟨j + 1, v', by omega, Nat.le_refl _, rfl, by simp, by rw [HAll.out], by rw [HAg.out]; exact H4.out.1, H4.out.2⟩
        | true =>
          by_cases c1 : a6 ≤ x.f6
          · have v1 : decide (a6 ≤ x.f6) = true := decide_eq_true c1
            have HAll := Lib.hid (show allTo l o (j + 1) = decide (x.f6 + x.f7 ≤ a6 + a7) by rw [hall, ha, v1]; simp)
            clear hall ha
            go_upto_region 14 with fail
            go_quiet (fail)
            have HTn := Lib.hid (HTF.out.drewN nq)
            clear HTF x6 x7 p6 p7
            go_upto_region 15 with fail
            generalize WB.drewN nq = WA at HTn ⊢
            have HAo := Lib.hid (And.intro (HTn.out.store (.int .i64 sj)).1 (And.intro (HTn.out.store (.int .i64 sj)).2 (eight_one x sj)))
            have y0 := blk_cell HTn.out.2.2.1 0 rfl
            have y1 := blk_cell HTn.out.2.2.1 1 rfl
            have y2 := blk_cell HTn.out.2.2.1 2 rfl
            have y3 := blk_cell HTn.out.2.2.1 3 rfl
            have y4 := blk_cell HTn.out.2.2.1 4 rfl
            have y5 := blk_cell HTn.out.2.2.1 5 rfl
            have y6 := blk_cell HTn.out.2.2.1 6 rfl
            have y7 := blk_cell HTn.out.2.2.1 7 rfl
            have yf := blk_free HTn.out.2.2.1 6
            have ks1 := HTn.out.2.2.2.2.2
            have hxs := blk_lt HTn.out.2.2.1
            go_wp2_with (at_builtin; go_must (refine append_one (w0 := WA.setCell ⟨xb, 6, none⟩ (.int .i64 sj)) (B := w3.heap.size) (wb := w3) rfl _ _ 22 rfl w3.heap.size 34 (.agg #[.int .u64 0, .int .u64 0, .int .u64 0, .int .u8 0, .string ⟨#[]⟩, .string ⟨#[]⟩, .int .i64 0, .int .i64 0]) 8 80 Try.underlying22 info_sp rfl (by omega) v j _ [.int .u64 x.f0, .int .u64 x.f1, .int .u64 x.f2, .int .u8 x.f3, .string x.f4, .string x.f5, .int .i64 sj, .int .i64 x.f7] (by rfl) (by first | rfl | (simp [World.setCell]; done) | (simp [World.setCell]; rfl)) HAo.out.1 rfl HAo.out.2.2 (by omega) (by omega) HAo.out.2.1 (Nat.le_refl _) HAo.out.2.1.size ?_; intro v' w4 hown4 hb4 _ _; have H4 := Lib.hid (And.intro hown4 hb4); clear hown4 hb4))
            go_roundg (l.length - (j + 1))
            case measure => omega
            case rel => exact ⟨j + 1, v', by omega, Nat.le_refl _, rfl, by simp, by rw [HAll.out], by rw [HAg.out]; exact H4.out.1, H4.out.2⟩
          · have v1 : decide (a6 ≤ x.f6) = false := decide_eq_false c1
            have HAll := Lib.hid (show allTo l o (j + 1) = false by rw [hall, ha, v1]; rfl)
            clear hall ha
            go_upto_region 14 with fail
            go_quiet (fail)
            have HTn := Lib.hid (HTF.out.drewN nq)
            clear HTF x6 x7 p6 p7
            go_upto_region 15 with fail
            generalize WB.drewN nq = WA at HTn ⊢
            have HAo := Lib.hid (And.intro (HTn.out.store (.int .i64 sj)).1 (And.intro (HTn.out.store (.int .i64 sj)).2 (eight_one x sj)))
            have y0 := blk_cell HTn.out.2.2.1 0 rfl
            have y1 := blk_cell HTn.out.2.2.1 1 rfl
            have y2 := blk_cell HTn.out.2.2.1 2 rfl
            have y3 := blk_cell HTn.out.2.2.1 3 rfl
            have y4 := blk_cell HTn.out.2.2.1 4 rfl
            have y5 := blk_cell HTn.out.2.2.1 5 rfl
            have y6 := blk_cell HTn.out.2.2.1 6 rfl
            have y7 := blk_cell HTn.out.2.2.1 7 rfl
            have yf := blk_free HTn.out.2.2.1 6
            have ks1 := HTn.out.2.2.2.2.2
            have hxs := blk_lt HTn.out.2.2.1
            go_wp2_with (at_builtin; go_must (refine append_one (w0 := WA.setCell ⟨xb, 6, none⟩ (.int .i64 sj)) (B := w3.heap.size) (wb := w3) rfl _ _ 22 rfl w3.heap.size 34 (.agg #[.int .u64 0, .int .u64 0, .int .u64 0, .int .u8 0, .string ⟨#[]⟩, .string ⟨#[]⟩, .int .i64 0, .int .i64 0]) 8 80 Try.underlying22 info_sp rfl (by omega) v j _ [.int .u64 x.f0, .int .u64 x.f1, .int .u64 x.f2, .int .u8 x.f3, .string x.f4, .string x.f5, .int .i64 sj, .int .i64 x.f7] (by rfl) (by first | rfl | (simp [World.setCell]; done) | (simp [World.setCell]; rfl)) HAo.out.1 rfl HAo.out.2.2 (by omega) (by omega) HAo.out.2.1 (Nat.le_refl _) HAo.out.2.1.size ?_; intro v' w4 hown4 hb4 _ _; have H4 := Lib.hid (And.intro hown4 hb4); clear hown4 hb4))
            go_roundg (l.length - (j + 1))
            case measure => omega
            case rel => exact ⟨j + 1, v', by omega, Nat.le_refl _, rfl, by simp, by rw [HAll.out], by rw [HAg.out]; exact H4.out.1, H4.out.2⟩
    · obtain rfl : j = l.length := by omega
      obtain ⟨how, hb⟩ := hx.out
      obtain ⟨Ag, cg, rfl, hrg⟩ := own_rd how
      have hCg : Kd.C Go.Proofs.YtlajboohkkbgdaaX.k34 wr Ag l.length (againTo l (startsL l o) l.length) := by
        have h1 : (againTo l (startsL l o) l.length).length = l.length := againTo_length _ _ _
        have := C_of_rd (d := Go.Proofs.YtlajboohkkbgdaaX.k34) (c := cg) encSp (fun _ => rfl) (fun x => Go.Proofs.YtlajboohkkbgdaaX.k34_mk wr x) (xs := againTo l (startsL l o) l.length) (by rw [h1]; exact hrg)
        rwa [h1] at this
      have HE := Lib.hid (And.intro hCg (And.intro hrg.2.1 hb))
      clear hx how hb hrg hCg
      have HR3 := Lib.hid (And.intro RL RS)
      clear RL RO RS hb23 hbw3
      generalize hsl : allTo l o l.length = al
      have HAL := Lib.hid (fun (h : al = true) => all_keep HRt.out.1 HRt.out.2 (hsl.trans h))
      clear hsl
      go_wp2_with fail
      go_loopg [94] l.length (fun k s94 W => ∃ i : Nat, i ≤ l.length ∧ l.length - i ≤ k ∧ s94 = .int .i64 i ∧ Aside (Drew wr W))
      case atStart => exact ⟨0, Nat.zero_le _, by omega, rfl, Drew.refl _⟩
      case round =>
        obtain ⟨i, hi, hik, rfl, hdw⟩ := hrel
        obtain ⟨nd, hnd⟩ := hdw.out
        clear hdw
        subst hnd
        rcases Nat.lt_or_ge i l.length with hlt | hge
        · cases al with
          | false =>
            go_upto_region 21 with fail
            go_quiet (fail)
            go_wp2
            go_roundg (l.length - (i + 1))
            case measure => omega
            case rel => exact ⟨i + 1, by omega, Nat.le_refl _, by simp, ⟨_, rfl⟩⟩
          | true =>
            obtain ⟨b, q, rfl, hlb, h8⟩ := span_at HR3.out.1 i hlt
            obtain ⟨b3, q3, rfl, hlb3, hc3⟩ := HR3.out.2.at_ (by have := HT.out.2; omega)
            have hisl : i < (startsL l o).length := by have := HT.out.2; omega
            have ks : wr.cell? ⟨b3, q3 + i, none⟩ = some (.int .i64 ((startsL l o).getD i 0)) := (HE.out.2.2.cell (p := ⟨b3, q3 + i, none⟩) hlb3).trans (hc3 i _ (by
              simp only [ints, List.getElem?_map, List.getD_eq_getElem?_getD, List.getElem?_eq_getElem hisl]
              rfl))
            have k6 : wr.cell? ⟨b, q + i * 8 + 6, none⟩ = some (.int .i64 (l.getD i zS).f6) := (HE.out.2.2.cell (p := ⟨b, q + i * 8 + 6, none⟩) hlb).trans h8.2.2.2.2.2.2.1
            have he := HAL.out rfl i hlt
            rw [he] at ks
            have hlc : l.length ≤ c := H0.out.2
            generalize (l.getD i zS).f6 = xi at ks k6
            have u1 : (xi != xi) = false := by simp
            clear he h8 hc3
            go_upto_region 21 with fail
            go_quiet (fail)
            go_wp2
            go_roundg (l.length - (i + 1))
            case measure => omega
            case rel => exact ⟨i + 1, by omega, Nat.le_refl _, by simp, ⟨_, rfl⟩⟩
        · obtain rfl : i = l.length := by omega
          have hbW : Below w3.heap.size w3 (wr.drewN nd) := Below.drewN HE.out.2.2 nd
          have hCW : Kd.C Go.Proofs.YtlajboohkkbgdaaX.k34 (wr.drewN nd) Ag l.length (againTo l (startsL l o) l.length) := HE.out.1
          have hCo : Kd.C (Kd.int .i64) (wr.drewN nd) A2 o.length o := Kd.C_below (Kd.C_below H2.out.2.2 H3.out.1) hbW
          have hCs : Kd.C (Kd.int .i64) (wr.drewN nd) A3 (startsL l o).length (startsL l o) := Kd.C_below H3.out.2.2 hbW
          have HC := Lib.hid (And.intro hCW (And.intro hCo (And.intro hCs (And.intro HE.out.2.1 hbW))))
          clear hCW hCo hCs hbW
          generalize wr.drewN nd = WZ at HC ⊢
          cases hm2 : allMay (againTo l (startsL l o) l.length) with
          | true =>
            have hrr : (if rightB ((againTo l (startsL l o) l.length).map spOf) o then (startsL (againTo l (startsL l o) l.length) o, true) else ([], false)) = (startsL l o, true) := by
              rw [again_rt HRt.out.1 hm2, again_same HRt.out.1 HRt.out.2 hm2]; rfl
            have HSx := Lib.hid (HS2.out _ _ hrr)
            have HMx := HM2
            rw [hm2] at HMx
            clear hrr hm2 HM2 HS2
            go_wp2_with (first | (go_at_call 10; go_must (refine (HSx.out _ Ag cg HC.out.1 HC.out.2.2.2.1 A2 c2 HC.out.2.1 H2.out.2.1).mono ?_; rintro e w5 ⟨v5, rfl, hR, hb5⟩; obtain ⟨A5, c5, rfl, hl5, hC5⟩ := Kd.R_reads hR; have H5 := Lib.hid (And.intro hb5 (And.intro hl5 hC5)); clear hR hb5 hl5 hC5)) | (go_at_call 9; go_must (refine (HF.out _).mono ?_; rintro e w6 ⟨rfl, hb6⟩; have H6 := Lib.hid (H5.out.1.trans (hb6.mono H5.out.1.size)); have H6' := Lib.hid hb6; clear hb6)) | (go_at_call 14; go_must (refine (HMx.out _ Ag cg (Kd.C_below HC.out.1 H6.out) HC.out.2.2.2.1).mono ?_; rintro e w7 ⟨rfl, hb7⟩; have H7 := Lib.hid hb7; clear hb7)) | (go_at_call 13; go_must (refine (HSa.out _ A5 c5 (Kd.C_below (Kd.C_below H5.out.2.2 H6'.out) H7.out) H5.out.2.1 A3 c3 (Kd.C_below (Kd.C_below HC.out.2.2.1 H6.out) H7.out) H3.out.2.1).mono ?_; rintro e w8 ⟨rfl, hd8⟩; have H8 := Lib.hid hd8.below; clear hd8)))
            go_ret
            have y1 := H2.out.1.trans (H3.out.1.mono H2.out.1.size)
            have y2 := y1.trans (HC.out.2.2.2.2.mono y1.size)
            have y3 := y2.trans (H6.out.mono y2.size)
            have y4 := y3.trans (H7.out.mono y3.size)
            exact ⟨rfl, y4.trans (H8.out.mono y4.size)⟩
          | false =>
            have HSx := Lib.hid (HS2.out _ _ rfl)
            have HMx := HM2
            rw [hm2] at HMx
            clear hm2 HM2 HS2
            go_wp2_with (first | (go_at_call 10; go_must (refine (HSx.out _ Ag cg HC.out.1 HC.out.2.2.2.1 A2 c2 HC.out.2.1 H2.out.2.1).mono ?_; rintro e w5 ⟨v5, rfl, hR, hb5⟩; have H5 := Lib.hid hb5; clear hR hb5)) | (go_at_call 9; go_must (refine (HF.out _).mono ?_; rintro e w6 ⟨rfl, hb6⟩; have H6 := Lib.hid (H5.out.trans (hb6.mono H5.out.size)); clear hb6)) | (go_at_call 14; go_must (refine (HMx.out _ Ag cg (Kd.C_below HC.out.1 H6.out) HC.out.2.2.2.1).mono ?_; rintro e w7 ⟨rfl, hb7⟩; have H7 := Lib.hid hb7; clear hb7)))
            go_ret
            have y1 := H2.out.1.trans (H3.out.1.mono H2.out.1.size)
            have y2 := y1.trans (HC.out.2.2.2.2.mono y1.size)
            have y3 := y2.trans (H6.out.mono y2.size)
            exact ⟨rfl, y3.trans (H7.out.mono y3.size)⟩

theorem same_any {l : List SP} {A : Option Addr} {c : Nat} {w : World} (h0 : ∀ x ∈ l, 0 ≤ x.f3) (hr0 : Kd.C Go.Proofs.YtlajboohkkbgdaaX.k34 w A l.length l) (hc0 : l.length ≤ c) :
    Calls Try.prog 5 #[.slice A l.length c] w fun e w' => e = .returned (.bool true) ∧ Below w.heap.size w w' := by
  cases hg : greatB l with
  | true => exact same_a l A c w hr0 hc0 hg
  | false =>
    cases hm : allMay l with
    | false => exact same_b l A c w h0 hr0 hc0 hg hm
    | true => exact same_c l A c w h0 hr0 hc0 hg hm

end Go.Proofs.Ytlajboohkkbgdaa
