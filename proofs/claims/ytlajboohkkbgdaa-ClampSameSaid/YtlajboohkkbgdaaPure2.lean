/- Where spans begin: clamp's row by row, and the reference's way up, are one. Up to 60 spans. -/
import Derived.Test.YtlajboohkkbgdaaPure1
namespace Go.Proofs.YtlajboohkkbgdaaX
open Go.RowKit Go.Proofs.YtlajboohkkbgdaaW.PrintWords Go.Proofs.YtlajboohkkbgdaaW.PrintMore
open Go.Proofs.Ytlajboohkkbgdaa (forestB rightB mayP nameP Fo.it Fo.nx Fo.row Fo.Item Fo.Lv Fo.Forest stV startsTo startsL stepC)
set_option linter.unusedSimpArgs false
set_option linter.unusedVariables false

/-! ### the recurrence -/
def rec1 (l : List SP) (P : List Int) (S : List Int) (i : Nat) : Int :=
  if P.getD i (-1) < 0 then (l.getD i zS).f6 else stV (l.getD i zS) (l.getD (P.getD i (-1)).toNat zS) (S.getD (P.getD i (-1)).toNat 0)

theorem row_uniq {P : List Int} (h : Fo.Forest P) {i j : Nat} {y q : Fo.Item} (hi : (Fo.row P)[i]? = some y) (hj : (Fo.row P)[j]? = some q) (he : y.place = q.place) : i = j := by
  obtain ⟨hi1, hi2⟩ := List.getElem?_eq_some_iff.1 hi
  obtain ⟨hj1, hj2⟩ := List.getElem?_eq_some_iff.1 hj
  have hp := List.pairwise_iff_getElem.1 (Go.Proofs.Ytlajboohkkbgdaa.Fo.row_nodup h)
  rcases Nat.lt_trichotomy i j with h1 | h1 | h1
  · have := hp i j (by simpa using hi1) (by simpa using hj1) h1
    simp [hi2, hj2, he] at this
  · exact h1
  · have := hp j i (by simpa using hj1) (by simpa using hi1) h1
    simp [hi2, hj2, he] at this

theorem getD_set_ne (l : List Int) (i j : Nat) (v : Int) (h : i ≠ j) : (l.set i v).getD j 0 = l.getD j 0 := by
  rw [List.getD_eq_getElem?_getD, List.getD_eq_getElem?_getD, List.getElem?_set_ne h]
theorem getD_set_self (l : List Int) (i : Nat) (v : Int) (h : i < l.length) : (l.set i v).getD i 0 = v := by
  rw [List.getD_eq_getElem?_getD, List.getElem?_set_self h]; rfl

theorem starts_inv (l : List SP) (P : List Int) (hF : Fo.Forest P) (hlen : l.length = P.length) : ∀ j, j ≤ (Fo.row P).length → ∀ k y, k < j → (Fo.row P)[k]? = some y →
    (startsTo l P j).getD y.place.toNat 0 = rec1 l P (startsTo l P j) y.place.toNat
  | 0, _, k, y, hk, _ => by omega
  | j + 1, hj, k, y, hk, hy => by
    have hjr : j < (Fo.row P).length := by omega
    have hx : (Fo.row P)[j]? = some (Fo.row P)[j] := List.getElem?_eq_getElem hjr
    generalize (Fo.row P)[j] = x at hx
    rw [Go.Proofs.Ytlajboohkkbgdaa.startsTo_succ l P j x hx]
    obtain ⟨x1, x2, x3, _, _, x6⟩ := Go.Proofs.Ytlajboohkkbgdaa.Fo.row_at hF j x hx
    obtain ⟨y1, y2, y3, _, _, y6⟩ := Go.Proofs.Ytlajboohkkbgdaa.Fo.row_at hF k y hy
    have hsl := Go.Proofs.Ytlajboohkkbgdaa.startsTo_length l P j
    have hxl : x.place.toNat < (startsTo l P j).length := by omega
    -- what the step changes: only the place of x
    have hother : ∀ q : Nat, q ≠ x.place.toNat → (stepC l (startsTo l P j) x).getD q 0 = (startsTo l P j).getD q 0 := by
      intro q hq
      unfold stepC
      simp only
      split
      · rw [getD_set_ne _ _ _ _ (Ne.symm hq), getD_set_ne _ _ _ _ (Ne.symm hq)]
      · rw [getD_set_ne _ _ _ _ (Ne.symm hq)]
    have hpar : 0 ≤ y.parent → y.parent.toNat ≠ x.place.toNat := by
      intro h0 he
      obtain ⟨k', q, hk', hq, hqp, _⟩ := y6 h0
      have := row_uniq hF hq hx (by omega)
      omega
    rcases Nat.lt_or_ge k j with hkj | hkj
    · have hne : y.place.toNat ≠ x.place.toNat := fun he => by
        have := row_uniq hF hy hx (by omega)
        omega
      rw [hother _ hne, starts_inv l P hF hlen j (by omega) k y hkj hy]
      unfold rec1
      rw [← y3]
      split
      · rfl
      · rw [hother _ (hpar (by omega))]
    · obtain rfl : k = j := by omega
      obtain rfl : x = y := by rw [hx] at hy; exact Option.some.inj hy
      unfold rec1
      rw [← x3]
      by_cases h0 : x.parent < 0
      · rw [if_pos h0]
        unfold stepC
        simp only
        rw [if_neg (by omega), getD_set_self _ _ _ hxl]
      · rw [if_neg h0, hother _ (hpar (by omega))]
        unfold stepC
        simp only
        rw [if_pos (by omega), getD_set_self _ _ _ (by rw [List.length_set]; exact hxl), getD_set_ne _ _ _ _ (Ne.symm (hpar (by omega)))]

theorem starts_rec (l : List SP) (P : List Int) (hF : Fo.Forest P) (hlen : l.length = P.length) (i : Nat) (hi : i < l.length) : (startsL l P).getD i 0 = rec1 l P (startsL l P) i := by
  have hp := Go.Proofs.Ytlajboohkkbgdaa.Fo.row_perm hF
  have hm : (i : Int) ∈ (Fo.row P).map (·.place) := hp.mem_iff.2 (List.mem_map.2 ⟨i, List.mem_range.2 (by omega), rfl⟩)
  obtain ⟨y, hy, hyi⟩ := List.mem_map.1 hm
  obtain ⟨k, hk, rfl⟩ := List.mem_iff_getElem.1 hy
  have := starts_inv l P hF hlen (Fo.row P).length (Nat.le_refl _) k _ hk (List.getElem?_eq_getElem hk)
  rw [show ((Fo.row P)[k].place).toNat = i by omega] at this
  exact this

/-! ### stV in bounds -/
theorem stV_val (x p : SP) (a : Int) (h1 : 0 ≤ x.f6 ∧ x.f6 < 1125899906842624) (h2 : 0 ≤ x.f7 ∧ x.f7 ≤ 1125899906842624) (h3 : 0 ≤ p.f6 ∧ p.f6 < 1125899906842624) (h4 : 0 ≤ p.f7 ∧ p.f7 ≤ 1125899906842624) (h5 : 0 ≤ a ∧ a ≤ 144115188075855872) :
    stV x p a = if x.f7 > p.f7 then a else mx a (mn (x.f6 + a - p.f6) (a + p.f7 - x.f7)) := by
  unfold stV clamp_start.f clamp_between_int64.f
  split
  · rfl
  · have e1 : wrap64 (wrap64 (x.f6 + a) - p.f6) = x.f6 + a - p.f6 := by rw [wr (x := x.f6 + a) (by omega) (by omega), wr (by omega) (by omega)]
    have e2 : wrap64 (wrap64 (a + p.f7) - x.f7) = a + p.f7 - x.f7 := by rw [wr (x := a + p.f7) (by omega) (by omega), wr (by omega) (by omega)]
    rw [e1, e2]
    rfl

theorem may_b {x : SP} (h : mayP (spOf x) = true) : (0 ≤ x.f6 ∧ x.f6 < 1125899906842624) ∧ (0 ≤ x.f7 ∧ x.f7 ≤ 1125899906842624) := by
  simp only [mayP, Bool.and_eq_true, decide_eq_true_eq] at h
  have h2 := h.1.1
  exact ⟨⟨h2.2.2.2.2.1, h2.2.2.2.2.2.1⟩, ⟨h2.2.2.2.2.2.2.1, h2.2.2.2.2.2.2.2⟩⟩

structure Rt (l : List SP) (P : List Int) : Prop where
  len : l.length = P.length
  forest : Fo.Forest P
  may : ∀ i, i < l.length → (0 ≤ (l.getD i zS).f6 ∧ (l.getD i zS).f6 < 1125899906842624) ∧ (0 ≤ (l.getD i zS).f7 ∧ (l.getD i zS).f7 ≤ 1125899906842624)
theorem rt_of {l : List SP} {P : List Int} (h : rightB (l.map spOf) P = true) : Rt l P := by
  simp only [rightB, Bool.and_eq_true, decide_eq_true_eq, List.length_map] at h
  refine ⟨h.1.1, (Go.Proofs.Ytlajboohkkbgdaa.forestB_iff P).1 h.1.2, fun i hi => ?_⟩
  rw [getD_at _ _ _ hi]
  exact may_b ((allMay_iff l).1 h.2 _ (List.getElem_mem hi))

theorem Rt.par {l : List SP} {P : List Int} (h : Rt l P) (i : Nat) (hi : i < l.length) : -1 ≤ P.getD i (-1) ∧ P.getD i (-1) < l.length := by
  have := h.len
  have h2 := h.forest.1 (P.getD i (-1)) (by rw [getD_at _ _ _ (by omega)]; exact List.getElem_mem _)
  omega
theorem Rt.lv {l : List SP} {P : List Int} (h : Rt l P) (i : Nat) (hi : i < l.length) : ∃ k, k ≤ l.length ∧ Fo.Lv P (i : Int) k := by
  have := h.len
  obtain ⟨k, hk, hl⟩ := Go.Proofs.Ytlajboohkkbgdaa.Fo.Lv.exists h.forest.2 h.forest.rng (x := (i : Int)) (by omega)
  exact ⟨k, by omega, hl⟩
/-- One step up. -/
theorem lv_up {P : List Int} {i k : Nat} (hi : i < P.length) (hl : Fo.Lv P (i : Int) k) (h0 : ¬ P.getD i (-1) < 0) : ∃ m p : Nat, k = m + 1 ∧ P.getD i (-1) = (p : Int) ∧ Fo.Lv P (p : Int) m := by
  obtain ⟨p, hp⟩ := Int.eq_ofNat_of_zero_le (show 0 ≤ P.getD i (-1) by omega)
  cases k with
  | zero => have h1 := hl.1; exfalso; change (i : Int) < 0 at h1; omega
  | succ m =>
    refine ⟨m, p, rfl, hp, ?_⟩
    have e : Fo.nx P (i : Int) = (p : Int) := by rw [Go.Proofs.Ytlajboohkkbgdaa.Fo.nx_nat, hp]
    refine ⟨?_, fun j hj => ?_⟩
    · have := hl.1
      rw [Go.Proofs.Ytlajboohkkbgdaa.Fo.it_succ', e] at this
      exact this
    · have := hl.2 (j + 1) (by omega)
      rw [Go.Proofs.Ytlajboohkkbgdaa.Fo.it_succ', e] at this
      exact this
theorem lv_pos {P : List Int} {i k : Nat} (hl : Fo.Lv P (i : Int) k) : 1 ≤ k := by
  rcases Nat.eq_zero_or_pos k with h | h
  · subst h
    have := hl.1
    change (i : Int) < 0 at this
    omega
  · exact h

/-- Induction from the roots down. -/
theorem Rt.ind {l : List SP} {P : List Int} (h : Rt l P) (Q : Nat → Nat → Prop)
    (root : ∀ i, i < l.length → P.getD i (-1) < 0 → Q i 1)
    (step : ∀ i p k, i < l.length → p < l.length → P.getD i (-1) = (p : Int) → Q p k → 1 ≤ k → k + 1 ≤ l.length → Q i (k + 1)) :
    ∀ i, i < l.length → ∃ k, 1 ≤ k ∧ k ≤ l.length ∧ Q i k := by
  have hlen := h.len
  have main : ∀ k i, i < l.length → Fo.Lv P (i : Int) k → k ≤ l.length → Q i k := by
    intro k
    induction k with
    | zero => intro i _ hl _; have := lv_pos hl; omega
    | succ k ih =>
      intro i hi hl hk
      by_cases h0 : P.getD i (-1) < 0
      · have h1 : Fo.Lv P (i : Int) 1 := ⟨by
          show Fo.nx P (i : Int) < 0
          rw [Go.Proofs.Ytlajboohkkbgdaa.Fo.nx_nat]; exact h0, fun j hj => by
          obtain rfl : j = 0 := by omega
          show (0 : Int) ≤ (i : Int)
          omega⟩
        have := hl.uniq h1
        rw [this]
        exact root i hi h0
      · obtain ⟨m, p, hm, hp, hlm⟩ := lv_up (by omega) hl h0
        obtain rfl : m = k := by omega
        have hpl : p < l.length := by have := h.par i hi; omega
        exact step i p m hi hpl hp (ih p hpl hlm (by omega)) (lv_pos hlm) hk
  intro i hi
  obtain ⟨k, hk, hl⟩ := h.lv i hi
  exact ⟨k, lv_pos hl, hk, main k i hi hl hk⟩

/-! ### bounds, and the recurrence without wraps -/
theorem starts_bd {l : List SP} {P : List Int} (h : Rt l P) (hl : l.length ≤ 60) (i : Nat) (hi : i < l.length) : 0 ≤ (startsL l P).getD i 0 ∧ (startsL l P).getD i 0 ≤ 72057594037927936 := by
  have := h.ind (fun i k => 0 ≤ (startsL l P).getD i 0 ∧ (startsL l P).getD i 0 ≤ 1125899906842624 * (k : Int)) ?_ ?_ i hi
  · obtain ⟨k, _, hk, h1, h2⟩ := this
    omega
  · intro i hi h0
    rw [starts_rec l P h.forest h.len i hi, rec1, if_pos h0]
    have := (h.may i hi).1
    omega
  · intro i p k hi hp hpi ⟨h1, h2⟩ hk1 hk2
    rw [starts_rec l P h.forest h.len i hi, rec1, if_neg (by omega), hpi]
    simp only [Int.toNat_natCast]
    rw [stV_val _ _ _ (h.may i hi).1 (h.may i hi).2 (h.may p hp).1 (h.may p hp).2 (by omega)]
    have m1 := h.may i hi
    have m2 := h.may p hp
    unfold mx mn
    split
    · omega
    · split <;> split <;> omega
/-- What clamp comes to. -/
def stP (l : List SP) (P : List Int) (S : List Int) (i : Nat) : Int :=
  if P.getD i (-1) < 0 then (l.getD i zS).f6
  else if (l.getD i zS).f7 > (l.getD (P.getD i (-1)).toNat zS).f7 then S.getD (P.getD i (-1)).toNat 0
  else mx (S.getD (P.getD i (-1)).toNat 0) (mn ((l.getD i zS).f6 + S.getD (P.getD i (-1)).toNat 0 - (l.getD (P.getD i (-1)).toNat zS).f6) (S.getD (P.getD i (-1)).toNat 0 + (l.getD (P.getD i (-1)).toNat zS).f7 - (l.getD i zS).f7))
theorem starts_at {l : List SP} {P : List Int} (h : Rt l P) (hl : l.length ≤ 60) (i : Nat) (hi : i < l.length) : (startsL l P).getD i 0 = stP l P (startsL l P) i := by
  rw [starts_rec l P h.forest h.len i hi, rec1, stP]
  split
  · rfl
  · rename_i h0
    obtain ⟨p, hp⟩ := Int.eq_ofNat_of_zero_le (show 0 ≤ P.getD i (-1) by omega)
    have hpl : p < l.length := by have := h.par i hi; omega
    rw [hp]
    simp only [Int.toNat_natCast]
    have hb := starts_bd h hl p hpl
    exact stV_val _ _ _ (h.may i hi).1 (h.may i hi).2 (h.may p hpl).1 (h.may p hpl).2 (by omega)

/-! ### the reference's way up -/
theorem start_tail (x q : SP) (a : Int) (h1 : 0 ≤ x.f6 ∧ x.f6 < 1125899906842624) (h2 : 0 ≤ x.f7 ∧ x.f7 ≤ 1125899906842624) (h3 : 0 ≤ q.f6 ∧ q.f6 < 1125899906842624) (h4 : 0 ≤ q.f7 ∧ q.f7 ≤ 1125899906842624) (h5 : 0 ≤ a ∧ a ≤ 72057594037927936) :
    Ev (fun _ => if x.f7 > q.f7 then some a else if wrap64 (x.f6 + wrap64 (a - q.f6)) < a then some a else if wrap64 (wrap64 (x.f6 + wrap64 (a - q.f6)) + x.f7) > wrap64 (a + q.f7) then some (wrap64 (wrap64 (a + q.f7) - x.f7)) else some (wrap64 (x.f6 + wrap64 (a - q.f6))))
      (if x.f7 > q.f7 then a else mx a (mn (x.f6 + a - q.f6) (a + q.f7 - x.f7))) := by
  have e1 : wrap64 (x.f6 + wrap64 (a - q.f6)) = x.f6 + a - q.f6 := by rw [wr (x := a - q.f6) (by omega) (by omega), wr (by omega) (by omega)]; omega
  have e2 : wrap64 (x.f6 + a - q.f6 + x.f7) = x.f6 + a - q.f6 + x.f7 := wr (by omega) (by omega)
  have e3 : wrap64 (a + q.f7) = a + q.f7 := wr (by omega) (by omega)
  have e4 : wrap64 (a + q.f7 - x.f7) = a + q.f7 - x.f7 := wr (by omega) (by omega)
  simp only [e1, e2, e3, e4]
  by_cases c1 : x.f7 > q.f7
  · simp only [if_pos c1]; exact Ev.now _
  · simp only [if_neg c1]
    by_cases c2 : x.f6 + a - q.f6 < a
    · simp only [if_pos c2]
      rw [show mx a (mn (x.f6 + a - q.f6) (a + q.f7 - x.f7)) = a by unfold mx mn; split <;> split <;> omega]
      exact Ev.now _
    · simp only [if_neg c2]
      by_cases c3 : x.f6 + a - q.f6 + x.f7 > a + q.f7
      · simp only [if_pos c3]
        rw [show mx a (mn (x.f6 + a - q.f6) (a + q.f7 - x.f7)) = a + q.f7 - x.f7 by unfold mx mn; split <;> split <;> omega]
        exact Ev.now _
      · simp only [if_neg c3]
        rw [show mx a (mn (x.f6 + a - q.f6) (a + q.f7 - x.f7)) = x.f6 + a - q.f6 by unfold mx mn; split <;> split <;> omega]
        exact Ev.now _
theorem start_ev {l : List SP} {P : List Int} (h : Rt l P) (hl : l.length ≤ 60) (i : Nat) (hi : i < l.length) : Ev (fun k => merkhetref19_start.f k l P (i : Int)) ((startsL l P).getD i 0) := by
  have hlen := h.len
  have := h.ind (fun i _ => Ev (fun k => merkhetref19_start.f k l P (i : Int)) ((startsL l P).getD i 0)) ?_ ?_ i hi
  · obtain ⟨_, _, _, h'⟩ := this
    exact h'
  · intro i hi h0
    refine Ev.step (fun k => by rw [merkhetref19_start.f]) ?_
    rw [starts_at h hl i hi, stP, if_pos h0]
    simp only [if_pos (show (0 : Int) ≤ (i : Int) by omega), if_pos (show (i : Int) < (P.length : Int) by omega), rdI, getD_or P i (by omega) 0 (-1), if_pos h0, if_pos (show (i : Int) < (l.length : Int) by omega), rdS]
    exact Ev.now _
  · intro i p k hi hp hpi ih _ _
    refine Ev.step (fun k => by rw [merkhetref19_start.f]) ?_
    simp only [if_pos (show (0 : Int) ≤ (i : Int) by omega), if_pos (show (i : Int) < (P.length : Int) by omega), rdI, getD_or P i (by omega) 0 (-1), hpi, if_neg (show ¬ ((p : Int) < 0) by omega)]
    refine Ev.bind ih ?_
    simp only [if_pos (show (i : Int) < (l.length : Int) by omega), if_pos (show (0 : Int) ≤ (p : Int) by omega), if_pos (show (p : Int) < (l.length : Int) by omega), rdS]
    have hb := starts_bd h hl p hp
    have m1 := h.may i hi
    have m2 := h.may p hp
    rw [starts_at h hl i hi, stP, hpi, if_neg (by omega)]
    simp only [Int.toNat_natCast]
    exact start_tail _ _ _ m1.1 m1.2 m2.1 m2.2 hb

theorem startsL_length (l : List SP) (P : List Int) : (startsL l P).length = l.length := Go.Proofs.Ytlajboohkkbgdaa.startsTo_length _ _ _
theorem rstarts_l {l : List SP} {P : List Int} (h : Rt l P) (hl : l.length ≤ 60) : ∀ (d i : Nat), i + d = l.length → Ev (fun k => merkhetref19_Starts.l0 k l P ((startsL l P).take i) (i : Int)) (startsL l P, true)
  | 0, i, hd => by
    refine Ev.step (fun k => by rw [merkhetref19_Starts.l0]) ?_
    simp only [if_neg (show ¬ ((i : Int) < (l.length : Int)) by omega)]
    rw [List.take_of_length_le (by rw [startsL_length]; omega)]
    exact Ev.now _
  | d + 1, i, hd => by
    have hi : i < l.length := by omega
    refine Ev.step (fun k => by rw [merkhetref19_Starts.l0]) ?_
    simp only [if_pos (show ((i : Int) < (l.length : Int)) by omega), w1 hi (by omega : l.length ≤ 9223372036854775807)]
    refine Ev.bind (start_ev h hl i hi) ?_
    simp only [if_pos (show ((startsL l P).take i).length < 17592186044416 by rw [List.length_take, startsL_length]; omega)]
    have e : (startsL l P).take i ++ [(startsL l P).getD i 0] = (startsL l P).take (i + 1) := by
      have hs : i < (startsL l P).length := by rw [startsL_length]; exact hi
      rw [List.take_succ_eq_append_getElem hs, getD_at _ _ _ hs]
    rw [e]
    exact rstarts_l h hl d (i + 1) (by omega)
theorem rstarts_ev (l : List SP) (P : List Int) (hl : l.length ≤ 60) (hP : P.length ≤ 60) (h0 : ∀ x ∈ l, 0 ≤ x.f3) :
    Ev (fun k => merkhetref19_Starts.f k l P) (if rightB (l.map spOf) P then (startsL l P, true) else ([], false)) := by
  unfold merkhetref19_Starts.f
  refine Ev.bind (rright_ev l P (by omega) (by omega) h0) ?_
  cases hr : rightB (l.map spOf) P with
  | false => simp only [Bool.false_eq_true, if_false]; exact Ev.now _
  | true =>
    simp only [if_true]
    exact rstarts_l (rt_of hr) hl l.length 0 (by omega)

end Go.Proofs.YtlajboohkkbgdaaX
