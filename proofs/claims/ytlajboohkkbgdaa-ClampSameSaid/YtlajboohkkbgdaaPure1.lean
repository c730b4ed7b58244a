/- What the reference's functions of this seat answer, in plain words: greatness, may, up, Right, Same. Conditions: those stated. -/
import Derived.Test.YtlajboohkkbgdaaPXx2
import Derived.Test.YtlajboohkkbgdaaPXx4
import Derived.Test.YtlajboohkkbgdaaPXx7
import Derived.Test.YtlajboohkkbgdaaGivS
namespace Go.Proofs.YtlajboohkkbgdaaX
open Go.RowKit Go.Proofs.YtlajboohkkbgdaaW.PrintWords Go.Proofs.YtlajboohkkbgdaaW.PrintMore
open Go.Proofs.Ytlajboohkkbgdaa (forestB rightB mayP nameP Fo.it Fo.nx)
set_option linter.unusedSimpArgs false
set_option linter.unusedVariables false

theorem w1 {i n : Nat} (h : i < n) (hn : n ≤ 9223372036854775807) : wrap64 ((i : Int) + 1) = ((i + 1 : Nat) : Int) := by unfold wrap64; omega
theorem wr {x : Int} (h0 : -9223372036854775808 ≤ x) (h1 : x ≤ 9223372036854775807) : wrap64 x = x := by unfold wrap64; omega
abbrev zS : SP := z34
theorem rdS (l : List SP) (i : Nat) : rd_T34 l (i : Int) = l.getD i zS := rfl
theorem rdI (l : List Int) (i : Nat) : rd l (i : Int) = l.getD i 0 := rfl
theorem getD_at {α : Type} (l : List α) (z : α) (i : Nat) (h : i < l.length) : l.getD i z = l[i] := by rw [List.getD_eq_getElem?_getD, List.getElem?_eq_getElem h]; rfl
theorem getD_or (l : List Int) (i : Nat) (h : i < l.length) (a b : Int) : l.getD i a = l.getD i b := by rw [getD_at _ _ _ h, getD_at _ _ _ h]

/-! ### Great -/
def longS (x : SP) : Bool := decide ((x.f4.size : Int) > 100) || decide ((x.f5.size : Int) > 100)
def greatB (l : List SP) : Bool := decide ((l.length : Int) > 60) || l.any longS
theorem great_l (l : List SP) (hl : l.length ≤ 60) : ∀ (d i : Nat), i + d = l.length → Ev (fun k => merkhetlaw04_Great.l0 k l (l.length : Int) (i : Int)) ((l.drop i).any longS)
  | 0, i, h => by
    refine Ev.step (fun k => by first | rw [merkhetlaw04_Great.l0] | rw [merkhetref01_May.j0] | rw [merkhetref01_May.j1] | rw [merkhetref01_May.j2] | rw [merkhetref18_May.l0] | rw [merkhetref10_up.l0] | rw [merkhetref10_Right.l0] | rw [merkhetref10_Right.l1] | rw [merkhetref15_Same.l0]) ?_
    simp only [if_neg (show ¬ ((i : Int) < (l.length : Int)) by omega)]
    rw [List.drop_of_length_le (by omega)]
    exact Ev.now _
  | d + 1, i, h => by
    have hi : i < l.length := by omega
    refine Ev.step (fun k => by first | rw [merkhetlaw04_Great.l0] | rw [merkhetref01_May.j0] | rw [merkhetref01_May.j1] | rw [merkhetref01_May.j2] | rw [merkhetref18_May.l0] | rw [merkhetref10_up.l0] | rw [merkhetref10_Right.l0] | rw [merkhetref10_Right.l1] | rw [merkhetref15_Same.l0]) ?_
    simp only [if_pos (show ((i : Int) < (l.length : Int)) by omega), if_pos (show (0 : Int) ≤ (i : Int) by omega), w1 hi (by omega : l.length ≤ 9223372036854775807), rdS]
    rw [List.drop_eq_getElem_cons hi, List.any_cons, getD_at _ _ _ hi]
    by_cases h1 : ((l[i].f4.size : Int) > 100)
    · simp only [if_pos h1]
      rw [show longS l[i] = true by simp [longS]; left; omega, Bool.true_or]
      exact Ev.now _
    · simp only [if_neg h1]
      by_cases h2 : ((l[i].f5.size : Int) > 100)
      · simp only [if_pos h2]
        rw [show longS l[i] = true by simp [longS]; right; omega, Bool.true_or]
        exact Ev.now _
      · simp only [if_neg h2]
        rw [show longS l[i] = false by simp only [longS, decide_eq_false h1, decide_eq_false h2, Bool.or_self], Bool.false_or]
        exact great_l l hl d (i + 1) (by omega)
theorem great_ev (l : List SP) : Ev (fun k => merkhetlaw04_Great.f k l) (greatB l) := by
  unfold merkhetlaw04_Great.f greatB
  by_cases h : (l.length : Int) > 60
  · simp only [if_pos h, decide_eq_true h, Bool.true_or]
    exact Ev.now _
  · simp only [if_neg h, decide_eq_false h, Bool.false_or]
    have := great_l l (by omega) l.length 0 (by omega)
    rwa [List.drop_zero] at this

/-! ### may -/
theorem rname (s : ByteArray) : merkhetref01_Name.f s = some (nameP s.data.toList) := rfl
theorem may1 (x : SP) (h0 : 0 ≤ x.f3) : Ev (fun k => merkhetref01_May.f k x.f0 x.f1 x.f2 x.f3 x.f4 x.f5 x.f6 x.f7) (mayP (spOf x)) := by
  obtain ⟨tr, id, pa, ki, ho, na, st, du⟩ := x
  simp only at h0
  unfold merkhetref01_May.f
  have e0 : mayP (spOf ⟨tr, id, pa, ki, ho, na, st, du⟩) = (decide (tr ≠ 0 ∧ id ≠ 0 ∧ pa ≠ id ∧ ki ≤ 2 ∧ 0 ≤ st ∧ st < 1125899906842624 ∧ 0 ≤ du ∧ du ≤ 1125899906842624) && nameP ho.data.toList && nameP na.data.toList) := rfl
  rw [e0]
  have j0f : ∀ (a b c d e f : Int) (g h : ByteArray), Ev (fun k => merkhetref01_May.j0 k true a b c d g h e f) false := fun a b c d e f g h => Ev.step (fun k => by first | rw [merkhetlaw04_Great.l0] | rw [merkhetref01_May.j0] | rw [merkhetref01_May.j1] | rw [merkhetref01_May.j2] | rw [merkhetref18_May.l0] | rw [merkhetref10_up.l0] | rw [merkhetref10_Right.l0] | rw [merkhetref10_Right.l1] | rw [merkhetref15_Same.l0]) (by simp only [if_true]; exact Ev.now _)
  have j1f : ∀ (a b c d e f : Int) (g h : ByteArray), Ev (fun k => merkhetref01_May.j1 k true a b c d g h e f) false := fun a b c d e f g h => Ev.step (fun k => by first | rw [merkhetlaw04_Great.l0] | rw [merkhetref01_May.j0] | rw [merkhetref01_May.j1] | rw [merkhetref01_May.j2] | rw [merkhetref18_May.l0] | rw [merkhetref10_up.l0] | rw [merkhetref10_Right.l0] | rw [merkhetref10_Right.l1] | rw [merkhetref15_Same.l0]) (by simp only [if_true]; exact Ev.now _)
  have j2f : ∀ (a b c d e f : Int) (g h : ByteArray), Ev (fun k => merkhetref01_May.j2 k true a b c d g h e f) false := fun a b c d e f g h => Ev.step (fun k => by first | rw [merkhetlaw04_Great.l0] | rw [merkhetref01_May.j0] | rw [merkhetref01_May.j1] | rw [merkhetref01_May.j2] | rw [merkhetref18_May.l0] | rw [merkhetref10_up.l0] | rw [merkhetref10_Right.l0] | rw [merkhetref10_Right.l1] | rw [merkhetref15_Same.l0]) (by simp only [if_true]; exact Ev.now _)
  have fin : ∀ (Q : Prop) [Decidable Q], ¬ Q → (decide Q && nameP ho.data.toList && nameP na.data.toList) = false := fun Q _ hq => by rw [decide_eq_false hq]; rfl
  by_cases c0 : tr = 0
  · simp only [if_pos c0]
    rw [fin _ (fun h => h.1 c0)]
    exact j0f _ _ _ _ _ _ _ _
  simp only [if_neg c0]
  by_cases c1 : id = 0
  · simp only [if_pos c1]
    rw [fin _ (fun h => h.2.1 c1)]
    exact j0f _ _ _ _ _ _ _ _
  simp only [if_neg c1]
  by_cases c2 : pa = id
  · rw [show (pa == id) = true by simpa using c2, fin _ (fun h => h.2.2.1 c2)]
    exact j0f _ _ _ _ _ _ _ _
  rw [show (pa == id) = false by simpa using c2]
  refine Ev.step (fun k => by first | rw [merkhetlaw04_Great.l0] | rw [merkhetref01_May.j0] | rw [merkhetref01_May.j1] | rw [merkhetref01_May.j2] | rw [merkhetref18_May.l0] | rw [merkhetref10_up.l0] | rw [merkhetref10_Right.l0] | rw [merkhetref10_Right.l1] | rw [merkhetref15_Same.l0]) ?_
  simp only [Bool.false_eq_true, if_false]
  have hk : ∀ r, Ev (fun k => merkhetref01_May.j1 k false tr id pa ki ho na st du) r → ki ≤ 2 → Ev (fun k => if ki = 0 then merkhetref01_May.j1 k false tr id pa ki ho na st du else if ki = 1 then merkhetref01_May.j1 k false tr id pa ki ho na st du else merkhetref01_May.j1 k (ki != 2) tr id pa ki ho na st du) r := fun r hr hk => by
    by_cases k0 : ki = 0
    · simp only [if_pos k0]; exact hr
    simp only [if_neg k0]
    by_cases k1 : ki = 1
    · simp only [if_pos k1]; exact hr
    simp only [if_neg k1]
    rw [show (ki != 2) = false by simp; omega]
    exact hr
  by_cases c3 : ki ≤ 2
  · refine hk _ ?_ c3
    refine Ev.step (fun k => by first | rw [merkhetlaw04_Great.l0] | rw [merkhetref01_May.j0] | rw [merkhetref01_May.j1] | rw [merkhetref01_May.j2] | rw [merkhetref18_May.l0] | rw [merkhetref10_up.l0] | rw [merkhetref10_Right.l0] | rw [merkhetref10_Right.l1] | rw [merkhetref15_Same.l0]) ?_
    simp only [Bool.false_eq_true, if_false]
    by_cases c4 : st < 0
    · simp only [if_pos c4]
      rw [fin _ (fun h => by omega)]
      exact j2f _ _ _ _ _ _ _ _
    simp only [if_neg c4]
    by_cases c5 : st > 1125899906842623
    · simp only [if_pos c5]
      rw [fin _ (fun h => by omega)]
      exact j2f _ _ _ _ _ _ _ _
    simp only [if_neg c5]
    by_cases c6 : du < 0
    · simp only [if_pos c6]
      rw [fin _ (fun h => by omega)]
      exact j2f _ _ _ _ _ _ _ _
    simp only [if_neg c6]
    by_cases c7 : du > 1125899906842624
    · rw [decide_eq_true c7, fin _ (fun h => by omega)]
      exact j2f _ _ _ _ _ _ _ _
    rw [decide_eq_false c7, decide_eq_true (show tr ≠ 0 ∧ id ≠ 0 ∧ pa ≠ id ∧ ki ≤ 2 ∧ 0 ≤ st ∧ st < 1125899906842624 ∧ 0 ≤ du ∧ du ≤ 1125899906842624 by omega)]
    refine Ev.step (fun k => by first | rw [merkhetlaw04_Great.l0] | rw [merkhetref01_May.j0] | rw [merkhetref01_May.j1] | rw [merkhetref01_May.j2] | rw [merkhetref18_May.l0] | rw [merkhetref10_up.l0] | rw [merkhetref10_Right.l0] | rw [merkhetref10_Right.l1] | rw [merkhetref15_Same.l0]) ?_
    simp only [Bool.false_eq_true, if_false, rname, Option.bind_some, Bool.true_and]
    cases nameP ho.data.toList <;> simp only [if_true, Bool.false_eq_true, if_false, Bool.true_and, Bool.false_and] <;> exact Ev.now _
  · have k0 : ¬ ki = 0 := by omega
    have k1 : ¬ ki = 1 := by omega
    simp only [if_neg k0, if_neg k1]
    rw [show (ki != 2) = true by simp; omega, fin _ (fun h => by omega)]
    exact j1f _ _ _ _ _ _ _ _

def allMay (l : List SP) : Bool := !((l.map spOf).any fun s => !mayP s)
theorem allMay_iff (l : List SP) : allMay l = true ↔ ∀ x ∈ l, mayP (spOf x) = true := by
  simp only [allMay, Bool.not_eq_true', List.any_eq_false, List.mem_map, Bool.not_eq_true', Bool.not_eq_false]
  constructor
  · intro h x hx
    simpa using h (spOf x) ⟨x, hx, rfl⟩
  · rintro h _ ⟨x, hx, rfl⟩
    simpa using h x hx
theorem may_l (l : List SP) (hl : l.length ≤ 9223372036854775807) (h0 : ∀ x ∈ l, 0 ≤ x.f3) : ∀ (d i : Nat), i + d = l.length → Ev (fun k => merkhetref18_May.l0 k l (i : Int)) (allMay (l.drop i))
  | 0, i, h => by
    refine Ev.step (fun k => by first | rw [merkhetlaw04_Great.l0] | rw [merkhetref01_May.j0] | rw [merkhetref01_May.j1] | rw [merkhetref01_May.j2] | rw [merkhetref18_May.l0] | rw [merkhetref10_up.l0] | rw [merkhetref10_Right.l0] | rw [merkhetref10_Right.l1] | rw [merkhetref15_Same.l0]) ?_
    simp only [if_neg (show ¬ ((i : Int) < (l.length : Int)) by omega)]
    rw [List.drop_of_length_le (by omega)]
    exact Ev.now _
  | d + 1, i, h => by
    have hi : i < l.length := by omega
    refine Ev.step (fun k => by first | rw [merkhetlaw04_Great.l0] | rw [merkhetref01_May.j0] | rw [merkhetref01_May.j1] | rw [merkhetref01_May.j2] | rw [merkhetref18_May.l0] | rw [merkhetref10_up.l0] | rw [merkhetref10_Right.l0] | rw [merkhetref10_Right.l1] | rw [merkhetref15_Same.l0]) ?_
    simp only [if_pos (show ((i : Int) < (l.length : Int)) by omega), if_pos (show (0 : Int) ≤ (i : Int) by omega), w1 hi hl, rdS]
    refine Ev.bind (may1 _ (h0 _ ?_)) ?_
    · rw [getD_at _ _ _ hi]; exact List.getElem_mem hi
    · rw [List.drop_eq_getElem_cons hi, getD_at _ _ _ hi]
      cases hm : mayP (spOf l[i]) with
      | true =>
        simp only [if_true]
        have := may_l l hl h0 d (i + 1) (by omega)
        simp only [allMay, List.map_cons, List.any_cons, hm, Bool.not_true, Bool.false_or] at this ⊢
        exact this
      | false =>
        simp only [Bool.false_eq_true, if_false, allMay, List.map_cons, List.any_cons, hm, Bool.not_false, Bool.true_or, Bool.not_true]
        exact Ev.now _
theorem may_ev (l : List SP) (hl : l.length ≤ 9223372036854775807) (h0 : ∀ x ∈ l, 0 ≤ x.f3) : Ev (fun k => merkhetref18_May.f k l) (allMay l) := by
  have := may_l l hl h0 l.length 0 (by omega)
  rwa [List.drop_zero] at this

/-! ### up, Right -/
theorem nx_rd (P : List Int) (i : Nat) (h : i < P.length) : Fo.nx P (i : Int) = P.getD i 0 := by
  rw [Go.Proofs.Ytlajboohkkbgdaa.Fo.nx_nat]; exact getD_or _ _ h _ _
theorem up_l (P : List Int) (hR : Go.Proofs.Ytlajboohkkbgdaa.Fo.Rng P) (m : Nat) (hm : m ≤ 9223372036854775807) : ∀ (d j : Nat) (x : Int), j + d = m → x < P.length → Ev (fun k => merkhetref10_up.l0 k P x (m : Int) (j : Int)) (Fo.it P d x)
  | 0, j, x, h, hx => by
    refine Ev.step (fun k => by first | rw [merkhetlaw04_Great.l0] | rw [merkhetref01_May.j0] | rw [merkhetref01_May.j1] | rw [merkhetref01_May.j2] | rw [merkhetref18_May.l0] | rw [merkhetref10_up.l0] | rw [merkhetref10_Right.l0] | rw [merkhetref10_Right.l1] | rw [merkhetref15_Same.l0]) ?_
    simp only [if_neg (show ¬ ((j : Int) < (m : Int)) by omega)]
    exact Ev.now _
  | d + 1, j, x, h, hx => by
    refine Ev.step (fun k => by first | rw [merkhetlaw04_Great.l0] | rw [merkhetref01_May.j0] | rw [merkhetref01_May.j1] | rw [merkhetref01_May.j2] | rw [merkhetref18_May.l0] | rw [merkhetref10_up.l0] | rw [merkhetref10_Right.l0] | rw [merkhetref10_Right.l1] | rw [merkhetref15_Same.l0]) ?_
    simp only [if_pos (show ((j : Int) < (m : Int)) by omega)]
    by_cases h0 : x ≥ 0
    · obtain ⟨n, rfl⟩ := Int.eq_ofNat_of_zero_le h0
      have hn : n < P.length := by omega
      simp only [if_pos h0, if_pos (show (0 : Int) ≤ (n : Int) by omega), if_pos hx, rdI, w1 (show j < m by omega) hm]
      rw [Go.Proofs.Ytlajboohkkbgdaa.Fo.it_succ', nx_rd P n hn]
      refine up_l P hR m hm d (j + 1) _ (by omega) ?_
      rw [← nx_rd P n hn]
      exact Go.Proofs.Ytlajboohkkbgdaa.Fo.nx_lt hR hx
    · simp only [if_neg h0]
      rw [Go.Proofs.Ytlajboohkkbgdaa.Fo.it_neg (by omega)]
      exact Ev.now _
theorem up_ev (P : List Int) (hR : Go.Proofs.Ytlajboohkkbgdaa.Fo.Rng P) (m : Nat) (hm : m ≤ 9223372036854775807) (x : Int) (hx : x < P.length) : Ev (fun k => merkhetref10_up.f k P x (m : Int)) (Fo.it P m x) :=
  up_l P hR m hm m 0 x (by omega) hx

theorem right_l1 (P : List Int) (hR : Go.Proofs.Ytlajboohkkbgdaa.Fo.Rng P) (hl : P.length < 9223372036854775807) : ∀ (d i : Nat), i + d = P.length →
    Ev (fun k => merkhetref10_Right.l1 k P (i : Int)) ((List.range' i d).all fun x => decide (Fo.it P (P.length + 1) (x : Int) < 0))
  | 0, i, h => by
    refine Ev.step (fun k => by first | rw [merkhetlaw04_Great.l0] | rw [merkhetref01_May.j0] | rw [merkhetref01_May.j1] | rw [merkhetref01_May.j2] | rw [merkhetref18_May.l0] | rw [merkhetref10_up.l0] | rw [merkhetref10_Right.l0] | rw [merkhetref10_Right.l1] | rw [merkhetref15_Same.l0]) ?_
    simp only [if_neg (show ¬ ((i : Int) < (P.length : Int)) by omega)]
    exact Ev.now _
  | d + 1, i, h => by
    have hi : i < P.length := by omega
    refine Ev.step (fun k => by first | rw [merkhetlaw04_Great.l0] | rw [merkhetref01_May.j0] | rw [merkhetref01_May.j1] | rw [merkhetref01_May.j2] | rw [merkhetref18_May.l0] | rw [merkhetref10_up.l0] | rw [merkhetref10_Right.l0] | rw [merkhetref10_Right.l1] | rw [merkhetref15_Same.l0]) ?_
    simp only [if_pos (show ((i : Int) < (P.length : Int)) by omega), w1 hi (by omega : P.length ≤ 9223372036854775807)]
    rw [show wrap64 ((P.length : Int) + 1) = ((P.length + 1 : Nat) : Int) by rw [wr (by omega) (by omega)]; rfl]
    refine Ev.bind (up_ev P hR (P.length + 1) (by omega) (i : Int) (by omega)) ?_
    rw [List.range'_succ, List.all_cons]
    by_cases h0 : Fo.it P (P.length + 1) (i : Int) ≥ 0
    · simp only [if_pos h0]
      rw [decide_eq_false (by omega), Bool.false_and]
      exact Ev.now _
    · simp only [if_neg h0]
      rw [decide_eq_true (by omega), Bool.true_and]
      exact right_l1 P hR hl d (i + 1) (by omega)
theorem right_l0 (P : List Int) (hl : P.length < 9223372036854775807) : ∀ (d i : Nat), i + d = P.length → (∀ j, j < i → -1 ≤ P.getD j 0 ∧ P.getD j 0 < P.length) →
    Ev (fun k => merkhetref10_Right.l0 k P (i : Int)) (forestB P)
  | 0, i, h, hall => by
    refine Ev.step (fun k => by first | rw [merkhetlaw04_Great.l0] | rw [merkhetref01_May.j0] | rw [merkhetref01_May.j1] | rw [merkhetref01_May.j2] | rw [merkhetref18_May.l0] | rw [merkhetref10_up.l0] | rw [merkhetref10_Right.l0] | rw [merkhetref10_Right.l1] | rw [merkhetref15_Same.l0]) ?_
    simp only [if_neg (show ¬ ((i : Int) < (P.length : Int)) by omega)]
    have hr : ∀ p ∈ P, -1 ≤ p ∧ p < (P.length : Int) := fun p hp => by
      obtain ⟨j, hj, rfl⟩ := List.mem_iff_getElem.1 hp
      have := hall j (by omega)
      rwa [getD_at _ _ _ hj] at this
    have h1 := right_l1 P (fun p hp => (hr p hp).2) hl P.length 0 (by omega)
    have e : forestB P = ((List.range' 0 P.length).all fun x => decide (Fo.it P (P.length + 1) (x : Int) < 0)) := by
      unfold forestB
      rw [show (P.all fun p => decide (-1 ≤ p ∧ p < (P.length : Int))) = true by simpa [List.all_eq_true] using hr, Bool.true_and, List.range_eq_range']
    rw [e]
    exact h1
  | d + 1, i, h, hall => by
    have hi : i < P.length := by omega
    refine Ev.step (fun k => by first | rw [merkhetlaw04_Great.l0] | rw [merkhetref01_May.j0] | rw [merkhetref01_May.j1] | rw [merkhetref01_May.j2] | rw [merkhetref18_May.l0] | rw [merkhetref10_up.l0] | rw [merkhetref10_Right.l0] | rw [merkhetref10_Right.l1] | rw [merkhetref15_Same.l0]) ?_
    simp only [if_pos (show ((i : Int) < (P.length : Int)) by omega), if_pos (show (0 : Int) ≤ (i : Int) by omega), w1 hi (by omega : P.length ≤ 9223372036854775807), rdI]
    have no : ¬ (-1 ≤ P.getD i 0 ∧ P.getD i 0 < P.length) → forestB P = false := fun hn => by
      unfold forestB
      rw [show (P.all fun p => decide (-1 ≤ p ∧ p < (P.length : Int))) = false by
        rw [List.all_eq_false]
        exact ⟨_, List.getElem_mem hi, by rw [getD_at _ _ _ hi] at hn; simpa using hn⟩, Bool.false_and]
    by_cases h1 : P.getD i 0 < -1
    · simp only [if_pos h1]
      rw [no (by omega)]
      exact Ev.now _
    · simp only [if_neg h1]
      by_cases h2 : P.getD i 0 ≥ (P.length : Int)
      · simp only [if_pos h2]
        rw [no (by omega)]
        exact Ev.now _
      · simp only [if_neg h2]
        refine right_l0 P hl d (i + 1) (by omega) fun j hj => ?_
        rcases Nat.lt_or_ge j i with h' | h'
        · exact hall j h'
        · obtain rfl : j = i := by omega
          omega
theorem right_ev (P : List Int) (hl : P.length < 9223372036854775807) : Ev (fun k => merkhetref10_Right.f k P) (forestB P) := right_l0 P hl P.length 0 (by omega) (by intro j hj; omega)

theorem rright_ev (l : List SP) (P : List Int) (hl : l.length < 9223372036854775807) (hP : P.length < 9223372036854775807) (h0 : ∀ x ∈ l, 0 ≤ x.f3) : Ev (fun k => merkhetref19_Right.f k l P) (rightB (l.map spOf) P) := by
  unfold merkhetref19_Right.f rightB
  rw [List.length_map]
  by_cases h : l.length = P.length
  · simp only [if_pos (show (l.length : Int) = (P.length : Int) by omega), decide_eq_true h, Bool.true_and]
    refine Ev.bind (right_ev P hP) ?_
    cases forestB P with
    | false => simp only [Bool.false_eq_true, if_false, Bool.false_and]; exact Ev.now _
    | true =>
      simp only [if_true, Bool.true_and]
      exact Ev.bind (may_ev l (by omega) h0) (Ev.now _)
  · simp only [if_neg (show ¬ (l.length : Int) = (P.length : Int) by omega), decide_eq_false h, Bool.false_and]
    exact Ev.now _

/-! ### Same -/
theorem same_l (l : List Int) (hl : l.length ≤ 9223372036854775807) : ∀ (d i : Nat), i + d = l.length → Ev (fun k => merkhetref15_Same.l0 k l l (i : Int)) true
  | 0, i, h => by
    refine Ev.step (fun k => by first | rw [merkhetlaw04_Great.l0] | rw [merkhetref01_May.j0] | rw [merkhetref01_May.j1] | rw [merkhetref01_May.j2] | rw [merkhetref18_May.l0] | rw [merkhetref10_up.l0] | rw [merkhetref10_Right.l0] | rw [merkhetref10_Right.l1] | rw [merkhetref15_Same.l0]) ?_
    simp only [if_neg (show ¬ ((i : Int) < (l.length : Int)) by omega)]
    exact Ev.now _
  | d + 1, i, h => by
    refine Ev.step (fun k => by first | rw [merkhetlaw04_Great.l0] | rw [merkhetref01_May.j0] | rw [merkhetref01_May.j1] | rw [merkhetref01_May.j2] | rw [merkhetref18_May.l0] | rw [merkhetref10_up.l0] | rw [merkhetref10_Right.l0] | rw [merkhetref10_Right.l1] | rw [merkhetref15_Same.l0]) ?_
    simp only [if_pos (show ((i : Int) < (l.length : Int)) by omega), if_pos (show (0 : Int) ≤ (i : Int) by omega), w1 (show i < l.length by omega) hl, if_true]
    exact same_l l hl d (i + 1) (by omega)
theorem same_ev (l : List Int) (hl : l.length ≤ 9223372036854775807) : Ev (fun k => merkhetref15_Same.f k l l) true := by
  unfold merkhetref15_Same.f
  simp only [if_true]
  exact same_l l hl l.length 0 (by omega)

end Go.Proofs.YtlajboohkkbgdaaX
