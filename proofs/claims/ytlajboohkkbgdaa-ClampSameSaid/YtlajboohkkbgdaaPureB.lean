/- ClampBounds in plain words. The spans' kinds are no numbers below 0. -/
import Derived.Test.YtlajboohkkbgdaaPure3
import Derived.Test.YtlajboohkkbgdaaPXx13
namespace Go.Proofs.YtlajboohkkbgdaaX
open Go.RowKit Go.Proofs.YtlajboohkkbgdaaW.PrintWords Go.Proofs.YtlajboohkkbgdaaW.PrintMore
open Go.Proofs.Ytlajboohkkbgdaa (rightB startsL Fo.it Fo.Forest Fo.OnCyc)
set_option linter.unusedSimpArgs false
set_option linter.unusedVariables false

theorem cs_fB (l : List SP) (P : List Int) (hP : P.length ≤ 60) : clamp_Starts.f l P = some (if rightB (l.map spOf) P then (startsL l P, true) else ([], false)) := by
  unfold clamp_Starts.f
  rw [if_pos (by omega)]
theorem great_smallB {l : List SP} (h : greatB l = false) : l.length ≤ 60 := by
  unfold greatB at h
  simp only [Bool.or_eq_false_iff, decide_eq_false_iff_not] at h
  omega
theorem right_all {l : List SP} {o : List Int} (hm : allMay l = true) (ho : o.length = l.length) (hF : Fo.Forest o) : rightB (l.map spOf) o = true := by
  unfold rightB
  rw [List.length_map, decide_eq_true ho.symm, (Go.Proofs.Ytlajboohkkbgdaa.forestB_iff o).2 hF]
  unfold allMay at hm
  rw [hm]
  rfl

/-! ### sums and greatest -/
def sumTo (f : Nat → Int) : Nat → Int
  | 0 => 0
  | n + 1 => sumTo f n + f n
theorem sumTo_le (f g : Nat → Int) : ∀ n, (∀ j, j < n → f j ≤ g j) → sumTo f n ≤ sumTo g n
  | 0, _ => Int.le_refl _
  | n + 1, h => by
    have h1 := sumTo_le f g n (fun j hj => h j (by omega))
    have h2 := h n (by omega)
    simp only [sumTo]
    omega
theorem sumTo_one (f g : Nat → Int) (p : Nat) (v : Int) : ∀ n, p < n → (∀ j, j < n → j ≠ p → f j ≤ g j) → f p + v ≤ g p → sumTo f n + v ≤ sumTo g n
  | 0, hp, _, _ => by omega
  | n + 1, hp, h, hv => by
    simp only [sumTo]
    by_cases e : p = n
    · subst e
      have h1 := sumTo_le f g p (fun j hj => h j (by omega) (by omega))
      omega
    · have h1 := sumTo_one f g p v n (by omega) (fun j hj hne => h j (by omega) hne) hv
      have h2 := h n (by omega) (by omega)
      omega
theorem sumTo_bd (f : Nat → Int) : ∀ n, (∀ j, j < n → 0 ≤ f j ∧ f j ≤ 1125899906842624) → 0 ≤ sumTo f n ∧ sumTo f n ≤ 1125899906842624 * (n : Int)
  | 0, _ => ⟨Int.le_refl _, by simp [sumTo]⟩
  | n + 1, h => by
    have h1 := sumTo_bd f n (fun j hj => h j (by omega))
    have h2 := h n (by omega)
    simp only [sumTo]
    omega
def maxTo (f : Nat → Int) : Nat → Int
  | 0 => 0
  | n + 1 => mx (maxTo f n) (f n)
theorem maxTo_bd (f : Nat → Int) : ∀ n, (∀ j, j < n → 0 ≤ f j ∧ f j < 1125899906842624) → 0 ≤ maxTo f n ∧ maxTo f n < 1125899906842624 ∧ ∀ j, j < n → f j ≤ maxTo f n
  | 0, _ => ⟨Int.le_refl _, by simp [maxTo], fun j hj => by omega⟩
  | n + 1, h => by
    obtain ⟨h1, h2, h3⟩ := maxTo_bd f n (fun j hj => h j (by omega))
    have h4 := h n (by omega)
    simp only [maxTo]
    unfold mx
    split
    · refine ⟨h4.1, h4.2, fun j hj => ?_⟩
      rcases Nat.lt_or_ge j n with h' | h'
      · have := h3 j h'; omega
      · obtain rfl : j = n := by omega
        omega
    · refine ⟨h1, h2, fun j hj => ?_⟩
      rcases Nat.lt_or_ge j n with h' | h'
      · exact h3 j h'
      · obtain rfl : j = n := by omega
        omega

open Classical in
/-- No start is later than the latest one and all durations together. -/
theorem starts_le {l : List SP} {P : List Int} (h : Rt l P) (hl : l.length ≤ 60) (i : Nat) (hi : i < l.length) : (startsL l P).getD i 0 ≤ maxTo (fun j => (l.getD j zS).f6) l.length + sumTo (fun j => (l.getD j zS).f7) l.length := by
  have hmx := maxTo_bd (fun j => (l.getD j zS).f6) l.length (fun j hj => (h.may j hj).1)
  let g : Nat → Nat → Int := fun i j => if ∃ m, 0 < m ∧ Fo.it P m (i : Int) = (j : Int) then (l.getD j zS).f7 else 0
  have key := h.ind (fun i _ => (startsL l P).getD i 0 ≤ maxTo (fun j => (l.getD j zS).f6) l.length + sumTo (g i) l.length) ?_ ?_ i hi
  · obtain ⟨_, _, _, hk⟩ := key
    have := sumTo_le (g i) (fun j => (l.getD j zS).f7) l.length (fun j hj => by
      show (if _ then _ else _) ≤ _
      split
      · exact Int.le_refl _
      · exact (h.may j hj).2.1)
    omega
  · intro i hi h0
    rw [starts_at h hl i hi, stP, if_pos h0]
    have h1 := hmx.2.2 i hi
    have h2 := sumTo_le (fun _ => 0) (g i) l.length (fun j hj => by
      show (0 : Int) ≤ (if _ then _ else _)
      split
      · exact (h.may j hj).2.1
      · exact Int.le_refl _)
    have h3 : ∀ n, sumTo (fun _ => (0 : Int)) n = 0 := by
      intro n
      induction n with
      | zero => rfl
      | succ n ih => simp only [sumTo, ih]; omega
    rw [h3] at h2
    omega
  · intro i p k hi hp hpi ih _ _
    have hnx : Fo.it P 1 (i : Int) = (p : Int) := by
      show Go.Proofs.Ytlajboohkkbgdaa.Fo.nx P (i : Int) = _
      rw [Go.Proofs.Ytlajboohkkbgdaa.Fo.nx_nat, hpi]
    -- what stands above p stands above i, and p itself, which stands not above itself
    have hsum : sumTo (g p) l.length + (l.getD p zS).f7 ≤ sumTo (g i) l.length := by
      refine sumTo_one (g p) (g i) p _ l.length hp (fun j hj hne => ?_) ?_
      · show (if _ then _ else _) ≤ (if _ then _ else _)
        by_cases hc : ∃ m, 0 < m ∧ Fo.it P m (p : Int) = (j : Int)
        · obtain ⟨m, hm, he⟩ := hc
          rw [if_pos ⟨m, hm, he⟩, if_pos ⟨m + 1, by omega, by rw [Go.Proofs.Ytlajboohkkbgdaa.Fo.it_add, hnx]; exact he⟩]
          exact Int.le_refl _
        · rw [if_neg hc]
          split
          · exact (h.may j hj).2.1
          · exact Int.le_refl _
      · show (if _ then _ else _) + _ ≤ (if _ then _ else _)
        rw [if_neg (fun ⟨m, hm, he⟩ => h.forest.2 (p : Int) ⟨by omega, m, hm, he⟩), if_pos ⟨1, by omega, hnx⟩]
        omega
    have hat := starts_at h hl i hi
    rw [stP, hpi, if_neg (by omega)] at hat
    simp only [Int.toNat_natCast] at hat
    have m1 := h.may i hi
    have m2 := h.may p hp
    have hle : (startsL l P).getD i 0 ≤ (startsL l P).getD p 0 + (l.getD p zS).f7 := by
      rw [hat]
      unfold mx mn
      split
      · omega
      · split <;> split <;> omega
    omega

/-! ### the law's loops -/
theorem cb_l2 (most last : Int) (s : List Int) (hn : s.length ≤ 60) (hb : 0 ≤ most ∧ most ≤ 1152921504606846976) (hc : 0 ≤ last ∧ last ≤ 1152921504606846976) (hs : ∀ i, i < s.length → 0 ≤ s.getD i 0 ∧ s.getD i 0 < last + most) : ∀ (d i : Nat), i + d = s.length →
    Ev (fun k => merkhetlaw19_ClampBounds.l2 k most last s (s.length : Int) (i : Int)) true
  | 0, i, h => by
    refine Ev.step (fun k => by rw [merkhetlaw19_ClampBounds.l2]) ?_
    simp only [if_neg (show ¬ ((i : Int) < (s.length : Int)) by omega), merkhetlaw19_fixed.f, Option.bind_some]
    exact Ev.now _
  | d + 1, i, h => by
    have hi : i < s.length := by omega
    have := hs i hi
    refine Ev.step (fun k => by rw [merkhetlaw19_ClampBounds.l2]) ?_
    simp only [if_pos (show ((i : Int) < (s.length : Int)) by omega), if_pos (show (0 : Int) ≤ (i : Int) by omega), rdI, w1 hi (by omega : s.length ≤ 9223372036854775807), show wrap64 (last + most) = last + most from wr (by omega) (by omega), if_neg (show ¬ s.getD i 0 < 0 by omega), if_neg (show ¬ s.getD i 0 ≥ last + most by omega)]
    exact cb_l2 most last s hn hb hc hs d (i + 1) (by omega)
theorem cb_l1 (most : Int) (l : List SP) (s : List Int) (hl : l.length ≤ 60) (r : Bool) (h : Ev (fun k => merkhetlaw19_ClampBounds.l2 k most (maxTo (fun j => (l.getD j zS).f6) l.length) s (s.length : Int) 0) r) : ∀ (d i : Nat), i + d = l.length →
    Ev (fun k => merkhetlaw19_ClampBounds.l1 k s most (maxTo (fun j => (l.getD j zS).f6) i) l (l.length : Int) (i : Int)) r
  | 0, i, hd => by
    refine Ev.step (fun k => by rw [merkhetlaw19_ClampBounds.l1]) ?_
    simp only [if_neg (show ¬ ((i : Int) < (l.length : Int)) by omega)]
    obtain rfl : i = l.length := by omega
    exact h
  | d + 1, i, hd => by
    have hi : i < l.length := by omega
    refine Ev.step (fun k => by rw [merkhetlaw19_ClampBounds.l1]) ?_
    simp only [if_pos (show ((i : Int) < (l.length : Int)) by omega), if_pos (show (0 : Int) ≤ (i : Int) by omega), rdS, w1 hi (by omega : l.length ≤ 9223372036854775807)]
    exact cb_l1 most l s hl r h d (i + 1) (by omega)
theorem cb_l0 (l : List SP) (s : List Int) (hl : l.length ≤ 60) (hd7 : ∀ j, j < l.length → 0 ≤ (l.getD j zS).f7 ∧ (l.getD j zS).f7 ≤ 1125899906842624) (r : Bool) (h : Ev (fun k => merkhetlaw19_ClampBounds.l1 k s (1 + sumTo (fun j => (l.getD j zS).f7) l.length) 0 l (l.length : Int) 0) r) : ∀ (d i : Nat), i + d = l.length →
    Ev (fun k => merkhetlaw19_ClampBounds.l0 k l s (1 + sumTo (fun j => (l.getD j zS).f7) i) l (l.length : Int) (i : Int)) r
  | 0, i, hd => by
    refine Ev.step (fun k => by rw [merkhetlaw19_ClampBounds.l0]) ?_
    simp only [if_neg (show ¬ ((i : Int) < (l.length : Int)) by omega)]
    obtain rfl : i = l.length := by omega
    exact h
  | d + 1, i, hd => by
    have hi : i < l.length := by omega
    have hb := sumTo_bd (fun j => (l.getD j zS).f7) i (fun j hj => hd7 j (by omega))
    have h7 := hd7 i hi
    refine Ev.step (fun k => by rw [merkhetlaw19_ClampBounds.l0]) ?_
    simp only [if_pos (show ((i : Int) < (l.length : Int)) by omega), if_pos (show (0 : Int) ≤ (i : Int) by omega), rdS, w1 hi (by omega : l.length ≤ 9223372036854775807)]
    rw [show wrap64 (1 + sumTo (fun j => (l.getD j zS).f7) i + (l.getD i zS).f7) = 1 + sumTo (fun j => (l.getD j zS).f7) (i + 1) by
      rw [wr (by omega) (by omega)]; simp only [sumTo]; omega]
    exact cb_l0 l s hl hd7 r h d (i + 1) (by omega)

theorem clampBounds_ev (l : List SP) (h0 : ∀ x ∈ l, 0 ≤ x.f3) : Ev (fun k => merkhetlaw19_ClampBounds.f k l) true := by
  unfold merkhetlaw19_ClampBounds.f
  have yes : Ev (fun k => merkhetlaw19_ClampBounds.j0 k l true) true := Ev.step (fun k => by rw [merkhetlaw19_ClampBounds.j0]) (by simp only [if_true]; exact Ev.now _)
  refine Ev.bind (great_ev l) ?_
  cases hg : greatB l with
  | true => simp only [if_true]; exact yes
  | false =>
    simp only [Bool.false_eq_true, if_false]
    have hl := great_smallB hg
    refine Ev.bind (may_ev l (by omega) h0) ?_
    cases hm : allMay l with
    | false => simp only [Bool.false_eq_true, if_false]; exact yes
    | true =>
      simp only [if_true]
      cases hz : ((l.length : Int) == 0) with
      | true => exact yes
      | false =>
        obtain ⟨o, o1, o2, o3⟩ := of_ev l hl
        have hr := right_all hm o2 o3
        have h := rt_of hr
        refine Ev.step (fun k => by rw [merkhetlaw19_ClampBounds.j0]) ?_
        simp only [Bool.false_eq_true, if_false]
        refine Ev.bind o1 ?_
        simp only [cs_fB l o (by omega), Option.bind_some, hr, if_true]
        rw [show (((startsL l o).length : Int) != (l.length : Int)) = false by rw [startsL_length]; simp]
        refine Ev.step (fun k => by rw [merkhetlaw19_ClampBounds.j1]) ?_
        simp only [Bool.false_eq_true, if_false]
        have hmx := maxTo_bd (fun j => (l.getD j zS).f6) l.length (fun j hj => (h.may j hj).1)
        have hsm := sumTo_bd (fun j => (l.getD j zS).f7) l.length (fun j hj => (h.may j hj).2)
        refine cb_l0 l (startsL l o) hl (fun j hj => (h.may j hj).2) true ?_ l.length 0 (by omega)
        refine cb_l1 _ l (startsL l o) hl true ?_ l.length 0 (by omega)
        refine cb_l2 _ _ (startsL l o) (by rw [startsL_length]; exact hl) (by omega) (by omega) (fun i hi => ?_) (startsL l o).length 0 (by omega)
        rw [startsL_length] at hi
        have h1 := starts_le h hl i hi
        have h2 := starts_bd h hl i hi
        omega

theorem clampBounds_any {A0 : Option Addr} {c0 : Nat} {l0 : List SP} {w : World} (h0 : ∀ x ∈ l0, 0 ≤ x.f3) (hr0 : Kd.C k34 w A0 l0.length l0) (hc0 : l0.length ≤ c0) :
    Calls Try.prog 6 #[.slice A0 l0.length c0] w fun e w' => e = .returned (.bool true) ∧ Below w.heap.size w w' := by
  obtain ⟨k, hk⟩ := (clampBounds_ev l0 h0).rounds
  exact merkhetlaw19_ClampBounds.calls k A0 c0 l0 true w hr0 hc0 hk

end Go.Proofs.YtlajboohkkbgdaaX
