/- The reference's parents of spans are a forest's. Up to 60 spans. -/
import Derived.Test.YtlajboohkkbgdaaPure2
import Derived.Test.YtlajboohkkbgdaaPXx6
namespace Go.Proofs.YtlajboohkkbgdaaX
open Go.RowKit Go.Proofs.YtlajboohkkbgdaaW.PrintWords Go.Proofs.YtlajboohkkbgdaaW.PrintMore
open Go.Proofs.Ytlajboohkkbgdaa (forestB Fo.it Fo.nx Fo.OnCyc Fo.Forest Fo.Rng)
set_option linter.unusedSimpArgs false
set_option linter.unusedVariables false

/-! ### on -/
theorem it_mul {Q : List Int} {i : Int} {K : Nat} (h : Fo.it Q K i = i) : ∀ a, Fo.it Q (K * a) i = i
  | 0 => rfl
  | a + 1 => by rw [Nat.mul_succ, Go.Proofs.Ytlajboohkkbgdaa.Fo.it_add, h]; exact it_mul h a
theorem it_diff {Q : List Int} {i : Int} {K a b : Nat} (hK : 0 < K) (h : Fo.it Q K i = i) (hab : a < b) (he : Fo.it Q a i = Fo.it Q b i) : Fo.it Q (b - a) i = i := by
  have hm : a ≤ K * a := Nat.le_mul_of_pos_left _ hK
  have h1 : Fo.it Q (K * a) i = Fo.it Q ((K * a - a) + b) i := by
    have e : K * a = (K * a - a) + a := by omega
    rw [Go.Proofs.Ytlajboohkkbgdaa.Fo.it_add, ← he, ← Go.Proofs.Ytlajboohkkbgdaa.Fo.it_add, ← e]
  rw [it_mul h a] at h1
  have e2 : (K * a - a) + b = (b - a) + K * a := by omega
  rw [e2, Go.Proofs.Ytlajboohkkbgdaa.Fo.it_add, it_mul h a] at h1
  exact h1.symm
theorem period {Q : List Int} (hR : Fo.Rng Q) {i : Nat} (hi : i < Q.length) (hc : Fo.OnCyc Q (i : Int)) : ∃ m, 0 < m ∧ m ≤ Q.length ∧ Fo.it Q m (i : Int) = (i : Int) := by
  obtain ⟨K, hK, hKi⟩ := hc.2
  obtain ⟨a, b, hab, hb, he⟩ := Go.Proofs.Ytlajboohkkbgdaa.Fo.pigeon Q.length (fun j => (Fo.it Q j (i : Int)).toNat) (fun j _ => by
    have h1 := hc.pos j
    have h2 := Go.Proofs.Ytlajboohkkbgdaa.Fo.it_lt hR (x := (i : Int)) (by omega) j
    omega)
  have he' : Fo.it Q a (i : Int) = Fo.it Q b (i : Int) := by
    have h1 := hc.pos a
    have h2 := hc.pos b
    omega
  exact ⟨b - a, by omega, by omega, it_diff hK hKi hab he'⟩
theorem least {Q : List Int} {i : Int} : ∀ m, 0 < m → Fo.it Q m i = i → ∃ L, 0 < L ∧ L ≤ m ∧ Fo.it Q L i = i ∧ ∀ j, 0 < j → j < L → Fo.it Q j i ≠ i := by
  intro m
  induction m using Nat.strongRecOn with
  | _ m ih =>
    intro h0 hm
    by_cases h : ∃ j, 0 < j ∧ j < m ∧ Fo.it Q j i = i
    · obtain ⟨j, j0, jm, hj⟩ := h
      obtain ⟨L, h1, h2, h3, h4⟩ := ih j jm j0 hj
      exact ⟨L, h1, by omega, h3, h4⟩
    · exact ⟨m, h0, Nat.le_refl _, hm, fun j j0 jm hj => h ⟨j, j0, jm, hj⟩⟩

def onB (Q : List Int) (i : Nat) : Bool := (List.range' 1 Q.length).any fun m => decide (Fo.it Q m (i : Int) = (i : Int))
theorem on_l (Q : List Int) (hR : Fo.Rng Q) (hl : Q.length < 9223372036854775807) (i : Nat) (hi : i < Q.length) : ∀ (d m : Nat), m + d = Q.length + 1 → 1 ≤ m →
    Ev (fun k => merkhetref10_on.l0 k Q (i : Int) (m : Int)) ((List.range' m d).any fun m => decide (Fo.it Q m (i : Int) = (i : Int)))
  | 0, m, h, h1 => by
    refine Ev.step (fun k => by rw [merkhetref10_on.l0]) ?_
    simp only [if_neg (show ¬ ((m : Int) ≤ (Q.length : Int)) by omega)]
    exact Ev.now _
  | d + 1, m, h, h1 => by
    refine Ev.step (fun k => by rw [merkhetref10_on.l0]) ?_
    simp only [if_pos (show ((m : Int) ≤ (Q.length : Int)) by omega), w1 (show m < Q.length + 1 by omega) (by omega)]
    refine Ev.bind (up_ev Q hR m (by omega) (i : Int) (by omega)) ?_
    rw [List.range'_succ, List.any_cons]
    by_cases he : Fo.it Q m (i : Int) = (i : Int)
    · simp only [if_pos he]
      rw [decide_eq_true he, Bool.true_or]
      exact Ev.now _
    · simp only [if_neg he]
      rw [decide_eq_false he, Bool.false_or]
      exact on_l Q hR hl i hi d (m + 1) (by omega) (by omega)
theorem on_ev (Q : List Int) (hR : Fo.Rng Q) (hl : Q.length < 9223372036854775807) (i : Nat) (hi : i < Q.length) : Ev (fun k => merkhetref10_on.f k Q (i : Int)) (onB Q i) := by
  have := on_l Q hR hl i hi Q.length 1 (by omega) (by omega)
  exact this
theorem onB_of {Q : List Int} (hR : Fo.Rng Q) {i : Nat} (hi : i < Q.length) (hc : Fo.OnCyc Q (i : Int)) : onB Q i = true := by
  obtain ⟨m, h1, h2, h3⟩ := period hR hi hc
  exact List.any_eq_true.2 ⟨m, by rw [List.mem_range'_1]; omega, decide_eq_true h3⟩
theorem of_onB {Q : List Int} {i : Nat} (h : onB Q i = true) : ∃ m, 0 < m ∧ m ≤ Q.length ∧ Fo.it Q m (i : Int) = (i : Int) := by
  obtain ⟨m, h1, h2⟩ := List.any_eq_true.1 h
  rw [List.mem_range'_1] at h1
  exact ⟨m, by omega, by omega, of_decide_eq_true h2⟩

/-! ### the first loop: parents by number -/
theorem of_l1 (l : List SP) (hl : l.length ≤ 60) (acc : List Int) (hacc : acc.length ≤ 60) (i : Nat) (hi : i < l.length) : ∀ (m : Nat) (p : Int), m ≤ l.length → -1 ≤ p → p < l.length →
    ∃ q : Int, -1 ≤ q ∧ q < l.length ∧ ∀ r, Ev (fun k => merkhetref10_Of.l0 k l (acc ++ [q]) ((i + 1 : Nat) : Int)) r → Ev (fun k => merkhetref10_Of.l1 k l acc (i : Int) p ((m : Int) - 1)) r
  | 0, p, hm, h1, h2 => ⟨p, h1, h2, fun r hr => by
    refine Ev.step (fun k => by rw [merkhetref10_Of.l1]) ?_
    simp only [if_neg (show ¬ (((0 : Nat) : Int) - 1 ≥ 0) by omega), if_pos (show acc.length < 17592186044416 by omega), w1 hi (by omega : l.length ≤ 9223372036854775807)]
    exact hr⟩
  | m + 1, p, hm, h1, h2 => by
    have e1 : ((m + 1 : Nat) : Int) - 1 = (m : Int) := by omega
    have e2 : wrap64 ((m : Int) - 1) = (m : Int) - 1 := wr (by omega) (by omega)
    by_cases c1 : (l.getD i zS).f2 = 0
    · obtain ⟨q, q1, q2, hq⟩ := of_l1 l hl acc hacc i hi m p (by omega) h1 h2
      refine ⟨q, q1, q2, fun r hr => ?_⟩
      have := hq r hr
      rw [e1]
      refine Ev.step (fun k => by rw [merkhetref10_Of.l1]) ?_
      simp only [if_pos (show (m : Int) ≥ 0 by omega), if_pos (show (0 : Int) ≤ (i : Int) by omega), if_pos (show (i : Int) < (l.length : Int) by omega), rdS, if_pos c1, e2]
      exact this
    · by_cases c2 : (l.getD m zS).f1 = (l.getD i zS).f2
      · obtain ⟨q, q1, q2, hq⟩ := of_l1 l hl acc hacc i hi m (m : Int) (by omega) (by omega) (by omega)
        refine ⟨q, q1, q2, fun r hr => ?_⟩
        have := hq r hr
        rw [e1]
        refine Ev.step (fun k => by rw [merkhetref10_Of.l1]) ?_
        simp only [if_pos (show (m : Int) ≥ 0 by omega), if_pos (show (0 : Int) ≤ (i : Int) by omega), if_pos (show (i : Int) < (l.length : Int) by omega), rdS, if_neg c1, if_pos (show (0 : Int) ≤ (m : Int) by omega), if_pos (show (m : Int) < (l.length : Int) by omega), if_pos c2, e2]
        exact this
      · obtain ⟨q, q1, q2, hq⟩ := of_l1 l hl acc hacc i hi m p (by omega) h1 h2
        refine ⟨q, q1, q2, fun r hr => ?_⟩
        have := hq r hr
        rw [e1]
        refine Ev.step (fun k => by rw [merkhetref10_Of.l1]) ?_
        simp only [if_pos (show (m : Int) ≥ 0 by omega), if_pos (show (0 : Int) ≤ (i : Int) by omega), if_pos (show (i : Int) < (l.length : Int) by omega), rdS, if_neg c1, if_pos (show (0 : Int) ≤ (m : Int) by omega), if_pos (show (m : Int) < (l.length : Int) by omega), if_neg c2, e2]
        exact this
def Good (n : Nat) (Q : List Int) : Prop := ∀ q ∈ Q, -1 ≤ q ∧ q < (n : Int)
theorem Good.snoc {n : Nat} {Q : List Int} (h : Good n Q) {q : Int} (h1 : -1 ≤ q) (h2 : q < n) : Good n (Q ++ [q]) := by
  intro x hx
  rcases List.mem_append.1 hx with hx | hx
  · exact h x hx
  · rw [List.mem_singleton.1 hx]; exact ⟨h1, h2⟩
theorem of_l0 (l : List SP) (hl : l.length ≤ 60) : ∀ (d i : Nat) (acc : List Int), i + d = l.length → acc.length = i → Good l.length acc →
    ∃ Q : List Int, Q.length = l.length ∧ Good l.length Q ∧ ∀ r, Ev (fun k => merkhetref10_Of.l2 k l Q [] 0) r → Ev (fun k => merkhetref10_Of.l0 k l acc (i : Int)) r
  | 0, i, acc, h, ha, hg => ⟨acc, by omega, hg, fun r hr => by
    refine Ev.step (fun k => by rw [merkhetref10_Of.l0]) ?_
    simp only [if_neg (show ¬ ((i : Int) < (l.length : Int)) by omega)]
    exact hr⟩
  | d + 1, i, acc, h, ha, hg => by
    have hi : i < l.length := by omega
    obtain ⟨q, q1, q2, hq⟩ := of_l1 l hl acc (by omega) i hi l.length (-1) (Nat.le_refl _) (by omega) (by omega)
    obtain ⟨Q, h1, h2, h3⟩ := of_l0 l hl d (i + 1) (acc ++ [q]) (by omega) (by simp [ha]) (hg.snoc q1 q2)
    refine ⟨Q, h1, h2, fun r hr => ?_⟩
    have := hq r (h3 r hr)
    refine Ev.step (fun k => by rw [merkhetref10_Of.l0]) ?_
    simp only [if_pos (show ((i : Int) < (l.length : Int)) by omega), show wrap64 ((l.length : Int) - 1) = (l.length : Int) - 1 from wr (by omega) (by omega)]
    exact this

/-! ### the second loop: of each cycle one place loses its parent -/
theorem it_succ_at {Q : List Int} {j : Nat} {x : Int} {m : Nat} (h : Fo.it Q j x = (m : Int)) (hm : m < Q.length) : Fo.it Q (j + 1) x = Q.getD m 0 := by
  rw [show j + 1 = 1 + j by omega, Go.Proofs.Ytlajboohkkbgdaa.Fo.it_add, h]
  exact nx_rd Q m hm
theorem of_fin (l : List SP) (Q out : List Int) (ho : out.length ≤ 60) (i : Nat) (hi : i < Q.length) (hQ : Q.length ≤ 60) (b : Bool) (at_ : Int) (r : List Int) (h : Ev (fun k => merkhetref10_Of.l2 k l Q (out ++ [if b then -1 else Q.getD i 0]) ((i + 1 : Nat) : Int)) r) :
    Ev (fun k => merkhetref10_Of.j4 k l Q out (i : Int) b at_ false) r := by
  refine Ev.step (fun k => by rw [merkhetref10_Of.j4]) ?_
  simp only [Bool.false_eq_true, if_false]
  cases b with
  | true =>
    simp only [if_true, if_pos (show out.length < 17592186044416 by omega), w1 hi (by omega : Q.length ≤ 9223372036854775807)]
    exact h
  | false =>
    simp only [Bool.false_eq_true, if_false, if_pos (show (0 : Int) ≤ (i : Int) by omega), if_pos (show (i : Int) < (Q.length : Int) by omega), if_pos (show out.length < 17592186044416 by omega), w1 hi (by omega : Q.length ≤ 9223372036854775807), rdI]
    exact h
theorem of_l3 (l : List SP) (Q out : List Int) (hR : Fo.Rng Q) (ho : out.length ≤ 60) (i : Nat) (hi : i < Q.length) (hQ : Q.length ≤ 60) (hc : Fo.OnCyc Q (i : Int)) (L : Nat) (hL : Fo.it Q L (i : Int) = (i : Int)) (hLm : ∀ j, 0 < j → j < L → Fo.it Q j (i : Int) ≠ (i : Int)) :
    ∀ (d j : Nat), j + d + 1 = L → ∃ v : Int, (v = -1 ∨ v = Q.getD i 0) ∧ ((∀ j, (i : Int) ≤ Fo.it Q j (i : Int)) → v = -1) ∧ ∀ r, Ev (fun k => merkhetref10_Of.l2 k l Q (out ++ [v]) ((i + 1 : Nat) : Int)) r → Ev (fun k => merkhetref10_Of.l3 k l Q out (i : Int) true (Fo.it Q j (i : Int))) r
  | 0, j, h => by
    refine ⟨-1, .inl rfl, fun _ => rfl, fun r hr => ?_⟩
    obtain ⟨m, hm⟩ := Int.eq_ofNat_of_zero_le (hc.pos j)
    have hml : m < Q.length := by have := Go.Proofs.Ytlajboohkkbgdaa.Fo.it_lt hR (x := (i : Int)) (by omega) j; omega
    have hs := it_succ_at hm hml
    rw [show j + 1 = L by omega, hL] at hs
    rw [hm]
    refine Ev.step (fun k => by rw [merkhetref10_Of.l3]) ?_
    simp only [if_true, if_pos (show (0 : Int) ≤ (m : Int) by omega), if_pos (show (m : Int) < (Q.length : Int) by omega), rdI, ← hs, bne_self_eq_false]
    exact of_fin l Q out ho i hi hQ true _ r hr
  | d + 1, j, h => by
    obtain ⟨m, hm⟩ := Int.eq_ofNat_of_zero_le (hc.pos j)
    have hml : m < Q.length := by have := Go.Proofs.Ytlajboohkkbgdaa.Fo.it_lt hR (x := (i : Int)) (by omega) j; omega
    have hs := it_succ_at hm hml
    have hne := hLm (j + 1) (by omega) (by omega)
    by_cases hlt : Fo.it Q (j + 1) (i : Int) < (i : Int)
    · refine ⟨Q.getD i 0, .inr rfl, fun h => absurd (h (j + 1)) (by omega), fun r hr => ?_⟩
      rw [hm]
      refine Ev.step (fun k => by rw [merkhetref10_Of.l3]) ?_
      simp only [if_true, if_pos (show (0 : Int) ≤ (m : Int) by omega), if_pos (show (m : Int) < (Q.length : Int) by omega), rdI, ← hs, show (Fo.it Q (j + 1) (i : Int) != (i : Int)) = true by simpa using hne]
      refine Ev.step (fun k => by rw [merkhetref10_Of.j4]) ?_
      simp only [if_true, if_pos (show (0 : Int) ≤ (m : Int) by omega), if_pos (show (m : Int) < (Q.length : Int) by omega), rdI, ← hs, if_pos hlt]
      refine Ev.step (fun k => by rw [merkhetref10_Of.l3]) ?_
      simp only [Bool.false_eq_true, if_false]
      exact of_fin l Q out ho i hi hQ false _ r hr
    · obtain ⟨v, h1, h2, h3⟩ := of_l3 l Q out hR ho i hi hQ hc L hL hLm d (j + 1) (by omega)
      refine ⟨v, h1, h2, fun r hr => ?_⟩
      have := h3 r hr
      rw [hm]
      refine Ev.step (fun k => by rw [merkhetref10_Of.l3]) ?_
      simp only [if_true, if_pos (show (0 : Int) ≤ (m : Int) by omega), if_pos (show (m : Int) < (Q.length : Int) by omega), rdI, ← hs, show (Fo.it Q (j + 1) (i : Int) != (i : Int)) = true by simpa using hne]
      refine Ev.step (fun k => by rw [merkhetref10_Of.j4]) ?_
      simp only [if_true, if_pos (show (0 : Int) ≤ (m : Int) by omega), if_pos (show (m : Int) < (Q.length : Int) by omega), rdI, ← hs, if_neg hlt]
      exact this
/-- What the second loop has made. -/
def Cut (Q out : List Int) : Prop := ∀ i, i < out.length → (out.getD i 0 = -1 ∨ out.getD i 0 = Q.getD i 0) ∧ (Fo.OnCyc Q (i : Int) → (∀ j, (i : Int) ≤ Fo.it Q j (i : Int)) → out.getD i 0 = -1)
theorem Cut.snoc {Q out : List Int} (h : Cut Q out) {v : Int} (h1 : v = -1 ∨ v = Q.getD out.length 0) (h2 : Fo.OnCyc Q (out.length : Int) → (∀ j, (out.length : Int) ≤ Fo.it Q j (out.length : Int)) → v = -1) : Cut Q (out ++ [v]) := by
  intro i hi
  rw [List.length_append, List.length_singleton] at hi
  rcases Nat.lt_or_ge i out.length with hlt | hge
  · have e : (out ++ [v]).getD i 0 = out.getD i 0 := by rw [List.getD_eq_getElem?_getD, List.getElem?_append_left hlt, List.getD_eq_getElem?_getD]
    rw [e]; exact h i hlt
  · obtain rfl : i = out.length := by omega
    have e : (out ++ [v]).getD out.length 0 = v := by rw [List.getD_eq_getElem?_getD, List.getElem?_append_right (Nat.le_refl _)]; simp
    rw [e]; exact ⟨h1, h2⟩
theorem of_l2 (l : List SP) (Q : List Int) (hR : Fo.Rng Q) (hQ : Q.length ≤ 60) (hlQ : Q.length = l.length) : ∀ (d i : Nat) (out : List Int), i + d = Q.length → out.length = i → Cut Q out →
    ∃ o : List Int, o.length = Q.length ∧ Cut Q o ∧ Ev (fun k => merkhetref10_Of.l2 k l Q out (i : Int)) o
  | 0, i, out, h, ho, hc => ⟨out, by omega, hc, by
    refine Ev.step (fun k => by rw [merkhetref10_Of.l2]) ?_
    simp only [if_neg (show ¬ ((i : Int) < (l.length : Int)) by omega)]
    exact Ev.now _⟩
  | d + 1, i, out, h, ho, hc => by
    have hi : i < Q.length := by omega
    have key : ∃ v : Int, (v = -1 ∨ v = Q.getD i 0) ∧ (Fo.OnCyc Q (i : Int) → (∀ j, (i : Int) ≤ Fo.it Q j (i : Int)) → v = -1) ∧ ∀ r, Ev (fun k => merkhetref10_Of.l2 k l Q (out ++ [v]) ((i + 1 : Nat) : Int)) r → Ev (fun k => merkhetref10_Of.l3 k l Q out (i : Int) (onB Q i) (i : Int)) r := by
      cases hb : onB Q i with
      | true =>
        obtain ⟨m, m1, m2, m3⟩ := of_onB hb
        obtain ⟨L, L1, L2, L3, L4⟩ := least m m1 m3
        obtain ⟨v, v1, v2, v3⟩ := of_l3 l Q out hR (by omega) i hi hQ ⟨by omega, L, L1, L3⟩ L L3 L4 (L - 1) 0 (by omega)
        exact ⟨v, v1, fun _ => v2, v3⟩
      | false =>
        refine ⟨Q.getD i 0, .inr rfl, fun hc => ?_, fun r hr => ?_⟩
        · have := onB_of hR hi hc
          rw [hb] at this; cases this
        · refine Ev.step (fun k => by rw [merkhetref10_Of.l3]) ?_
          simp only [Bool.false_eq_true, if_false]
          exact of_fin l Q out (by omega) i hi hQ false _ r hr
    obtain ⟨v, v1, v2, v3⟩ := key
    obtain ⟨o, o1, o2, o3⟩ := of_l2 l Q hR hQ hlQ d (i + 1) (out ++ [v]) (by omega) (by simp [ho]) (hc.snoc (by rw [ho]; exact v1) (by rw [ho]; exact v2))
    refine ⟨o, o1, o2, ?_⟩
    refine Ev.step (fun k => by rw [merkhetref10_Of.l2]) ?_
    simp only [if_pos (show ((i : Int) < (l.length : Int)) by omega)]
    exact Ev.bind (on_ev Q hR (by omega) i hi) (v3 o o3)

/-- Cutting the least place of each cycle leaves a forest. -/
theorem cut_forest {Q o : List Int} (hg : Good Q.length Q) (hl : o.length = Q.length) (hc : Cut Q o) : Fo.Forest o := by
  have hR : Fo.Rng Q := fun p hp => (hg p hp).2
  refine ⟨fun p hp => ?_, fun x hx => ?_⟩
  · obtain ⟨i, hi, rfl⟩ := List.mem_iff_getElem.1 hp
    have h1 := (hc i hi).1
    rw [getD_at _ _ _ hi] at h1
    rcases h1 with h1 | h1
    · omega
    · rw [h1, hl, getD_at _ _ _ (by omega)]
      exact hg _ (List.getElem_mem _)
  · -- the ways up are the same as long as they do not end
    have hstep : ∀ j, Fo.it o j x = Fo.it Q j x := by
      intro j
      induction j with
      | zero => rfl
      | succ j ih =>
        have hp := hx.pos j
        have hp1 := hx.pos (j + 1)
        rw [show j + 1 = 1 + j by omega, Go.Proofs.Ytlajboohkkbgdaa.Fo.it_add] at hp1 ⊢
        rw [show Fo.it Q (1 + j) x = Fo.it Q 1 (Fo.it Q j x) from Go.Proofs.Ytlajboohkkbgdaa.Fo.it_add ..]
        rw [← ih]
        obtain ⟨m, hm⟩ := Int.eq_ofNat_of_zero_le hp
        rw [hm] at hp1 ⊢
        change 0 ≤ Fo.nx o (m : Int) at hp1
        show Fo.nx o (m : Int) = Fo.nx Q (m : Int)
        rcases Nat.lt_or_ge m o.length with hml | hml
        · rw [nx_rd o m hml] at hp1 ⊢
          rw [nx_rd Q m (by omega)]
          rcases (hc m hml).1 with h | h
          · omega
          · exact h
        · rw [Go.Proofs.Ytlajboohkkbgdaa.Fo.nx_nat, List.getD_eq_getElem?_getD, List.getElem?_eq_none hml] at hp1
          simp at hp1
    have hcQ : Fo.OnCyc Q x := by
      obtain ⟨h0, K, hK, hKx⟩ := hx
      exact ⟨h0, K, hK, by rw [← hstep]; exact hKx⟩
    obtain ⟨K, hK, hKx⟩ := hcQ.2
    -- the least place on the cycle
    have hmin : ∀ (b : Nat), ∀ j, (Fo.it Q j x).toNat ≤ b → ∃ j, ∀ j', Fo.it Q j x ≤ Fo.it Q j' x := by
      intro b
      induction b with
      | zero =>
        intro j hj
        exact ⟨j, fun j' => by have h1 := hcQ.pos j; have h2 := hcQ.pos j'; omega⟩
      | succ b ih =>
        intro j hj
        by_cases h : ∃ j', (Fo.it Q j' x).toNat ≤ b
        · obtain ⟨j', hj'⟩ := h
          exact ih j' hj'
        · exact ⟨j, fun j' => by
            have h1 := hcQ.pos j
            have h2 := hcQ.pos j'
            have h3 : ¬ (Fo.it Q j' x).toNat ≤ b := fun hh => h ⟨j', hh⟩
            omega⟩
    obtain ⟨j, hj⟩ := hmin _ 0 (Nat.le_refl _)
    have hcj := hcQ.it j
    obtain ⟨m, hm⟩ := Int.eq_ofNat_of_zero_le (hcQ.pos j)
    have hxj := hx.it j
    rw [hstep] at hxj
    rw [hm] at hcj hxj
    have hml : m < o.length := by
      rcases Nat.lt_or_ge m o.length with h | h
      · exact h
      · have h1 := hxj.pos 1
        change 0 ≤ Fo.nx o (m : Int) at h1
        rw [Go.Proofs.Ytlajboohkkbgdaa.Fo.nx_nat, List.getD_eq_getElem?_getD, List.getElem?_eq_none h] at h1
        simp at h1
    have hcut := (hc m hml).2 hcj (fun j' => by
      rw [← hm, ← Go.Proofs.Ytlajboohkkbgdaa.Fo.it_add]
      exact hj _)
    have h1 := hxj.pos 1
    change 0 ≤ Fo.nx o (m : Int) at h1
    rw [nx_rd o m hml, hcut] at h1
    omega

theorem of_ev (l : List SP) (hl : l.length ≤ 60) : ∃ o : List Int, Ev (fun k => merkhetref10_Of.f k l) o ∧ o.length = l.length ∧ Fo.Forest o := by
  obtain ⟨Q, q1, q2, q3⟩ := of_l0 l hl l.length 0 [] (by omega) rfl (by intro q hq; simp at hq)
  rw [← q1] at q2
  obtain ⟨o, o1, o2, o3⟩ := of_l2 l Q (fun p hp => (q2 p hp).2) (by omega) q1 Q.length 0 [] (by omega) rfl (by intro i hi; simp at hi)
  exact ⟨o, q3 o o3, by omega, cut_forest q2 o1 o2⟩

end Go.Proofs.YtlajboohkkbgdaaX
