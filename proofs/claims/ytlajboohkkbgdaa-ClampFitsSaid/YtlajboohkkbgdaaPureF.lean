/- ClampFits in plain words. The spans' kinds are no numbers below 0. -/
import Derived.Test.YtlajboohkkbgdaaPure3
import Derived.Test.YtlajboohkkbgdaaPXx10
import Derived.Test.YtlajboohkkbgdaaPXx9
namespace Go.Proofs.YtlajboohkkbgdaaX
open Go.RowKit Go.Proofs.YtlajboohkkbgdaaW.PrintWords Go.Proofs.YtlajboohkkbgdaaW.PrintMore
open Go.Proofs.Ytlajboohkkbgdaa (rightB startsL fitsB fitAt badS)
set_option linter.unusedSimpArgs false
set_option linter.unusedVariables false

theorem cs_f' (l : List SP) (P : List Int) (hP : P.length ≤ 60) : clamp_Starts.f l P = some (if rightB (l.map spOf) P then (startsL l P, true) else ([], false)) := by
  unfold clamp_Starts.f
  rw [if_pos (by omega)]
theorem cf_f (l : List SP) (P st : List Int) (hP : P.length ≤ 60) : clamp_Fits.f l P st = some (fitsB l P st) := by
  unfold clamp_Fits.f
  rw [if_pos (by omega)]
theorem great_small' {l : List SP} (h : greatB l = false) : l.length ≤ 60 := by
  unfold greatB at h
  simp only [Bool.or_eq_false_iff, decide_eq_false_iff_not] at h
  omega

/-- What is told fits. -/
theorem told_fits {l : List SP} {P : List Int} (hr : rightB (l.map spOf) P = true) (hl : l.length ≤ 60) : fitsB l P (startsL l P) = true := by
  have h := rt_of hr
  unfold fitsB
  rw [hr, Bool.true_and, decide_eq_true (startsL_length l P), Bool.true_and, Bool.and_eq_true, Bool.not_eq_true', List.any_eq_false, List.all_eq_true]
  constructor
  · intro x hx
    obtain ⟨i, hi, rfl⟩ := List.mem_iff_getElem.1 hx
    have hb := starts_bd h hl i (by rwa [startsL_length] at hi)
    rw [getD_at _ _ _ hi] at hb
    simp only [badS, Bool.or_eq_true, decide_eq_true_eq]
    omega
  · intro i hi
    have hi' := List.mem_range.1 hi
    have ha := starts_at h hl i hi'
    unfold fitAt
    by_cases h0 : P.getD i (-1) < 0
    · rw [if_pos h0, ha, stP, if_pos h0]
      exact beq_self_eq_true _
    · rw [if_neg h0]
      rw [stP, if_neg h0] at ha
      obtain ⟨p, hp⟩ := Int.eq_ofNat_of_zero_le (show 0 ≤ P.getD i (-1) by omega)
      have hpl : p < l.length := by have := h.par i hi'; omega
      rw [hp] at ha ⊢
      simp only [Int.toNat_natCast] at ha ⊢
      by_cases h1 : (l.getD p zS).f7 < (l.getD i zS).f7
      · rw [if_pos h1]
        rw [if_pos h1] at ha
        rw [ha]
        exact beq_self_eq_true _
      · rw [if_neg h1]
        rw [if_neg h1] at ha
        have m1 := h.may i hi'
        have m2 := h.may p hpl
        have hb : (startsL l P).getD p 0 ≤ (startsL l P).getD i 0 ∧ (startsL l P).getD i 0 + (l.getD i zS).f7 ≤ (startsL l P).getD p 0 + (l.getD p zS).f7 := by
          rw [ha]; unfold mx mn; split <;> split <;> omega
        have c1 : ¬ ((startsL l P).getD i 0 < (startsL l P).getD p 0) := by omega
        have c2 : ¬ ((startsL l P).getD p 0 + (l.getD p zS).f7 < (startsL l P).getD i 0 + (l.getD i zS).f7) := by omega
        have e1 := decide_eq_false c1
        have e2 := decide_eq_false c2
        show (!(decide ((startsL l P).getD i 0 < (startsL l P).getD p 0) || decide ((startsL l P).getD p 0 + (l.getD p zS).f7 < (startsL l P).getD i 0 + (l.getD i zS).f7))) = true
        rw [e1, e2]
        rfl

theorem badS_iff (x : Int) : badS x = true ↔ (x < 0 ∨ x > 1152921504606846975) := by
  simp only [badS, Bool.or_eq_true, decide_eq_true_eq]
  omega
/-- The reference's second loop. -/
theorem rfits_l1 {l : List SP} {P : List Int} (h : Rt l P) (hl : l.length ≤ 60) (st : List Int) (hs : st.length = l.length) (hb : ∀ i, i < l.length → 0 ≤ st.getD i 0 ∧ st.getD i 0 < 1152921504606846976) : ∀ (d i : Nat), i + d = l.length →
    Ev (fun k => merkhetref19_Fits.l1 k l P st (i : Int)) ((List.range' i d).all (fitAt l P st))
  | 0, i, hd => by
    refine Ev.step (fun k => by rw [merkhetref19_Fits.l1]) ?_
    simp only [if_neg (show ¬ ((i : Int) < (l.length : Int)) by omega)]
    exact Ev.now _
  | d + 1, i, hd => by
    have hi : i < l.length := by omega
    have hlen := h.len
    have ih := rfits_l1 h hl st hs hb d (i + 1) (by omega)
    refine Ev.step (fun k => by rw [merkhetref19_Fits.l1]) ?_
    simp only [if_pos (show ((i : Int) < (l.length : Int)) by omega), if_pos (show (0 : Int) ≤ (i : Int) by omega), if_pos (show ((i : Int) < (P.length : Int)) by omega), if_pos (show ((i : Int) < (st.length : Int)) by omega), rdI, rdS, getD_or P i (by omega) 0 (-1)]
    rw [List.range'_succ, List.all_cons]
    unfold fitAt
    have e1 := w1 hi (by omega : l.length ≤ 9223372036854775807)
    by_cases h0 : P.getD i (-1) < 0
    · simp only [if_pos h0]
      refine Ev.step (fun k => by rw [merkhetref19_Fits.j3]) ?_
      by_cases he : st.getD i 0 = (l.getD i zS).f6
      · simp only [show (st.getD i 0 != (l.getD i zS).f6) = false by simp only [bne_eq_false_iff_eq]; exact he, show (st.getD i 0 == (l.getD i zS).f6) = true by simp only [beq_iff_eq]; exact he, Bool.false_eq_true, if_false, if_pos h0, e1, Bool.true_and]
        exact ih
      · simp only [show (st.getD i 0 != (l.getD i zS).f6) = true by simp only [bne_iff_ne]; exact he, show (st.getD i 0 == (l.getD i zS).f6) = false by simp only [beq_eq_false_iff_ne]; exact he, if_true, Bool.false_and]
        exact Ev.now _
    · simp only [if_neg h0]
      obtain ⟨p, hp⟩ := Int.eq_ofNat_of_zero_le (show 0 ≤ P.getD i (-1) by omega)
      have hpl : p < l.length := by have := h.par i hi; omega
      rw [hp]
      simp only [Int.toNat_natCast]
      refine Ev.step (fun k => by rw [merkhetref19_Fits.j3]) ?_
      simp only [Bool.false_eq_true, if_false, if_neg (show ¬ ((p : Int) < 0) by omega), if_pos (show (0 : Int) ≤ (i : Int) by omega), if_pos (show ((i : Int) < (l.length : Int)) by omega), if_pos (show (0 : Int) ≤ (p : Int) by omega), if_pos (show ((p : Int) < (l.length : Int)) by omega), if_pos (show ((i : Int) < (st.length : Int)) by omega), if_pos (show ((p : Int) < (st.length : Int)) by omega), rdI, rdS, e1]
      have m1 := h.may i hi
      have m2 := h.may p hpl
      have b1 := hb i hi
      have b2 := hb p hpl
      by_cases c1 : (l.getD p zS).f7 < (l.getD i zS).f7
      · simp only [if_pos c1, if_pos (show (l.getD i zS).f7 > (l.getD p zS).f7 from c1)]
        by_cases he : st.getD i 0 = st.getD p 0
        · simp only [if_pos he, show (st.getD i 0 == st.getD p 0) = true by simp only [beq_iff_eq]; exact he, Bool.true_and]
          exact ih
        · simp only [if_neg he, show (st.getD i 0 == st.getD p 0) = false by simp only [beq_eq_false_iff_ne]; exact he, Bool.false_and]
          exact Ev.now _
      · simp only [if_neg c1, if_neg (show ¬ (l.getD i zS).f7 > (l.getD p zS).f7 from c1)]
        have e2 : wrap64 (st.getD i 0 + (l.getD i zS).f7) = st.getD i 0 + (l.getD i zS).f7 := wr (by omega) (by omega)
        have e3 : wrap64 (st.getD p 0 + (l.getD p zS).f7) = st.getD p 0 + (l.getD p zS).f7 := wr (by omega) (by omega)
        simp only [e2, e3]
        by_cases c2 : st.getD i 0 < st.getD p 0
        · simp only [if_pos c2, decide_eq_true c2, Bool.true_or, Bool.not_true, Bool.false_and]
          exact Ev.now _
        · simp only [if_neg c2, decide_eq_false c2, Bool.false_or]
          by_cases c3 : st.getD p 0 + (l.getD p zS).f7 < st.getD i 0 + (l.getD i zS).f7
          · simp only [if_pos (show st.getD i 0 + (l.getD i zS).f7 > st.getD p 0 + (l.getD p zS).f7 from c3), decide_eq_true c3, Bool.not_true, Bool.false_and]
            exact Ev.now _
          · simp only [if_neg (show ¬ st.getD i 0 + (l.getD i zS).f7 > st.getD p 0 + (l.getD p zS).f7 from c3), decide_eq_false c3, Bool.not_false, Bool.true_and]
            exact ih
theorem rfits_l0 {l : List SP} {P : List Int} (h : Rt l P) (hl : l.length ≤ 60) (st : List Int) (hs : st.length = l.length) : ∀ (d i : Nat), i + d = l.length → (∀ j, j < i → 0 ≤ st.getD j 0 ∧ st.getD j 0 < 1152921504606846976) →
    Ev (fun k => merkhetref19_Fits.l0 k l P st (i : Int)) (!st.any badS && (List.range l.length).all (fitAt l P st))
  | 0, i, hd, hb => by
    refine Ev.step (fun k => by rw [merkhetref19_Fits.l0]) ?_
    simp only [if_neg (show ¬ ((i : Int) < (st.length : Int)) by omega)]
    have hb' : ∀ j, j < l.length → 0 ≤ st.getD j 0 ∧ st.getD j 0 < 1152921504606846976 := fun j hj => hb j (by omega)
    have hany : st.any badS = false := by
      rw [List.any_eq_false]
      intro x hx
      obtain ⟨j, hj, rfl⟩ := List.mem_iff_getElem.1 hx
      have := hb' j (by omega)
      rw [getD_at _ _ _ hj] at this
      rw [badS_iff]
      omega
    rw [hany, Bool.not_false, Bool.true_and, List.range_eq_range']
    exact rfits_l1 h hl st hs hb' l.length 0 (by omega)
  | d + 1, i, hd, hb => by
    have hi : i < st.length := by omega
    refine Ev.step (fun k => by rw [merkhetref19_Fits.l0]) ?_
    simp only [if_pos (show ((i : Int) < (st.length : Int)) by omega), if_pos (show (0 : Int) ≤ (i : Int) by omega), rdI, w1 hi (by omega : st.length ≤ 9223372036854775807)]
    have bad : badS (st.getD i 0) = true → (!st.any badS && (List.range l.length).all (fitAt l P st)) = false := fun hx => by
      rw [show st.any badS = true from List.any_eq_true.2 ⟨_, List.getElem_mem hi, by rw [getD_at _ _ _ hi] at hx; exact hx⟩]
      rfl
    by_cases c1 : st.getD i 0 < 0
    · simp only [if_pos c1]
      rw [bad ((badS_iff _).2 (.inl c1))]
      exact Ev.now _
    · simp only [if_neg c1]
      by_cases c2 : st.getD i 0 > 1152921504606846975
      · simp only [if_pos c2]
        rw [bad ((badS_iff _).2 (.inr c2))]
        exact Ev.now _
      · simp only [if_neg c2]
        refine rfits_l0 h hl st hs d (i + 1) (by omega) fun j hj => ?_
        rcases Nat.lt_or_ge j i with h' | h'
        · exact hb j h'
        · obtain rfl : j = i := by omega
          omega
theorem rfits_ev (l : List SP) (P st : List Int) (hl : l.length ≤ 60) (hP : P.length ≤ 60) (h0 : ∀ x ∈ l, 0 ≤ x.f3) : Ev (fun k => merkhetref19_Fits.f k l P st) (fitsB l P st) := by
  unfold merkhetref19_Fits.f fitsB
  have no : Ev (fun k => merkhetref19_Fits.j0 k l P st true) false := Ev.step (fun k => by rw [merkhetref19_Fits.j0]) (by simp only [if_true]; exact Ev.now _)
  refine Ev.bind (rright_ev l P (by omega) (by omega) h0) ?_
  cases hr : rightB (l.map spOf) P with
  | false => simp only [Bool.false_eq_true, if_false, Bool.false_and]; exact no
  | true =>
    simp only [if_true, Bool.true_and]
    by_cases hs : st.length = l.length
    · rw [show ((st.length : Int) != (l.length : Int)) = false by simp [hs], decide_eq_true hs, Bool.true_and]
      refine Ev.step (fun k => by rw [merkhetref19_Fits.j0]) ?_
      simp only [Bool.false_eq_true, if_false]
      exact rfits_l0 (rt_of hr) hl st hs l.length 0 (by omega) (by intro j hj; omega)
    · rw [show ((st.length : Int) != (l.length : Int)) = true by simp; omega, decide_eq_false hs, Bool.false_and]
      exact no

theorem clampFits_ev (l : List SP) (P st : List Int) (h0 : ∀ x ∈ l, 0 ≤ x.f3) : Ev (fun k => merkhetlaw19_ClampFits.f k l P st) true := by
  unfold merkhetlaw19_ClampFits.f
  have yes : Ev (fun k => merkhetlaw19_ClampFits.j0 k l P st true) true := Ev.step (fun k => by rw [merkhetlaw19_ClampFits.j0]) (by simp only [if_true]; exact Ev.now _)
  refine Ev.bind (great_ev l) ?_
  cases hg : greatB l with
  | true => simp only [if_true]; exact yes
  | false =>
    simp only [Bool.false_eq_true, if_false]
    have hl := great_small' hg
    by_cases hP : (P.length : Int) > 60
    · simp only [if_pos hP]; exact yes
    simp only [if_neg hP]
    by_cases hS : (st.length : Int) > 60
    · rw [decide_eq_true hS]; exact yes
    rw [decide_eq_false hS]
    have hP' : P.length ≤ 60 := by omega
    refine Ev.step (fun k => by rw [merkhetlaw19_ClampFits.j0]) ?_
    simp only [Bool.false_eq_true, if_false, cs_f' l P hP', cf_f l P _ hP', Option.bind_some, merkhetlaw19_fixed.f, if_true]
    refine Ev.bind (rfits_ev l P st hl hP' h0) ?_
    simp only [beq_self_eq_true, if_true]
    cases hr : rightB (l.map spOf) P with
    | false => simp only [Bool.false_eq_true, if_false]; exact Ev.now _
    | true =>
      simp only [if_true]
      rw [told_fits hr hl]
      exact Ev.now _

theorem clampFits_any {A0 : Option Addr} {c0 : Nat} {l0 : List SP} {A1 : Option Addr} {c1 : Nat} {l1 : List Int} {A2 : Option Addr} {c2 : Nat} {l2 : List Int} {w : World} (h0 : ∀ x ∈ l0, 0 ≤ x.f3) (hr0 : Kd.C k34 w A0 l0.length l0) (hc0 : l0.length ≤ c0) (hr1 : Kd.C (Kd.int .i64) w A1 l1.length l1) (hc1 : l1.length ≤ c1) (hr2 : Kd.C (Kd.int .i64) w A2 l2.length l2) (hc2 : l2.length ≤ c2) :
    Calls Try.prog 7 #[.slice A0 l0.length c0, .slice A1 l1.length c1, .slice A2 l2.length c2] w fun e w' => e = .returned (.bool true) ∧ Below w.heap.size w w' := by
  obtain ⟨k, hk⟩ := (clampFits_ev l0 l1 l2 h0).rounds
  exact merkhetlaw19_ClampFits.calls k A0 c0 l0 A1 c1 l1 A2 c2 l2 true w hr0 hc0 hr1 hc1 hr2 hc2 hk

end Go.Proofs.YtlajboohkkbgdaaX
