/- ClampStarts in plain words. The spans' kinds are no numbers below 0. -/
import Derived.Test.YtlajboohkkbgdaaPure3
import Derived.Test.YtlajboohkkbgdaaPXx8
namespace Go.Proofs.YtlajboohkkbgdaaX
open Go.RowKit Go.Proofs.YtlajboohkkbgdaaW.PrintWords Go.Proofs.YtlajboohkkbgdaaW.PrintMore
open Go.Proofs.Ytlajboohkkbgdaa (rightB startsL)
set_option linter.unusedSimpArgs false
set_option linter.unusedVariables false

theorem cs_f (l : List SP) (P : List Int) (hP : P.length ≤ 60) : clamp_Starts.f l P = some (if rightB (l.map spOf) P then (startsL l P, true) else ([], false)) := by
  unfold clamp_Starts.f
  rw [if_pos (by omega)]
theorem cs_len (l : List SP) (P : List Int) (hl : l.length ≤ 60) : (if rightB (l.map spOf) P then (startsL l P, true) else ([], false)).1.length ≤ 60 := by
  split
  · rw [startsL_length]; exact hl
  · simp
theorem great_small {l : List SP} (h : greatB l = false) : l.length ≤ 60 := by
  unfold greatB at h
  simp only [Bool.or_eq_false_iff, decide_eq_false_iff_not] at h
  omega

theorem clampStarts_ev (l : List SP) (P : List Int) (h0 : ∀ x ∈ l, 0 ≤ x.f3) : Ev (fun k => merkhetlaw19_ClampStarts.f k l P) true := by
  unfold merkhetlaw19_ClampStarts.f
  have yes : Ev (fun k => merkhetlaw19_ClampStarts.j0 k l P true) true := Ev.step (fun k => by rw [merkhetlaw19_ClampStarts.j0]) (by simp only [if_true]; exact Ev.now _)
  refine Ev.bind (great_ev l) ?_
  cases hg : greatB l with
  | true => simp only [if_true]; exact yes
  | false =>
    simp only [Bool.false_eq_true, if_false]
    have hl := great_small hg
    by_cases hP : (P.length : Int) > 60
    · rw [decide_eq_true hP]; exact yes
    rw [decide_eq_false hP]
    have hP' : P.length ≤ 60 := by omega
    obtain ⟨o, o1, o2, _⟩ := of_ev l hl
    have ho : o.length ≤ 60 := by omega
    refine Ev.step (fun k => by rw [merkhetlaw19_ClampStarts.j0]) ?_
    simp only [Bool.false_eq_true, if_false, cs_f l P hP', Option.bind_some]
    refine Ev.bind (rstarts_ev l P hl hP' h0) ?_
    refine Ev.bind o1 ?_
    simp only [cs_f l o ho, Option.bind_some]
    refine Ev.bind o1 ?_
    refine Ev.bind (rstarts_ev l o hl ho h0) ?_
    simp only [merkhetlaw19_fixed.f, Option.bind_some, if_true]
    refine Ev.bind (same_ev _ (Nat.le_trans (cs_len l P hl) (by omega))) ?_
    simp only [if_true, beq_self_eq_true]
    refine Ev.bind (same_ev _ (Nat.le_trans (cs_len l o hl) (by omega))) ?_
    simp only [if_true]
    exact Ev.now _

theorem clampStarts_any {A0 : Option Addr} {c0 : Nat} {l0 : List SP} {A1 : Option Addr} {c1 : Nat} {l1 : List Int} {w : World} (h0 : ∀ x ∈ l0, 0 ≤ x.f3) (hr0 : Kd.C k34 w A0 l0.length l0) (hc0 : l0.length ≤ c0) (hr1 : Kd.C (Kd.int .i64) w A1 l1.length l1) (hc1 : l1.length ≤ c1) :
    Calls Try.prog 3 #[.slice A0 l0.length c0, .slice A1 l1.length c1] w fun e w' => e = .returned (.bool true) ∧ Below w.heap.size w w' := by
  obtain ⟨k, hk⟩ := (clampStarts_ev l0 l1 h0).rounds
  exact merkhetlaw19_ClampStarts.calls k A0 c0 l0 A1 c1 l1 true w hr0 hc0 hr1 hc1 hk

end Go.Proofs.YtlajboohkkbgdaaX
