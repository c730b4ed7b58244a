/- span.May and the document's. No condition. -/
import Derived.Test.YtlajboohkkbgdaaSpanMay
import Derived.Test.YtlajboohkkbgdaaSpans
import Derived.OpenShut
import Derived.WalkArith
import Derived.Deep.RegionWith
namespace Go.Proofs.Ytlajboohkkbgdaa
open Go.RowKit
set_option linter.unusedSimpArgs false
set_option linter.unusedVariables false

/-- May it be? -/
def mayP (s : Sp) : Bool := decide (s.trace ≠ 0 ∧ s.id ≠ 0 ∧ s.parent ≠ s.id ∧ s.kind ≤ 2 ∧ 0 ≤ s.start ∧ s.start < 1125899906842624 ∧ 0 ≤ s.dur ∧ s.dur ≤ 1125899906842624) && nameP s.host.data.toList && nameP s.name.data.toList

set_option maxRecDepth 100000 in
set_option maxHeartbeats 4000000 in
theorem may_any (s : Sp) (w : World) : Calls Try.prog 31 #[.agg s.cells.toArray] w fun e w' => e = .returned (.bool (mayP s)) ∧ Below w.heap.size w w' := by
  obtain ⟨tr, id, pa, ki, ho, na, st, du⟩ := s
  have H1 : ∀ W : World, Calls Try.prog 41 #[.string ho] W fun e w' => e = .returned (.bool (nameP ho.data.toList)) ∧ W = w' := fun W => name_any ho.data.toList W
  have H2 : ∀ W : World, Calls Try.prog 41 #[.string na] W fun e w' => e = .returned (.bool (nameP na.data.toList)) ∧ W = w' := fun W => name_any na.data.toList W
  have HH := Lib.hid (And.intro H1 H2)
  clear H1 H2
  show Calls _ _ #[.agg #[.int .u64 tr, .int .u64 id, .int .u64 pa, .int .u8 ki, .string ho, .string na, .int .i64 st, .int .i64 du]] _ _
  have fin : ∀ (r : Bool), mayP ⟨tr, id, pa, ki, ho, na, st, du⟩ = r → (Calls Try.prog 31 #[.agg #[.int .u64 tr, .int .u64 id, .int .u64 pa, .int .u8 ki, .string ho, .string na, .int .i64 st, .int .i64 du]] w fun e w' => e = .returned (.bool r) ∧ Below w.heap.size w w') → Calls Try.prog 31 #[.agg #[.int .u64 tr, .int .u64 id, .int .u64 pa, .int .u8 ki, .string ho, .string na, .int .i64 st, .int .i64 du]] w fun e w' => e = .returned (.bool (mayP ⟨tr, id, pa, ki, ho, na, st, du⟩)) ∧ Below w.heap.size w w' := by
    intro r h1 h2; rw [h1]; exact h2
  by_cases c0 : tr = 0
  · refine fin false (by have h : ¬ (tr ≠ 0 ∧ id ≠ 0 ∧ pa ≠ id ∧ ki ≤ 2 ∧ 0 ≤ st ∧ st < 1125899906842624 ∧ 0 ≤ du ∧ du ≤ 1125899906842624) := (by omega); simp only [mayP, decide_eq_false h, Bool.false_and]) ?_
    have t0_0 : (tr == 0) = true := by simpa using c0
    clear c0
    clear fin
    go_enter Try.func31, Try.ntmps31
    go_wp2
    go_ret
    exact ⟨rfl, (Below.refl _ _).alloc (Nat.le_refl _) _⟩
  · by_cases c1 : id = 0
    · refine fin false (by have h : ¬ (tr ≠ 0 ∧ id ≠ 0 ∧ pa ≠ id ∧ ki ≤ 2 ∧ 0 ≤ st ∧ st < 1125899906842624 ∧ 0 ≤ du ∧ du ≤ 1125899906842624) := (by omega); simp only [mayP, decide_eq_false h, Bool.false_and]) ?_
      have t0_0 : (tr == 0) = false := by simpa using c0
      have t1_0 : (id == 0) = true := by simpa using c1
      clear c0 c1
      clear fin
      go_enter Try.func31, Try.ntmps31
      go_wp2
      go_ret
      exact ⟨rfl, (Below.refl _ _).alloc (Nat.le_refl _) _⟩
    · by_cases c2 : pa = id
      · refine fin false (by have h : ¬ (tr ≠ 0 ∧ id ≠ 0 ∧ pa ≠ id ∧ ki ≤ 2 ∧ 0 ≤ st ∧ st < 1125899906842624 ∧ 0 ≤ du ∧ du ≤ 1125899906842624) := (by omega); simp only [mayP, decide_eq_false h, Bool.false_and]) ?_
        have t0_0 : (tr == 0) = false := by simpa using c0
        have t1_0 : (id == 0) = false := by simpa using c1
        have t2_0 : (pa == id) = true := by simpa using c2
        clear c0 c1 c2
        clear fin
        go_enter Try.func31, Try.ntmps31
        go_wp2
        go_ret
        exact ⟨rfl, (Below.refl _ _).alloc (Nat.le_refl _) _⟩
      · by_cases c3 : 2 < ki
        · refine fin false (by have h : ¬ (tr ≠ 0 ∧ id ≠ 0 ∧ pa ≠ id ∧ ki ≤ 2 ∧ 0 ≤ st ∧ st < 1125899906842624 ∧ 0 ≤ du ∧ du ≤ 1125899906842624) := (by omega); simp only [mayP, decide_eq_false h, Bool.false_and]) ?_
          have t0_0 : (tr == 0) = false := by simpa using c0
          have t1_0 : (id == 0) = false := by simpa using c1
          have t2_0 : (pa == id) = false := by simpa using c2
          have t3_0 : decide (2 < ki) = true := decide_eq_true (by omega)
          clear c0 c1 c2 c3
          clear fin
          go_enter Try.func31, Try.ntmps31
          go_wp2
          go_ret
          exact ⟨rfl, (Below.refl _ _).alloc (Nat.le_refl _) _⟩
        · by_cases c4 : st < 0
          · refine fin false (by have h : ¬ (tr ≠ 0 ∧ id ≠ 0 ∧ pa ≠ id ∧ ki ≤ 2 ∧ 0 ≤ st ∧ st < 1125899906842624 ∧ 0 ≤ du ∧ du ≤ 1125899906842624) := (by omega); simp only [mayP, decide_eq_false h, Bool.false_and]) ?_
            have t0_0 : (tr == 0) = false := by simpa using c0
            have t1_0 : (id == 0) = false := by simpa using c1
            have t2_0 : (pa == id) = false := by simpa using c2
            have t3_0 : decide (2 < ki) = false := decide_eq_false (by omega)
            have t4_0 : decide (st < 0) = true := decide_eq_true (by omega)
            clear c0 c1 c2 c3 c4
            clear fin
            go_enter Try.func31, Try.ntmps31
            go_wp2
            go_ret
            exact ⟨rfl, (Below.refl _ _).alloc (Nat.le_refl _) _⟩
          · by_cases c5 : 1125899906842624 ≤ st
            · refine fin false (by have h : ¬ (tr ≠ 0 ∧ id ≠ 0 ∧ pa ≠ id ∧ ki ≤ 2 ∧ 0 ≤ st ∧ st < 1125899906842624 ∧ 0 ≤ du ∧ du ≤ 1125899906842624) := (by omega); simp only [mayP, decide_eq_false h, Bool.false_and]) ?_
              have t0_0 : (tr == 0) = false := by simpa using c0
              have t1_0 : (id == 0) = false := by simpa using c1
              have t2_0 : (pa == id) = false := by simpa using c2
              have t3_0 : decide (2 < ki) = false := decide_eq_false (by omega)
              have t4_0 : decide (st < 0) = false := decide_eq_false (by omega)
              have t5_0 : decide (1125899906842624 ≤ st) = true := decide_eq_true (by omega)
              have t5_1 : decide (1125899906842623 < st) = true := decide_eq_true (by omega)
              clear c0 c1 c2 c3 c4 c5
              clear fin
              go_enter Try.func31, Try.ntmps31
              go_wp2
              go_ret
              exact ⟨rfl, (Below.refl _ _).alloc (Nat.le_refl _) _⟩
            · by_cases c6 : du < 0
              · refine fin false (by have h : ¬ (tr ≠ 0 ∧ id ≠ 0 ∧ pa ≠ id ∧ ki ≤ 2 ∧ 0 ≤ st ∧ st < 1125899906842624 ∧ 0 ≤ du ∧ du ≤ 1125899906842624) := (by omega); simp only [mayP, decide_eq_false h, Bool.false_and]) ?_
                have t0_0 : (tr == 0) = false := by simpa using c0
                have t1_0 : (id == 0) = false := by simpa using c1
                have t2_0 : (pa == id) = false := by simpa using c2
                have t3_0 : decide (2 < ki) = false := decide_eq_false (by omega)
                have t4_0 : decide (st < 0) = false := decide_eq_false (by omega)
                have t5_0 : decide (1125899906842624 ≤ st) = false := decide_eq_false (by omega)
                have t5_1 : decide (1125899906842623 < st) = false := decide_eq_false (by omega)
                have t6_0 : decide (du < 0) = true := decide_eq_true (by omega)
                clear c0 c1 c2 c3 c4 c5 c6
                clear fin
                go_enter Try.func31, Try.ntmps31
                go_wp2
                go_ret
                exact ⟨rfl, (Below.refl _ _).alloc (Nat.le_refl _) _⟩
              · by_cases c7 : 1125899906842624 < du
                · refine fin false (by have h : ¬ (tr ≠ 0 ∧ id ≠ 0 ∧ pa ≠ id ∧ ki ≤ 2 ∧ 0 ≤ st ∧ st < 1125899906842624 ∧ 0 ≤ du ∧ du ≤ 1125899906842624) := (by omega); simp only [mayP, decide_eq_false h, Bool.false_and]) ?_
                  have t0_0 : (tr == 0) = false := by simpa using c0
                  have t1_0 : (id == 0) = false := by simpa using c1
                  have t2_0 : (pa == id) = false := by simpa using c2
                  have t3_0 : decide (2 < ki) = false := decide_eq_false (by omega)
                  have t4_0 : decide (st < 0) = false := decide_eq_false (by omega)
                  have t5_0 : decide (1125899906842624 ≤ st) = false := decide_eq_false (by omega)
                  have t5_1 : decide (1125899906842623 < st) = false := decide_eq_false (by omega)
                  have t6_0 : decide (du < 0) = false := decide_eq_false (by omega)
                  have t7_0 : decide (1125899906842624 < du) = true := decide_eq_true (by omega)
                  clear c0 c1 c2 c3 c4 c5 c6 c7
                  clear fin
                  go_enter Try.func31, Try.ntmps31
                  go_wp2
                  go_ret
                  exact ⟨rfl, (Below.refl _ _).alloc (Nat.le_refl _) _⟩
                · cases hh : nameP ho.data.toList with
                  | false =>
                    refine fin false (by simp only [mayP, hh, Bool.and_false, Bool.false_and]) ?_
                    have t0_0 : (tr == 0) = false := by simpa using c0
                    have t1_0 : (id == 0) = false := by simpa using c1
                    have t2_0 : (pa == id) = false := by simpa using c2
                    have t3_0 : decide (2 < ki) = false := decide_eq_false (by omega)
                    have t4_0 : decide (st < 0) = false := decide_eq_false (by omega)
                    have t5_0 : decide (1125899906842624 ≤ st) = false := decide_eq_false (by omega)
                    have t5_1 : decide (1125899906842623 < st) = false := decide_eq_false (by omega)
                    have t6_0 : decide (du < 0) = false := decide_eq_false (by omega)
                    have t7_0 : decide (1125899906842624 < du) = false := decide_eq_false (by omega)
                    clear c0 c1 c2 c3 c4 c5 c6 c7
                    clear fin
                    have G1 := HH.out.1
                    simp only [hh] at G1
                    have G2 := HH.out.2
                    have HG := Lib.hid (And.intro G1 G2)
                    clear G1 G2 HH hh
                    go_enter Try.func31, Try.ntmps31
                    go_wp2_with (first | (go_at_call_of 41 (Value.string ho); refine (HG.out.1 _).mono ?_; rintro e w' ⟨rfl, rfl⟩) | (go_at_call_of 41 (Value.string na); refine (HG.out.2 _).mono ?_; rintro e w' ⟨rfl, rfl⟩))
                    go_ret
                    exact ⟨rfl, (Below.refl _ _).alloc (Nat.le_refl _) _⟩
                  | true =>
                    cases hn : nameP na.data.toList with
                    | false =>
                      refine fin false (by simp only [mayP, hn, Bool.and_false]) ?_
                      have t0_0 : (tr == 0) = false := by simpa using c0
                      have t1_0 : (id == 0) = false := by simpa using c1
                      have t2_0 : (pa == id) = false := by simpa using c2
                      have t3_0 : decide (2 < ki) = false := decide_eq_false (by omega)
                      have t4_0 : decide (st < 0) = false := decide_eq_false (by omega)
                      have t5_0 : decide (1125899906842624 ≤ st) = false := decide_eq_false (by omega)
                      have t5_1 : decide (1125899906842623 < st) = false := decide_eq_false (by omega)
                      have t6_0 : decide (du < 0) = false := decide_eq_false (by omega)
                      have t7_0 : decide (1125899906842624 < du) = false := decide_eq_false (by omega)
                      clear c0 c1 c2 c3 c4 c5 c6 c7
                      clear fin
                      have G1 := HH.out.1
                      simp only [hh] at G1
                      have G2 := HH.out.2
                      simp only [hn] at G2
                      have HG := Lib.hid (And.intro G1 G2)
                      clear G1 G2 HH hh hn
                      go_enter Try.func31, Try.ntmps31
                      go_wp2_with (first | (go_at_call_of 41 (Value.string ho); refine (HG.out.1 _).mono ?_; rintro e w' ⟨rfl, rfl⟩) | (go_at_call_of 41 (Value.string na); refine (HG.out.2 _).mono ?_; rintro e w' ⟨rfl, rfl⟩))
                      go_ret
                      exact ⟨rfl, (Below.refl _ _).alloc (Nat.le_refl _) _⟩
                    | true =>
                      refine fin true (by have h : (tr ≠ 0 ∧ id ≠ 0 ∧ pa ≠ id ∧ ki ≤ 2 ∧ 0 ≤ st ∧ st < 1125899906842624 ∧ 0 ≤ du ∧ du ≤ 1125899906842624) := (by omega); simp only [mayP, decide_eq_true h, hh, hn, Bool.and_true]) ?_
                      have t0_0 : (tr == 0) = false := by simpa using c0
                      have t1_0 : (id == 0) = false := by simpa using c1
                      have t2_0 : (pa == id) = false := by simpa using c2
                      have t3_0 : decide (2 < ki) = false := decide_eq_false (by omega)
                      have t4_0 : decide (st < 0) = false := decide_eq_false (by omega)
                      have t5_0 : decide (1125899906842624 ≤ st) = false := decide_eq_false (by omega)
                      have t5_1 : decide (1125899906842623 < st) = false := decide_eq_false (by omega)
                      have t6_0 : decide (du < 0) = false := decide_eq_false (by omega)
                      have t7_0 : decide (1125899906842624 < du) = false := decide_eq_false (by omega)
                      clear c0 c1 c2 c3 c4 c5 c6 c7
                      clear fin
                      have G1 := HH.out.1
                      simp only [hh] at G1
                      have G2 := HH.out.2
                      simp only [hn] at G2
                      have HG := Lib.hid (And.intro G1 G2)
                      clear G1 G2 HH hh hn
                      go_enter Try.func31, Try.ntmps31
                      go_wp2_with (first | (go_at_call_of 41 (Value.string ho); refine (HG.out.1 _).mono ?_; rintro e w' ⟨rfl, rfl⟩) | (go_at_call_of 41 (Value.string na); refine (HG.out.2 _).mono ?_; rintro e w' ⟨rfl, rfl⟩))
                      go_ret
                      exact ⟨rfl, (Below.refl _ _).alloc (Nat.le_refl _) _⟩

end Go.Proofs.Ytlajboohkkbgdaa
