/- span.letter, span.Name, span.May and the document's. No condition. -/
import Derived.Test.YtlajboohkkbgdaaBase
import Derived.Deep.LoopGhost
import Derived.Deep.QuietTactic
import Derived.BigQuiet
namespace Go.Proofs.Ytlajboohkkbgdaa
open Go.RowKit
set_option linter.unusedSimpArgs false
set_option linter.unusedVariables false

/-- May a byte stand in a name? -/
def letterP (x : Nat) : Bool := (decide (97 ≤ x) && decide (x ≤ 122)) || (decide (48 ≤ x) && decide (x ≤ 57)) || decide (x = 45) || decide (x = 46) || decide (x = 95)

theorem letter_any (x : Nat) (hx : x < 256) (w : World) : Calls Try.prog 42 #[.int .u8 (x : Int)] w fun e w' => e = .returned (.bool (letterP x)) ∧ w = w' := by
  have go : ∀ (r : Bool), letterP x = r → (Calls Try.prog 42 #[.int .u8 (x : Int)] w fun e w' => e = .returned (.bool r) ∧ w = w') → Calls Try.prog 42 #[.int .u8 (x : Int)] w fun e w' => e = .returned (.bool (letterP x)) ∧ w = w' := by
    intro r h1 h2; rw [h1]; exact h2
  rcases Nat.lt_or_ge x 97 with h97 | h97
  · rcases Nat.lt_or_ge x 48 with h48 | h48
    · by_cases h : x = 45
      · subst h
        refine go true (by decide) ?_
        go_enter Try.func42, Try.ntmps42
        go_wp2
        go_ret
        exact ⟨rfl, rfl⟩
      · have h45 := h
        clear h
        by_cases h : x = 46
        · subst h
          refine go true (by decide) ?_
          go_enter Try.func42, Try.ntmps42
          go_wp2
          go_ret
          exact ⟨rfl, rfl⟩
        · refine go false (by simp [letterP]; omega) ?_
          have t0 : decide (97 ≤ x) = false := decide_eq_false (by omega)
          have s0 : decide (97 ≤ (x : Int)) = false := decide_eq_false (by omega)
          have t1 : decide (48 ≤ x) = false := decide_eq_false (by omega)
          have s1 : decide (48 ≤ (x : Int)) = false := decide_eq_false (by omega)
          have t2 : (x == 45) = false := by simp; omega
          have s2 : ((x : Int) == 45) = false := by simp; omega
          have t3 : (x == 46) = false := by simp; omega
          have s3 : ((x : Int) == 46) = false := by simp; omega
          have t4 : (x == 95) = false := by simp; omega
          have s4 : ((x : Int) == 95) = false := by simp; omega
          go_enter Try.func42, Try.ntmps42
          go_wp2
          go_ret
          exact ⟨rfl, rfl⟩
    · rcases Nat.lt_or_ge 57 x with h57 | h57
      · by_cases h : x = 95
        · subst h
          refine go true (by decide) ?_
          go_enter Try.func42, Try.ntmps42
          go_wp2
          go_ret
          exact ⟨rfl, rfl⟩
        · refine go false (by simp [letterP]; omega) ?_
          have t0 : decide (97 ≤ x) = false := decide_eq_false (by omega)
          have s0 : decide (97 ≤ (x : Int)) = false := decide_eq_false (by omega)
          have t1 : decide (48 ≤ x) = true := decide_eq_true (by omega)
          have s1 : decide (48 ≤ (x : Int)) = true := decide_eq_true (by omega)
          have t2 : decide (x ≤ 57) = false := decide_eq_false (by omega)
          have s2 : decide ((x : Int) ≤ 57) = false := decide_eq_false (by omega)
          have t3 : (x == 45) = false := by simp; omega
          have s3 : ((x : Int) == 45) = false := by simp; omega
          have t4 : (x == 46) = false := by simp; omega
          have s4 : ((x : Int) == 46) = false := by simp; omega
          have t5 : (x == 95) = false := by simp; omega
          have s5 : ((x : Int) == 95) = false := by simp; omega
          go_enter Try.func42, Try.ntmps42
          go_wp2
          go_ret
          exact ⟨rfl, rfl⟩
      · refine go true (by simp [letterP]; omega) ?_
        have t0 : decide (97 ≤ x) = false := decide_eq_false (by omega)
        have s0 : decide (97 ≤ (x : Int)) = false := decide_eq_false (by omega)
        have t1 : decide (48 ≤ x) = true := decide_eq_true (by omega)
        have s1 : decide (48 ≤ (x : Int)) = true := decide_eq_true (by omega)
        have t2 : decide (x ≤ 57) = true := decide_eq_true (by omega)
        have s2 : decide ((x : Int) ≤ 57) = true := decide_eq_true (by omega)
        go_enter Try.func42, Try.ntmps42
        go_wp2
        go_ret
        exact ⟨rfl, rfl⟩
  · rcases Nat.lt_or_ge 122 x with h122 | h122
    · refine go false (by simp [letterP]; omega) ?_
      have t0 : decide (97 ≤ x) = true := decide_eq_true (by omega)
      have s0 : decide (97 ≤ (x : Int)) = true := decide_eq_true (by omega)
      have t1 : decide (x ≤ 122) = false := decide_eq_false (by omega)
      have s1 : decide ((x : Int) ≤ 122) = false := decide_eq_false (by omega)
      have t2 : decide (48 ≤ x) = true := decide_eq_true (by omega)
      have s2 : decide (48 ≤ (x : Int)) = true := decide_eq_true (by omega)
      have t3 : decide (x ≤ 57) = false := decide_eq_false (by omega)
      have s3 : decide ((x : Int) ≤ 57) = false := decide_eq_false (by omega)
      have t4 : (x == 45) = false := by simp; omega
      have s4 : ((x : Int) == 45) = false := by simp; omega
      have t5 : (x == 46) = false := by simp; omega
      have s5 : ((x : Int) == 46) = false := by simp; omega
      have t6 : (x == 95) = false := by simp; omega
      have s6 : ((x : Int) == 95) = false := by simp; omega
      go_enter Try.func42, Try.ntmps42
      go_wp2
      go_ret
      exact ⟨rfl, rfl⟩
    · refine go true (by simp [letterP]; omega) ?_
      have t0 : decide (97 ≤ x) = true := decide_eq_true (by omega)
      have s0 : decide (97 ≤ (x : Int)) = true := decide_eq_true (by omega)
      have t1 : decide (x ≤ 122) = true := decide_eq_true (by omega)
      have s1 : decide ((x : Int) ≤ 122) = true := decide_eq_true (by omega)
      go_enter Try.func42, Try.ntmps42
      go_wp2
      go_ret
      exact ⟨rfl, rfl⟩
-- LETTER END

theorem S_get (l : List UInt8) (i : Nat) (h : i < (S l).size) : (S l)[i]'h = l[i]'(by rwa [S_size] at h) := by
  simp [S, ByteArray.getElem_eq_getElem_data]

/-- Is it a name? -/
def nameP (l : List UInt8) : Bool := decide (1 ≤ l.length) && decide (l.length ≤ 16) && l.all fun b => letterP b.toNat

set_option maxRecDepth 100000 in
theorem name_any (l : List UInt8) (w : World) : Calls Try.prog 41 #[.string (S l)] w fun e w' => e = .returned (.bool (nameP l)) ∧ w = w' := by
  have hsz : (S l).size = l.length := S_size l
  rcases Nat.eq_zero_or_pos l.length with h0 | h0
  · have hr : nameP l = false := by simp [nameP, h0]
    rw [hr]
    rw [h0] at hsz
    go_enter Try.func41, Try.ntmps41
    go_wp2
    go_ret
    exact ⟨rfl, rfl⟩
  · rcases Nat.lt_or_ge 16 l.length with h1 | h1
    · have hr : nameP l = false := by
        have : decide (l.length ≤ 16) = false := decide_eq_false (by omega)
        simp [nameP, this]
      rw [hr]
      have t1 : decide ((l.length : Int) < 1) = false := decide_eq_false (by omega)
      have t2 : decide ((16 : Int) < (l.length : Int)) = true := decide_eq_true (by omega)
      have t3 : decide (l.length < 1) = false := decide_eq_false (by omega)
      have t4 : decide (16 < l.length) = true := decide_eq_true (by omega)
      go_enter Try.func41, Try.ntmps41
      go_wp2
      go_ret
      exact ⟨rfl, rfl⟩
    · have t1 : decide ((l.length : Int) < 1) = false := decide_eq_false (by omega)
      have t2 : decide ((16 : Int) < (l.length : Int)) = false := decide_eq_false (by omega)
      have t3 : decide (l.length < 1) = false := decide_eq_false (by omega)
      have t4 : decide (16 < l.length) = false := decide_eq_false (by omega)
      go_enter Try.func41, Try.ntmps41
      go_wp2
      go_loopg [14] l.length (fun k s14 wr => ∃ i : Nat, i ≤ l.length ∧ l.length - i ≤ k ∧ s14 = .int .i64 i ∧ wr = w ∧ Aside ((l.take i).all (fun b => letterP b.toNat) = true))
      case atStart => exact ⟨0, Nat.zero_le _, by omega, rfl, rfl, by simp [Aside]⟩
      case round =>
        obtain ⟨i, hi, hk, rfl, rfl, hall⟩ := hrel
        rcases Nat.lt_or_ge i l.length with hlt | hge
        · have hg := S_get l i (by rw [hsz]; exact hlt)
          cases hq : letterP (l[i].toNat) with
          | true =>
            have hq' : letterP ((S l)[i]'(by rw [hsz]; exact hlt)).toNat = true := by rw [hg]; exact hq
            have HQ := Lib.hid hq
            clear hq hg
            go_wp2_with (go_at_call 42; go_must (refine (letter_any _ (UInt8.toNat_lt _) _).mono ?_; rintro e w' ⟨rfl, rfl⟩))
            go_roundg (l.length - (i + 1))
            case measure => omega
            case rel =>
              refine ⟨i + 1, by omega, Nat.le_refl _, by simp, rfl, ?_⟩
              show _ = true
              rw [List.take_succ_eq_append_getElem hlt, List.all_append, hall.out]
              simpa using HQ.out
          | false =>
            have hq' : letterP ((S l)[i]'(by rw [hsz]; exact hlt)).toNat = false := by rw [hg]; exact hq
            have hr : nameP l = false := by
              have : (l.all fun b => letterP b.toNat) = false := by
                rw [List.all_eq_false]
                exact ⟨l[i], List.getElem_mem hlt, by rw [hq]; simp⟩
              simp only [nameP, this, Bool.and_false]
            have HR := Lib.hid hr
            clear hq hg hr
            go_wp2_with (go_at_call 42; go_must (refine (letter_any _ (UInt8.toNat_lt _) _).mono ?_; rintro e w' ⟨rfl, rfl⟩))
            go_ret
            exact ⟨by rw [HR.out]; rfl, rfl⟩
        · obtain rfl : i = l.length := by omega
          have hr : nameP l = true := by
            have h2 := hall.out
            rw [List.take_length] at h2
            simp only [nameP, h2, Bool.and_true, Bool.and_eq_true, decide_eq_true_eq]
            omega
          have HR := Lib.hid hr
          clear hr
          go_wp2
          go_ret
          exact ⟨by rw [HR.out]; rfl, rfl⟩

end Go.Proofs.Ytlajboohkkbgdaa
