/- merkhetref01.Name. No condition. -/
import Derived.Test.YtlajboohkkbgdaaSpanMay
import Derived.Deep.CutBlock
namespace Go.Proofs.Ytlajboohkkbgdaa
open Go.RowKit
set_option linter.unusedSimpArgs false
set_option linter.unusedVariables false

theorem Below.drewN {B : Nat} {a w : World} (h : Below B a w) (q : Nat) : Below B a (w.drewN q) := ⟨h.os, h.tape, h.output, h.size, h.block⟩

/-- The document's signs. -/
def signs : List UInt8 := [97, 98, 99, 100, 101, 102, 103, 104, 105, 106, 107, 108, 109, 110, 111, 112, 113, 114, 115, 116, 117, 118, 119, 120, 121, 122, 48, 49, 50, 51, 52, 53, 54, 55, 56, 57, 45, 46, 95]

theorem signs_letter (b : UInt8) : signs.contains b = letterP b.toNat := by
  have h : ∀ n < 256, signs.contains (UInt8.ofNat n) = letterP (UInt8.ofNat n).toNat := by decide +kernel
  have := h b.toNat (UInt8.toNat_lt b)
  simpa using this

theorem byte_beq (a b : UInt8) : ((a.toNat : Int) == (b.toNat : Int)) = (a == b) := by
  rw [Bool.eq_iff_iff]
  simp only [beq_iff_eq]
  constructor
  · intro e
    exact UInt8.toNat_inj.1 (by omega)
  · intro e; rw [e]

theorem sign_step (l : List UInt8) (i : Nat) (hi : i < l.length) (q : Nat) (hq : q < 39) (r : Bool) (h : ((((S signs)[q]'(by rw [S_size]; exact hq)).toNat : Int) == (((S l)[i]'(by rw [S_size]; exact hi)).toNat : Int)) = r) :
    (if r then true else (signs.take q).contains l[i]) = (signs.take (q + 1)).contains l[i] := by
  have hq' : q < signs.length := hq
  have e1 : (signs.take (q + 1)).contains l[i] = ((signs.take q).contains l[i] || (signs[q]'hq' == l[i])) := by
    rw [List.take_succ_eq_append_getElem hq', List.contains_eq_any_beq, List.any_append, List.contains_eq_any_beq]
    have hc : (l[i] == signs[q]'hq') = (signs[q]'hq' == l[i]) := by rw [Bool.eq_iff_iff]; simp only [beq_iff_eq]; exact eq_comm
    simp [hc]
  rw [byte_beq] at h
  have h1 : (S signs)[q]'(by rw [S_size]; exact hq) = signs[q]'hq' := S_get signs q _
  have h2 : (S l)[i]'(by rw [S_size]; exact hi) = l[i] := S_get l i _
  rw [h1, h2] at h
  rw [e1, h]
  cases r <;> simp

/-- Nothing but the order of reads has been drawn. -/
def Drew (w w' : World) : Prop := ∃ q, w' = w.drewN q
theorem Drew.refl (w : World) : Drew w w := ⟨0, rfl⟩
theorem Drew.step {w w' : World} (h : Drew w w') (q : Nat) : Drew w (w'.drewN q) := by
  obtain ⟨m, rfl⟩ := h
  exact ⟨m + q, World.drewN_drewN ..⟩
theorem Drew.below {w w' : World} (h : Drew w w') : Below w.heap.size w w' := by
  obtain ⟨m, rfl⟩ := h
  exact Below.drewN (Below.refl _ _) m

set_option maxRecDepth 100000 in
set_option maxHeartbeats 4000000 in
theorem rname_any (l : List UInt8) (w : World) : Calls Try.prog 36 #[.string (S l)] w fun e w' => e = .returned (.bool (nameP l)) ∧ Drew w w' := by
  have hsz : (S l).size = l.length := S_size l
  rcases Nat.eq_zero_or_pos l.length with h0 | h0
  · have hr : nameP l = false := by simp [nameP, h0]
    rw [hr]
    obtain rfl : l = [] := List.eq_nil_of_length_eq_zero h0
    have e1 : (S []).toList.isEmpty = true := by rw [S_toList]; rfl
    have e2 : (S []).toList = [] := S_toList []
    clear hsz h0 hr
    go_enter Try.func36, Try.ntmps36
    go_wp2
    go_ret
    exact ⟨rfl, Drew.refl _⟩
  · have e1 : (S l).toList.isEmpty = false := by
      rw [S_toList]
      cases l with
      | nil => simp at h0
      | cons b l => rfl
    have e2 : ¬ (S l).toList = [] := by
      rw [S_toList]
      intro h
      rw [h] at h0
      simp at h0
    rcases Nat.lt_or_ge 16 l.length with h1 | h1
    · have hr : nameP l = false := by
        have : decide (l.length ≤ 16) = false := decide_eq_false (by omega)
        simp [nameP, this]
      rw [hr]
      have t2 : decide ((16 : Int) < (l.length : Int)) = true := decide_eq_true (by omega)
      have t4 : decide (16 < l.length) = true := decide_eq_true (by omega)
      go_enter Try.func36, Try.ntmps36
      go_wp2
      go_ret
      exact ⟨rfl, Drew.refl _⟩
    · have t2 : decide ((16 : Int) < (l.length : Int)) = false := decide_eq_false (by omega)
      have t4 : decide (16 < l.length) = false := decide_eq_false (by omega)
      go_enter Try.func36, Try.ntmps36
      go_wp2
      go_loopg [4] l.length (fun k s4 wr => ∃ i : Nat, i ≤ l.length ∧ l.length - i ≤ k ∧ s4 = .int .i64 i ∧ Aside (Drew w wr) ∧ Aside ((l.take i).all (fun b => letterP b.toNat) = true))
      case atStart => exact ⟨0, Nat.zero_le _, by omega, rfl, Drew.refl _, by simp [Aside]⟩
      case round =>
        obtain ⟨i, hi, hk, rfl, hb, hall⟩ := hrel
        rcases Nat.lt_or_ge i l.length with hlt | hge
        · go_wp2_with fail
          go_loopg [5, 6] 39 (fun k s5 s6 W => ∃ q : Nat, q ≤ 39 ∧ 39 - q ≤ k ∧ s6 = .int .i64 q ∧ s5 = .bool ((signs.take q).contains l[i]) ∧ Aside (Drew w W))
          case atStart => exact ⟨0, Nat.zero_le _, by omega, rfl, by simp, hb⟩
          case round =>
            obtain ⟨q, hq, hqk, rfl, rfl, hb2⟩ := hrel
            rcases Nat.lt_or_ge q 39 with hq9 | hq9
            · go_upto_region 11 with fail
              go_quiet (fail)
              go_wp2
              all_goals
                rename_i hcmp
                go_roundg (39 - (q + 1))
                case measure => omega
                case rel =>
                  refine ⟨q + 1, by omega, Nat.le_refl _, by simp, ?_, Drew.step (hb2.out) _⟩
                  exact congrArg Value.bool (sign_step l i hlt q hq9 _ hcmp)
            · obtain rfl : q = 39 := by omega
              have hs : (signs.take 39).contains l[i] = letterP (l[i].toNat) := by rw [← signs_letter]; rfl
              rw [hs]
              clear hs
              have HI := Lib.hid hall
              clear hall
              cases hq : letterP (l[i].toNat) with
              | true =>
                have HQ := Lib.hid hq
                clear hq
                go_wp2
                go_roundg (l.length - (i + 1))
                case measure => omega
                case rel =>
                  refine ⟨i + 1, by omega, Nat.le_refl _, by simp, hb2.out, ?_⟩
                  show _ = true
                  rw [List.take_succ_eq_append_getElem hlt, List.all_append, HI.out.out]
                  simpa using HQ.out
              | false =>
                have hr : nameP l = false := by
                  have : (l.all fun b => letterP b.toNat) = false := by
                    rw [List.all_eq_false]
                    exact ⟨l[i], List.getElem_mem hlt, by rw [hq]; simp⟩
                  simp only [nameP, this, Bool.and_false]
                have HR := Lib.hid hr
                clear hq hr
                go_wp2
                go_ret
                exact ⟨by rw [HR.out]; rfl, hb2.out⟩
        · obtain rfl : i = l.length := by omega
          have hr : nameP l = true := by
            have h2 := hall.out
            rw [List.take_length] at h2
            simp only [nameP, h2, Bool.and_true, Bool.and_eq_true, decide_eq_true_eq]
            omega
          have HR := Lib.hid hr
          clear hr hall
          go_wp2
          go_ret
          exact ⟨by rw [HR.out]; rfl, hb.out⟩

end Go.Proofs.Ytlajboohkkbgdaa
