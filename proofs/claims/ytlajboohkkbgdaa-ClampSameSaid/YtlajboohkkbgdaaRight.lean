/- parent.Right: whether parents are a forest's. -/
import Derived.Test.YtlajboohkkbgdaaCyc
import Derived.Test.YtlajboohkkbgdaaForQ
namespace Go.Proofs.Ytlajboohkkbgdaa
open Go.RowKit
set_option linter.unusedSimpArgs false
set_option linter.unusedVariables false

theorem right1_any (b : Nat) (x : Bool) (a : Int) (w : World) (h : w.heap[b]? = some (.cells #[.bool x] 4 (0, 0))) :
    Calls Try.prog 39 #[.int .i64 a, .pointer (some ⟨b, 0, none⟩)] w fun e w' => e = .returned (.tuple #[]) ∧ w' = w.setCell ⟨b, 0, none⟩ (.bool false) := by
  have h1 := blk_cell h 0 rfl
  have h2 := blk_free h 0
  clear h
  go_enter Try.func39, Try.ntmps39
  go_wp2
  refine bodyPost_end (results_none rfl _ _ _) rfl ?_
  exact ⟨rfl, rfl⟩

/-- What Right's closure keeps. -/
def RI (w0 : World) (W : World) (E : List Int) : Prop :=
  Below w0.heap.size w0 W ∧ W.heap[w0.heap.size]? = some (.cells #[.bool E.isEmpty] 4 (0, 0))

theorem right1_tells (w0 : World) (P : List Int) (A : Option Addr) (c : Nat) (hA : ∀ ad, A = some ad → 0 < P.length → ad.block < w0.heap.size) :
    Tells 39 #[.pointer (some ⟨w0.heap.size, 0, none⟩)] P (RI w0) A c (w0.heap.size + 1) := by
  refine ⟨enters_of Try.func39 (by kernel_rfl) rfl, ?_, ?_⟩
  · rintro W E a v hB ⟨h1, h2⟩
    refine ⟨h1.setCell (by simp) v, ?_⟩
    rw [Below.heap_setCell _ _ _ _ (by simp)]
    exact h2
  · rintro W E a hB _ ⟨h1, h2⟩ hc ha hR
    refine (right1_any w0.heap.size _ a W h2).mono ?_
    rintro e W' ⟨rfl, rfl⟩
    refine ⟨rfl, ⟨h1.setCell (Nat.le_refl _) _, ?_⟩, hR.setCell_ne (fun ad had hn => by have := hA ad had hn; simp; omega) _, Below.heap_setCell _ _ _ _ (by simp), by simp [World.setCell]⟩
    have := heap_setCell_same W w0.heap.size 0 _ _ (.bool false) h2
    have e : (E ++ [(a : Int)]).isEmpty = false := by simp
    rw [e]
    simpa using this

/-- What Right answers. -/
def RightSaid (P : List Int) (e : Ending) : Prop := ∃ r, e = .returned (.bool r) ∧ (r = true ↔ Fo.Forest P)

set_option maxRecDepth 100000 in
set_option maxHeartbeats 4000000 in
theorem right_any (P : List Int) (A : Option Addr) (c : Nat) (w : World) (hP : Rd w 1 P.length A c (ints P)) (hA : ∀ ad, A = some ad → 0 < P.length → ad.block < w.heap.size) (hn : P.length ≤ 1099511627776) :
    Calls Try.prog 28 #[.slice A P.length c] w fun e w' => RightSaid P e ∧ Below w.heap.size w w' := by
  go_enter Try.func28, Try.ntmps28
  have HA := Lib.hid hA
  have HP := Lib.hid hP
  clear hA hP
  go_wp2
  go_loopg [8] P.length (fun k s8 wr => ∃ i : Nat, i ≤ P.length ∧ P.length - i ≤ k ∧ s8 = .int .i64 i ∧ wr = w ∧ Aside (∀ j, j < i → -1 ≤ P.getD j (-1) ∧ P.getD j (-1) < P.length))
  case atStart => exact ⟨0, Nat.zero_le _, by omega, rfl, rfl, (by intro j hj; omega)⟩
  case round =>
    obtain ⟨i, hi, hk, rfl, rfl, hall⟩ := hrel
    rcases Nat.lt_or_ge i P.length with hlt | hge
    · obtain ⟨b, o, rfl, hlb, hcb⟩ := HP.out.at_ (by omega)
      have hc := hcb i _ (ints_at P i hlt)
      clear hcb
      generalize hp : P.getD i (-1) = p at hc
      have Hp := Lib.hid hp
      clear hp
      by_cases h1 : p < -1
      · have t1 : decide (p < -1) = true := decide_eq_true h1
        go_wp2
        go_ret
        refine ⟨⟨false, rfl, ?_⟩, Below.refl _ _⟩
        simp only [Bool.false_eq_true, false_iff]
        rintro ⟨h2, _⟩
        have := (h2 p (by rw [← Hp.out, List.getD_eq_getElem?_getD, List.getElem?_eq_getElem hlt]; simp)).1
        omega
      · have t1 : decide (p < -1) = false := decide_eq_false h1
        by_cases h2 : (P.length : Int) ≤ p
        · have t2 : decide ((P.length : Int) ≤ p) = true := decide_eq_true h2
          go_wp2
          go_ret
          refine ⟨⟨false, rfl, ?_⟩, Below.refl _ _⟩
          simp only [Bool.false_eq_true, false_iff]
          rintro ⟨h2, _⟩
          have := (h2 p (by rw [← Hp.out, List.getD_eq_getElem?_getD, List.getElem?_eq_getElem hlt]; simp)).2
          omega
        · have t2 : decide ((P.length : Int) ≤ p) = false := decide_eq_false h2
          go_wp2
          go_roundg (P.length - (i + 1))
          case measure => omega
          case rel =>
            refine ⟨i + 1, by omega, Nat.le_refl _, by simp, rfl, fun j hj => ?_⟩
            rcases Nat.lt_or_ge j i with h3 | h3
            · exact hall.out j h3
            · obtain rfl : j = i := by omega
              rw [Hp.out]
              omega
    · obtain rfl : i = P.length := by omega
      have hall' : ∀ p ∈ P, -1 ≤ p ∧ p < (P.length : Int) := by
        intro p hp
        obtain ⟨j, hj, rfl⟩ := List.getElem_of_mem hp
        have := hall.out j hj
        rwa [List.getD_eq_getElem?_getD, List.getElem?_eq_getElem hj] at this
      have HALL := Lib.hid hall'
      clear hall hall'
      have K := cycles_any 39 #[.pointer (some ⟨wr.heap.size, 0, none⟩)] P (RI wr) A c (wr.alloc (.cells #[.bool true] 4)) (HP.out.below ((Below.refl _ _).alloc (Nat.le_refl _) _) (Nat.le_refl _)) (fun ad had hn => by have := HA.out ad had hn; simp; omega) hn
        (fun p hp => (HALL.out p hp).2) (by simpa using right1_tells wr P A c HA.out) (fun W hg hl => ⟨((Below.refl _ _).alloc (Nat.le_refl _) _).grown hg (by simp) (by simp), blk_grown (blk_new wr _ _) hg (by simp)⟩)
      go_wp2_with (go_at_call 38; go_must (refine K.mono ?_; rintro e W ⟨rfl, E, hE, _, hI1, hI2⟩; have hcl := blk_cell hI2 0 rfl))
      go_ret
      refine ⟨⟨_, rfl, ?_⟩, hI1⟩
      rw [List.isEmpty_iff]
      constructor
      · intro h
        exact ⟨HALL.out, hE.some (fun p hp => (HALL.out p hp).2) h⟩
      · rintro ⟨_, h⟩
        exact hE.none h

end Go.Proofs.Ytlajboohkkbgdaa
