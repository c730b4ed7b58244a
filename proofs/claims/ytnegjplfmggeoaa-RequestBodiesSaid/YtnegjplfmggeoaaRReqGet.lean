/- Contracts of the reference's Get of layer 23. Conditions: lengths as the form's reach gives them. -/
import Derived.Test.YtnegjplfmggeoaaReqGet
namespace Go.Proofs.Ytnegjplfmggeoaa
open Go.RowKit
set_option linter.unusedSimpArgs false
set_option linter.unusedVariables false

/-- What the reference's Get answers. -/
def RGotReq (w : World) (R : (Nat × List UInt8 × Nat) × Nat) (e : Ending) (w' : World) : Prop :=
  ∃ v, e = .returned (.tuple #[.agg #[.int .i64 (R.1.1 : Int), v, .int .u64 (R.1.2.2 : Int)], .int .i64 (R.2 : Int)]) ∧ RdV w' 1 R.1.2.1.length v (bys R.1.2.1) ∧ Below w.heap.size w w'

theorem rget_nil (w : World) :
    Calls Try.prog 17 #[.string (S [])] w fun e w' => RGotReq w (getReq []) e w' := by
  have he : (S []).toList.isEmpty = true := by rw [S_toList]; rfl
  go_enter Try.func17, Try.ntmps17
  go_wp2
  refine bodyPost_ret (v := .tuple #[.agg #[.int .i64 0, .slice none 0 0, .int .u64 0], .int .i64 2]) (by simp [results, Try.results17, go_sem]) rfl ⟨_, rfl, RdV.nil _ _, (Below.refl _ _).alloc (Nat.le_refl _) _⟩

set_option maxRecDepth 100000 in
set_option maxHeartbeats 4000000 in
theorem rget_cons (b : UInt8) (r : List UInt8) (n : Nat) (w : World) (hn : n = r.length) (hm : n + 1 ≤ 140737488355328) :
    Calls Try.prog 17 #[.string (S (b :: r))] w fun e w' => RGotReq w (getReq (b :: r)) e w' := by
  have hs : (S (b :: r)).size = n + 1 := by rw [S_size, List.length_cons, hn]
  have hne : (S (b :: r)).toList.isEmpty = false := by rw [S_toList]; rfl
  have hx : ∀ h, (S (b :: r))[0]'h = b := fun h => by rw [S_get]; rfl
  have hbl : b.toNat < 256 := b.toNat_lt
  have Hn := Lib.hid hn
  clear hn
  by_cases b0 : b.toNat = 0
  · have G : getReq (b :: r) = ((0, [], 0), 4) := by
      have := Hn.out
      have := b0
      simp only [getReq]
      repeat (first | rw [if_pos (by omega)] | rw [if_neg (by omega)])
    have HG := Lib.hid G
    clear G
    have q : ((b.toNat : Int) < 1) := by omega
    clear b0
    go_enter Try.func17, Try.ntmps17
    go_wp2
    rw [HG.out]
    refine bodyPost_ret (v := .tuple #[.agg #[.int .i64 0, .slice none 0 0, .int .u64 0], .int .i64 4]) (by simp [results, Try.results17, go_sem]) rfl ⟨_, rfl, RdV.nil _ _, (Below.refl _ _).alloc (Nat.le_refl _) _⟩
  by_cases b6 : 5 < b.toNat
  · have G : getReq (b :: r) = ((0, [], 0), 4) := by
      have := Hn.out
      have := b6
      simp only [getReq]
      repeat (first | rw [if_pos (by omega)] | rw [if_neg (by omega)])
    have HG := Lib.hid G
    clear G
    have q : ((5 : Int) < b.toNat) := by omega
    go_enter Try.func17, Try.ntmps17
    go_wp2
    rw [HG.out]
    refine bodyPost_ret (v := .tuple #[.agg #[.int .i64 0, .slice none 0 0, .int .u64 0], .int .i64 4]) (by simp [results, Try.results17, go_sem]) rfl ⟨_, rfl, RdV.nil _ _, (Below.refl _ _).alloc (Nat.le_refl _) _⟩
  have p1 : (1 : Int) ≤ b.toNat := by omega
  have p5 : (b.toNat : Int) ≤ 5 := by omega
  by_cases b1 : b.toNat = 1
  · have t1 : ((b.toNat : Int) == 1) = true := beq_iff_eq.2 (by omega)
    have B1 := Lib.hid b1
    clear b1
    by_cases h4 : 4096 < n
    · have G : getReq (b :: r) = ((0, [], 0), 10) := by
        have := Hn.out
        have := B1.out
        simp only [getReq]
        repeat (first | rw [if_pos (by omega)] | rw [if_neg (by omega)])
      have HG := Lib.hid G
      clear G
      go_enter Try.func17, Try.ntmps17
      go_wp2
      rw [HG.out]
      refine bodyPost_ret (v := .tuple #[.agg #[.int .i64 0, .slice none 0 0, .int .u64 0], .int .i64 10]) (by simp [results, Try.results17, go_sem]) rfl ⟨_, rfl, RdV.nil _ _, (Below.refl _ _).alloc (Nat.le_refl _) _⟩
    · have G : getReq (b :: r) = ((1, r, 0), 0) := by
        have := Hn.out
        have := B1.out
        simp only [getReq]
        repeat (first | rw [if_pos (by omega)] | rw [if_neg (by omega)])
      have HG := Lib.hid G
      clear G
      have hex : (S (b :: r)).extract 1 (n + 1) = S r := by rw [S_extract]; simp [Hn.out]
      go_enter Try.func17, Try.ntmps17
      go_wp2_with ((with_reducible refine gate 28 rfl ?_); go_must (refine conv_bytes rfl 9 31 5 _ rfl Try.underlying9 Try.underlying31 Try.underlying5 _ r rfl rfl (by rw [← Hn.out]; omega) ?_; rw [← Hn.out]; intro A c w2 hr hfr hb; have BK := blk_box hb (by simp); have z2 := blk_lt BK; obtain ⟨d0, d1, d2⟩ := blk_cells3 BK; obtain ⟨g0, g1, g2⟩ := blk_free3 BK))
      rw [HG.out]
      refine bodyPost_ret (v := .tuple #[.agg #[.int .i64 1, .slice A n c, .int .u64 0], .int .i64 0]) (by simp [results, Try.results17, go_sem, d0, d1, d2]) rfl ⟨.slice A n c, rfl, ?_, ?_⟩
      · rw [← Hn.out]
        refine ⟨A, c, rfl, ?_⟩
        have hne : ∀ ad : Addr, A = some ad → ad.block ≠ w.heap.size := fun ad had => by have := hfr ad had; simp at this; omega
        exact ((hr.setCell_ne hne _).setCell_ne hne _).setCell_ne hne _
      · exact (((below_step ((Below.refl _ _).alloc (Nat.le_refl _) _) hb (by simp)).setCell (Nat.le_refl _) _).setCell (Nat.le_refl _) _).setCell (Nat.le_refl _) _
  by_cases b4 : b.toNat = 4
  · have t1 : ((b.toNat : Int) == 1) = false := beq_eq_false_iff_ne.2 (by omega)
    have t4 : ((b.toNat : Int) == 4) = true := beq_iff_eq.2 (by omega)
    have B4 := Lib.hid b4
    clear b4 b1
    by_cases h8 : n < 8
    · have G : getReq (b :: r) = ((0, [], 0), 2) := by
        have := Hn.out
        have := B4.out
        simp only [getReq]
        repeat (first | rw [if_pos (by omega)] | rw [if_neg (by omega)])
      have HG := Lib.hid G
      clear G
      go_enter Try.func17, Try.ntmps17
      go_wp2
      rw [HG.out]
      refine bodyPost_ret (v := .tuple #[.agg #[.int .i64 0, .slice none 0 0, .int .u64 0], .int .i64 2]) (by simp [results, Try.results17, go_sem]) rfl ⟨_, rfl, RdV.nil _ _, (Below.refl _ _).alloc (Nat.le_refl _) _⟩
    · by_cases h9 : 8 < n
      · have G : getReq (b :: r) = ((0, [], 0), 3) := by
          have := Hn.out
          have := B4.out
          simp only [getReq]
          repeat (first | rw [if_pos (by omega)] | rw [if_neg (by omega)])
        have HG := Lib.hid G
        clear G
        go_enter Try.func17, Try.ntmps17
        go_wp2
        rw [HG.out]
        refine bodyPost_ret (v := .tuple #[.agg #[.int .i64 0, .slice none 0 0, .int .u64 0], .int .i64 3]) (by simp [results, Try.results17, go_sem]) rfl ⟨_, rfl, RdV.nil _ _, (Below.refl _ _).alloc (Nat.le_refl _) _⟩
      · obtain rfl : n = 8 := by omega
        have G : getReq (b :: r) = ((4, [], leNat r), 0) := by
          have := Hn.out
          have := B4.out
          simp only [getReq]
          repeat (first | rw [if_pos (by omega)] | rw [if_neg (by omega)])
        have HG := Lib.hid G
        clear G
        have T8 : Hid (((b :: r).drop 1).take 8 = r) := by show List.take 8 r = r; exact List.take_of_length_le (by rw [← Hn.out]; omega)
        go_enter Try.func17, Try.ntmps17
        go_wp2_with (go_at_call 26; go_must (refine (rget_yes (b :: r) 1 8 8 _ (by simp; have := Hn.out; omega) (by omega) (by decide) (by simp; have := Hn.out; omega)).mono ?_; rintro e w2 ⟨rfl, rfl⟩))
        rw [HG.out]
        refine bodyPost_ret (v := .tuple #[.agg #[.int .i64 4, .slice none 0 0, .int .u64 (leNat (((b :: r).drop 1).take 8))], .int .i64 0]) (by simp [results, Try.results17, go_sem]) rfl ⟨_, by rw [T8.out]; rfl, RdV.nil _ _, (Below.refl _ _).alloc (Nat.le_refl _) _⟩
  by_cases b2 : b.toNat = 2
  · have t1 : ((b.toNat : Int) == 1) = false := beq_eq_false_iff_ne.2 (by omega)
    have t4 : ((b.toNat : Int) == 4) = false := beq_eq_false_iff_ne.2 (by omega)
    have B1 := Lib.hid b1
    have B4 := Lib.hid b4
    have B2 := Lib.hid b2
    clear b2 b1 b4
    by_cases h0 : 0 < n
    · have G : getReq (b :: r) = ((0, [], 0), 3) := by
        have := Hn.out
        have := B1.out
        have := B4.out
        have := B2.out
        simp only [getReq]
        repeat (first | rw [if_pos (by omega)] | rw [if_neg (by omega)])
      have HG := Lib.hid G
      clear G
      go_enter Try.func17, Try.ntmps17
      go_wp2
      rw [HG.out]
      refine bodyPost_ret (v := .tuple #[.agg #[.int .i64 0, .slice none 0 0, .int .u64 0], .int .i64 3]) (by simp [results, Try.results17, go_sem]) rfl ⟨_, rfl, RdV.nil _ _, (Below.refl _ _).alloc (Nat.le_refl _) _⟩
    · obtain rfl : n = 0 := by omega
      have G : getReq (b :: r) = ((b.toNat, [], 0), 0) := by
        have := Hn.out
        have := B1.out
        have := B4.out
        have := B2.out
        simp only [getReq]
        repeat (first | rw [if_pos (by omega)] | rw [if_neg (by omega)])
      have HG := Lib.hid G
      clear G
      go_enter Try.func17, Try.ntmps17
      go_wp2
      rw [HG.out]
      refine bodyPost_ret (v := .tuple #[.agg #[.int .i64 (b.toNat : Int), .slice none 0 0, .int .u64 0], .int .i64 0]) (by simp [results, Try.results17, go_sem]) rfl ⟨_, rfl, RdV.nil _ _, (Below.refl _ _).alloc (Nat.le_refl _) _⟩
  by_cases b3 : b.toNat = 3
  · have t1 : ((b.toNat : Int) == 1) = false := beq_eq_false_iff_ne.2 (by omega)
    have t4 : ((b.toNat : Int) == 4) = false := beq_eq_false_iff_ne.2 (by omega)
    have B1 := Lib.hid b1
    have B4 := Lib.hid b4
    have B3 := Lib.hid b3
    clear b3 b1 b4
    by_cases h0 : 0 < n
    · have G : getReq (b :: r) = ((0, [], 0), 3) := by
        have := Hn.out
        have := B1.out
        have := B4.out
        have := B3.out
        simp only [getReq]
        repeat (first | rw [if_pos (by omega)] | rw [if_neg (by omega)])
      have HG := Lib.hid G
      clear G
      go_enter Try.func17, Try.ntmps17
      go_wp2
      rw [HG.out]
      refine bodyPost_ret (v := .tuple #[.agg #[.int .i64 0, .slice none 0 0, .int .u64 0], .int .i64 3]) (by simp [results, Try.results17, go_sem]) rfl ⟨_, rfl, RdV.nil _ _, (Below.refl _ _).alloc (Nat.le_refl _) _⟩
    · obtain rfl : n = 0 := by omega
      have G : getReq (b :: r) = ((b.toNat, [], 0), 0) := by
        have := Hn.out
        have := B1.out
        have := B4.out
        have := B3.out
        simp only [getReq]
        repeat (first | rw [if_pos (by omega)] | rw [if_neg (by omega)])
      have HG := Lib.hid G
      clear G
      go_enter Try.func17, Try.ntmps17
      go_wp2
      rw [HG.out]
      refine bodyPost_ret (v := .tuple #[.agg #[.int .i64 (b.toNat : Int), .slice none 0 0, .int .u64 0], .int .i64 0]) (by simp [results, Try.results17, go_sem]) rfl ⟨_, rfl, RdV.nil _ _, (Below.refl _ _).alloc (Nat.le_refl _) _⟩
  by_cases b5 : b.toNat = 5
  · have t1 : ((b.toNat : Int) == 1) = false := beq_eq_false_iff_ne.2 (by omega)
    have t4 : ((b.toNat : Int) == 4) = false := beq_eq_false_iff_ne.2 (by omega)
    have B1 := Lib.hid b1
    have B4 := Lib.hid b4
    have B5 := Lib.hid b5
    clear b5 b1 b4
    by_cases h0 : 0 < n
    · have G : getReq (b :: r) = ((0, [], 0), 3) := by
        have := Hn.out
        have := B1.out
        have := B4.out
        have := B5.out
        simp only [getReq]
        repeat (first | rw [if_pos (by omega)] | rw [if_neg (by omega)])
      have HG := Lib.hid G
      clear G
      go_enter Try.func17, Try.ntmps17
      go_wp2
      rw [HG.out]
      refine bodyPost_ret (v := .tuple #[.agg #[.int .i64 0, .slice none 0 0, .int .u64 0], .int .i64 3]) (by simp [results, Try.results17, go_sem]) rfl ⟨_, rfl, RdV.nil _ _, (Below.refl _ _).alloc (Nat.le_refl _) _⟩
    · obtain rfl : n = 0 := by omega
      have G : getReq (b :: r) = ((b.toNat, [], 0), 0) := by
        have := Hn.out
        have := B1.out
        have := B4.out
        have := B5.out
        simp only [getReq]
        repeat (first | rw [if_pos (by omega)] | rw [if_neg (by omega)])
      have HG := Lib.hid G
      clear G
      go_enter Try.func17, Try.ntmps17
      go_wp2
      rw [HG.out]
      refine bodyPost_ret (v := .tuple #[.agg #[.int .i64 (b.toNat : Int), .slice none 0 0, .int .u64 0], .int .i64 0]) (by simp [results, Try.results17, go_sem]) rfl ⟨_, rfl, RdV.nil _ _, (Below.refl _ _).alloc (Nat.le_refl _) _⟩
  omega

theorem rreqget_any (l : List UInt8) (w : World) (hm : l.length ≤ 140737488355328) :
    Calls Try.prog 17 #[.string (S l)] w fun e w' => RGotReq w (getReq l) e w' := by
  cases l with
  | nil => exact rget_nil w
  | cons b r => exact rget_cons b r r.length w rfl (by simpa using hm)

end Go.Proofs.Ytnegjplfmggeoaa
