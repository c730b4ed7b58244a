/- Contracts of layer 23's Get and of its reference's. Conditions: lengths as the form's reach gives them. -/
import Derived.Test.YtnegjplfmggeoaaReq
namespace Go.Proofs.Ytnegjplfmggeoaa
open Go.RowKit
set_option linter.unusedSimpArgs false
set_option linter.unusedVariables false

/-- What Get answers. -/
def GotReq (w : World) (R : (Nat × List UInt8 × Nat) × Nat) (e : Ending) (w' : World) : Prop :=
  ∃ v, e = .returned (.tuple #[.agg #[.int .i64 (R.1.1 : Int), v, .int .u64 (R.1.2.2 : Int)], .int .i64 (R.2 : Int)]) ∧ w'.ownsRow w.heap.size 5 1 v R.1.2.1.length (bys R.1.2.1) ∧ Below w.heap.size w w'

theorem get_nil (v : Value) (w : World) (hv : RdV w 1 0 v (bys [])) :
    Calls Try.prog 15 #[v] w fun e w' => GotReq w (getReq []) e w' := by
  obtain ⟨A, c, rfl, hr⟩ := hv
  go_enter Try.func15, Try.ntmps15
  go_wp2
  refine bodyPost_ret (v := .tuple #[.agg #[.int .i64 0, .slice none 0 0, .int .u64 0], .int .i64 2]) (by simp [results, Try.results15, go_sem]) rfl ⟨_, rfl, World.ownsRow_nil _ _ _ _, (Below.refl _ _).alloc (Nat.le_refl _) _⟩

theorem get_cons (v : Value) (b : UInt8) (r : List UInt8) (n : Nat) (w : World) (hv : RdV w 1 (n + 1) v (bys (b :: r))) :
    Calls Try.prog 15 #[v] w fun e w' => GotReq w (getReq (b :: r)) e w' := by
  obtain ⟨A, c, rfl, hr⟩ := hv
  have hr' := hr
  obtain ⟨g, o, rfl, hlt, hc⟩ := hr.at_ (by omega)
  have hn : n = r.length := by have := hr.1; simp [bys] at this; omega
  have c0 : w.cell? ⟨g, o, none⟩ = some (.int .u8 (b.toNat : Int)) := by simpa using hc 0 _ rfl
  have hbl : b.toNat < 256 := b.toNat_lt
  obtain ⟨_, hcap, hmax, _⟩ := hr
  have hr2 : Rd w 1 n (if c = 1 then some ⟨g, o, none⟩ else some ⟨g, o + 1, none⟩) (c - 1) (bys r) := by
    have := hr'.slice 1 (n + 1) (by omega) (Nat.le_refl _)
    have e1 : (((bys (b :: r)).drop (1 * 1)).take ((n + 1 - 1) * 1)) = bys r := by
      rw [show n + 1 - 1 = r.length by omega]
      simp [bys, List.take_of_length_le]
    rw [e1] at this
    simpa [Addr.add] using this
  have Hn := Lib.hid hn
  clear hn hc
  go_enter Try.func15, Try.ntmps15
  go_wp2
  go_region
  have BK0 := blk_drew (blk_alloc (blk_new w #[.int .i64 0, .slice none 0 0, .int .u64 0] 34) (.cells #[.int .i64 (b.toNat : Int), .slice none 0 0, .int .u64 0] 34))
  have BK1 := blk_drew (blk_new (w.alloc (.cells #[.int .i64 0, .slice none 0 0, .int .u64 0] 34)) #[.int .i64 (b.toNat : Int), .slice none 0 0, .int .u64 0] 34)
  have hb1 : Below w.heap.size w ((w.alloc (.cells #[.int .i64 0, .slice none 0 0, .int .u64 0] 34)).alloc (.cells #[.int .i64 (b.toNat : Int), .slice none 0 0, .int .u64 0] 34)).drew := (((Below.refl _ _).alloc (Nat.le_refl _) _).alloc (by simp) _).drew
  have z1 := blk_lt BK1
  simp only [World.size_alloc] at BK1 z1
  generalize ((w.alloc (.cells #[.int .i64 0, .slice none 0 0, .int .u64 0] 34)).alloc (.cells #[.int .i64 (b.toNat : Int), .slice none 0 0, .int .u64 0] 34)).drew = w1 at BK0 BK1 hb1 z1 ⊢
  have hr3 := hr2.below hb1 (Nat.le_refl _)
  generalize (if c = 1 then some (⟨g, o, none⟩ : Addr) else some ⟨g, o + 1, none⟩) = A2 at hr3 ⊢
  clear hr2
  obtain ⟨c00, c01, c02⟩ := blk_cells3 BK0
  obtain ⟨c10, c11, c12⟩ := blk_cells3 BK1
  obtain ⟨f00, f01, f02⟩ := blk_free3 BK0
  obtain ⟨f10, f11, f12⟩ := blk_free3 BK1
  clear hr'
  by_cases b1 : b.toNat = 1
  · have t1 : ((b.toNat : Int) == 1) = true := beq_iff_eq.2 (by omega)
    have B1 := Lib.hid b1
    clear b1
    by_cases h4 : 4096 < n
    · have G : getReq (b :: r) = ((0, [], 0), 10) := by
        have := Hn.out
        have := B1.out
        simp only [getReq]
        repeat (first | rw [if_pos (by omega)] | rw [if_neg (by omega)])
      have HG := Lib.hid G
      clear G
      go_wp2
      rw [HG.out]
      refine bodyPost_ret (v := .tuple #[.agg #[.int .i64 0, .slice none 0 0, .int .u64 0], .int .i64 10]) (by simp [results, Try.results15, go_sem, c00, c01, c02]) rfl ⟨_, rfl, World.ownsRow_nil _ _ _ _, (((hb1).setCell (Nat.le_refl _) _).setCell (Nat.le_refl _) _).setCell (Nat.le_refl _) _⟩
    · have G : getReq (b :: r) = ((1, r, 0), 0) := by
        have := Hn.out
        have := B1.out
        simp only [getReq]
        repeat (first | rw [if_pos (by omega)] | rw [if_neg (by omega)])
      have HG := Lib.hid G
      clear G
      go_wp2_with (go_at_call 24; go_must (refine (clone_any _ n r w1 ⟨_, _, rfl, hr3⟩ (by omega)).mono ?_; rintro e w2 ⟨v2, rfl, hown, hb2⟩; have CK0 := blk_below BK0 hb2 (by omega); have CK1 := blk_below BK1 hb2 (by omega); have z2 := blk_lt CK1; obtain ⟨d00, d01, d02⟩ := blk_cells3 CK0; obtain ⟨d10, d11, d12⟩ := blk_cells3 CK1; obtain ⟨g00, g01, g02⟩ := blk_free3 CK0; obtain ⟨g10, g11, g12⟩ := blk_free3 CK1; clear CK0 CK1; obtain ⟨A3, c3, hv3, hr4⟩ := own_rd hown; subst hv3))
      rw [HG.out]
      refine bodyPost_ret (v := .tuple #[.agg #[.int .i64 (b.toNat : Int), .slice A3 n c3, .int .u64 0], .int .i64 0]) (by simp [results, Try.results15, go_sem, d00, d01, d02, d10, d11, d12]) rfl ⟨.slice A3 n c3, by rw [B1.out]; rfl, ?_, ?_⟩
      · have hbs := hb1.size
        refine own_base (base := w1.heap.size) ?_ hbs
        rw [← Hn.out]
        exact ownsRow_setCell_below (ownsRow_setCell_below (ownsRow_setCell_below (ownsRow_setCell_below hown (by simp; omega) _) (by simp; omega) _) (by simp; omega) _) (by simp; omega) _
      · exact ((((below_step hb1 hb2 hb1.size).setCell (by simp) _).setCell (Nat.le_refl _) _).setCell (Nat.le_refl _) _).setCell (Nat.le_refl _) _
  by_cases b4 : b.toNat = 4
  · have t1 : ((b.toNat : Int) == 1) = false := beq_eq_false_iff_ne.2 (by omega)
    have t4 : ((b.toNat : Int) == 4) = true := beq_iff_eq.2 (by omega)
    have B4 := Lib.hid b4
    clear b4 b1
    by_cases h8 : n < 8
    · have G : getReq (b :: r) = ((0, [], 0), 2) := by
        have := Hn.out
        have := B4.out
        simp only [getReq]
        repeat (first | rw [if_pos (by omega)] | rw [if_neg (by omega)])
      have HG := Lib.hid G
      clear G
      go_wp2_with (go_at_call 25; go_must (refine (get_no _ n r 0 8 w1 ⟨_, _, rfl, hr3⟩ (by omega)).mono ?_; rintro e w2 ⟨rfl, rfl⟩))
      rw [HG.out]
      refine bodyPost_ret (v := .tuple #[.agg #[.int .i64 0, .slice none 0 0, .int .u64 0], .int .i64 2]) (by simp [results, Try.results15, go_sem, c00, c01, c02]) rfl ⟨_, rfl, World.ownsRow_nil _ _ _ _, (((hb1).setCell (Nat.le_refl _) _).setCell (Nat.le_refl _) _).setCell (Nat.le_refl _) _⟩
    · by_cases h9 : 8 < n
      · have G : getReq (b :: r) = ((0, [], 0), 3) := by
          have := Hn.out
          have := B4.out
          simp only [getReq]
          repeat (first | rw [if_pos (by omega)] | rw [if_neg (by omega)])
        have HG := Lib.hid G
        clear G
        go_wp2_with (go_at_call 25; go_must (refine (get_yes _ _ r 0 8 8 w1 ⟨_, _, rfl, hr3⟩ (by omega) (by decide) (by omega)).mono ?_; rintro e w2 ⟨rfl, rfl⟩))
        go_region
        all_goals go_wp2
        all_goals
          rw [HG.out]
          refine bodyPost_ret (v := .tuple #[.agg #[.int .i64 0, .slice none 0 0, .int .u64 0], .int .i64 3]) (by simp [results, Try.results15, go_sem, c00, c01, c02]) rfl ⟨_, rfl, World.ownsRow_nil _ _ _ _, (((((hb1.setCell (p := ⟨w.heap.size + 1, 2, none⟩) (by simp) _)).setCell (Nat.le_refl _) _).setCell (Nat.le_refl _) _).setCell (Nat.le_refl _) _).drew⟩
      · obtain rfl : n = 8 := by omega
        have G : getReq (b :: r) = ((4, [], leNat r), 0) := by
          have := Hn.out
          have := B4.out
          simp only [getReq]
          repeat (first | rw [if_pos (by omega)] | rw [if_neg (by omega)])
        have HG := Lib.hid G
        clear G
        have T8 : Hid (r.take 8 = r) := List.take_of_length_le (by rw [← Hn.out]; omega)
        go_wp2_with (go_at_call 25; go_must (refine (get_yes _ _ r 0 8 8 w1 ⟨_, _, rfl, hr3⟩ (by omega) (by decide) (by omega)).mono ?_; rintro e w2 ⟨rfl, rfl⟩))
        go_region
        all_goals go_wp2
        all_goals
          rw [HG.out]
          refine bodyPost_ret (v := .tuple #[.agg #[.int .i64 (b.toNat : Int), .slice none 0 0, .int .u64 (leNat (r.take 8))], .int .i64 0]) (by simp [results, Try.results15, go_sem, c00, c01, c02, c10, c11, c12]) rfl ⟨_, by rw [B4.out, T8.out]; rfl, World.ownsRow_nil _ _ _ _, ((((hb1.setCell (p := ⟨w.heap.size + 1, 2, none⟩) (by simp) _).setCell (Nat.le_refl _) _).setCell (Nat.le_refl _) _).setCell (Nat.le_refl _) _).drew⟩
  by_cases b2 : b.toNat = 2
  · have t1 : ((b.toNat : Int) == 1) = false := beq_eq_false_iff_ne.2 (by omega)
    have t4 : ((b.toNat : Int) == 4) = false := beq_eq_false_iff_ne.2 (by omega)
    have t2 : ((b.toNat : Int) == 2) = true := beq_iff_eq.2 (by omega)
    have B1 := Lib.hid b1
    have B4 := Lib.hid b4
    have B2 := Lib.hid b2
    clear b2 b1 b4
    by_cases h0 : 0 < n
    · have G : getReq (b :: r) = ((0, [], 0), 3) := by
        have := Hn.out
        have := B1.out
        have := B4.out
        have := B2.out
        simp only [getReq]
        repeat (first | rw [if_pos (by omega)] | rw [if_neg (by omega)])
      have HG := Lib.hid G
      clear G
      go_wp2
      rw [HG.out]
      refine bodyPost_ret (v := .tuple #[.agg #[.int .i64 0, .slice none 0 0, .int .u64 0], .int .i64 3]) (by simp [results, Try.results15, go_sem, c00, c01, c02]) rfl ⟨_, rfl, World.ownsRow_nil _ _ _ _, (((hb1).setCell (Nat.le_refl _) _).setCell (Nat.le_refl _) _).setCell (Nat.le_refl _) _⟩
    · obtain rfl : n = 0 := by omega
      have G : getReq (b :: r) = ((b.toNat, [], 0), 0) := by
        have := Hn.out
        have := B1.out
        have := B4.out
        have := B2.out
        simp only [getReq]
        repeat (first | rw [if_pos (by omega)] | rw [if_neg (by omega)])
      have HG := Lib.hid G
      clear G
      go_wp2
      rw [HG.out]
      refine bodyPost_ret (v := .tuple #[.agg #[.int .i64 (b.toNat : Int), .slice none 0 0, .int .u64 0], .int .i64 0]) (by simp [results, Try.results15, go_sem, c00, c01, c02, c10, c11, c12]) rfl ⟨_, rfl, World.ownsRow_nil _ _ _ _, ((hb1.setCell (Nat.le_refl _) _).setCell (Nat.le_refl _) _).setCell (Nat.le_refl _) _⟩
  by_cases b3 : b.toNat = 3
  · have t1 : ((b.toNat : Int) == 1) = false := beq_eq_false_iff_ne.2 (by omega)
    have t4 : ((b.toNat : Int) == 4) = false := beq_eq_false_iff_ne.2 (by omega)
    have t2 : ((b.toNat : Int) == 2) = false := beq_eq_false_iff_ne.2 (by omega)
    have t3 : ((b.toNat : Int) == 3) = true := beq_iff_eq.2 (by omega)
    have B1 := Lib.hid b1
    have B4 := Lib.hid b4
    have B3 := Lib.hid b3
    clear b3 b1 b4
    by_cases h0 : 0 < n
    · have G : getReq (b :: r) = ((0, [], 0), 3) := by
        have := Hn.out
        have := B1.out
        have := B4.out
        have := B3.out
        simp only [getReq]
        repeat (first | rw [if_pos (by omega)] | rw [if_neg (by omega)])
      have HG := Lib.hid G
      clear G
      go_wp2
      rw [HG.out]
      refine bodyPost_ret (v := .tuple #[.agg #[.int .i64 0, .slice none 0 0, .int .u64 0], .int .i64 3]) (by simp [results, Try.results15, go_sem, c00, c01, c02]) rfl ⟨_, rfl, World.ownsRow_nil _ _ _ _, (((hb1).setCell (Nat.le_refl _) _).setCell (Nat.le_refl _) _).setCell (Nat.le_refl _) _⟩
    · obtain rfl : n = 0 := by omega
      have G : getReq (b :: r) = ((b.toNat, [], 0), 0) := by
        have := Hn.out
        have := B1.out
        have := B4.out
        have := B3.out
        simp only [getReq]
        repeat (first | rw [if_pos (by omega)] | rw [if_neg (by omega)])
      have HG := Lib.hid G
      clear G
      go_wp2
      rw [HG.out]
      refine bodyPost_ret (v := .tuple #[.agg #[.int .i64 (b.toNat : Int), .slice none 0 0, .int .u64 0], .int .i64 0]) (by simp [results, Try.results15, go_sem, c00, c01, c02, c10, c11, c12]) rfl ⟨_, rfl, World.ownsRow_nil _ _ _ _, ((hb1.setCell (Nat.le_refl _) _).setCell (Nat.le_refl _) _).setCell (Nat.le_refl _) _⟩
  by_cases b5 : b.toNat = 5
  · have t1 : ((b.toNat : Int) == 1) = false := beq_eq_false_iff_ne.2 (by omega)
    have t4 : ((b.toNat : Int) == 4) = false := beq_eq_false_iff_ne.2 (by omega)
    have t2 : ((b.toNat : Int) == 2) = false := beq_eq_false_iff_ne.2 (by omega)
    have t3 : ((b.toNat : Int) == 3) = false := beq_eq_false_iff_ne.2 (by omega)
    have t5 : ((b.toNat : Int) == 5) = true := beq_iff_eq.2 (by omega)
    have B1 := Lib.hid b1
    have B4 := Lib.hid b4
    have B5 := Lib.hid b5
    clear b5 b1 b4
    by_cases h0 : 0 < n
    · have G : getReq (b :: r) = ((0, [], 0), 3) := by
        have := Hn.out
        have := B1.out
        have := B4.out
        have := B5.out
        simp only [getReq]
        repeat (first | rw [if_pos (by omega)] | rw [if_neg (by omega)])
      have HG := Lib.hid G
      clear G
      go_wp2
      rw [HG.out]
      refine bodyPost_ret (v := .tuple #[.agg #[.int .i64 0, .slice none 0 0, .int .u64 0], .int .i64 3]) (by simp [results, Try.results15, go_sem, c00, c01, c02]) rfl ⟨_, rfl, World.ownsRow_nil _ _ _ _, (((hb1).setCell (Nat.le_refl _) _).setCell (Nat.le_refl _) _).setCell (Nat.le_refl _) _⟩
    · obtain rfl : n = 0 := by omega
      have G : getReq (b :: r) = ((b.toNat, [], 0), 0) := by
        have := Hn.out
        have := B1.out
        have := B4.out
        have := B5.out
        simp only [getReq]
        repeat (first | rw [if_pos (by omega)] | rw [if_neg (by omega)])
      have HG := Lib.hid G
      clear G
      go_wp2
      rw [HG.out]
      refine bodyPost_ret (v := .tuple #[.agg #[.int .i64 (b.toNat : Int), .slice none 0 0, .int .u64 0], .int .i64 0]) (by simp [results, Try.results15, go_sem, c00, c01, c02, c10, c11, c12]) rfl ⟨_, rfl, World.ownsRow_nil _ _ _ _, ((hb1.setCell (Nat.le_refl _) _).setCell (Nat.le_refl _) _).setCell (Nat.le_refl _) _⟩
  have t1 : ((b.toNat : Int) == 1) = false := beq_eq_false_iff_ne.2 (by omega)
  have t4 : ((b.toNat : Int) == 4) = false := beq_eq_false_iff_ne.2 (by omega)
  have t2 : ((b.toNat : Int) == 2) = false := beq_eq_false_iff_ne.2 (by omega)
  have t3 : ((b.toNat : Int) == 3) = false := beq_eq_false_iff_ne.2 (by omega)
  have t5 : ((b.toNat : Int) == 5) = false := beq_eq_false_iff_ne.2 (by omega)
  have B1 := Lib.hid b1
  have B4 := Lib.hid b4
  have B2 := Lib.hid b2
  have B3 := Lib.hid b3
  have B5 := Lib.hid b5
  clear b1 b4 b2 b3 b5
  have G : getReq (b :: r) = ((0, [], 0), 4) := by
    have := Hn.out
    have := B1.out
    have := B4.out
    have := B2.out
    have := B3.out
    have := B5.out
    simp only [getReq]
    repeat (first | rw [if_pos (by omega)] | rw [if_neg (by omega)])
  have HG := Lib.hid G
  clear G
  go_wp2
  rw [HG.out]
  refine bodyPost_ret (v := .tuple #[.agg #[.int .i64 0, .slice none 0 0, .int .u64 0], .int .i64 4]) (by simp [results, Try.results15, go_sem, c00, c01, c02]) rfl ⟨_, rfl, World.ownsRow_nil _ _ _ _, (((hb1).setCell (Nat.le_refl _) _).setCell (Nat.le_refl _) _).setCell (Nat.le_refl _) _⟩

theorem reqget_any (v : Value) (n : Nat) (l : List UInt8) (w : World) (hv : RdV w 1 n v (bys l)) :
    Calls Try.prog 15 #[v] w fun e w' => GotReq w (getReq l) e w' := by
  have hl : l.length = n := by obtain ⟨A, c, rfl, h⟩ := hv; simpa [bys] using h.1
  cases l with
  | nil =>
    obtain rfl : n = 0 := by simpa using hl.symm
    exact get_nil v w hv
  | cons b r =>
    obtain ⟨m, rfl⟩ : ∃ m, n = m + 1 := ⟨r.length, by simpa using hl.symm⟩
    exact get_cons v b r m w hv

end Go.Proofs.Ytnegjplfmggeoaa
