/- The law RequestBodies returns true, whatever it is called with; what lay in memory stays. Conditions: what the form's reading of the arguments gives. -/
import Derived.Test.YtnegjplfmggeoaaReqLaws
namespace Go.Proofs.Ytnegjplfmggeoaa
open Go.RowKit
set_option linter.unusedSimpArgs false
set_option linter.unusedVariables false

set_option maxRecDepth 100000 in
set_option maxHeartbeats 4000000 in
theorem bodies_any (n b : Nat) (w : World) (hn : n ≤ 65535) (hb : b ≤ 255) :
    Calls Try.prog 6 #[.int .u16 n, .int .u8 b] w fun e w' => e = .returned (.bool true) ∧ Below w.heap.size w w' := by
  obtain ⟨m, hm⟩ : ∃ m : Nat, m = n % 5000 := ⟨_, rfl⟩
  have hm5 : m < 5000 := by omega
  have e1 : (n : Int) % 5000 = (m : Int) := by omega
  have e2 : IntKind.i64.wrap (n : Int) = n := by rw [IntKind.wrap_i64]; omega
  clear hm
  obtain ⟨i, hi, hz0, hz1, hz2⟩ := info_parts info_u8
  go_enter Try.func6, Try.ntmps6
  go_wp2_with (at_make; go_must (refine wpList_make_full _ rfl _ _ 31 rfl w.heap.size 5 i (.int .u8 0) 1 Try.underlying31 hi hz0 hz1 _ _ _ _ m rfl rfl e1 e1 (by rw [hz2]; omega) (by simp only [maxLen]; omega) (Nat.le_refl _) ?_; intro w1 hown hg))
  clear e1
  have hown0 : w1.ownsRow w.heap.size 5 1 (.slice (some ⟨w.heap.size, 0, none⟩) m m) m (bys (List.replicate m 0)) := by
    have e3 : (madeCells (Value.int .u8 0).cells (m * 1)).toList = bys (List.replicate m 0) := by
      rw [Nat.mul_one]
      show (madeCells #[.int .u8 0] m).toList = _
      rw [toList_madeCells_one]
      simp [bys]
    rw [← e3]
    exact hown
  have hb1 : Below w.heap.size w w1 := (Below.refl _ _).grown hg (Nat.le_refl _) (fun k hk => by cases hk)
  clear hown hg
  go_loopw [17] (fun i wr => ∃ (j : Nat) (l : List UInt8), j ≤ m ∧ i = .int .i64 j ∧ l.length = m ∧ wr.ownsRow w.heap.size 5 1 (.slice (some ⟨w.heap.size, 0, none⟩) m m) m (bys l) ∧ Below w.heap.size w wr) (fun i _ => m - (intOf i).toNat)
  case atStart => exact ⟨0, List.replicate m 0, Nat.zero_le _, rfl, by simp, hown0, hb1⟩
  case round =>
    obtain ⟨j, l, hj, rfl, hl, hown, hbr⟩ := hrel
    have Hl := Lib.hid hl
    clear hl hown0 hb1
    rcases Nat.lt_or_ge j m with hlt | hge
    · have hce := hown.cellAt j (by omega)
      rw [bys_at l j (by rw [Hl.out]; exact hlt)] at hce
      have hfe := hown.frozenAt j
      go_wp2
      have hst := hown.stored j (.int .u8 ((UInt8.ofNat (b + j % 7)).toNat : Int))
      rw [bys_set] at hst
      have ev : ((b : Int) + (j : Int) % 7) % 256 = (((UInt8.ofNat (b + j % 7)).toNat : Nat) : Int) := by
        rw [UInt8.toNat_ofNat']
        omega
      rw [ev]
      refine ⟨⟨j + 1, l.set j (UInt8.ofNat (b + j % 7)), by omega, rfl, by simp [Hl.out], hst.1, ?_⟩, by simp [intOf]; omega⟩
      exact hbr.grown hst.2 hbr.size (fun k hk => by cases hk; exact Nat.le_refl _)
    · have hjm : m = j := by omega
      subst hjm
      clear hj hge
      obtain ⟨A, c, he, hr⟩ := own_rd hown
      cases he
      have e1b : bys (1 :: l) = [.int .u8 1] ++ bys l := rfl
      by_cases h4 : 4096 < m
      · have hm : mayReq 1 m 0 = false := by simp [mayReq]; omega
        have Hm := Lib.hid hm
        clear hm
        have hG : getReq (1 :: l) = ((0, [], 0), 10) := by
          simp only [getReq]
          rw [if_pos (by decide), if_pos (by rw [Hl.out]; exact h4)]
        have G : ∀ W v, RdV W 1 (1 + m) v ([.int .u8 1] ++ bys l) → Calls Try.prog 15 #[v] W fun e w1 => ∃ v1, e = .returned (.tuple #[.agg #[.int .i64 0, v1, .int .u64 0], .int .i64 10]) ∧ w1.ownsRow W.heap.size 5 1 v1 0 (bys []) ∧ Below W.heap.size W w1 := by
          intro W v hW
          have := reqget_any v (1 + m) (1 :: l) W hW
          rw [hG] at this
          exact this
        have HG := Lib.hid G
        clear G hG e1b
        go_wp2_with (first | (go_at_call 11; go_must (refine (put_no 1 _ m m 0 wr Hm.out).mono ?_; rintro e w2 ⟨rfl, hb2⟩; have hr2 := hr.below hb2 (Nat.le_refl _); have hb02 := below_step hbr hb2 hbr.size)) | (at_builtin; go_must (refine append_rd rfl _ _ 31 rfl w.heap.size 5 (.int .u8 0) 1 1 Try.underlying31 info_u8 rfl (by omega) (.slice (some ⟨w2.heap.size, 0, none⟩) 1 1) 1 _ rfl (World.ownsRow_lit w2 #[.int .u8 1] 1 hb02.size (by simp [maxLen]) rfl) (.slice (some ⟨w.heap.size, 0, none⟩) m m) m (bys l) rfl ⟨_, _, rfl, hr2.below ((Below.refl _ _).alloc (Nat.le_refl _) _) (Nat.le_refl _)⟩ (bys_one l) (by omega) (by omega) (by have := hb02.size; simp; omega) ?_; intro v3 w3 hown3 hg3 _ _; have hb23 := (((Below.refl w2.heap.size w2).alloc (Nat.le_refl _) _).grown hg3 (by simp) (by intro k hk; simp [Value.ownBlock] at hk; omega)))) | (go_at_call 15; go_must (refine (HG.out w3 _ (own_rd hown3)).mono ?_; rintro e w4 ⟨v4, rfl, hown4, hb4⟩; obtain ⟨A4, c4, hv4, hr4⟩ := own_rd hown4; subst hv4)) | (go_at_call 10; go_must (refine (reqfixed _).mono ?_; rintro e w5 ⟨rfl, hb5⟩; have BX := blk_box hb5 (by simp); obtain ⟨x0, x1, x2⟩ := blk_cells3 BX)))
        go_ret
        have z02 := hb02.size
        have z23 := hb23.size
        have z4 := hb4.size
        exact ⟨rfl, below_step ((below_step (below_step hb02 hb23 z02) hb4 (by omega)).alloc (by omega) _) hb5 (by simp; omega)⟩
      · have hm : mayReq 1 m 0 = true := by simp [mayReq]; omega
        have Hm := Lib.hid hm
        clear hm
        have hG : getReq (1 :: l) = ((1, l, 0), 0) := by
          simp only [getReq]
          rw [if_pos (by decide), if_neg (by rw [Hl.out]; exact h4)]
        have G : ∀ W v, RdV W 1 (1 + m) v ([.int .u8 1] ++ bys l) → Calls Try.prog 15 #[v] W fun e w1 => ∃ v1, e = .returned (.tuple #[.agg #[.int .i64 1, v1, .int .u64 0], .int .i64 0]) ∧ w1.ownsRow W.heap.size 5 1 v1 m (bys l) ∧ Below W.heap.size W w1 := by
          intro W v hW
          have := reqget_any v (1 + m) (1 :: l) W hW
          rw [hG] at this
          rw [← Hl.out]
          exact this
        have HG := Lib.hid G
        clear G hG e1b
        have hlen : (reqBytes 1 l 0).length = m + 1 := by simp [reqBytes, Hl.out]
        have Hlen := Lib.hid hlen
        clear hlen
        go_wp2_with (first | (go_at_call 11; go_must (refine (put_yes 1 _ m m 0 l wr Hm.out hr).mono ?_; rintro e w2 ⟨v2, rfl, hown2, hb2⟩; obtain ⟨A2, c2, hv2, hr2v⟩ := own_rd hown2; rw [Hlen.out] at hv2; subst hv2; have hr2 := hr.below hb2 (Nat.le_refl _); have hb02 := below_step hbr hb2 hbr.size)) | (at_builtin; go_must (refine append_rd rfl _ _ 31 rfl w.heap.size 5 (.int .u8 0) 1 1 Try.underlying31 info_u8 rfl (by omega) (.slice (some ⟨w2.heap.size, 0, none⟩) 1 1) 1 _ rfl (World.ownsRow_lit w2 #[.int .u8 1] 1 hb02.size (by simp [maxLen]) rfl) (.slice (some ⟨w.heap.size, 0, none⟩) m m) m (bys l) rfl ⟨_, _, rfl, hr2.below ((Below.refl _ _).alloc (Nat.le_refl _) _) (Nat.le_refl _)⟩ (bys_one l) (by omega) (by omega) (by have := hb02.size; simp; omega) ?_; intro v3 w3 hown3 hg3 _ _; have hb23 := (((Below.refl w2.heap.size w2).alloc (Nat.le_refl _) _).grown hg3 (by simp) (by intro k hk; simp [Value.ownBlock] at hk; omega)))) | (go_at_call 15; go_must (refine (HG.out w3 _ (own_rd hown3)).mono ?_; rintro e w4 ⟨v4, rfl, hown4, hb4⟩; obtain ⟨A4, c4, hv4, hr4⟩ := own_rd hown4; subst hv4)) | (go_at_call 10; go_must (refine (reqfixed _).mono ?_; rintro e w5 ⟨rfl, hb5⟩; have BX := blk_box hb5 (by simp); obtain ⟨x0, x1, x2⟩ := blk_cells3 BX; have hcb := run_conv_rd (P := Try.prog) (w := w5) Try.underlying31 Try.underlying5 Try.underlying9 ⟨_, _, rfl, (((hr2.below hb23 (Nat.le_refl _)).below hb4 (Nat.le_refl _)).below ((Below.refl _ _).alloc (Nat.le_refl _) _) (Nat.le_refl _)).below hb5 (Nat.le_refl _)⟩; have hcr := run_conv_rd (P := Try.prog) (w := w5) Try.underlying31 Try.underlying5 Try.underlying9 ⟨_, _, rfl, (hr4.below ((Below.refl _ _).alloc (Nat.le_refl _) _) (Nat.le_refl _)).below hb5 (Nat.le_refl _)⟩)))
        go_ret
        have z02 := hb02.size
        have z23 := hb23.size
        have z4 := hb4.size
        exact ⟨rfl, below_step ((below_step (below_step hb02 hb23 z02) hb4 (by omega)).alloc (by omega) _) hb5 (by simp; omega)⟩

end Go.Proofs.Ytnegjplfmggeoaa
