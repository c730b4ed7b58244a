/- The law RequestGets returns true, whatever it is called with; what lay in memory stays. Conditions: what the form's reading of the arguments gives. -/
import Derived.Test.YtnegjplfmggeoaaReqLaws
namespace Go.Proofs.Ytnegjplfmggeoaa
open Go.RowKit
set_option linter.unusedSimpArgs false
set_option linter.unusedVariables false

set_option maxRecDepth 100000 in
set_option maxHeartbeats 4000000 in
theorem gets_great (A : Option Addr) (n c : Nat) (w : World) (h : 5000 < n) :
    Calls Try.prog 5 #[.slice A n c] w fun e w' => e = .returned (.bool true) ∧ Below w.heap.size w w' := by
  go_enter Try.func5, Try.ntmps5
  go_wp2_with (go_at_call 10; go_must (refine (reqfixed _).mono ?_; rintro e w1 ⟨rfl, hb⟩))
  go_ret
  exact ⟨rfl, hb⟩

set_option maxRecDepth 100000 in
set_option maxHeartbeats 4000000 in
theorem gets_small (A : Option Addr) (n c : Nat) (l : List UInt8) (w : World) (hv : Rd w 1 n A c (bys l)) (h : n ≤ 5000) :
    Calls Try.prog 5 #[.slice A n c] w fun e w' => e = .returned (.bool true) ∧ Below w.heap.size w w' := by
  have hlen : l.length = n := by simpa [bys] using hv.1
  have hok := getReq_ok l
  have hsm := getReq_small l (by omega)
  obtain ⟨kd, hkd⟩ : ∃ kd, kd = (getReq l).1.1 := ⟨_, rfl⟩
  obtain ⟨lb, hlb⟩ : ∃ lb, lb = (getReq l).1.2.1 := ⟨_, rfl⟩
  obtain ⟨t, ht⟩ : ∃ t, t = (getReq l).1.2.2 := ⟨_, rfl⟩
  obtain ⟨er, her⟩ : ∃ er, er = (getReq l).2 := ⟨_, rfl⟩
  have G1 : ∀ W v, RdV W 1 n v (bys l) → Calls Try.prog 15 #[v] W fun e w1 => ∃ v1, e = .returned (.tuple #[.agg #[.int .i64 (kd : Int), v1, .int .u64 (t : Int)], .int .i64 (er : Int)]) ∧ w1.ownsRow W.heap.size 5 1 v1 lb.length (bys lb) ∧ Below W.heap.size W w1 := by
    intro W v hW
    rw [hkd, hlb, ht, her]
    exact reqget_any v n l W hW
  have G2 : ∀ W, Calls Try.prog 17 #[.string (S l)] W fun e w1 => ∃ v1, e = .returned (.tuple #[.agg #[.int .i64 (kd : Int), v1, .int .u64 (t : Int)], .int .i64 (er : Int)]) ∧ RdV w1 1 lb.length v1 (bys lb) ∧ Below W.heap.size W w1 := by
    intro W
    rw [hkd, hlb, ht, her]
    exact rreqget_any l W (by omega)
  rw [← hkd, ← hlb, ← ht, ← her] at hok
  rw [← hlb, ← ht] at hsm
  clear hkd hlb ht her
  have HG1 := Lib.hid G1
  have HG2 := Lib.hid G2
  have Hok := Lib.hid hok
  have Hsm := Lib.hid hsm
  clear G1 G2 hok hsm
  have Hl := Lib.hid hlen
  clear hlen
  have hcv := run_conv_rd (P := Try.prog) (w := w) Try.underlying31 Try.underlying5 Try.underlying9 ⟨A, c, rfl, hv⟩
  rcases Nat.eq_zero_or_pos er with rfl | her
  · have hk0 := Hok.out rfl
    have Hk0 := Lib.hid hk0
    clear hk0
    go_enter Try.func5, Try.ntmps5
    go_wp2_with (first | (go_at_call 15; go_must (refine (HG1.out w _ ⟨A, c, rfl, hv⟩).mono ?_; rintro e w1 ⟨v1, rfl, hown1, hb1⟩; obtain ⟨A1, c1, hv1, hr1⟩ := own_rd hown1; subst hv1)) | (go_at_call 17; go_must (refine (HG2.out _).mono ?_; rintro e w2 ⟨v2, rfl, ⟨A2, c2, hv2, hr2⟩, hb2⟩; subst hv2; have BX := blk_box hb2 (by simp); have zx := blk_lt BX; obtain ⟨x0, x1, x2⟩ := blk_cells3 BX; have hb12 := below_step ((Below.refl w1.heap.size w1).alloc (Nat.le_refl _) _) hb2 (by simp))) | (go_at_call 16; go_must (refine (same_any _ _ _ _ _ _ _ _ _ _ lb lb _ ((hr1.below hb12 (Nat.le_refl _)).below ((Below.refl _ _).alloc (Nat.le_refl _) _) (Nat.le_refl _)) (hr2.below ((Below.refl _ _).alloc (Nat.le_refl _) _) (Nat.le_refl _))).mono ?_; rintro e w3 ⟨rfl, hb3⟩; have BX3 := blk_below (blk_alloc BX _) hb3 (by simp; omega); have zx3 := blk_lt BX3; obtain ⟨y0, y1, y2⟩ := blk_cells3 BX3; have hb13 := below_step (hb12.alloc hb12.size _) hb3 (by have := hb12.size; simp; omega))) | (go_at_call 11; go_must (refine (put_yes _ _ _ _ _ lb _ Hk0.out.1 (hr1.below hb13 (Nat.le_refl _))).mono ?_; rintro e w4 ⟨v4, rfl, hown4, hb4⟩; rw [Hk0.out.2] at hown4; obtain ⟨A4, c4, hv4, hr4⟩ := own_rd hown4; subst hv4; have BX4 := blk_below BX3 hb4 zx3; have zx4 := blk_lt BX4; obtain ⟨z0, z1, z2⟩ := blk_cells3 BX4; have hb14 := below_step hb13 hb4 hb13.size)))
    have hb04 : Below w.heap.size w w4 := below_step hb1 hb14 hb1.size
    have s1 := hb1.size
    have s13 := hb13.size
    have s14 := hb14.size
    have s34 := hb4.size
    have ho14 := own_below hown1 hb14 (Nat.le_refl _)
    have hne4 : (Value.slice A4 l.length c4).ownBlock = none ∨ (Value.slice A4 l.length c4).ownBlock ≠ (Value.slice A1 lb.length c1).ownBlock := by
      cases hk4 : (Value.slice A4 l.length c4).ownBlock with
      | none => exact .inl rfl
      | some k4 =>
        right
        intro hk1
        have q4 := hown4.lt k4 hk4
        have q1 := hown1.lt k4 hk1.symm
        omega
    have hnx : some w1.heap.size ≠ (Value.slice A1 lb.length c1).ownBlock := by
      intro hk1
      have q1 := hown1.lt _ hk1.symm
      omega
    have hlb : lb.length ≤ 5000 := Hsm.out.2
    clear y0 y1 y2 x0 x1 x2 z0 z1 z2 BX BX3 hb2 hb3 hb12
    go_loopw [47] (fun i wr => ∃ (j : Nat) (l' : List UInt8), j ≤ lb.length ∧ i = .int .i64 j ∧ l'.length = lb.length ∧ wr.ownsRow w.heap.size 5 1 (.slice A1 lb.length c1) lb.length (bys l') ∧ w4.grownBy wr (Value.slice A1 lb.length c1).ownBlock) (fun i _ => lb.length - (intOf i).toNat)
    case atStart => exact ⟨0, lb, Nat.zero_le _, rfl, rfl, ho14, World.grownBy.refl _ _⟩
    case round =>
      obtain ⟨j, l', hj, rfl, hl', hown', hg'⟩ := hrel
      have BXr := blk_grown BX4 hg' hnx
      have zr := blk_lt BXr
      obtain ⟨r0, r1, r2⟩ := blk_cells3 BXr
      have Hl' := Lib.hid hl'
      clear hl'
      rcases Nat.lt_or_ge j lb.length with hlt | hge
      · obtain ⟨g, cap, he, _, _⟩ := hown'.form (by omega)
        cases he
        have hce := hown'.cellAt j (by omega)
        rw [bys_at l' j (by rw [Hl'.out]; exact hlt)] at hce
        have hfe := hown'.frozenAt j
        go_wp2
        have hst := hown'.stored j (.int .u8 (((l'.getD j 0 + 1).toNat : Nat) : Int))
        rw [bys_set] at hst
        have ev : ((((l'[j]?.getD 0).toNat : Nat) : Int) + 1) % 256 = (((l'.getD j 0 + 1).toNat : Nat) : Int) := by
          rw [UInt8.toNat_add]
          simp [List.getD_eq_getElem?_getD]
        rw [ev]
        refine ⟨⟨j + 1, l'.set j (l'.getD j 0 + 1), by omega, rfl, by simp [Hl'.out], ?_, ?_⟩, by simp [intOf]; omega⟩
        · exact hst.1
        · exact World.grownBy.trans hg' hst.2
      · go_wp2_with ((go_at_call 10; go_must (refine (reqfixed _).mono ?_; rintro e w5 ⟨rfl, hb5⟩; have hbr := hb04.grown hg' hb04.size (fun k hk => (hown1.lt k hk).1); have hcb := run_conv_rd (P := Try.prog) (w := w5) Try.underlying31 Try.underlying5 Try.underlying9 ⟨A, c, rfl, (hv.below hbr (Nat.le_refl _)).below hb5 (Nat.le_refl _)⟩; have hcc := run_conv_rd (P := Try.prog) (w := w5) Try.underlying31 Try.underlying5 Try.underlying9 (own_rd (own_below (hown4.kept hg' hne4) hb5 (Nat.le_refl _))))))
        go_ret
        exact ⟨rfl, below_step hbr hb5 hbr.size⟩
  · have hne : ((er : Int) != 0) = true := by rw [bne_iff_ne]; omega
    go_enter Try.func5, Try.ntmps5
    go_wp2_with (first | (go_at_call 15; go_must (refine (HG1.out w _ ⟨A, c, rfl, hv⟩).mono ?_; rintro e w1 ⟨v1, rfl, hown1, hb1⟩; obtain ⟨A1, c1, hv1, hr1⟩ := own_rd hown1; subst hv1)) | (go_at_call 17; go_must (refine (HG2.out _).mono ?_; rintro e w2 ⟨v2, rfl, ⟨A2, c2, hv2, hr2⟩, hb2⟩; subst hv2; have BX := blk_box hb2 (by simp); have zx := blk_lt BX; obtain ⟨x0, x1, x2⟩ := blk_cells3 BX; have hb12 := below_step ((Below.refl w1.heap.size w1).alloc (Nat.le_refl _) _) hb2 (by simp))) | (go_at_call 16; go_must (refine (same_any _ _ _ _ _ _ _ _ _ _ lb lb _ ((hr1.below hb12 (Nat.le_refl _)).below ((Below.refl _ _).alloc (Nat.le_refl _) _) (Nat.le_refl _)) (hr2.below ((Below.refl _ _).alloc (Nat.le_refl _) _) (Nat.le_refl _))).mono ?_; rintro e w3 ⟨rfl, hb3⟩; have BX3 := blk_below (blk_alloc BX _) hb3 (by simp; omega); have zx3 := blk_lt BX3; obtain ⟨y0, y1, y2⟩ := blk_cells3 BX3; have hb13 := below_step (hb12.alloc hb12.size _) hb3 (by have := hb12.size; simp; omega))) | (go_at_call 10; go_must (refine (reqfixed _).mono ?_; rintro e w5 ⟨rfl, hb5⟩)))
    go_ret
    have s1 := hb1.size
    have s13 := hb13.size
    exact ⟨rfl, below_step (below_step hb1 hb13 s1) hb5 (by omega)⟩

theorem gets_any (A : Option Addr) (n c : Nat) (l : List UInt8) (w : World) (hv : Rd w 1 n A c (bys l)) :
    Calls Try.prog 5 #[.slice A n c] w fun e w' => e = .returned (.bool true) ∧ Below w.heap.size w w' := by
  by_cases h : 5000 < n
  · exact gets_great A n c w h
  · exact gets_small A n c l w hv (by omega)

end Go.Proofs.Ytnegjplfmggeoaa
