/- The laws of layer 23 return true, whatever they are called with; what lay in memory stays. Conditions: what the form's reading of the arguments gives. -/
import Derived.Test.YtnegjplfmggeoaaRReqGet
namespace Go.Proofs.Ytnegjplfmggeoaa
open Go.RowKit
set_option linter.unusedSimpArgs false
set_option linter.unusedVariables false

theorem reqfixed (w : World) : Calls Try.prog 10 #[] w fun e w' => e = .returned (.bool true) ∧ Below w.heap.size w w' := by
  have hm : mayReq 2 0 0 = true := by decide
  have hrb : (reqBytes 2 [] 0).length = 1 := by decide
  have hr1 : reqBytes 2 [] 0 = [2] := by decide
  have Hm := Lib.hid hm
  clear hm
  clear hrb
  have P := put_yes 2 none 0 0 0 [] w Hm.out (Rd.nil _ _)
  rw [hr1, show ([2] : List UInt8).length = 1 from rfl] at P
  have HP := Lib.hid P
  clear P hr1
  have hq : (S [2]).toList = [2] := S_toList _
  go_enter Try.func10, Try.ntmps10
  go_wp2_with (go_at_call 11; go_must (refine HP.out.mono ?_; rintro e w1 ⟨v, rfl, hown, hb⟩; obtain ⟨A, c, hv, hr⟩ := own_rd hown; subst hv; have hcv := run_conv_rd (P := Try.prog) (w := w1) Try.underlying31 Try.underlying5 Try.underlying9 ⟨A, c, rfl, hr⟩))
  go_ret
  exact ⟨rfl, hb⟩

set_option maxRecDepth 100000 in
set_option maxHeartbeats 4000000 in
theorem puts_great (kd : Int) (A : Option Addr) (n c t : Nat) (w : World) (h : 5000 < n) :
    Calls Try.prog 4 #[.agg #[.int .i64 kd, .slice A n c, .int .u64 t]] w fun e w' => e = .returned (.bool true) ∧ Below w.heap.size w w' := by
  go_enter Try.func4, Try.ntmps4
  go_wp2_with (go_at_call 10; go_must (refine (reqfixed _).mono ?_; rintro e w1 ⟨rfl, hb⟩))
  go_ret
  exact ⟨rfl, below_step ((Below.refl _ _).alloc (Nat.le_refl _) _) hb (by simp)⟩

set_option maxRecDepth 100000 in
set_option maxHeartbeats 4000000 in
theorem puts_no (kd : Int) (A : Option Addr) (n c t : Nat) (w : World) (h : n ≤ 5000) (hm : mayReq kd n t = false) :
    Calls Try.prog 4 #[.agg #[.int .i64 kd, .slice A n c, .int .u64 t]] w fun e w' => e = .returned (.bool true) ∧ Below w.heap.size w w' := by
  have Hm := Lib.hid hm
  clear hm
  go_enter Try.func4, Try.ntmps4
  go_wp2_with (first | (go_at_call 11; go_must (refine (put_no _ _ _ _ _ _ Hm.out).mono ?_; rintro e w1 ⟨rfl, hb⟩; have BK := blk_box hb (by simp); have z1 := blk_lt BK; obtain ⟨c0, c1, c2⟩ := blk_cells3 BK; have hb1 := below_step ((Below.refl _ _).alloc (Nat.le_refl _) _) hb (by simp))) | (go_at_call 12; go_must (refine (rput_no _ _ _ _ _ _ Hm.out).mono ?_; rintro e w2 ⟨rfl, hb'⟩; have BK2 := blk_below BK hb' z1; have z2 := blk_lt BK2; obtain ⟨d0, d1, d2⟩ := blk_cells3 BK2; have hb2 := below_step hb1 hb' hb1.size)))
  have M1 : ∀ W, Calls Try.prog 13 #[.agg #[.int .i64 kd, .slice A n c, .int .u64 t]] W fun e w' => e = .returned (.bool false) ∧ Below W.heap.size W w' := fun W => by rw [← Hm.out]; exact may_any _ _ _ _ _ W
  have M2 : ∀ W, Calls Try.prog 14 #[.agg #[.int .i64 kd, .slice A n c, .int .u64 t]] W fun e w' => e = .returned (.bool false) ∧ Below W.heap.size W w' := fun W => by rw [← Hm.out]; exact rmay_any _ _ _ _ _ W
  have N1 := Lib.hid M1
  have N2 := Lib.hid M2
  clear M1 M2
  have hs0 : (S []).toList = [] := S_toList _
  have hcv : ∀ W, (convert 31 9 (.slice none 0 0)).run Try.prog W = .ok (.string (S [])) W := fun W => run_conv_rd Try.underlying31 Try.underlying5 Try.underlying9 (RdV.nil W 1)
  go_region_held3 (fun w' => w'.cell? ⟨w.heap.size, 0, none⟩ = some (.int .i64 kd) ∧ w'.cell? ⟨w.heap.size, 1, none⟩ = some (.slice A n c) ∧ w'.cell? ⟨w.heap.size, 2, none⟩ = some (.int .u64 t) ∧ Below w2.heap.size w2 w')
    (first | (refine ⟨?_, ?_, ?_, ?_⟩ <;> first | assumption | exact (Below.refl _ _).drew | (go_keep; done)) | (go_split_ands; refine ⟨?_, ?_, ?_, ?_⟩ <;> first | exact cell_later (by assumption) (by assumption) | exact below_step (by assumption) (by assumption) (Below.size (by assumption))))
    (first | (go_at_call 13; refine (N1.out _).mono ?_; rintro e w' ⟨rfl, hbb⟩) | (go_at_call 14; refine (N2.out _).mono ?_; rintro e w' ⟨rfl, hbb⟩))
  rename_i hH
  obtain ⟨e0, e1, e2, hb3⟩ := hH
  go_wp2_with (go_at_call 10; go_must (refine (reqfixed _).mono ?_; rintro e w3 ⟨rfl, hb4⟩))
  go_ret
  exact ⟨rfl, below_step (below_step hb2 hb3 hb2.size) hb4 (Nat.le_trans hb2.size hb3.size)⟩

set_option maxRecDepth 100000 in
set_option maxHeartbeats 4000000 in
theorem puts_yes (kd : Int) (A : Option Addr) (n c t : Nat) (l : List UInt8) (w : World) (h : n ≤ 5000) (hm : mayReq kd n t = true) (hv : Rd w 1 n A c (bys l)) (ht : t < 18446744073709551616) :
    Calls Try.prog 4 #[.agg #[.int .i64 kd, .slice A n c, .int .u64 t]] w fun e w' => e = .returned (.bool true) ∧ Below w.heap.size w w' := by
  have hlen : l.length = n := by simpa [bys] using hv.1
  have hgr := getReq_reqBytes kd l t (by rw [hlen]; exact hm) ht
  have hkd : ((kd.toNat : Nat) : Int) = kd := by simp only [mayReq, decide_eq_true_eq] at hm; omega
  have Hkd := Lib.hid hkd
  have Hm := Lib.hid hm
  have Ht := Lib.hid ht
  have Hgr := Lib.hid hgr
  have Hl := Lib.hid hlen
  clear hm ht hgr hlen hkd
  have hw2 : ∀ o, Rd (w.alloc o) 1 n A c (bys l) := fun o => hv.below ((Below.refl _ _).alloc (Nat.le_refl _) o) (Nat.le_refl _)
  have Hw2 := Lib.hid hw2
  clear hw2
  go_enter Try.func4, Try.ntmps4
  go_wp2_with (first | (go_at_call 11; go_must (refine (put_yes _ _ _ _ _ l _ Hm.out (Hw2.out _)).mono ?_; rintro e w1 ⟨v, rfl, hown, hb⟩; have BK := blk_box hb (by simp); have z1 := blk_lt BK; obtain ⟨c0, c1, c2⟩ := blk_cells3 BK; have hb1 := below_step ((Below.refl _ _).alloc (Nat.le_refl _) _) hb (by simp); obtain ⟨A1, cc, hvv, hr1⟩ := own_rd hown; subst hvv)) | (go_at_call 12; go_must (refine (rput_yes _ _ _ _ _ l _ Hm.out (hv.below hb1 (Nat.le_refl _)) Ht.out).mono ?_; rintro e w2 ⟨rfl, hb'⟩; have BK2 := blk_below BK hb' z1; have z2 := blk_lt BK2; obtain ⟨d0, d1, d2⟩ := blk_cells3 BK2; have hb2 := below_step hb1 hb' hb1.size; have hr2 := hr1.below hb' (Nat.le_refl _))))
  have M1 : ∀ W, Calls Try.prog 13 #[.agg #[.int .i64 kd, .slice A n c, .int .u64 t]] W fun e w' => e = .returned (.bool true) ∧ Below W.heap.size W w' := fun W => by rw [← Hm.out]; exact may_any _ _ _ _ _ W
  have M2 : ∀ W, Calls Try.prog 14 #[.agg #[.int .i64 kd, .slice A n c, .int .u64 t]] W fun e w' => e = .returned (.bool true) ∧ Below W.heap.size W w' := fun W => by rw [← Hm.out]; exact rmay_any _ _ _ _ _ W
  have N1 := Lib.hid M1
  have N2 := Lib.hid M2
  clear M1 M2
  have hcv : ∀ W, Below w2.heap.size w2 W → (convert 31 9 (.slice A1 (reqBytes kd l t).length cc)).run Try.prog W = .ok (.string (S (reqBytes kd l t))) W := fun W hW => run_conv_rd Try.underlying31 Try.underlying5 Try.underlying9 ⟨_, _, rfl, hr2.below hW (Nat.le_refl _)⟩
  go_region_held3 (fun w' => w'.cell? ⟨w.heap.size, 0, none⟩ = some (.int .i64 kd) ∧ w'.cell? ⟨w.heap.size, 1, none⟩ = some (.slice A n c) ∧ w'.cell? ⟨w.heap.size, 2, none⟩ = some (.int .u64 t) ∧ Below w2.heap.size w2 w')
    (first | (refine ⟨?_, ?_, ?_, ?_⟩ <;> first | assumption | exact (Below.refl _ _).drew | (go_keep; done)) | (go_split_ands; refine ⟨?_, ?_, ?_, ?_⟩ <;> first | exact cell_later (by assumption) (by assumption) | exact below_step (by assumption) (by assumption) (Below.size (by assumption))))
    (first | (go_at_call 13; refine (N1.out _).mono ?_; rintro e w' ⟨rfl, hbb⟩) | (go_at_call 14; refine (N2.out _).mono ?_; rintro e w' ⟨rfl, hbb⟩))
  rename_i hH
  obtain ⟨e0, e1, e2, hb3⟩ := hH
  have G : Calls Try.prog 15 #[.slice A1 (reqBytes kd l t).length cc] w' fun e w3 => ∃ v, e = .returned (.tuple #[.agg #[.int .i64 kd, v, .int .u64 (t : Int)], .int .i64 0]) ∧ w3.ownsRow w'.heap.size 5 1 v l.length (bys l) ∧ Below w'.heap.size w' w3 := by
    have G0 := reqget_any _ _ _ w' ⟨_, _, rfl, hr2.below hb3 (Nat.le_refl _)⟩
    rw [Hgr.out] at G0
    refine G0.mono ?_
    rintro e w3 ⟨v, he, ho, hb⟩
    have he' : e = .returned (.tuple #[.agg #[.int .i64 ((kd.toNat : Nat) : Int), v, .int .u64 (t : Int)], .int .i64 0]) := he
    rw [Hkd.out] at he'
    exact ⟨v, he', ho, hb⟩
  have BK3 := blk_below BK2 hb3 z2
  have HG := Lib.hid G
  clear G
  have hb23 := below_step hb2 hb3 hb2.size
  have z3 := blk_lt BK3
  clear hcv N1 N2 e0 e1 e2 d0 d1 d2 c0 c1 c2
  clear hbb
  go_wp2_with (first | (go_at_call 15; go_must (refine HG.out.mono ?_; rintro e w3 ⟨v, rfl, hown3, hb4⟩; obtain ⟨A3, c3, hvv, hr3⟩ := own_rd hown3; subst hvv; have BK4 := blk_below BK3 hb4 z3; have z4 := blk_lt BK4; have hb5 := below_step hb23 hb4 hb23.size)) | (go_at_call 10; go_must (refine (reqfixed _).mono ?_; rintro e w4 ⟨rfl, hb6⟩; have BX := blk_box hb6 (by simp); have BR := blk_below (blk_alloc BK4 _) hb6 (by simp; omega); have zx := blk_lt BX; have zr := blk_lt BR; obtain ⟨x0, x1, x2⟩ := blk_cells3 BX; obtain ⟨r0, r1, r2⟩ := blk_cells3 BR)) | (go_at_call 16; go_must (refine (same_any kd kd A3 A _ _ _ _ _ _ l l _ ((hr3.below ((Below.refl _ _).alloc (Nat.le_refl _) _) (Nat.le_refl _)).below hb6 (Nat.le_refl _)) (hv.below (below_step (hb5.alloc hb5.size _) hb6 (by have := hb5.size; simp; omega)) (Nat.le_refl _))).mono ?_; rintro e w5 ⟨rfl, hb7⟩)))
  go_ret
  have s5 := hb5.size
  have s6 := hb6.size
  simp at s6
  exact ⟨rfl, below_step (below_step (hb5.alloc hb5.size _) hb6 (by simp; omega)) hb7 (by omega)⟩

theorem puts_any (kd : Int) (A : Option Addr) (n c t : Nat) (l : List UInt8) (w : World) (hv : Rd w 1 n A c (bys l)) (ht : t < 18446744073709551616) :
    Calls Try.prog 4 #[.agg #[.int .i64 kd, .slice A n c, .int .u64 t]] w fun e w' => e = .returned (.bool true) ∧ Below w.heap.size w w' := by
  by_cases h : 5000 < n
  · exact puts_great kd A n c t w h
  · cases hm : mayReq kd n t with
    | false => exact puts_no kd A n c t w (by omega) hm
    | true => exact puts_yes kd A n c t l w (by omega) hm hv ht

end Go.Proofs.Ytnegjplfmggeoaa
