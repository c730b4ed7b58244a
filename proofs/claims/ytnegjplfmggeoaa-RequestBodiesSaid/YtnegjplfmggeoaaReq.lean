/- Contracts of layer 23 and of its reference. Conditions: lengths as the form's reach gives them. -/
import Derived.Test.YtnegjplfmggeoaaRefPack
import Derived.Test.YtnegjplfmggeoaaReqP
namespace Go.Proofs.Ytnegjplfmggeoaa
open Go.RowKit
set_option linter.unusedSimpArgs false
set_option linter.unusedVariables false

theorem may_any (kd : Int) (A : Option Addr) (n c t : Nat) (w : World) :
    Calls Try.prog 13 #[.agg #[.int .i64 kd, .slice A n c, .int .u64 t]] w fun e w' => e = .returned (.bool (mayReq kd n t)) ∧ Below w.heap.size w w' := by
  go_enter Try.func13, Try.ntmps13
  go_wp2
  all_goals
    go_ret
    refine ⟨congrArg (fun b => Ending.returned (.bool b)) ?_, (Below.refl _ _).alloc (Nat.le_refl _) _⟩
    try simp only [beq_iff_eq, beq_eq_false_iff_ne, bne_iff_ne, bne_eq_false_iff_eq, ne_eq] at *
    rw [Bool.eq_iff_iff]
    simp [mayReq]
    try omega

set_option maxRecDepth 100000 in
theorem rmay_any (kd : Int) (A : Option Addr) (n c t : Nat) (w : World) :
    Calls Try.prog 14 #[.agg #[.int .i64 kd, .slice A n c, .int .u64 t]] w fun e w' => e = .returned (.bool (mayReq kd n t)) ∧ Below w.heap.size w w' := by
  go_enter Try.func14, Try.ntmps14
  go_wp2
  all_goals
    go_ret
    refine ⟨congrArg (fun b => Ending.returned (.bool b)) ?_, (Below.refl _ _).alloc (Nat.le_refl _) _⟩
    try simp only [beq_iff_eq, beq_eq_false_iff_ne, bne_iff_ne, bne_eq_false_iff_eq, ne_eq] at *
    rw [Bool.eq_iff_iff]
    simp [mayReq]
    try omega

theorem put_no (kd : Int) (A : Option Addr) (n c t : Nat) (w : World) (h : mayReq kd n t = false) :
    Calls Try.prog 11 #[.agg #[.int .i64 kd, .slice A n c, .int .u64 t]] w fun e w' => e = .returned (.tuple #[.slice none 0 0, .int .i64 1]) ∧ Below w.heap.size w w' := by
  go_enter Try.func11, Try.ntmps11
  go_wp2_with (go_at_call 13; go_must (refine (may_any _ _ _ _ _ _).mono ?_); rintro e w1 ⟨rfl, hb⟩)
  go_ret2
  exact ⟨rfl, below_step ((Below.refl _ _).alloc (Nat.le_refl _) _) hb (by simp)⟩

theorem put_yes (kd : Int) (A : Option Addr) (n c t : Nat) (l : List UInt8) (w : World) (h : mayReq kd n t = true) (hv : Rd w 1 n A c (bys l)) :
    Calls Try.prog 11 #[.agg #[.int .i64 kd, .slice A n c, .int .u64 t]] w fun e w' => ∃ v, e = .returned (.tuple #[v, .int .i64 0]) ∧ w'.ownsRow w.heap.size 5 1 v (reqBytes kd l t).length (bys (reqBytes kd l t)) ∧ Below w.heap.size w w' := by
  have hm := Lib.hid h
  have hn : n ≤ 4096 := by simp [mayReq] at h; omega
  have hk : 0 ≤ kd ∧ kd ≤ 5 := by simp [mayReq] at h; omega
  obtain ⟨hk0, hk5⟩ := hk
  have hwr : IntKind.u8.wrap kd = kd := by rw [IntKind.wrap_u8]; omega
  have hlen : l.length = n := by simpa [bys] using hv.1
  have hkb : bys (UInt8.ofNat kd.toNat :: l) = [.int .u8 kd] ++ bys l := by
    have : ((UInt8.ofNat kd.toNat).toNat : Int) = kd := by rw [UInt8.toNat_ofNat']; omega
    show Value.int .u8 ((UInt8.ofNat kd.toNat).toNat : Int) :: bys l = _
    rw [this]
    rfl
  have Hkb := Lib.hid hkb
  clear hkb
  go_enter Try.func11, Try.ntmps11
  go_wp2_with (first | (go_at_call 13; go_must (refine (may_any _ _ _ _ _ _).mono ?_); rintro e w1 ⟨rfl, hb⟩; have BK := blk_box hb (by simp); have z1 := blk_lt BK; obtain ⟨c0, c1, c2⟩ := blk_cells3 BK; have hb1 := below_step ((Below.refl _ _).alloc (Nat.le_refl _) _) hb (by simp); have ho := World.ownsRow_lit (base := w.heap.size) (e := 5) (size := 1) w1 #[.int .u8 kd] 1 hb1.size (by simp [maxLen]) rfl) | (at_builtin; go_must (refine append_rd rfl _ _ 31 rfl w.heap.size 5 (.int .u8 0) 1 1 Try.underlying31 info_u8 rfl (by omega) (.slice (some ⟨w1.heap.size, 0, none⟩) 1 1) 1 _ rfl ho (.slice A n c) n (bys l) rfl ⟨_, _, rfl, hv.below (hb1.alloc hb1.size _) (Nat.le_refl _)⟩ (bys_one l) (by omega) (by omega) (by simp; omega) ?_; intro v1 w2 hown hg _ _; have BK2 := blk_grown (blk_alloc BK _) hg (by simp [Value.ownBlock]; omega); have z2 := blk_lt BK2; obtain ⟨d0, d1, d2⟩ := blk_cells3 BK2; have hb2 := (hb1.alloc hb1.size _).grown hg (by simp; omega) (fun k hk => (ho.lt k hk).1))) | (go_at_call 22; go_must (refine (put_any v1 (1 + n) (UInt8.ofNat kd.toNat :: l) t 8 8 w2 (by rw [Hkb.out]; exact own_rd hown) (by omega) (by decide)).mono ?_; rintro e w3 ⟨v3, rfl, hown3, hb3⟩)))
  · go_ret2
    rename_i h4
    have h4 : kd = 4 := by simpa using h4
    refine ⟨v3, rfl, ?_, below_step hb2 hb3 hb2.size⟩
    have e1 : reqBytes kd l t = (UInt8.ofNat kd.toNat :: l) ++ leBytes t 8 := by
      simp [reqBytes, h4]
    rw [e1]
    have e2 : ((UInt8.ofNat kd.toNat :: l) ++ leBytes t 8).length = 1 + n + 8 := by
      simp [leBytes_length, hlen]; omega
    rw [e2]
    exact own_base hown3 hb2.size
  · go_ret2
    rename_i h4
    have h4 : kd ≠ 4 := by simpa using h4
    refine ⟨v1, rfl, ?_, hb2⟩
    have e1 : reqBytes kd l t = UInt8.ofNat kd.toNat :: l := by simp [reqBytes, h4]
    rw [e1, Hkb.out]
    have e2 : (UInt8.ofNat kd.toNat :: l).length = 1 + n := by simp [hlen]; omega
    rw [e2]
    exact hown

theorem rput_no (kd : Int) (A : Option Addr) (n c t : Nat) (w : World) (h : mayReq kd n t = false) :
    Calls Try.prog 12 #[.agg #[.int .i64 kd, .slice A n c, .int .u64 t]] w fun e w' => e = .returned (.tuple #[.string (S []), .int .i64 1]) ∧ Below w.heap.size w w' := by
  go_enter Try.func12, Try.ntmps12
  go_wp2_with (go_at_call 14; go_must (refine (rmay_any _ _ _ _ _ _).mono ?_); rintro e w1 ⟨rfl, hb⟩)
  go_ret2
  exact ⟨rfl, below_step ((Below.refl _ _).alloc (Nat.le_refl _) _) hb (by simp)⟩

theorem rput_yes (kd : Int) (A : Option Addr) (n c t : Nat) (l : List UInt8) (w : World) (h : mayReq kd n t = true) (hv : Rd w 1 n A c (bys l)) (ht : t < 18446744073709551616) :
    Calls Try.prog 12 #[.agg #[.int .i64 kd, .slice A n c, .int .u64 t]] w fun e w' => e = .returned (.tuple #[.string (S (reqBytes kd l t)), .int .i64 0]) ∧ Below w.heap.size w w' := by
  have hm := Lib.hid h
  have hn : n ≤ 4096 := by simp [mayReq] at h; omega
  have hk : 0 ≤ kd ∧ kd ≤ 5 := by simp [mayReq] at h; omega
  obtain ⟨hk0, hk5⟩ := hk
  have Ht := Lib.hid ht
  clear ht
  obtain ⟨q, rfl⟩ := Int.eq_ofNat_of_zero_le hk0
  have hwr : IntKind.u64.wrap (q : Int) = q := wrap_u64 _ (by omega) (by omega)
  have hlen : l.length = n := by simpa [bys] using hv.1
  go_enter Try.func12, Try.ntmps12
  go_wp2_with (first | (go_at_call 14; go_must (refine (rmay_any _ _ _ _ _ _).mono ?_; rintro e w1 ⟨rfl, hb⟩; have BK := blk_box hb (by simp); have z1 := blk_lt BK; obtain ⟨c0, c1, c2⟩ := blk_cells3 BK; have hb1 := below_step ((Below.refl _ _).alloc (Nat.le_refl _) _) hb (by simp))))
  have hsz : ¬ 9223372036854775807 < (S (leBytes q 1)).size + (S l).size := by rw [S_size, S_size, leBytes_length]; omega
  have hconv : ∀ w', Below w1.heap.size w1 w' → (convert 31 9 (.slice A n c)).run Try.prog w' = .ok (.string (S l)) w' := fun w' hw' => run_conv_rd Try.underlying31 Try.underlying5 Try.underlying9 ⟨_, _, rfl, (hv.below hb1 (Nat.le_refl _)).below hw' (Nat.le_refl _)⟩
  go_region_held3 (fun w' => w'.cell? ⟨w.heap.size, 0, none⟩ = some (.int .i64 q) ∧ w'.cell? ⟨w.heap.size, 1, none⟩ = some (.slice A n c) ∧ Below w1.heap.size w1 w')
    (first | (refine ⟨?_, ?_, ?_⟩ <;> first | assumption | exact (Below.refl _ _).drew | (go_keep; done)) | (go_split_ands; refine ⟨?_, ?_, ?_⟩ <;> first | exact cell_later (by assumption) (by assumption) | exact below_step (by assumption) (by assumption) (Below.size (by assumption))))
    (first | (go_at_call 23; refine (rput_any q 1 1 _ (by omega) (by decide)).mono ?_; rintro e w' ⟨rfl, hbb⟩))
  rename_i hH
  obtain ⟨d0, d1, hb2⟩ := hH
  clear hsz
  have hsz : ¬ 9223372036854775807 < (S (leBytes q 1) ++ S l).size + (S (leBytes t 8)).size := by rw [S_append, S_size, S_size, List.length_append, leBytes_length, leBytes_length]; omega
  have BK2 := blk_below BK hb2 z1
  have z2 := blk_lt BK2
  have d2 := (blk_cells3 BK2).2.2
  have e1 : leBytes q 1 = [UInt8.ofNat q] := rfl
  clear hconv hb BK BK2
  have E1 := Lib.hid e1
  clear e1
  go_wp2_with (go_at_call 23; go_must (refine (rput_any t 8 8 _ Ht.out (by decide)).mono ?_; rintro e w3 ⟨rfl, hb3⟩))
  · go_ret2
    rename_i h4
    have h4 : (q : Int) = 4 := by simpa using h4
    refine ⟨?_, below_step (below_step hb1 hb2 hb1.size) hb3 (by have := hb1.size; have := hb2.size; omega)⟩
    have e2 : S (leBytes q 1) ++ S l ++ S (leBytes t 8) = S (reqBytes q l t) := by
      rw [S_append, S_append, E1.out]
      obtain rfl : q = 4 := by omega
      simp [reqBytes]
    rw [← e2]
    rfl
  · go_ret2
    rename_i h4
    have h4 : (q : Int) ≠ 4 := by simpa using h4
    refine ⟨?_, below_step hb1 hb2 hb1.size⟩
    have e2 : S (leBytes q 1) ++ S l = S (reqBytes q l t) := by
      rw [S_append, E1.out]
      simp [reqBytes, h4]
    rw [← e2]
    rfl

/-- Two requests held against each other: bodies by their bytes. -/
theorem same_any (k1 k2 : Int) (A1 A2 : Option Addr) (n1 c1 t1 n2 c2 t2 : Nat) (l1 l2 : List UInt8) (w : World) (h1 : Rd w 1 n1 A1 c1 (bys l1)) (h2 : Rd w 1 n2 A2 c2 (bys l2)) :
    Calls Try.prog 16 #[.agg #[.int .i64 k1, .slice A1 n1 c1, .int .u64 t1], .agg #[.int .i64 k2, .slice A2 n2 c2, .int .u64 t2]] w fun e w' => e = .returned (.bool (decide (k1 = k2 ∧ t1 = t2 ∧ l1 = l2))) ∧ Below w.heap.size w w' := by
  have hc1 : ∀ o1 o2, (convert 31 9 (.slice A1 n1 c1)).run Try.prog ((w.alloc o1).alloc o2) = .ok (.string (S l1)) ((w.alloc o1).alloc o2) := fun o1 o2 => run_conv_rd Try.underlying31 Try.underlying5 Try.underlying9 ⟨_, _, rfl, h1.below (((Below.refl _ _).alloc (Nat.le_refl _) _).alloc (by simp) _) (Nat.le_refl _)⟩
  have hc2 : ∀ o1 o2, (convert 31 9 (.slice A2 n2 c2)).run Try.prog ((w.alloc o1).alloc o2) = .ok (.string (S l2)) ((w.alloc o1).alloc o2) := fun o1 o2 => run_conv_rd Try.underlying31 Try.underlying5 Try.underlying9 ⟨_, _, rfl, h2.below (((Below.refl _ _).alloc (Nat.le_refl _) _).alloc (by simp) _) (Nat.le_refl _)⟩
  go_enter Try.func16, Try.ntmps16
  go_wp2
  all_goals
    go_ret
    refine ⟨congrArg (fun b => Ending.returned (.bool b)) ?_, ((Below.refl _ _).alloc (Nat.le_refl _) _).alloc (by simp) _⟩
    try simp only [S_toList]
    rw [Bool.eq_iff_iff]
    simp
    try omega
  rename_i e1 e2
  exact ⟨fun h => ⟨e1, by omega, h⟩, fun h => h.2.2⟩

end Go.Proofs.Ytnegjplfmggeoaa
