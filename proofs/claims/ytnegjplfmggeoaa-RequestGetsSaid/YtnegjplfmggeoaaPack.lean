/- Contracts of layer 2's inner functions and of slices.Clone at bytes: count, there, Get, Put. Conditions: lengths as the form's reach gives them. -/
import Derived.Test.YtnegjplfmggeoaaBase
import Derived.Test.YtnegjplfmggeoaaPackP
namespace Go.Proofs.Ytnegjplfmggeoaa
open Go.RowKit
set_option linter.unusedSimpArgs false
set_option linter.unusedVariables false

theorem info_u8 : (Try.prog.info? 5).map (fun i => (i.zero, i.size, i.bytes)) = some (some (.int .u8 0), 1, 1) := by kernel_rfl

theorem count_any (n : Int) (w : World) : Calls Try.prog 28 #[.int .i64 n] w fun e w' => e = .returned (.int .i64 (min (max n 0) 8)) ∧ w = w' := by
  rcases Int.lt_or_le n 0 with h | h
  · rw [show min (max n 0) 8 = 0 by omega]
    go_enter Try.func28, Try.ntmps28
    go_wp2
    go_ret
    exact ⟨rfl, rfl⟩
  · rcases Int.lt_or_le 8 n with h8 | h8
    · rw [show min (max n 0) 8 = 8 by omega]
      go_enter Try.func28, Try.ntmps28
      go_wp2
      go_ret
      exact ⟨rfl, rfl⟩
    · rw [show min (max n 0) 8 = n by omega]
      go_enter Try.func28, Try.ntmps28
      go_wp2
      go_ret
      exact ⟨rfl, rfl⟩

theorem there_any (A : Option Addr) (n c : Nat) (i m : Int) (w : World) (hn : n ≤ 9223372036854775807) :
    Calls Try.prog 30 #[.slice A n c, .int .i64 i, .int .i64 m] w fun e w' => e = .returned (.bool (decide (0 ≤ i ∧ i ≤ n ∧ m ≤ n - i))) ∧ w = w' := by
  by_cases h0 : 0 ≤ i
  · by_cases h1 : i ≤ n
    · by_cases h2 : m ≤ n - i
      · rw [decide_eq_true ⟨h0, h1, h2⟩]
        go_enter Try.func30, Try.ntmps30
        go_wp2
        go_ret
        exact ⟨rfl, rfl⟩
      · rw [decide_eq_false (by omega)]
        go_enter Try.func30, Try.ntmps30
        go_wp2
        go_ret
        exact ⟨rfl, rfl⟩
    · rw [decide_eq_false (by omega)]
      go_enter Try.func30, Try.ntmps30
      go_wp2
      go_ret
      exact ⟨rfl, rfl⟩
  · rw [decide_eq_false (by omega)]
    go_enter Try.func30, Try.ntmps30
    go_wp2
    go_ret
    exact ⟨rfl, rfl⟩

/-- slices.Clone of bytes: new memory. -/
theorem clone_any (v : Value) (n : Nat) (l : List UInt8) (w : World) (hv : RdV w 1 n v (bys l)) (hn : n ≤ 140737488355328) :
    Calls Try.prog 24 #[v] w fun e w' => ∃ v', e = .returned v' ∧ w'.ownsRow w.heap.size 5 1 v' n (bys l) ∧ Below w.heap.size w w' := by
  obtain ⟨A, c, rfl, hr⟩ := hv
  have hr' := hr
  obtain ⟨h1, h2, h3, h4⟩ := hr
  have qT : ∀ (w : World), (binOp .eql 31 (.slice A n c) (.slice none 0 0)).run Try.prog w = .ok (.bool A.isNone) w := fun w => Lib.run_eql_slice_nil w _ _ _ _ _ _ _ Try.underlying31
  cases A with
  | none =>
    have hc0 : c = 0 := by
      rcases h4 with h4 | ⟨b, o, h4, _⟩
      · exact h4
      · cases h4
    subst hc0
    obtain rfl : n = 0 := by omega
    obtain rfl : l = [] := List.eq_nil_of_length_eq_zero (by simpa [bys] using h1)
    go_enter Try.func24, Try.ntmps24
    go_wp2
    go_ret
    exact ⟨_, rfl, ⟨by simp [bys], .inl ⟨rfl, rfl⟩⟩, Below.refl _ _⟩
  | some ad =>
    clear h4
    have hm := World.ownsRow_made (base := w.heap.size) (e := 5) (size := 1) w #[] 0 (Nat.le_refl _) (by simp [maxLen]) rfl
    go_enter Try.func24, Try.ntmps24
    go_wp2_with (at_builtin; refine append_rd rfl _ _ 31 rfl w.heap.size 5 (.int .u8 0) 1 1 Try.underlying31 info_u8 rfl (by omega) _ 0 [] rfl hm _ n (bys l) rfl ⟨_, _, rfl, hr'.below ((Below.refl _ _).alloc (Nat.le_refl _) _) (Nat.le_refl _)⟩ (bys_one l) (by omega) (by omega) (by simp) ?_; intro v' w1 hown hg hat hnil)
    go_ret
    exact ⟨v', rfl, by simpa using hown, ((Below.refl _ _).alloc (Nat.le_refl _) _).grown hg (by simp) (fun k hk => (hm.lt k hk).1)⟩

/-- pack.Put: the bytes, and behind them the number's; new memory. -/
theorem put_any (v : Value) (n : Nat) (l : List UInt8) (x : Nat) (m : Int) (k : Nat) (w : World) (hv : RdV w 1 n v (bys l)) (hn : n ≤ 140737488355320) (hk : min (max m 0) 8 = (k : Int)) :
    Calls Try.prog 22 #[v, .int .u64 x, .int .i64 m] w fun e w' => ∃ v', e = .returned v' ∧ w'.ownsRow w.heap.size 5 1 v' (n + k) (bys (l ++ leBytes x k)) ∧ Below w.heap.size w w' := by
  have hk8 : k ≤ 8 := by omega
  have K := count_any m
  rw [hk] at K
  clear hk
  go_enter Try.func22, Try.ntmps22
  go_wp2_with fail
  refine wp_scope_once 0 (fun a w2 => ∃ (j y : Nat) (v7 u9 u10 u11 u12 u13 u14 u15 u16 u17 u18 u19 u20 u21 u22 u23 u24 : Value), a = { tmps := #[v, .int .u64 y, .int .i64 m, undef, undef, undef, .slice none 0 0, v7, .int .i64 j, u9, u10, u11, u12, u13, u14, u15, u16, u17, u18, u19, u20, u21, u22, u23, u24], defers := [] } ∧ j ≤ k ∧ y = x / 256 ^ (k - j) ∧ w2.ownsRow w.heap.size 5 1 v7 (n + (k - j)) (bys (l ++ leBytes x (k - j))) ∧ Below w.heap.size w w2) (fun a _ => (intOf (a.tmps.getD 8 undef)).toNat) rfl ?pass ?first
  case first =>
    intro again
    go_wp2_with (first | (go_at_call 24; refine (clone_any v n l w hv (by omega)).mono ?_; rintro e w1 ⟨v1, rfl, hown, hb⟩) | (go_at_call 28; refine (K _).mono ?_; rintro e w' ⟨rfl, rfl⟩))
    go_step3
    rename_i hk
    refine hk _ _ (again _ _ ⟨k, x, v1, _, _, _, _, _, _, _, _, _, _, _, _, _, _, _, _, rfl, Nat.le_refl _, by simp, by simpa [leBytes] using hown, hb⟩)
  case pass =>
    rintro a w2 ⟨j, y, v7, u9, u10, u11, u12, u13, u14, u15, u16, u17, u18, u19, u20, u21, u22, u23, u24, rfl, hj, hy, hown, hb⟩
    have Hy := Lib.hid hy
    clear hy
    have hlen := hown.1
    rw [bys_length, Nat.mul_one] at hlen
    have Hlen := Lib.hid hlen
    clear hlen
    cases j with
    | zero =>
      go_wp2
      simp only [Exit.jump]
      go_ret
      exact ⟨v7, rfl, by simpa using hown, hb⟩
    | succ j =>
      go_wp2_with (at_builtin; go_must (refine append_one (w0 := w2) (B := w.heap.size) rfl _ _ 31 rfl w.heap.size 5 (.int .u8 0) 1 1 Try.underlying31 info_u8 rfl (by omega) v7 _ _ [_] rfl rfl hown rfl (by simp [Value.oneCell']) (by omega) (by omega) hb (Nat.le_refl _) hb.size ?_); intro v' w3 hown' hb' _ _)
      go_step3
      refine ⟨rfl, ⟨j, y / 256, v', _, _, _, _, _, _, _, _, _, _, _, _, _, _, _, _, rfl, by omega, ?_, ?_, hb'⟩, ?_⟩
      · rw [Hy.out, Nat.div_div_eq_div_mul, ← Nat.pow_succ]
        congr 2
        omega
      · have e1 : k - j = k - (j + 1) + 1 := by omega
        rw [e1, leBytes_snoc, ← List.append_assoc, bys_append, ← Hy.out]
        have e2 : bys [UInt8.ofNat y] = [.int .u8 ((y : Int) % 256)] := by
          simp [bys, UInt8.toNat_ofNat']
        rw [e2]
        exact hown'
      · simp [intOf]

theorem or_low (a : Nat) (b : UInt8) (h : a < 256 ^ 7) : bits BinOp.or IntKind.u64 ((a : Int) * 256) (IntKind.u64.wrap (b.toNat : Int)) = ((b.toNat + 256 * a : Nat) : Int) := by
  have hb := b.toNat_lt
  have hw : ∀ n : Int, 0 ≤ n → n < 2 ^ 64 → IntKind.u64.wrap n = n := by
    intro n h0 h1
    have h1' : n < 18446744073709551616 := by simpa using h1
    simp [IntKind.wrap, IntKind.bits, IntKind.signed]
    omega
  have ha : a < 72057594037927936 := by simpa using h
  rw [hw _ (by omega) (by simp; omega), bits_join .u64 64 (by decide) hw 8 _ _ (by omega) (by simp) (by simp; omega) (by omega) (by simp; omega) (by simp; omega)]
  omega

/-- pack.Get where the bytes are there. -/
theorem get_yes (v : Value) (n : Nat) (l : List UInt8) (i m : Int) (k : Nat) (w : World) (hv : RdV w 1 n v (bys l)) (h0 : 0 ≤ i) (hk : min (max m 0) 8 = (k : Int)) (h2 : (k : Int) ≤ n - i) :
    Calls Try.prog 25 #[v, .int .i64 i, .int .i64 m] w fun e w' => e = .returned (.tuple #[.int .u64 (leNat ((l.drop i.toNat).take k)), .bool true]) ∧ w = w' := by
  have hk8 : k ≤ 8 := by omega
  obtain ⟨q, rfl⟩ := Int.eq_ofNat_of_zero_le h0
  have hn := hv.len_le
  have K := count_any m
  rw [hk] at K
  clear hk h0
  simp only [Int.toNat_natCast]
  obtain ⟨A, c, rfl, hr⟩ := hv
  have hl : l.length = n := by simpa [bys] using hr.1
  have hq : q ≤ n := by omega
  rcases Nat.eq_zero_or_pos k with rfl | hk0
  · go_enter Try.func25, Try.ntmps25
    go_wp2_with (first | (go_at_call 28; refine (K _).mono ?_; rintro e w' ⟨rfl, rfl⟩) | (go_at_call 30; refine (there_any _ _ _ _ _ _ hn).mono ?_; rintro e w' ⟨rfl, rfl⟩))
    refine wp_loop_once ?_
    go_wp2
    go_ret2
    exact ⟨by simp [leNat], rfl⟩
  · obtain ⟨b, o, rfl, hlt, hc⟩ := hr.at_ (by omega)
    clear hr
    go_enter Try.func25, Try.ntmps25
    go_wp2_with (first | (go_at_call 28; refine (K _).mono ?_; rintro e w' ⟨rfl, rfl⟩) | (go_at_call 30; refine (there_any _ _ _ _ _ _ hn).mono ?_; rintro e w' ⟨rfl, rfl⟩))
    go_loop [9, 10] (fun v i => ∃ j : Nat, j ≤ k ∧ i = .int .i64 ((j : Int) - 1) ∧ v = .int .u64 (leNat ((l.drop (q + j)).take (k - j)) : Nat)) (fun _ i => (intOf i + 1).toNat)
    case atStart => exact ⟨k, Nat.le_refl _, rfl, by simp [leNat]⟩
    case round =>
      obtain ⟨j, hj, rfl, rfl⟩ := hrel
      cases j with
      | zero =>
        go_wp2
        go_ret2
        exact ⟨by simp, rfl⟩
      | succ j =>
        have hcell := hc (q + j) _ (bys_at l (q + j) (by omega))
        have hlt := leNat_lt ((l.drop (q + (j + 1))).take (k - (j + 1))) 7 (by simp; omega)
        clear hc
        go_wp2
        refine ⟨⟨j, by omega, rfl, ?_⟩, by simp [intOf]⟩
        have e1 : (l.drop (q + j)).take (k - j) = l.getD (q + j) 0 :: (l.drop (q + (j + 1))).take (k - (j + 1)) := by
          rw [show k - j = k - (j + 1) + 1 by omega, List.drop_eq_getElem_cons (by omega : q + j < l.length), List.take_succ_cons, Nat.add_assoc]
          simp [List.getD_eq_getElem?_getD, List.getElem?_eq_getElem (by omega : q + j < l.length)]
        rw [e1, leNat, ← or_low _ _ hlt]
        simp

/-- pack.Get where they aren't. -/
theorem get_no (v : Value) (n : Nat) (l : List UInt8) (i m : Int) (w : World) (hv : RdV w 1 n v (bys l)) (h : ¬ (0 ≤ i ∧ i ≤ n ∧ min (max m 0) 8 ≤ n - i)) :
    Calls Try.prog 25 #[v, .int .i64 i, .int .i64 m] w fun e w' => e = .returned (.tuple #[.int .u64 0, .bool false]) ∧ w = w' := by
  have hn := hv.len_le
  have K := count_any m
  obtain ⟨A, c, rfl, hr⟩ := hv
  have T := there_any A n c i (min (max m 0) 8) w hn
  rw [decide_eq_false h] at T
  clear hr h
  generalize min (max m 0) 8 = k at K T
  go_enter Try.func25, Try.ntmps25
  go_wp2_with (first | (go_at_call 28; refine (K _).mono ?_; rintro e w' ⟨rfl, rfl⟩) | (go_at_call 30; refine T.mono ?_; rintro e w' ⟨rfl, rfl⟩))
  go_ret2
  exact ⟨rfl, rfl⟩

end Go.Proofs.Ytnegjplfmggeoaa
