/- Contracts of the reference of layer 2: Count, Put, Get. Conditions: lengths as the form's reach gives them. -/
import Derived.Test.YtnegjplfmggeoaaPack
namespace Go.Proofs.Ytnegjplfmggeoaa
open Go.RowKit
set_option linter.unusedSimpArgs false
set_option linter.unusedVariables false

theorem rcount_any (n : Int) (w : World) : Calls Try.prog 29 #[.int .i64 n] w fun e w' => e = .returned (.int .i64 (min (max n 0) 8)) ∧ w = w' := by
  rcases Int.lt_or_le n 0 with h | h
  · rw [show min (max n 0) 8 = 0 by omega]
    go_enter Try.func29, Try.ntmps29
    go_wp2
    go_ret
    exact ⟨rfl, rfl⟩
  · rcases Int.lt_or_le 8 n with h8 | h8
    · rw [show min (max n 0) 8 = 8 by omega]
      go_enter Try.func29, Try.ntmps29
      go_wp2
      go_ret
      exact ⟨rfl, rfl⟩
    · rw [show min (max n 0) 8 = n by omega]
      go_enter Try.func29, Try.ntmps29
      go_wp2
      go_ret
      exact ⟨rfl, rfl⟩

theorem rput_any (x : Nat) (m : Int) (k : Nat) (w : World) (hx : x < 18446744073709551616) (hk : min (max m 0) 8 = (k : Int)) :
    Calls Try.prog 23 #[.int .u64 x, .int .i64 m] w fun e w' => e = .returned (.string (S (leBytes x k))) ∧ Below w.heap.size w w' := by
  have hk8 : k ≤ 8 := by omega
  have Hx := Lib.hid hx
  clear hx
  have K := rcount_any m
  rw [hk] at K
  clear hk
  go_enter Try.func23, Try.ntmps23
  go_wp2
  go_loopw [0, 5, 6] (fun n s i wr => ∃ (j y : Nat), j ≤ k ∧ i = .int .i64 j ∧ n = .int .u64 (y : Int) ∧ s = .string (S (leBytes x j)) ∧ Hid (y = x / 256 ^ j) ∧ Below w.heap.size w wr) (fun _ _ i _ => k - (intOf i).toNat)
  case atStart => exact ⟨0, x, Nat.zero_le _, rfl, rfl, rfl, by simp [Hid], Below.refl _ _⟩
  case round =>
    obtain ⟨j, y, hj, rfl, rfl, rfl, hy, hb⟩ := hrel
    rcases Nat.lt_or_ge j k with hlt | hge
    · have hsz : ¬ 9223372036854775807 < (S (leBytes x j)).size + (S [UInt8.ofNat y]).size := by
        rw [S_size, S_size, leBytes_length]
        simp
        omega
      go_wp2_with (first | (go_at_call 29; refine (K _).mono ?_; rintro e w' ⟨rfl, rfl⟩) | ((with_reducible refine gate 18 rfl ?_); go_must (refine conv_one (w0 := wr) rfl 31 9 5 _ rfl Try.underlying31 Try.underlying5 Try.underlying9 (UInt8.ofNat y) _ (by simp [UInt8.toNat_ofNat']) rfl ?_)))
      have hy' := hy.out
      have hxx := Hx.out
      have hle : y ≤ x := by rw [hy']; exact Nat.div_le_self _ _
      rw [wrap_u64 _ (by omega) (by omega), S_append]
      refine ⟨⟨j + 1, y / 256, by omega, rfl, by simp, ?_, ?_, hb.alloc hb.size _⟩, by simp [intOf]; omega⟩
      · rw [leBytes_snoc, ← hy']
      · show y / 256 = _
        rw [hy', Nat.div_div_eq_div_mul, ← Nat.pow_succ]
    · go_wp2_with (go_at_call 29; refine (K _).mono ?_; rintro e w' ⟨rfl, rfl⟩)
      go_ret
      obtain rfl : j = k := by omega
      exact ⟨rfl, hb⟩

theorem S_get (l : List UInt8) (i : Nat) (h : i < (S l).size) : (S l)[i]'h = l[i]'(by rwa [S_size] at h) := by
  simp [S, ByteArray.getElem_eq_getElem_data]

theorem S_extract (l : List UInt8) (a b : Nat) : (S l).extract a b = S ((l.drop a).take (b - a)) := by
  apply ByteArray.ext
  simp [S, List.extract]

theorem le_round (j y z b : Nat) (hj : j < 8) (hy : y < 256 ^ j) (hz : z = 256 ^ j % 18446744073709551616) (hb : b < 256) :
    IntKind.u64.wrap ((y : Int) + IntKind.u64.wrap ((z : Int) * IntKind.u64.wrap (b : Int))) = ((y + 256 ^ j * b : Nat) : Int) ∧ IntKind.u64.wrap ((z : Int) * 256) = ((256 ^ (j + 1) % 18446744073709551616 : Nat) : Int) := by
  have hw : ∀ n : Int, IntKind.u64.wrap n = n % 18446744073709551616 := by
    intro n
    simp [IntKind.wrap, IntKind.bits, IntKind.signed]
  simp only [hw]
  have : j = 0 ∨ j = 1 ∨ j = 2 ∨ j = 3 ∨ j = 4 ∨ j = 5 ∨ j = 6 ∨ j = 7 := by omega
  rcases this with rfl | rfl | rfl | rfl | rfl | rfl | rfl | rfl <;> simp at hz hy <;> subst hz <;> simp <;> omega

/-- The reference's Get where the bytes are there. -/
theorem rget_yes (l : List UInt8) (i m : Int) (k : Nat) (w : World) (hl : l.length ≤ 9223372036854775807) (h0 : 0 ≤ i) (hk : min (max m 0) 8 = (k : Int)) (h2 : (k : Int) ≤ l.length - i) :
    Calls Try.prog 26 #[.string (S l), .int .i64 i, .int .i64 m] w fun e w' => e = .returned (.tuple #[.int .u64 (leNat ((l.drop i.toNat).take k)), .bool true]) ∧ w = w' := by
  have hk8 : k ≤ 8 := by omega
  obtain ⟨q, rfl⟩ := Int.eq_ofNat_of_zero_le h0
  have K := rcount_any m
  rw [hk] at K
  clear hk h0
  simp only [Int.toNat_natCast]
  obtain ⟨n, hn⟩ : ∃ n, n = l.length := ⟨_, rfl⟩
  have hs : (S l).size = n := by rw [S_size, hn]
  rw [← hn] at h2 hl
  have Hn := Lib.hid hn
  clear hn
  have hq : q ≤ n := by omega
  have hq0 : decide ((q : Int) < 0) = false := by simp
  have hq1 : decide (n < q) = false := by simp; omega
  have hq2 : decide ((n : Int) - (q : Int) < (k : Int)) = false := by simp; omega
  go_enter Try.func26, Try.ntmps26
  go_wp2_with (go_at_call 29; refine (K _).mono ?_; rintro e w' ⟨rfl, rfl⟩)
  clear hq0 hq1 hq2
  go_loop [9, 10, 11] (fun v t i => ∃ (j y z : Nat), j ≤ k ∧ i = .int .i64 j ∧ v = .int .u64 (y : Int) ∧ t = .int .u64 (z : Int) ∧ Hid (y = leNat ((l.drop q).take j)) ∧ Hid (z = 256 ^ j % 18446744073709551616)) (fun _ _ i => k - (intOf i).toNat)
  case atStart => exact ⟨0, 0, 1, Nat.zero_le _, rfl, rfl, rfl, by simp [Hid, leNat], by simp [Hid]⟩
  case round =>
    obtain ⟨j, y, z, hj, rfl, rfl, rfl, hy, hz⟩ := hrel
    rcases Nat.lt_or_ge j k with hlt | hge
    · go_wp2
      have hy' := hy.out
      have hz' := hz.out
      have hn' := Hn.out
      have hb := ((S l)[q + j]'(by omega)).toNat_lt
      have hyl := leNat_lt ((l.drop q).take j) j (by simp; omega)
      rw [← hy'] at hyl
      have hj8 : j < 8 := by omega
      have hlen : j < (l.drop q).length := by simp; omega
      have hst := leNat_take_succ (l.drop q) j hlen
      have hget : (S l)[q + j]'(by omega) = (l.drop q)[j] := by rw [S_get]; simp
      obtain ⟨e1, e2⟩ := le_round j y z _ hj8 hyl hz' hb
      rw [e1, e2]
      refine ⟨⟨j + 1, _, _, by omega, rfl, rfl, rfl, ?_, rfl⟩, by simp [intOf]; omega⟩
      show _ = _
      rw [hst, hget, hy']
    · go_wp2
      go_ret2
      obtain rfl : j = k := by omega
      exact ⟨by rw [← hy.out]; rfl, rfl⟩

/-- The reference's Get where they aren't. -/
theorem rget_no (l : List UInt8) (i m : Int) (w : World) (hl : l.length ≤ 9223372036854775807) (h : ¬ (0 ≤ i ∧ i ≤ l.length ∧ min (max m 0) 8 ≤ l.length - i)) :
    Calls Try.prog 26 #[.string (S l), .int .i64 i, .int .i64 m] w fun e w' => e = .returned (.tuple #[.int .u64 0, .bool false]) ∧ w = w' := by
  have K := rcount_any m
  obtain ⟨n, hn⟩ : ∃ n, n = l.length := ⟨_, rfl⟩
  have hs : (S l).size = n := by rw [S_size, hn]
  rw [← hn] at h hl
  clear hn
  generalize min (max m 0) 8 = k at K h
  by_cases h0 : i < 0
  · go_enter Try.func26, Try.ntmps26
    go_wp2_with (go_at_call 29; refine (K _).mono ?_; rintro e w' ⟨rfl, rfl⟩)
    go_ret2
    exact ⟨rfl, rfl⟩
  · by_cases h1 : (n : Int) < i
    · go_enter Try.func26, Try.ntmps26
      go_wp2_with (go_at_call 29; refine (K _).mono ?_; rintro e w' ⟨rfl, rfl⟩)
      go_ret2
      exact ⟨rfl, rfl⟩
    · have h2 : (n : Int) - i < k := by omega
      go_enter Try.func26, Try.ntmps26
      go_wp2_with (go_at_call 29; refine (K _).mono ?_; rintro e w' ⟨rfl, rfl⟩)
      go_ret2
      exact ⟨rfl, rfl⟩

end Go.Proofs.Ytnegjplfmggeoaa
