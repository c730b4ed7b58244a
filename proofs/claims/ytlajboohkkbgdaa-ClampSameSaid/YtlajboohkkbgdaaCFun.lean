/- clamp.right's and clamp.Fits' function values, and the library's ContainsFunc at them. No condition. -/
import Derived.Test.YtlajboohkkbgdaaMay
import Derived.Test.YtlajboohkkbgdaaRName
import Derived.Test.YtlajboohkkbgdaaRight
import Derived.Shelf.Abstract
namespace Go.Proofs.Ytlajboohkkbgdaa
open Go.RowKit
set_option linter.unusedSimpArgs false
set_option linter.unusedVariables false

set_option maxRecDepth 100000 in
set_option maxHeartbeats 4000000 in
theorem right1c_any (s : Sp) (w : World) : Calls Try.prog 30 #[.agg s.cells.toArray] w fun e w' => e = .returned (.bool (!mayP s)) ∧ Below w.heap.size w w' := by
  have HM := Lib.hid (fun W => may_any s W)
  obtain ⟨tr, id, pa, ki, ho, na, st, du⟩ := s
  generalize mayP ⟨tr, id, pa, ki, ho, na, st, du⟩ = r at HM
  have HM' : Hid (∀ W, Calls Try.prog 31 #[.agg #[.int .u64 tr, .int .u64 id, .int .u64 pa, .int .u8 ki, .string ho, .string na, .int .i64 st, .int .i64 du]] W fun e w' => e = .returned (.bool r) ∧ Below W.heap.size W w') := HM
  clear HM
  show Calls _ _ #[.agg #[.int .u64 tr, .int .u64 id, .int .u64 pa, .int .u8 ki, .string ho, .string na, .int .i64 st, .int .i64 du]] _ _
  go_enter Try.func30, Try.ntmps30
  go_wp2_with (go_at_call 31; go_must (refine (HM'.out _).mono ?_; rintro e w' ⟨rfl, hb⟩))
  go_ret
  exact ⟨rfl, ((Below.refl _ _).alloc (Nat.le_refl _) _).trans (hb.mono (by simp))⟩

/-- What IndexFunc answers. -/
def IdxAns (r : Bool) (e : Ending) : Prop := ∃ z : Int, e = .returned (.int .i64 z) ∧ (0 ≤ z ↔ r = true)

set_option maxRecDepth 100000 in
set_option maxHeartbeats 4000000 in
theorem index_span (g : Nat) (lb : Array Value) (p : Sp → Bool) (l : List Sp) (A : Option Addr) (c : Nat) (w : World) (hR : Rd w 8 l.length A c (spans l))
    (eg : ∀ args w, (callFunc g args).run Try.prog w = .ok (.enter g args) w)
    (hp : ∀ s W, Calls Try.prog g (#[.agg s.cells.toArray] ++ lb) W fun e w' => e = .returned (.bool (p s)) ∧ Below W.heap.size W w') :
    Calls Try.prog 40 #[.slice A l.length c, .func (.func g) #[] lb] w fun e w' => IdxAns (l.any p) e ∧ Below w.heap.size w w' := by
  have HR := Lib.hid hR
  have hn := hR.2.2.1
  have HP := Lib.hid hp
  clear hR hp
  go_enter Try.func40, Try.ntmps40
  go_wp2
  go_loopg [8] l.length (fun k s8 wr => ∃ i : Nat, i ≤ l.length ∧ l.length - i ≤ k ∧ s8 = .int .i64 i ∧ Aside (Below w.heap.size w wr ∧ (l.take i).any p = false))
  case atStart => exact ⟨0, Nat.zero_le _, by omega, rfl, Below.refl _ _, by simp⟩
  case round =>
    obtain ⟨i, hi, hk, rfl, hx⟩ := hrel
    rcases Nat.lt_or_ge i l.length with hlt | hge
    · obtain ⟨hb, hall⟩ := hx.out
      obtain ⟨b, o, rfl, hlb, hcc⟩ := HR.out.at_ (by omega)
      have hs : l[i]? = some l[i] := List.getElem?_eq_getElem hlt
      have hany : (l.take (i + 1)).any p = p l[i] := by
        rw [List.take_succ_eq_append_getElem hlt, List.any_append, hall]; simp
      have hany2 : p l[i] = true → l.any p = true := fun h => List.any_eq_true.2 ⟨_, List.getElem_mem hlt, h⟩
      generalize hsi : l[i] = s at hs hany hany2
      obtain ⟨c0, c1, c2, c3, c4, c5, c6, c7⟩ := span_cells hcc i s hs
      have k0 := (hb.cell (p := ⟨b, o + i * 8, none⟩) hlb).trans c0
      have k1 := (hb.cell (p := ⟨b, o + i * 8 + 1, none⟩) hlb).trans c1
      have k2 := (hb.cell (p := ⟨b, o + i * 8 + 2, none⟩) hlb).trans c2
      have k3 := (hb.cell (p := ⟨b, o + i * 8 + 3, none⟩) hlb).trans c3
      have k4 := (hb.cell (p := ⟨b, o + i * 8 + 4, none⟩) hlb).trans c4
      have k5 := (hb.cell (p := ⟨b, o + i * 8 + 5, none⟩) hlb).trans c5
      have k6 := (hb.cell (p := ⟨b, o + i * 8 + 6, none⟩) hlb).trans c6
      have k7 := (hb.cell (p := ⟨b, o + i * 8 + 7, none⟩) hlb).trans c7
      have HPs := Lib.hid (fun W => HP.out s W)
      have HX := Lib.hid (And.intro hb (And.intro hany hany2))
      clear hb hall hx hcc hs hsi c0 c1 c2 c3 c4 c5 c6 c7 hany hany2
      obtain ⟨tr, id, pa, ki, ho, na, st, du⟩ := s
      generalize p ⟨tr, id, pa, ki, ho, na, st, du⟩ = r at HPs HX
      have HPs' : Hid (∀ W, Calls Try.prog g (#[.agg #[.int .u64 tr, .int .u64 id, .int .u64 pa, .int .u8 ki, .string ho, .string na, .int .i64 st, .int .i64 du]] ++ lb) W fun e w' => e = .returned (.bool r) ∧ Below W.heap.size W w') := HPs
      clear HPs
      cases r with
      | true =>
        go_wp2_with (go_at_fn g; go_must (refine (HPs'.out _).mono ?_; rintro e w' ⟨rfl, hb2⟩))
        go_ret
        have h1 := HX.out.1
        exact ⟨⟨(i : Int), rfl, ⟨fun _ => HX.out.2.2 (by simp), fun _ => by omega⟩⟩, h1.trans (hb2.mono h1.size)⟩
      | false =>
        go_wp2_with (go_at_fn g; go_must (refine (HPs'.out _).mono ?_; rintro e w' ⟨rfl, hb2⟩))
        go_roundg (l.length - (i + 1))
        case measure => omega
        case rel =>
          have h1 := HX.out.1
          exact ⟨i + 1, by omega, Nat.le_refl _, by simp, h1.trans (hb2.mono h1.size), HX.out.2.1⟩
    · obtain rfl : i = l.length := by omega
      obtain ⟨hb, hall⟩ := hx.out
      rw [List.take_length] at hall
      have HX := Lib.hid (And.intro hb hall)
      clear hb hall hx
      go_wp2
      go_ret
      refine ⟨⟨-1, rfl, ?_⟩, HX.out.1⟩
      rw [HX.out.2]
      simp

set_option maxRecDepth 100000 in
theorem contains_span (g : Nat) (lb : Array Value) (p : Sp → Bool) (l : List Sp) (A : Option Addr) (c : Nat) (w : World) (hR : Rd w 8 l.length A c (spans l))
    (eg : ∀ args w, (callFunc g args).run Try.prog w = .ok (.enter g args) w)
    (hp : ∀ s W, Calls Try.prog g (#[.agg s.cells.toArray] ++ lb) W fun e w' => e = .returned (.bool (p s)) ∧ Below W.heap.size W w') :
    Calls Try.prog 29 #[.slice A l.length c, .func (.func g) #[] lb] w fun e w' => e = .returned (.bool (l.any p)) ∧ Below w.heap.size w w' := by
  have HI := Lib.hid (index_span g lb p l A c w hR eg hp)
  clear hR eg hp
  generalize l.any p = r at HI
  go_enter Try.func29, Try.ntmps29
  go_wp2_with (go_at_call 40; go_must (refine HI.out.mono ?_; rintro e w' ⟨⟨z, rfl, hz⟩, hb⟩; have HZ := Lib.hid hz; clear hz))
  go_ret
  refine ⟨?_, hb⟩
  cases r with
  | true => rw [show decide (0 ≤ z) = true from decide_eq_true (HZ.out.2 rfl)]; rfl
  | false => rw [show decide (0 ≤ z) = false from decide_eq_false (fun h => by simpa using HZ.out.1 h)]; rfl

theorem fits1_any (x : Int) (w : World) : Calls Try.prog 27 #[.int .i64 x] w fun e w' => e = .returned (.bool (decide (x < 0) || decide (1152921504606846976 ≤ x))) ∧ Below w.heap.size w w' := by
  rcases Int.lt_or_le x 0 with h | h
  · have t1 : decide (x < 0) = true := decide_eq_true h
    go_enter Try.func27, Try.ntmps27
    go_wp2
    go_ret
    exact ⟨by simp [t1], Below.refl _ _⟩
  · have t1 : decide (x < 0) = false := decide_eq_false (by omega)
    go_enter Try.func27, Try.ntmps27
    go_wp2
    go_ret
    exact ⟨by simp [t1], Below.refl _ _⟩

set_option maxRecDepth 100000 in
set_option maxHeartbeats 4000000 in
theorem index_i64 (g : Nat) (lb : Array Value) (p : Int → Bool) (l : List Int) (A : Option Addr) (c : Nat) (w : World) (hR : Rd w 1 l.length A c (ints l))
    (eg : ∀ args w, (callFunc g args).run Try.prog w = .ok (.enter g args) w)
    (hp : ∀ s W, Calls Try.prog g (#[.int .i64 s] ++ lb) W fun e w' => e = .returned (.bool (p s)) ∧ Below W.heap.size W w') :
    Calls Try.prog 37 #[.slice A l.length c, .func (.func g) #[] lb] w fun e w' => IdxAns (l.any p) e ∧ Below w.heap.size w w' := by
  have HR := Lib.hid hR
  have hn := hR.2.2.1
  have HP := Lib.hid hp
  clear hR hp
  go_enter Try.func37, Try.ntmps37
  go_wp2
  go_loopg [8] l.length (fun k s8 wr => ∃ i : Nat, i ≤ l.length ∧ l.length - i ≤ k ∧ s8 = .int .i64 i ∧ Aside (Below w.heap.size w wr ∧ (l.take i).any p = false))
  case atStart => exact ⟨0, Nat.zero_le _, by omega, rfl, Below.refl _ _, by simp⟩
  case round =>
    obtain ⟨i, hi, hk, rfl, hx⟩ := hrel
    rcases Nat.lt_or_ge i l.length with hlt | hge
    · obtain ⟨hb, hall⟩ := hx.out
      obtain ⟨b, o, rfl, hlb, hcc⟩ := HR.out.at_ (by omega)
      have hs : (ints l)[i]? = some (.int .i64 l[i]) := by simp [ints, List.getElem?_eq_getElem hlt]
      have hany : (l.take (i + 1)).any p = p l[i] := by
        rw [List.take_succ_eq_append_getElem hlt, List.any_append, hall]; simp
      have hany2 : p l[i] = true → l.any p = true := fun h => List.any_eq_true.2 ⟨_, List.getElem_mem hlt, h⟩
      generalize l[i] = s at hs hany hany2
      have k0 := (hb.cell (p := ⟨b, o + i, none⟩) hlb).trans (hcc i _ hs)
      have HPs := Lib.hid (fun W => HP.out s W)
      have HX := Lib.hid (And.intro hb (And.intro hany hany2))
      clear hb hall hx hcc hs hany hany2
      generalize p s = r at HPs HX
      cases r with
      | true =>
        go_wp2_with (go_at_fn g; go_must (refine (HPs.out _).mono ?_; rintro e w' ⟨rfl, hb2⟩))
        go_ret
        have h1 := HX.out.1
        exact ⟨⟨(i : Int), rfl, ⟨fun _ => HX.out.2.2 (by simp), fun _ => by omega⟩⟩, h1.trans (hb2.mono h1.size)⟩
      | false =>
        go_wp2_with (go_at_fn g; go_must (refine (HPs.out _).mono ?_; rintro e w' ⟨rfl, hb2⟩))
        go_roundg (l.length - (i + 1))
        case measure => omega
        case rel =>
          have h1 := HX.out.1
          exact ⟨i + 1, by omega, Nat.le_refl _, by simp, h1.trans (hb2.mono h1.size), HX.out.2.1⟩
    · obtain rfl : i = l.length := by omega
      obtain ⟨hb, hall⟩ := hx.out
      rw [List.take_length] at hall
      have HX := Lib.hid (And.intro hb hall)
      clear hb hall hx
      go_wp2
      go_ret
      refine ⟨⟨-1, rfl, ?_⟩, HX.out.1⟩
      rw [HX.out.2]
      simp

set_option maxRecDepth 100000 in
theorem contains_i64 (g : Nat) (lb : Array Value) (p : Int → Bool) (l : List Int) (A : Option Addr) (c : Nat) (w : World) (hR : Rd w 1 l.length A c (ints l))
    (eg : ∀ args w, (callFunc g args).run Try.prog w = .ok (.enter g args) w)
    (hp : ∀ s W, Calls Try.prog g (#[.int .i64 s] ++ lb) W fun e w' => e = .returned (.bool (p s)) ∧ Below W.heap.size W w') :
    Calls Try.prog 26 #[.slice A l.length c, .func (.func g) #[] lb] w fun e w' => e = .returned (.bool (l.any p)) ∧ Below w.heap.size w w' := by
  have HI := Lib.hid (index_i64 g lb p l A c w hR eg hp)
  clear hR eg hp
  generalize l.any p = r at HI
  go_enter Try.func26, Try.ntmps26
  go_wp2_with (go_at_call 37; go_must (refine HI.out.mono ?_; rintro e w' ⟨⟨z, rfl, hz⟩, hb⟩; have HZ := Lib.hid hz; clear hz))
  go_ret
  refine ⟨?_, hb⟩
  cases r with
  | true => rw [show decide (0 ≤ z) = true from decide_eq_true (HZ.out.2 rfl)]; rfl
  | false => rw [show decide (0 ≤ z) = false from decide_eq_false (fun h => by simpa using HZ.out.1 h)]; rfl

end Go.Proofs.Ytlajboohkkbgdaa
