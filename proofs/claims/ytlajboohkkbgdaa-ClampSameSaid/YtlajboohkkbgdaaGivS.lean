/- clamp.Starts as a Lean function, with its contract in the print's shape. Conditions: those stated in the function. -/
import Derived.Test.YtlajboohkkbgdaaCStarts
namespace Go.Proofs.Ytlajboohkkbgdaa
open Go.RowKit
open Go.Proofs.YtlajboohkkbgdaaX (SP spOf)
set_option maxRecDepth 100000 in
theorem cstarts_no (l : List SP) (P : List Int) (A B : Option Addr) (c d : Nat) (w : World) (hl : Rd w 8 (l.map spOf).length A c (spans (l.map spOf))) (hP : Rd w 1 P.length B d (ints P)) (hB : ∀ ad, B = some ad → 0 < P.length → ad.block < w.heap.size) (hn : P.length ≤ 4294967296)
    (hr : rightB (l.map spOf) P = false) :
    Calls Try.prog 10 #[.slice A l.length c, .slice B P.length d] w fun e w' => e = .returned (.tuple #[.slice none 0 0, .bool false]) ∧ Below w.heap.size w w' := by
  have HR := Lib.hid (cright_any (l.map spOf) P A B c d w hl hP hB (by omega))
  rw [hr, List.length_map] at HR
  clear hl hP hB hr
  go_enter Try.func10, Try.ntmps10
  go_wp2_with (go_at_call 19; go_must (refine HR.out.mono ?_; rintro e w1 ⟨rfl, hb1⟩))
  go_ret2
  exact ⟨rfl, hb1⟩
end Go.Proofs.Ytlajboohkkbgdaa
namespace Go.Proofs.YtlajboohkkbgdaaX
open Go.RowKit Go.Proofs.YtlajboohkkbgdaaW.PrintWords Go.Proofs.YtlajboohkkbgdaaW.PrintLast Go.Proofs.YtlajboohkkbgdaaW.PrintMore

theorem R_ints {w : World} {base e : Nat} {v : Value} {xs : List Int} {n : Nat} (hn : n = xs.length) (h : w.ownsRow base e 1 v n (Go.Proofs.Ytlajboohkkbgdaa.ints xs)) : Kd.R (Kd.int .i64) e w base (fun _ => True) v xs := by
  subst hn
  refine Go.Proofs.Ytlajboohkkbgdaa.R_of_owns (d := Kd.int .i64) (fun x => [.int .i64 x]) (fun _ => rfl) (fun x ok => rfl) ?_
  rw [Go.Proofs.Ytlajboohkkbgdaa.flat_one]
  exact h

def clamp_Starts.f (l0 : List SP) (l1 : List Int) : Option (List Int × Bool) := if l1.length ≤ 4294967296 then some (if Go.Proofs.Ytlajboohkkbgdaa.rightB (l0.map spOf) l1 then (Go.Proofs.Ytlajboohkkbgdaa.startsL l0 l1, true) else ([], false)) else none
theorem clamp_Starts.calls (A0 : Option Addr) (c0 : Nat) (l0 : List (S34)) (A1 : Option Addr) (c1 : Nat) (l1 : List Int) (r1 : List Int) (r2 : Bool) (w : World) (hr0 : Kd.C k34 w A0 l0.length l0) (hc0 : l0.length ≤ c0) (hr1 : Kd.C (Kd.int .i64) w A1 l1.length l1) (hc1 : l1.length ≤ c1) (h : clamp_Starts.f l0 l1 = some (r1, r2)) :
    Calls Try.prog 10 #[.slice A0 l0.length c0, .slice A1 l1.length c1] w fun e w' => ∃ v0_ : Value, e = .returned (.tuple #[v0_, .bool r2]) ∧ Kd.R (Kd.int .i64) 2 w' w.heap.size (fun _ => True) v0_ r1 ∧ Below w.heap.size w w' := by
  unfold clamp_Starts.f at h
  split at h
  · rename_i hn
    have h0 := rd_sp hr0 hc0
    have h1 := rd_int hr1 hc1
    cases hr : Go.Proofs.Ytlajboohkkbgdaa.rightB (l0.map spOf) l1 with
    | true =>
      rw [hr] at h
      cases h
      refine (Go.Proofs.Ytlajboohkkbgdaa.cstarts_yes l0 l1 A0 A1 c0 c1 w h0 h1 (rd_lt h1) hn hr).mono ?_
      rintro e w' ⟨v, rfl, ho, hb⟩
      exact ⟨v, rfl, R_ints (Go.Proofs.Ytlajboohkkbgdaa.startsTo_length _ _ _).symm ho, hb⟩
    | false =>
      rw [hr] at h
      cases h
      refine (Go.Proofs.Ytlajboohkkbgdaa.cstarts_no l0 l1 A0 A1 c0 c1 w h0 h1 (rd_lt h1) hn hr).mono ?_
      rintro e w' ⟨rfl, hb⟩
      exact ⟨_, rfl, Kd.R_nil _ _ _ _ _, hb⟩
  · cases h

end Go.Proofs.YtlajboohkkbgdaaX
