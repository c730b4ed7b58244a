/- clamp.right: whether spans and parents can be clamped. No condition but the reach of the places. -/
import Derived.Test.YtlajboohkkbgdaaCFun
import Derived.Test.YtlajboohkkbgdaaForB
namespace Go.Proofs.Ytlajboohkkbgdaa
open Go.RowKit
set_option linter.unusedSimpArgs false
set_option linter.unusedVariables false

/-- Can they be clamped? -/
def rightB (l : List Sp) (P : List Int) : Bool := decide (l.length = P.length) && forestB P && !(l.any fun s => !mayP s)

set_option maxRecDepth 100000 in
set_option maxHeartbeats 4000000 in
theorem cright_any (l : List Sp) (P : List Int) (A B : Option Addr) (c d : Nat) (w : World) (hl : Rd w 8 l.length A c (spans l)) (hP : Rd w 1 P.length B d (ints P)) (hB : ∀ ad, B = some ad → 0 < P.length → ad.block < w.heap.size) (hn : P.length ≤ 1099511627776) :
    Calls Try.prog 19 #[.slice A l.length c, .slice B P.length d] w fun e w' => e = .returned (.bool (rightB l P)) ∧ Below w.heap.size w w' := by
  have fin : ∀ r, rightB l P = r → (Calls Try.prog 19 #[.slice A l.length c, .slice B P.length d] w fun e w' => e = .returned (.bool r) ∧ Below w.heap.size w w') → Calls Try.prog 19 #[.slice A l.length c, .slice B P.length d] w fun e w' => e = .returned (.bool (rightB l P)) ∧ Below w.heap.size w w' := by
    intro r h1 h2; rw [h1]; exact h2
  by_cases hlen : l.length = P.length
  · have HR := Lib.hid (right_any P B d w hP hB hn)
    have t1 : (l.length != P.length) = false := by simpa using hlen
    have t2 : ((l.length : Int) != (P.length : Int)) = false := by simp [hlen]
    have HL := Lib.hid hl
    have e1 : rightB l P = (forestB P && !(l.any fun s => !mayP s)) := by simp [rightB, hlen]
    clear hl hP hB hlen
    cases hf : forestB P with
    | false =>
      refine fin false (by rw [e1, hf]; rfl) ?_
      have hr : ∀ r : Bool, (r = true ↔ Fo.Forest P) → r = false := fun r hr => by
        cases r with
        | false => rfl
        | true => have := (forestB_iff P).2 (hr.1 rfl); rw [hf] at this; cases this
      have HF := Lib.hid hr
      clear fin e1 hr hf HL
      go_enter Try.func19, Try.ntmps19
      go_wp2_with (go_at_call 28; go_must (refine HR.out.mono ?_; rintro e w1 ⟨⟨r, rfl, hr⟩, hb1⟩; have hrr := HF.out r hr; clear hr; subst hrr))
      go_ret
      exact ⟨rfl, hb1⟩
    | true =>
      refine fin (!(l.any fun s => !mayP s)) (by rw [e1, hf]; rfl) ?_
      have hr : ∀ r : Bool, (r = true ↔ Fo.Forest P) → r = true := fun r hr => hr.2 ((forestB_iff P).1 hf)
      have HF := Lib.hid hr
      have HC := Lib.hid (fun (W : World) (hW : Rd W 8 l.length A c (spans l)) => contains_span 30 #[] (fun s => !mayP s) l A c W hW (enters_of Try.func30 (by kernel_rfl) rfl) (fun s W => right1c_any s W))
      clear fin e1 hr hf
      generalize (l.any fun s => !mayP s) = q at HC
      go_enter Try.func19, Try.ntmps19
      go_wp2_with (first | (go_at_call 28; go_must (refine HR.out.mono ?_; rintro e w1 ⟨⟨r, rfl, hr⟩, hb1⟩; have hrr := HF.out r hr; clear hr; subst hrr; have HB1 := Lib.hid hb1; clear hb1)) | (go_at_call 29; go_must (refine (HC.out _ (HL.out.below HB1.out (Nat.le_refl _))).mono ?_; rintro e w2 ⟨rfl, hb2⟩)))
      go_ret
      exact ⟨rfl, HB1.out.trans (hb2.mono HB1.out.size)⟩
  · refine fin false (by simp [rightB, hlen]) ?_
    have t1 : (l.length != P.length) = true := by simpa using hlen
    have t2 : ((l.length : Int) != (P.length : Int)) = true := by simp; omega
    clear fin hl hP hB hlen
    go_enter Try.func19, Try.ntmps19
    go_wp2
    go_ret
    exact ⟨rfl, Below.refl _ _⟩

end Go.Proofs.Ytlajboohkkbgdaa
