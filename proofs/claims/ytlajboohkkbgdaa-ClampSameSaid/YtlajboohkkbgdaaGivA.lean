/- clamp.right and merkhetref01.Name as Lean functions, with their contracts in the print's shape. Conditions: those stated in the functions. -/
import Derived.Test.YtlajboohkkbgdaaPXx0
import Derived.Test.YtlajboohkkbgdaaKd
import Derived.Test.YtlajboohkkbgdaaCRight
namespace Go.Proofs.YtlajboohkkbgdaaX
open Go.RowKit Go.Proofs.YtlajboohkkbgdaaW.PrintWords Go.Proofs.YtlajboohkkbgdaaW.PrintLast Go.Proofs.YtlajboohkkbgdaaW.PrintMore
set_option linter.unusedSimpArgs false
set_option linter.unusedVariables false

abbrev SP := S34
def spOf (x : SP) : Go.Proofs.Ytlajboohkkbgdaa.Sp := ⟨x.f0, x.f1, x.f2, x.f3, x.f4, x.f5, x.f6, x.f7⟩
def encSp (x : SP) : List Value := (spOf x).cells
theorem flat_sp (l : List SP) : l.flatMap encSp = Go.Proofs.Ytlajboohkkbgdaa.spans (l.map spOf) := by
  unfold Go.Proofs.Ytlajboohkkbgdaa.spans
  exact Go.Proofs.Ytlajboohkkbgdaa.flat_map spOf Go.Proofs.Ytlajboohkkbgdaa.Sp.cells l
theorem rd_sp {w : World} {A : Option Addr} {c : Nat} {l : List SP} (h : Kd.C k34 w A l.length l) (hc : l.length ≤ c) : Go.Proofs.Ytlajboohkkbgdaa.Rd w 8 (l.map spOf).length A c (Go.Proofs.Ytlajboohkkbgdaa.spans (l.map spOf)) := by
  have := Go.Proofs.Ytlajboohkkbgdaa.rd_of_C (d := k34) encSp (fun _ => rfl) (by decide) (fun x cs hk => k34_open hk) h hc
  rw [flat_sp] at this
  rw [List.length_map]
  exact this
theorem rd_int {w : World} {A : Option Addr} {c : Nat} {l : List Int} (h : Kd.C (Kd.int .i64) w A l.length l) (hc : l.length ≤ c) : Go.Proofs.Ytlajboohkkbgdaa.Rd w 1 l.length A c (Go.Proofs.Ytlajboohkkbgdaa.ints l) := by
  have := Go.Proofs.Ytlajboohkkbgdaa.rd_of_C (d := Kd.int .i64) (fun x => [.int .i64 x]) (fun _ => rfl) (by decide) (fun x cs hk => hk) h hc
  rw [Go.Proofs.Ytlajboohkkbgdaa.flat_one] at this
  exact this
theorem rd_lt {w : World} {n : Nat} {A : Option Addr} {c : Nat} {cs : List Value} (h : Go.Proofs.Ytlajboohkkbgdaa.Rd w 1 n A c cs) : ∀ ad, A = some ad → 0 < n → ad.block < w.heap.size := by
  intro ad hA h0
  obtain ⟨b, o, rfl, hlt, _⟩ := h.at_ h0
  cases hA
  exact hlt

/-! ### clamp.right -/
def clamp_right.f (l0 : List SP) (l1 : List Int) : Option Bool := if l1.length ≤ 1099511627776 then some (Go.Proofs.Ytlajboohkkbgdaa.rightB (l0.map spOf) l1) else none
theorem clamp_right.calls (A0 : Option Addr) (c0 : Nat) (l0 : List (S34)) (A1 : Option Addr) (c1 : Nat) (l1 : List Int) (r : Bool) (w : World) (hr0 : Kd.C k34 w A0 l0.length l0) (hc0 : l0.length ≤ c0) (hr1 : Kd.C (Kd.int .i64) w A1 l1.length l1) (hc1 : l1.length ≤ c1) (h : clamp_right.f l0 l1 = some r) :
    Calls Try.prog 19 #[.slice A0 l0.length c0, .slice A1 l1.length c1] w fun e w' => e = .returned (.bool r) ∧ Below w.heap.size w w' := by
  unfold clamp_right.f at h
  split at h
  · rename_i hn
    cases h
    have h0 := rd_sp hr0 hc0
    have h1 := rd_int hr1 hc1
    have := Go.Proofs.Ytlajboohkkbgdaa.cright_any (l0.map spOf) l1 A0 A1 c0 c1 w h0 h1 (rd_lt h1) hn
    rwa [List.length_map] at this
  · cases h

/-! ### merkhetref01.Name -/
def merkhetref01_Name.f (a0 : ByteArray) : Option Bool := some (Go.Proofs.Ytlajboohkkbgdaa.nameP a0.data.toList)
theorem merkhetref01_Name.calls (a0 : ByteArray) (r : Bool) (w : World) (h : merkhetref01_Name.f a0 = some r) :
    Calls Try.prog 36 #[.string a0] w fun e w' => e = .returned (.bool r) ∧ Drawn0 w w' := by
  cases h
  refine (Go.Proofs.Ytlajboohkkbgdaa.rname_any a0.data.toList w).mono ?_
  rintro e w' ⟨rfl, q, rfl⟩
  exact ⟨rfl, ⟨⟨q, rfl⟩⟩⟩

end Go.Proofs.YtlajboohkkbgdaaX
