/- Spans as cells (for seats without parent.Of). No condition. -/
import Derived.Test.YtlajboohkkbgdaaBase
namespace Go.Proofs.Ytlajboohkkbgdaa
open Go.RowKit
set_option linter.unusedSimpArgs false
set_option linter.unusedVariables false

/-- A span. -/
structure Sp where
  trace : Int
  id : Int
  parent : Int
  kind : Int
  host : ByteArray
  name : ByteArray
  start : Int
  dur : Int

def Sp.cells (s : Sp) : List Value := [.int .u64 s.trace, .int .u64 s.id, .int .u64 s.parent, .int .u8 s.kind, .string s.host, .string s.name, .int .i64 s.start, .int .i64 s.dur]
def Sp.wf (s : Sp) : Prop := (Lit.int .u64 s.trace).wf = true ∧ (Lit.int .u64 s.id).wf = true ∧ (Lit.int .u64 s.parent).wf = true ∧ (Lit.int .u8 s.kind).wf = true ∧ (Lit.int .i64 s.start).wf = true ∧ (Lit.int .i64 s.dur).wf = true
def spans (l : List Sp) : List Value := l.flatMap Sp.cells

theorem spans_length (l : List Sp) : (spans l).length = l.length * 8 := by
  induction l with
  | nil => rfl
  | cons s l ih =>
    have : spans (s :: l) = s.cells ++ spans l := rfl
    rw [this, List.length_append, ih]
    simp [Sp.cells]; omega

theorem spans_at (l : List Sp) (i : Nat) (s : Sp) (h : l[i]? = some s) (j : Nat) (hj : j < 8) : (spans l)[i * 8 + j]? = s.cells[j]? := by
  induction l generalizing i with
  | nil => simp at h
  | cons t l ih =>
    have e : spans (t :: l) = t.cells ++ spans l := rfl
    have hl : t.cells.length = 8 := rfl
    cases i with
    | zero =>
      simp at h
      subst h
      rw [e, List.getElem?_append_left (by rw [hl]; omega)]
      congr 1; omega
    | succ i =>
      rw [e, List.getElem?_append_right (by rw [hl]; omega), hl]
      rw [show (i + 1) * 8 + j - 8 = i * 8 + j by omega]
      exact ih i (by simpa using h)

theorem span_cells {w : World} {b o : Nat} {l : List Sp} (hc : ∀ j u, (spans l)[j]? = some u → w.cell? ⟨b, o + j, none⟩ = some u) (i : Nat) (s : Sp) (hs : l[i]? = some s) :
    w.cell? ⟨b, o + i * 8, none⟩ = some (.int .u64 s.trace) ∧ w.cell? ⟨b, o + i * 8 + 1, none⟩ = some (.int .u64 s.id) ∧ w.cell? ⟨b, o + i * 8 + 2, none⟩ = some (.int .u64 s.parent) ∧ w.cell? ⟨b, o + i * 8 + 3, none⟩ = some (.int .u8 s.kind) ∧
    w.cell? ⟨b, o + i * 8 + 4, none⟩ = some (.string s.host) ∧ w.cell? ⟨b, o + i * 8 + 5, none⟩ = some (.string s.name) ∧ w.cell? ⟨b, o + i * 8 + 6, none⟩ = some (.int .i64 s.start) ∧ w.cell? ⟨b, o + i * 8 + 7, none⟩ = some (.int .i64 s.dur) := by
  have h := fun j hj u (hu : s.cells[j]? = some u) => hc (i * 8 + j) u ((spans_at l i s hs j hj).trans hu)
  refine ⟨h 0 (by omega) _ rfl, ?_, ?_, ?_, ?_, ?_, ?_, ?_⟩
  · have := h 1 (by omega) _ rfl; rwa [← Nat.add_assoc] at this
  · have := h 2 (by omega) _ rfl; rwa [← Nat.add_assoc] at this
  · have := h 3 (by omega) _ rfl; rwa [← Nat.add_assoc] at this
  · have := h 4 (by omega) _ rfl; rwa [← Nat.add_assoc] at this
  · have := h 5 (by omega) _ rfl; rwa [← Nat.add_assoc] at this
  · have := h 6 (by omega) _ rfl; rwa [← Nat.add_assoc] at this
  · have := h 7 (by omega) _ rfl; rwa [← Nat.add_assoc] at this

end Go.Proofs.Ytlajboohkkbgdaa
