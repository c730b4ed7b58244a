/- parent.Of: plain laws on what is cut; spans as cells. -/
import Derived.Test.YtnegjplfmggeoaaParOf
namespace Go.Proofs.Ytnegjplfmggeoaa
open Go.RowKit Go.Maps Go.MapKept
open Go.WideElems (Fit rd rg pl rd_val elemAt)
set_option linter.unusedSimpArgs false
set_option linter.unusedVariables false

namespace Fo
/-- The places L are cut. -/
def cut (Q : List Int) (L : List Int) : List Int := L.foldl (fun q y => q.set y.toNat (-1)) Q

theorem cut_length (L : List Int) : ∀ Q : List Int, (cut Q L).length = Q.length := by
  induction L with
  | nil => intro Q; rfl
  | cons y L ih => intro Q; show (cut (Q.set y.toNat (-1)) L).length = _; rw [ih]; simp

theorem cut_snoc (Q L : List Int) (y : Int) : cut Q (L ++ [y]) = (cut Q L).set y.toNat (-1) := by
  simp [cut, List.foldl_append]

theorem cut_getD (L : List Int) : ∀ (Q : List Int) (x : Nat), (∀ y ∈ L, 0 ≤ y) → (cut Q L).getD x (-1) = if (x : Int) ∈ L then -1 else Q.getD x (-1) := by
  induction L with
  | nil => intro Q x _; simp [cut]
  | cons y L ih =>
    intro Q x hL
    show (cut (Q.set y.toNat (-1)) L).getD x (-1) = _
    rw [ih _ _ (fun z hz => hL z (by simp [hz]))]
    have hy := hL y (by simp)
    by_cases h1 : (x : Int) ∈ L
    · rw [if_pos h1, if_pos (by simp [h1])]
    · rw [if_neg h1]
      by_cases h2 : (x : Int) = y
      · rw [if_pos (by simp [h2])]
        have : y.toNat = x := by omega
        rw [this, List.getD_eq_getElem?_getD, List.getElem?_set]
        by_cases h3 : x < Q.length <;> simp [h3]
      · rw [if_neg (by simp [h1, h2])]
        have : y.toNat ≠ x := by omega
        rw [List.getD_eq_getElem?_getD, List.getElem?_set, if_neg this, List.getD_eq_getElem?_getD]

/-- Of what is told of cycles one place each is cut: there is none left. -/
theorem cut_acyc {Q E L : List Int} (hR : Rng Q) (hT : Told Q E) (hL : ∀ y ∈ L, 0 ≤ y) (hEL : ∀ e ∈ E, ∃ j, it Q j e ∈ L) : Acyc (cut Q L) := by
  intro x hc
  have hnx : ∀ z : Int, 0 ≤ z → nx (cut Q L) z = if z ∈ L then -1 else nx Q z := by
    intro z hz
    rw [nx_at hz, cut_getD L Q _ hL, nx_at hz, Int.toNat_of_nonneg hz]
  have hpos := hc.pos
  have hno : ∀ k, it (cut Q L) k x ∉ L := by
    intro k hk
    have h1 := hpos (k + 1)
    have h2 : it (cut Q L) (k + 1) x = -1 := by
      show nx (cut Q L) (it (cut Q L) k x) = _
      rw [hnx _ (hpos k), if_pos hk]
    omega
  have hsame : ∀ k, it (cut Q L) k x = it Q k x := by
    intro k
    induction k with
    | zero => rfl
    | succ k ih =>
      show nx (cut Q L) (it (cut Q L) k x) = nx Q (it Q k x)
      rw [hnx _ (hpos k), if_neg (hno k), ih]
  have hcQ : OnCyc Q x := by
    obtain ⟨h0, k, hk, e⟩ := hc
    exact ⟨h0, k, hk, by rw [← hsame]; exact e⟩
  obtain ⟨n, rfl⟩ := Int.eq_ofNat_of_zero_le hc.1
  have hn : n < Q.length := by
    rcases Nat.lt_or_ge n Q.length with h | h
    · exact h
    · exfalso
      have h1 := hcQ.pos 1
      have h2 : it Q 1 n = -1 := by
        show nx Q (n : Int) = -1
        rw [nx_nat, List.getD_eq_getElem?_getD, List.getElem?_eq_none h]
        rfl
      omega
  obtain ⟨e, he, k, hk⟩ := hT.2 n hn hcQ
  obtain ⟨j, hj⟩ := hEL e he
  rw [← hk, ← it_add, ← hsame] at hj
  exact hno _ hj

theorem cut_mem {Q L : List Int} {p : Int} (h : p ∈ cut Q L) : p ∈ Q ∨ p = -1 := by
  unfold cut at h
  induction L generalizing Q with
  | nil => exact .inl h
  | cons y L ih =>
    rcases ih h with h1 | h1
    · rcases List.mem_or_eq_of_mem_set h1 with h2 | h2
      · exact .inl h2
      · exact .inr h2
    · exact .inr h1
end Fo

/-- A span. -/
structure Sp where
  trace : Int
  id : Int
  parent : Int
  kind : Int
  host : ByteArray
  name : ByteArray
  start : Int
  dur : Int

def Sp.cells (s : Sp) : List Value := [.int .u64 s.trace, .int .u64 s.id, .int .u64 s.parent, .int .u8 s.kind, .string s.host, .string s.name, .int .i64 s.start, .int .i64 s.dur]
def Sp.wf (s : Sp) : Prop := (Lit.int .u64 s.trace).wf = true ∧ (Lit.int .u64 s.id).wf = true ∧ (Lit.int .u64 s.parent).wf = true ∧ (Lit.int .u8 s.kind).wf = true ∧ (Lit.int .i64 s.start).wf = true ∧ (Lit.int .i64 s.dur).wf = true
def spans (l : List Sp) : List Value := l.flatMap Sp.cells

theorem spans_length (l : List Sp) : (spans l).length = l.length * 8 := by
  induction l with
  | nil => rfl
  | cons s l ih =>
    have : spans (s :: l) = s.cells ++ spans l := rfl
    rw [this, List.length_append, ih]
    simp [Sp.cells]; omega

theorem spans_at (l : List Sp) (i : Nat) (s : Sp) (h : l[i]? = some s) (j : Nat) (hj : j < 8) : (spans l)[i * 8 + j]? = s.cells[j]? := by
  induction l generalizing i with
  | nil => simp at h
  | cons t l ih =>
    have e : spans (t :: l) = t.cells ++ spans l := rfl
    have hl : t.cells.length = 8 := rfl
    cases i with
    | zero =>
      simp at h
      subst h
      rw [e, List.getElem?_append_left (by rw [hl]; omega)]
      congr 1; omega
    | succ i =>
      rw [e, List.getElem?_append_right (by rw [hl]; omega), hl]
      rw [show (i + 1) * 8 + j - 8 = i * 8 + j by omega]
      exact ih i (by simpa using h)

/-- An element of the map of places: a place below n. -/
noncomputable def placeOf (n : Nat) (v : Value) : Option (DataW Unit × List MemPlace) :=
  match v with
  | .int .i64 c => if 0 ≤ c ∧ c < n then some (.lit (.int .i64 c), []) else none
  | _ => none

theorem placeOf_inv {n : Nat} {v : Value} {z : DataW Unit × List MemPlace} (h : placeOf n v = some z) : ∃ c : Int, v = .int .i64 c ∧ 0 ≤ c ∧ c < n := by
  unfold placeOf at h
  split at h
  · split at h
    · rename_i c h1; exact ⟨c, rfl, h1.1, h1.2⟩
    · cases h
  · cases h

theorem keyed_u64 : Keyed Try.prog 32 := int_keyed Try.underlying32
theorem zero_int (w : World) : (zeroValue 3).run Try.prog w = .ok (.int .i64 0) w := by kernel_rfl

/-- Block mb is a map of places below n, of at most k entries. -/
def PM (w : World) (n mb k : Nat) : Prop := ∃ D, w.ownsMap Try.prog 32 (placeOf n) mb k D

theorem PM.look {w : World} {n mb k : Nat} (h : PM w n mb k) (x : Int) (hx : (Lit.int .u64 x).wf = true) :
    ∃ (c : Int) (ok : Bool), (Instr.lookup 49 (.map (some mb)) (.int .u64 x) true).run Try.prog w = .ok (.tuple #[.int .i64 c, .bool ok]) w ∧ 0 ≤ c ∧ (ok = true → c < n) := by
  obtain ⟨D, es, clock, hb, F, hs, hD⟩ := h
  have hkey : keyOf Try.prog 32 (.int .u64 x) = some (.int .u64 x) := keyOf_int_mk Try.underlying32 hx
  rcases fit_look (w := w) true keyed_u64 Try.underlying49 (zero_int w) hb F hkey with ⟨hrun, _, _⟩ | ⟨e0, y, _, _, hrun, hR, _⟩
  · exact ⟨0, false, hrun, Int.le_refl _, by simp⟩
  · obtain ⟨c, hc, h0, h1⟩ := placeOf_inv hR
    rw [hc] at hrun
    exact ⟨c, true, hrun, h0, fun _ => h1⟩

theorem PM.put {w : World} {n mb k : Nat} (h : PM w n mb k) (hk : k < maxLen) (x : Int) (hx : (Lit.int .u64 x).wf = true) (c : Int) (h0 : 0 ≤ c) (h1 : c < n) :
    ∃ w', (Instr.mapUpdate 49 (.map (some mb)) (.int .u64 x) (.int .i64 c)).run Try.prog w = .ok () w' ∧ PM w' n mb (k + 1) ∧ w.grownBy w' (some mb) := by
  obtain ⟨D, h⟩ := h
  have hkey : keyOf Try.prog 32 (.int .u64 x) = some (.int .u64 x) := keyOf_int_mk Try.underlying32 hx
  obtain ⟨w', hr, ho, hg⟩ := h.update keyed_u64 Try.underlying49 hk hkey (val := .int .i64 c) (d := .lit (.int .i64 c)) (ps := []) (by simp [placeOf, h0, h1])
  exact ⟨w', hr, ⟨_, ho⟩, hg⟩

theorem PM.made (w : World) (n : Nat) : PM (w.alloc (.map #[] 0)) n w.heap.size 0 := ⟨_, World.ownsMap_made _ _ _ _⟩
theorem PM.mono {w : World} {n mb k k' : Nat} (h : PM w n mb k) (hk : k ≤ k') : PM w n mb k' := by
  obtain ⟨D, h⟩ := h
  exact ⟨D, h.mono hk⟩
theorem PM.kept {w w' : World} {n mb k : Nat} {row : Option Nat} (h : PM w n mb k) (hg : w.grownBy w' row) (hne : some mb ≠ row) : PM w' n mb k := by
  obtain ⟨D, h⟩ := h
  exact ⟨D, h.kept hg hne⟩

end Go.Proofs.Ytnegjplfmggeoaa
