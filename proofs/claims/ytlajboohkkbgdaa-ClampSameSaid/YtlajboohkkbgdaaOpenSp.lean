/- Spans that came in. -/
import Derived.Test.YtlajboohkkbgdaaOpen
import Derived.Test.YtlajboohkkbgdaaSpans
namespace Go.Proofs.Ytlajboohkkbgdaa
open Go.ChangeShapes Go.WideShapes Go.ChangeAt Go.RowKit Go.Deep
set_option linter.unusedSimpArgs false
set_option linter.unusedVariables false

section
variable {H : Type} {enc : TypeId × Value → H} {w : World} {held : Bool}

theorem open_span {n : Nat} {cs : List Value} {x : DataW H × List MemPlace} (h : DataW.trod enc Try.prog w 0 (fun _ => true) held n 34 cs = some x) : ∃ s : Sp, s.wf ∧ cs = s.cells := by
  obtain ⟨xs, k, hk, hxy, hlc, hxl, hf⟩ := DataW.trod_struct Try.underlying34 h
  have hlc8 : cs.length = 8 := by rw [hlc]; kernel_rfl
  match xs, hxl, cs, hlc8 with
  | [y0, y1, y2, y3, y4, y5, y6, y7], _, [v0, v1, v2, v3, v4, v5, v6, v7], _ =>
    have c1 : Try.prog.cellsOf 32 = 1 := by kernel_rfl
    have c2 : Try.prog.cellsOf 5 = 1 := by kernel_rfl
    have c3 : Try.prog.cellsOf 9 = 1 := by kernel_rfl
    have c4 : Try.prog.cellsOf 2 = 1 := by kernel_rfl
    have g0 : DataW.trod enc Try.prog w 0 (fun _ => true) held k 32 [v0] = some y0 := by simpa [c1, c2, c3, c4] using hf 0 _ rfl
    have g1 : DataW.trod enc Try.prog w 0 (fun _ => true) held k 32 [v1] = some y1 := by simpa [c1, c2, c3, c4] using hf 1 _ rfl
    have g2 : DataW.trod enc Try.prog w 0 (fun _ => true) held k 32 [v2] = some y2 := by simpa [c1, c2, c3, c4] using hf 2 _ rfl
    have g3 : DataW.trod enc Try.prog w 0 (fun _ => true) held k 5 [v3] = some y3 := by simpa [c1, c2, c3, c4] using hf 3 _ rfl
    have g4 : DataW.trod enc Try.prog w 0 (fun _ => true) held k 9 [v4] = some y4 := by simpa [c1, c2, c3, c4] using hf 4 _ rfl
    have g5 : DataW.trod enc Try.prog w 0 (fun _ => true) held k 9 [v5] = some y5 := by simpa [c1, c2, c3, c4] using hf 5 _ rfl
    have g6 : DataW.trod enc Try.prog w 0 (fun _ => true) held k 2 [v6] = some y6 := by simpa [c1, c2, c3, c4] using hf 6 _ rfl
    have g7 : DataW.trod enc Try.prog w 0 (fun _ => true) held k 2 [v7] = some y7 := by simpa [c1, c2, c3, c4] using hf 7 _ rfl
    obtain ⟨tr, e0, _, w0⟩ := DataW.trod_int Try.underlying32 g0
    obtain ⟨id, e1, _, w1⟩ := DataW.trod_int Try.underlying32 g1
    obtain ⟨pa, e2, _, w2⟩ := DataW.trod_int Try.underlying32 g2
    obtain ⟨ki, e3, _, w3⟩ := DataW.trod_int Try.underlying5 g3
    obtain ⟨ho, e4, _, _⟩ := DataW.trod_string Try.underlying9 g4
    obtain ⟨na, e5, _, _⟩ := DataW.trod_string Try.underlying9 g5
    obtain ⟨st, e6, _, w6⟩ := DataW.trod_int Try.underlying2 g6
    obtain ⟨du, e7, _, w7⟩ := DataW.trod_int Try.underlying2 g7
    simp only [List.cons.injEq, and_true] at e0 e1 e2 e3 e4 e5 e6 e7
    subst e0 e1 e2 e3 e4 e5 e6 e7
    exact ⟨⟨tr, id, pa, ki, ho, na, st, du⟩, ⟨w0, w1, w2, w3, w6, w7⟩, rfl⟩

theorem addr_add (b o j : Nat) : (⟨b, o, none⟩ : Addr).add j = ⟨b, o + j, none⟩ := by
  unfold Addr.add
  split <;> simp_all

theorem open_spans {fuel : Nat} {cs : List Value} {x : DataW H × List MemPlace} (h : DataW.trod enc Try.prog w 0 (fun _ => true) held fuel 22 cs = some x) :
    ∃ A n c l, cs = [.slice A n c] ∧ l.length = n ∧ (∀ s ∈ l, s.wf) ∧ Rd w 8 n A c (spans l) := by
  have ce : Try.prog.cellsOf 34 = 8 := by kernel_rfl
  rcases open_slice Try.underlying22 h with ⟨rfl, _⟩ | ⟨a, len, cap, m, n, D, Pl, rfl, _, hl, hm, hmm, _, hx⟩
  · exact ⟨none, 0, 0, [], rfl, rfl, by simp, Rd.nil w 8⟩
  · have hmc : m = cap := by simpa using hmm
    subst hmc
    rw [ce] at hx
    have each : ∀ i, i < m → ∃ s : Sp, s.wf ∧ ∀ j, j < 8 → w.cell? (a.add (i * 8 + j)) = s.cells[j]? := by
      intro i hi
      obtain ⟨cs', h1, h2⟩ := hx i hi
      obtain ⟨_, hlen, hcell⟩ := World.cells?_some h1
      obtain ⟨s, hs, rfl⟩ := open_span h2
      refine ⟨s, hs, fun j hj => ?_⟩
      rw [← add_add]
      exact hcell j hj
    haveI : Inhabited Sp := ⟨⟨0, 0, 0, 0, ByteArray.empty, ByteArray.empty, 0, 0⟩⟩
    obtain ⟨S, hS⟩ := choose_lt each
    refine ⟨some a, len, m, (List.range len).map S, rfl, by simp, ?_, by rw [spans_length]; simp, hl, Nat.le_trans hl (by simpa [maxLen] using hm), ?_⟩
    · intro s hs
      obtain ⟨i, hi, rfl⟩ := List.mem_map.1 hs
      exact (hS i (by have := List.mem_range.1 hi; omega)).1
    · rcases Nat.eq_zero_or_pos m with h0 | h0
      · exact .inl (by omega)
      · right
        have h00 : w.cell? (a.add 0) = some (.int .u64 (S 0).trace) := (hS 0 h0).2 0 (by omega)
        obtain ⟨b, o, rfl⟩ := spot_none (a := a) (i := 0) h00 rfl
        have hadd := addr_add b o
        refine ⟨b, o, rfl, World.block_lt_of_cell? w ⟨b, o + 0, none⟩ (by rw [← hadd]; exact h00), fun j u hu => ?_⟩
        have hj : j < len * 8 := by
          rcases Nat.lt_or_ge j (len * 8) with h | h
          · exact h
          · rw [List.getElem?_eq_none (by rw [spans_length]; simpa using h)] at hu; cases hu
        have hd := Nat.div_add_mod j 8
        have hr : j % 8 < 8 := Nat.mod_lt _ (by omega)
        have hi : j / 8 < len := by omega
        have e : (spans ((List.range len).map S))[j / 8 * 8 + j % 8]? = (S (j / 8)).cells[j % 8]? := spans_at _ _ _ (by simp [hi]) _ hr
        rw [show j / 8 * 8 + j % 8 = j by omega] at e
        rw [e] at hu
        have := (hS (j / 8) (by omega)).2 (j % 8) hr
        rw [show j / 8 * 8 + j % 8 = j by omega, hadd] at this
        rw [this, hu]

end

end Go.Proofs.Ytlajboohkkbgdaa
