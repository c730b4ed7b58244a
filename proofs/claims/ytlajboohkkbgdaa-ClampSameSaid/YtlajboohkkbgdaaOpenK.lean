/- Spans and numbers that came in, as the print reads them. No condition. -/
import Derived.Test.YtlajboohkkbgdaaOpenSp
import Derived.Test.YtlajboohkkbgdaaGivA
namespace Go.Proofs.Ytlajboohkkbgdaa
open Go.ChangeShapes Go.WideShapes Go.ChangeAt Go.RowKit Go.Deep Go.Proofs.YtlajboohkkbgdaaW.PrintWords
open Go.Proofs.YtlajboohkkbgdaaX (SP spOf encSp flat_sp)
set_option linter.unusedSimpArgs false
set_option linter.unusedVariables false

section
variable {H : Type} {enc : TypeId × Value → H} {w : World} {held : Bool}
def ofSp (s : Sp) : SP := ⟨s.trace, s.id, s.parent, s.kind, s.host, s.name, s.start, s.dur⟩
theorem ofSp_map (l : List Sp) : (l.map ofSp).map spOf = l := by
  rw [List.map_map]
  exact List.map_id l
theorem open_sp {fuel : Nat} {cs : List Value} {x : DataW H × List MemPlace} (h : DataW.trod enc Try.prog w 0 (fun _ => true) held fuel 22 cs = some x) :
    ∃ A c, ∃ l : List SP, cs = [.slice A l.length c] ∧ l.length ≤ c ∧ (∀ x ∈ l, (spOf x).wf) ∧ Kd.C Go.Proofs.YtlajboohkkbgdaaX.k34 w A l.length l := by
  obtain ⟨A, n, c, l, rfl, hl, hw, hr⟩ := open_spans h
  refine ⟨A, c, l.map ofSp, by rw [List.length_map, hl], by rw [List.length_map, hl]; exact hr.2.1, ?_, ?_⟩
  · intro x hx
    obtain ⟨s, hs, rfl⟩ := List.mem_map.1 hx
    exact hw s hs
  · refine C_of_rd (c := c) encSp (fun _ => rfl) (fun x => Go.Proofs.YtlajboohkkbgdaaX.k34_mk _ x) ?_
    rw [flat_sp, ofSp_map, List.length_map, hl]
    exact hr
theorem open_nums {t e : TypeId} {k : IntKind} {fuel : Nat} {cs : List Value} {x : DataW H × List MemPlace} (ht : Try.prog.underlying t = some (.slice e)) (he : Try.prog.underlying e = some (.int k)) (hc : Try.prog.cellsOf e = 1)
    (h : DataW.trod enc Try.prog w 0 (fun _ => true) held fuel t cs = some x) : ∃ A c, ∃ l : List Int, cs = [.slice A l.length c] ∧ l.length ≤ c ∧ (∀ z ∈ l, (Lit.int k z).wf = true) ∧ Kd.C (Kd.int k) w A l.length l := by
  rcases open_ints ht he hc h with ⟨rfl, _⟩ | ⟨a, n, c, zs, rfl, _, hl, hm, hz, _, hcell, hwf⟩
  · exact ⟨none, 0, [], rfl, Nat.le_refl _, by simp, rfl, by simp, fun h => absurd h (by simp)⟩
  · have hz : zs.length = c := by simpa using hz
    have hln : (zs.take n).length = n := by rw [List.length_take]; omega
    refine ⟨some a, c, zs.take n, by rw [hln], by rw [hln]; exact hl, fun z hz => hwf z (List.mem_of_mem_take hz), rfl, ?_, fun _ => ⟨a, rfl, fun j p hj => ⟨[.int k p], rfl, rfl, fun i u hu => ?_⟩⟩⟩
    · rw [hln]; exact Nat.le_trans hl (by simpa [maxLen] using hm)
    · have hjl : j < n := by
        have := (List.getElem?_eq_some_iff.1 hj).1
        omega
      have hi : i = 0 := by
        have := (List.getElem?_eq_some_iff.1 hu).1
        simp at this
        exact this
      subst hi
      cases hu
      have := hcell j (by omega)
      rw [List.getElem?_take, if_pos hjl] at hj
      rw [List.getD_eq_getElem?_getD, hj] at this
      show w.cell? (a.add (j * 1 + 0)) = _
      rw [Nat.mul_one, Nat.add_zero]
      exact this
end
end Go.Proofs.Ytlajboohkkbgdaa
