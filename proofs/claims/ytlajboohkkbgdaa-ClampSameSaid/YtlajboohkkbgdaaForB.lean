/- Forests, told by a Bool. No condition. -/
import Derived.Test.YtlajboohkkbgdaaForQ
namespace Go.Proofs.Ytlajboohkkbgdaa

/-- Are these a forest's parents? -/
def forestB (P : List Int) : Bool := (P.all fun p => decide (-1 ≤ p ∧ p < (P.length : Int))) && (List.range P.length).all fun x => decide (Fo.it P (P.length + 1) (x : Int) < 0)

theorem forestB_iff (P : List Int) : forestB P = true ↔ Fo.Forest P := by
  unfold forestB
  simp only [Bool.and_eq_true, List.all_eq_true, decide_eq_true_eq, List.mem_range]
  constructor
  · rintro ⟨h1, h2⟩
    refine ⟨h1, fun x hc => ?_⟩
    have h0 := hc.1
    obtain ⟨n, rfl⟩ := Int.eq_ofNat_of_zero_le h0
    rcases Nat.lt_or_ge n P.length with h | h
    · have := h2 n h
      have := hc.pos (P.length + 1)
      omega
    · have h3 := hc.pos 1
      have : Fo.it P 1 (n : Int) = -1 := by
        show Fo.nx P (n : Int) = _
        rw [Fo.nx_nat, List.getD_eq_getElem?_getD, List.getElem?_eq_none h]
        rfl
      omega
  · rintro ⟨h1, h2⟩
    refine ⟨h1, fun x hx => ?_⟩
    obtain ⟨k, hk, hl⟩ := Fo.Lv.exists h2 (fun p hp => (h1 p hp).2) (x := (x : Int)) (by omega)
    have e : P.length + 1 = (P.length + 1 - k) + k := by omega
    rw [e, Fo.it_add, Fo.it_neg hl.1]
    exact hl.1

end Go.Proofs.Ytlajboohkkbgdaa
