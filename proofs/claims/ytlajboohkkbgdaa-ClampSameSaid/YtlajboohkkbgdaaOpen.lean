/- How the form's reading of an argument opens into the words of these texts. No condition. -/
import Derived.Test.YtlajboohkkbgdaaBase
import Derived.ProofKit
import Derived.OpenShut
import Derived.ShutString
import Derived.ChangeOld
import Derived.SizedLaws
import Derived.Lib.SmallJoins
import Derived.Deep.Slices
namespace Go.Proofs.Ytlajboohkkbgdaa
open Go.ChangeShapes Go.WideShapes Go.ChangeAt Go.RowKit
set_option linter.unusedSimpArgs false
set_option linter.unusedVariables false

theorem own : ownKnob Try.prog.godebug = none := by kernel_rfl
theorem laidOut : laidOutB Try.prog = true := by kernel_rfl

section
variable {H : Type} {enc : TypeId × Value → H} {P : Program} {w : World} {held : Bool}

theorem spot_none {a : Addr} {i : Nat} {v : Value} (h : w.cell? (a.add i) = some v) (hi : i = 0) : ∃ b o, a = ⟨b, o, none⟩ := by
  subst hi
  obtain ⟨b, o, s⟩ := a
  have hs : s = none := by simpa [Addr.add] using World.cell?_spot h
  subst hs
  exact ⟨b, o, rfl⟩

/-- Bytes that came in. -/
theorem open_bytes {t e : TypeId} {fuel : Nat} {cs : List Value} {x : DataW H × List MemPlace} (ht : P.underlying t = some (.slice e)) (he : P.underlying e = some (.int .u8)) (hc : P.cellsOf e = 1)
    (h : DataW.trod enc P w 0 (fun _ => true) held fuel t cs = some x) : ∃ A n c l, cs = [.slice A n c] ∧ Rd w 1 n A c (bys l) := by
  rcases open_ints ht he hc h with ⟨rfl, _⟩ | ⟨a, n, c, zs, rfl, _, hl, hm, hz, _, hcell, hwf⟩
  · exact ⟨none, 0, 0, [], rfl, Rd.nil w 1⟩
  · have hz : zs.length = c := by simpa using hz
    refine ⟨some a, n, c, (zs.take n).map fun z => UInt8.ofNat z.toNat, rfl, by simp [bys]; omega, hl, Nat.le_trans hl (by simpa [maxLen] using hm), ?_⟩
    rcases Nat.eq_zero_or_pos c with h0 | h0
    · exact .inl (by omega)
    · right
      obtain ⟨b, o, rfl⟩ := spot_none (hcell 0 (by omega)) rfl
      refine ⟨b, o, rfl, World.block_lt_of_cell? w _ (by simpa [Addr.add] using hcell 0 (by omega)), fun j u hu => ?_⟩
      have hj : j < n := by
        rcases Nat.lt_or_ge j n with h | h
        · exact h
        · rw [List.getElem?_eq_none (by simp [bys]; omega)] at hu; cases hu
      have hjz : j < zs.length := by omega
      have hcj := hcell j hjz
      have ha : (⟨b, o, none⟩ : Addr).add j = ⟨b, o + j, none⟩ := by unfold Addr.add; split <;> simp_all
      rw [ha] at hcj
      rw [hcj]
      have hw := hwf (zs[j]) (List.getElem_mem hjz)
      have hb : 0 ≤ zs[j] ∧ zs[j] ≤ 255 := bounds_u8 hw
      have e1 : (bys ((zs.take n).map fun z => UInt8.ofNat z.toNat))[j]? = some (.int .u8 (zs[j])) := by
        have : (((UInt8.ofNat (zs[j]).toNat).toNat : Nat) : Int) = zs[j] := by rw [UInt8.toNat_ofNat']; omega
        simp [bys, List.getElem?_take, hj, List.getElem?_eq_getElem hjz]
        omega
      rw [e1] at hu
      cases hu
      simp [List.getD_eq_getElem?_getD, List.getElem?_eq_getElem hjz]

end

end Go.Proofs.Ytlajboohkkbgdaa
