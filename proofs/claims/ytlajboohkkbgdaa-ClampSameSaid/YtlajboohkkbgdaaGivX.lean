/- merkhetlaw19.fixed as a Lean function, with its contract in the print's shape. No condition. -/
import Derived.Test.YtlajboohkkbgdaaGivS
import Derived.Test.YtlajboohkkbgdaaPXx7
namespace Go.Proofs.Ytlajboohkkbgdaa
open Go.RowKit Go.Proofs.YtlajboohkkbgdaaW.PrintWords
open Go.Proofs.YtlajboohkkbgdaaX (SP spOf encSp R_ints flat_sp)
set_option linter.unusedSimpArgs false
set_option linter.unusedVariables false

def exSp (id st du : Int) : SP := ⟨1, id, 0, 0, S [97], S [98], st, du⟩
def exL : List SP := [exSp 1 10 20, exSp 2 5 10, exSp 3 25 10]

theorem fixed1_any (id st du : Int) (w : World) : Calls Try.prog 18 #[.int .u64 id, .int .i64 st, .int .i64 du] w fun e w' => e = .returned (.agg #[.int .u64 1, .int .u64 id, .int .u64 0, .int .u8 0, .string (S [97]), .string (S [98]), .int .i64 st, .int .i64 du]) ∧ Below w.heap.size w w' := by
  go_enter Try.func18, Try.ntmps18
  go_wp2
  exact bodyPost_ret (v := .agg #[.int .u64 1, .int .u64 id, .int .u64 0, .int .u8 0, .string (S [97]), .string (S [98]), .int .i64 st, .int .i64 du]) (by simp [results, Try.results18, go_sem, S]) rfl ⟨rfl, (Below.refl _ _).alloc (Nat.le_refl _) _⟩

theorem exStarts : Go.Proofs.YtlajboohkkbgdaaX.clamp_Starts.f exL [-1, 0, 0] = some ([10, 10, 20], true) := by kernel_rfl
theorem exSame : Go.Proofs.YtlajboohkkbgdaaX.merkhetref15_Same.f 5 [10, 10, 20] [10, 10, 20] = some true := by kernel_rfl

theorem C_block {α : Type} {d : Kd α} (enc : α → List Value) (hz : ∀ x, (enc x).length = d.sz) (hK : ∀ w x, d.K w x (enc x)) {w : World} {b : Nat} {xs : List α} {t : TypeId} (hl : xs.length ≤ 9223372036854775807) (h : w.heap[b]? = some (.cells (xs.flatMap enc).toArray t (0, 0))) : Kd.C d w (some ⟨b, 0, none⟩) xs.length xs := by
  refine C_of_rd (c := xs.length) enc hz (hK w) ⟨flat_length enc d.sz hz xs, Nat.le_refl _, hl, .inr ⟨b, 0, rfl, blk_lt h, fun j u hu => ?_⟩⟩
  rw [Nat.zero_add]
  exact blk_cell h j (by simpa using hu)

set_option maxRecDepth 100000 in
set_option maxHeartbeats 4000000 in
theorem fixed19_any (w : World) : Calls Try.prog 9 #[] w fun e w' => e = .returned (.bool true) ∧ Below w.heap.size w w' := by
  go_enter Try.func9, Try.ntmps9
  go_wp2_with fail
  go_at_call 18
  refine (fixed1_any _ _ _ _).mono ?_; rintro e w1 ⟨rfl, hb1⟩
  have H1 := Lib.hid hb1; clear hb1
  go_wp2_with fail
  go_at_call 18
  refine (fixed1_any _ _ _ _).mono ?_; rintro e w2 ⟨rfl, hb2⟩
  have H2 := Lib.hid hb2; clear hb2
  go_wp2_with fail
  go_at_call 18
  refine (fixed1_any _ _ _ _).mono ?_; rintro e w3 ⟨rfl, hb3⟩
  have H3 := Lib.hid hb3; clear hb3
  go_wp2_with fail
  have hcS : Kd.C Go.Proofs.YtlajboohkkbgdaaX.k34 ((w3.alloc (.cells (exL.flatMap encSp).toArray 34)).alloc (.cells #[.int .i64 (-1), .int .i64 0, .int .i64 0] 3)) (some ⟨w3.heap.size, 0, none⟩) exL.length exL :=
    C_block encSp (fun _ => rfl) (fun w x => Go.Proofs.YtlajboohkkbgdaaX.k34_mk w x) (by decide) ((heap_alloc_old _ _ (by simp)).trans (heap_alloc_new w3 _))
  have hcP : Kd.C (Kd.int .i64) ((w3.alloc (.cells (exL.flatMap encSp).toArray 34)).alloc (.cells #[.int .i64 (-1), .int .i64 0, .int .i64 0] 3)) (some ⟨w3.heap.size + 1, 0, none⟩) ([-1, 0, 0] : List Int).length [-1, 0, 0] :=
    C_block (fun x => [.int .i64 x]) (fun _ => rfl) (fun w x => rfl) (by decide) (by
      have := heap_alloc_new (w3.alloc (.cells (exL.flatMap encSp).toArray 34)) (.cells #[.int .i64 (-1), .int .i64 0, .int .i64 0] 3)
      simpa using this)
  have K := Go.Proofs.YtlajboohkkbgdaaX.clamp_Starts.calls (some ⟨w3.heap.size, 0, none⟩) 3 exL (some ⟨w3.heap.size + 1, 0, none⟩) 3 [-1, 0, 0] [10, 10, 20] true _ hcS (by decide) hcP (by decide) exStarts
  have HK := Lib.hid K
  clear K hcS hcP
  go_at_call 10
  refine HK.out.mono ?_
  rintro e w4 ⟨v, rfl, hR, hb4⟩
  obtain ⟨A4, c4, rfl, hl4, hC4⟩ := Kd.R_reads hR
  have H4 := Lib.hid (And.intro hl4 (And.intro hC4 hb4))
  clear hl4 hC4 hb4 hR HK
  go_wp2_with fail
  have hs1 : Kd.C (Kd.int .i64) (w4.alloc (.cells #[.int .i64 10, .int .i64 10, .int .i64 20] 2)) A4 ([10, 10, 20] : List Int).length [10, 10, 20] := Kd.C_alloc H4.out.2.1 _
  have hs2 : Kd.C (Kd.int .i64) (w4.alloc (.cells #[.int .i64 10, .int .i64 10, .int .i64 20] 2)) (some ⟨w4.heap.size, 0, none⟩) ([10, 10, 20] : List Int).length [10, 10, 20] :=
    C_block (fun x => [.int .i64 x]) (fun _ => rfl) (fun w x => rfl) (by decide) (heap_alloc_new w4 _)
  have HK := Lib.hid (Go.Proofs.YtlajboohkkbgdaaX.merkhetref15_Same.calls 5 A4 c4 [10, 10, 20] (some ⟨w4.heap.size, 0, none⟩) 3 [10, 10, 20] true _ hs1 H4.out.1 hs2 (by decide) exSame)
  clear hs1 hs2
  go_at_call 13
  refine HK.out.mono ?_
  rintro e w5 ⟨rfl, hd⟩
  have H5 := Lib.hid hd
  clear hd HK
  go_wp2
  go_ret
  refine ⟨rfl, ?_⟩
  have b1 := H1.out
  have b2 := b1.trans (H2.out.mono b1.size)
  have b3 := b2.trans (H3.out.mono b2.size)
  have b4 := ((b3.alloc b3.size (.cells (exL.flatMap encSp).toArray 34)).alloc (by have := b3.size; simp; omega) (.cells #[.int .i64 (-1), .int .i64 0, .int .i64 0] 3)).trans (H4.out.2.2.mono (by have := b3.size; simp; omega))
  have b5 := b4.alloc b4.size (.cells #[.int .i64 10, .int .i64 10, .int .i64 20] 2)
  exact b5.trans (H5.out.below.mono b5.size)

end Go.Proofs.Ytlajboohkkbgdaa
namespace Go.Proofs.YtlajboohkkbgdaaX
open Go.RowKit Go.Proofs.YtlajboohkkbgdaaW.PrintWords
def merkhetlaw19_fixed.f : Option Bool := some true
theorem merkhetlaw19_fixed.calls (r : Bool) (w : World) (h : merkhetlaw19_fixed.f = some r) : Calls Try.prog 9 #[] w fun e w' => e = .returned (.bool r) ∧ Below w.heap.size w w' := by
  cases h
  exact Go.Proofs.Ytlajboohkkbgdaa.fixed19_any w
end Go.Proofs.YtlajboohkkbgdaaX
