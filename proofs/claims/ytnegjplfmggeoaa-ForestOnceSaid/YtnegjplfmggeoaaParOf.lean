/- parent.Of: what stands of its answer: a place or -1 for each, and no cycle. -/
import Derived.Test.YtnegjplfmggeoaaForRow2
namespace Go.Proofs.Ytnegjplfmggeoaa
open Go.RowKit
set_option linter.unusedSimpArgs false
set_option linter.unusedVariables false

theorem Fo.OnCyc.least {P : List Int} {x : Int} (h : Fo.OnCyc P x) : ∃ m, 0 < m ∧ Fo.it P m x = x ∧ ∀ j, 0 < j → j < m → Fo.it P j x ≠ x := by
  obtain ⟨_, k, hk, he⟩ := h
  induction k using Nat.strongRecOn with
  | _ k ih =>
    by_cases hx : ∃ j, 0 < j ∧ j < k ∧ Fo.it P j x = x
    · obtain ⟨j, h0, h1, h2⟩ := hx
      exact ih j h1 h0 h2
    · exact ⟨k, hk, he, fun j h0 h1 h2 => hx ⟨j, h0, h1, h2⟩⟩

set_option maxRecDepth 100000 in
set_option maxHeartbeats 4000000 in
theorem of1_any (P : List Int) (A : Option Addr) (c : Nat) (a : Nat) (ob lb base : Nat) (lv : Value) (m : Nat) (L : List Int) (w : World) (hP : Rd w 1 P.length A c (ints P)) (hA : ∀ ad, A = some ad → ad.block < w.heap.size) (hR : Fo.Rng P)
    (hc : Fo.OnCyc P a) (ha : a < P.length) (hob : w.heap[ob]? = some (.cells #[.slice A P.length c] 24 (0, 0))) (hlb : w.heap[lb]? = some (.cells #[lv] 24 (0, 0))) (how : w.ownsRow base 3 1 lv m (ints L)) (hm : m ≤ 4294967296) (hbase : base ≤ w.heap.size) (hlo : lb < base) :
    Calls Try.prog 19 #[.int .i64 (a : Int), .pointer (some ⟨ob, 0, none⟩), .pointer (some ⟨lb, 0, none⟩)] w fun e w' => e = .returned (.tuple #[]) ∧
      ∃ (j : Nat) (lv' : Value) (w1 : World), w' = w1.setCell ⟨lb, 0, none⟩ lv' ∧ w.grownBy w1 lv.ownBlock ∧ w1.ownsRow base 3 1 lv' (m + 1) (ints (L ++ [Fo.it P j a])) ∧ (lv'.ownBlock = lv.ownBlock ∨ ∃ g, lv'.ownBlock = some g ∧ w.heap.size ≤ g) := by
  obtain ⟨b, o, rfl, hlb', hcc⟩ := hP.at_ (by omega)
  obtain ⟨q, hq0, hq1, hq2⟩ := hc.least
  have hpos := hc.pos
  have hlt : ∀ k, Fo.it P k a < P.length := Fo.it_lt hR (by omega)
  have hcell : ∀ k (x : Nat), Fo.it P k a = x → w.cell? ⟨b, o + x, none⟩ = some (.int .i64 (Fo.it P (k + 1) a)) := by
    intro k x hx
    have h1 : x < P.length := by have := hlt k; omega
    rw [hcc x _ (ints_at P x h1)]
    congr 2
    show _ = Fo.nx P (Fo.it P k a)
    rw [hx, Fo.nx_nat]
  have hco := blk_cell hob 0 rfl
  have hcl := blk_cell hlb 0 rfl
  have hc0 := hcell 0 a rfl
  have HC := Lib.hid hcell
  have HP := Lib.hid hpos
  have HL := Lib.hid hlt
  have HQ := Lib.hid (And.intro hq1 hq2)
  have HB := Lib.hid hlb
  have hlbs : lb < w.heap.size := blk_lt hlb
  clear hcell hpos hlt hq1 hq2 hob hlb hcc hP hA hR hc
  generalize h1 : Fo.it P (0 + 1) a = x1 at hc0
  have H1 := Lib.hid h1
  clear h1
  go_enter Try.func19, Try.ntmps19
  go_wp2
  go_loopg [4, 5] q (fun k s4 s5 wr => wr = w ∧ ∃ (i j : Nat), 0 < j ∧ j ≤ q ∧ q - j ≤ k ∧ s4 = .int .i64 (Fo.it P i a) ∧ s5 = .int .i64 (Fo.it P j a))
  case atStart => exact ⟨rfl, 0, 1, by omega, by omega, by omega, rfl, by rw [← H1.out]⟩
  case round =>
    obtain ⟨rfl, i, j, hj0, hj, hjk, rfl, rfl⟩ := hrel
    have hp := HP.out j
    have hl := HL.out j
    have hcj := HC.out j
    have hqq := HQ.out.2 j hj0
    generalize hx : Fo.it P j a = x at hp hl hcj hqq
    have HX := Lib.hid hx
    clear hx
    generalize hy : Fo.it P i a = y
    have HY := Lib.hid hy
    clear hy
    obtain ⟨z, rfl⟩ := Int.eq_ofNat_of_zero_le hp
    have hcz := hcj z rfl
    clear hcj
    rcases Nat.lt_or_ge j q with hjq | hjq
    · have hne : ¬ ((z : Int) = (a : Int)) := hqq hjq
      have hne' : ¬ (z = a) := fun e => hne (by rw [e])
      have t1 : ((z : Int) != (a : Int)) = true := bne_iff_ne.2 hne
      clear hqq
      generalize hx1 : Fo.it P (j + 1) a = x1' at hcz
      have HX1 := Lib.hid hx1
      clear hx1
      go_wp2
      · go_roundg (q - (j + 1))
        case measure => omega
        case rel => first | exact ⟨rfl, i, j + 1, by omega, by omega, Nat.le_refl _, congrArg (Value.int IntKind.i64) HY.out.symm, congrArg (Value.int IntKind.i64) HX1.out.symm⟩ | exact ⟨rfl, j, j + 1, by omega, by omega, Nat.le_refl _, congrArg (Value.int IntKind.i64) HX.out.symm, congrArg (Value.int IntKind.i64) HX1.out.symm⟩
      · go_roundg (q - (j + 1))
        case measure => omega
        case rel => first | exact ⟨rfl, i, j + 1, by omega, by omega, Nat.le_refl _, congrArg (Value.int IntKind.i64) HY.out.symm, congrArg (Value.int IntKind.i64) HX1.out.symm⟩ | exact ⟨rfl, j, j + 1, by omega, by omega, Nat.le_refl _, congrArg (Value.int IntKind.i64) HX.out.symm, congrArg (Value.int IntKind.i64) HX1.out.symm⟩
    · obtain rfl : j = q := by omega
      have hza : (z : Int) = a := by rw [← HX.out, HQ.out.1]
      obtain rfl : z = a := by omega
      have t1 : ((z : Int) != (z : Int)) = false := by simp
      clear hqq hza
      go_wp2_with (at_builtin; go_must (refine append_one (w0 := wr) (B := base) (wb := wr) rfl _ _ 24 rfl base 3 (.int .i64 0) 1 8 Try.underlying24 info_int rfl (by omega) lv m _ [.int .i64 y] rfl rfl how rfl (ints_one [y]) (by omega) (by omega) (Below.refl _ _) (Nat.le_refl _) hbase ?_; intro v' w1 hown' hb' hg' hloc'; obtain ⟨A', c', rfl, hrd'⟩ := own_rd hown'; have hq1 := blk_grown HB.out hg' (fun e => by have := (how.lt _ e.symm).1; omega); have hq2 := blk_cell hq1 0 rfl; have hq3 := blk_free hq1 0; clear hrd' hq1))
      refine bodyPost_end (results_none rfl _ _ _) rfl ?_
      refine ⟨rfl, i, _, w1, rfl, hg', ?_, hloc'⟩
      rw [ints_append, HY.out]
      exact hown'

end Go.Proofs.Ytnegjplfmggeoaa
