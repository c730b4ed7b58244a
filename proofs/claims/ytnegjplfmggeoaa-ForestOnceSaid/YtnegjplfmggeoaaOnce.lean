/- merkhetlaw11.fixed and ForestOnce: the walks. -/
import Derived.Test.YtnegjplfmggeoaaParOf3
import Derived.Deep.QuietTactic
import Derived.BigQuiet
import Derived.Deep.CutBlock
namespace Go.Proofs.Ytnegjplfmggeoaa
open Go.RowKit Go.Maps
set_option linter.unusedSimpArgs false
set_option linter.unusedVariables false

theorem fixed_forest : Fo.Forest [-1, 0, 0, 1] := by
  refine ⟨by decide, fun x hc => ?_⟩
  have h3 := hc.pos 3
  have h1 := hc.pos 1
  have h0 := hc.1
  obtain ⟨n, rfl⟩ := Int.eq_ofNat_of_zero_le h0
  rcases Nat.lt_or_ge n 4 with h | h
  · have hd : ∀ n < 4, Fo.it [-1, 0, 0, 1] 3 ((n : Nat) : Int) < 0 := by decide
    have := hd n h
    omega
  · have : Fo.it [-1, 0, 0, 1] 1 (n : Int) = -1 := by
      show Fo.nx _ (n : Int) = _
      rw [Fo.nx_nat, List.getD_eq_getElem?_getD, List.getElem?_eq_none (by simpa using h)]
      rfl
    omega

theorem fixed_row : icells (Fo.row [-1, 0, 0, 1]) = ints [0, 0, -1, 1, 1, 0, 3, 2, 1, 2, 1, 0] := by kernel_rfl

set_option maxRecDepth 100000 in
set_option maxHeartbeats 4000000 in
theorem fixed11_any (w : World) : Calls Try.prog 7 #[] w fun e w' => e = .returned (.bool true) ∧ Below w.heap.size w w' := by
  have hRd : Rd (w.alloc (.cells #[.int .i64 (-1), .int .i64 0, .int .i64 0, .int .i64 1] 3)) 1 4 (some ⟨w.heap.size, 0, none⟩) 4 (ints [-1, 0, 0, 1]) := by
    refine ⟨rfl, Nat.le_refl _, by omega, .inr ⟨_, 0, rfl, by simp, fun j u hu => ?_⟩⟩
    have := World.news_of_block (w := w.alloc (.cells #[.int .i64 (-1), .int .i64 0, .int .i64 0, .int .i64 1] 3)) (heap_alloc_new w _) j u hu
    have ha : (⟨w.heap.size, 0, none⟩ : Addr).add j = ⟨w.heap.size, 0 + j, none⟩ := by unfold Addr.add; split <;> simp_all
    rwa [ha] at this
  have K := row_any [-1, 0, 0, 1] (some ⟨w.heap.size, 0, none⟩) 4 _ hRd (fun ad had => by cases had; simp) (by simp)
  have HK := Lib.hid K
  clear K hRd
  go_enter Try.func7, Try.ntmps7
  go_wp2_with (go_at_call 9; go_must (refine HK.out.mono ?_; rintro e w1 ⟨v, rfl, hb, hr⟩; have hrow : w1.ownsRow (w.heap.size + 1) 29 3 v 4 (ints [0, 0, -1, 1, 1, 0, 3, 2, 1, 2, 1, 0]) := (by (rcases hr with ⟨_, h⟩ | ⟨h, _⟩); (rw [fixed_row] at h; simpa using h); (exact absurd fixed_forest h)); obtain ⟨A, c, rfl, hrd⟩ := own_rd hrow; obtain ⟨b, o, rfl, hlb, hcc⟩ := hrd.at_ (by omega); have g0 : w1.cell? ⟨b, o, none⟩ = _ := hcc 0 _ rfl; have g1 := hcc 3 _ rfl; have g2 := hcc 6 _ rfl; have g3 := hcc 9 _ rfl; have g4 := hcc 7 _ rfl; have Hb := Lib.hid hb; clear hr hrow hrd hcc hb))
  go_ret
  exact ⟨rfl, ((Below.refl _ _).alloc (Nat.le_refl _) _).trans (Hb.out.mono (by simp))⟩

theorem Fo.sub_depth (P : List Int) : ∀ (f : Nat) (x d : Int) (y : Fo.Item), y ∈ Fo.sub P f x d → y.depth ≤ d + f
  | 0, _, _, _, h => by simp [Fo.sub] at h
  | f + 1, x, d, y, h => by
    rw [Fo.sub] at h
    obtain ⟨i, hi, hy⟩ := List.mem_flatMap.1 h
    rcases List.mem_cons.1 hy with rfl | hy
    · show d ≤ _
      omega
    · have := Fo.sub_depth P f i (d + 1) y hy
      omega

/-- Where places stand among the first i of a row. -/
def AtIs (R : List Fo.Item) (n i : Nat) (f : Nat → Int) : Prop :=
  ∀ p, p < n → (f p = -1 ∧ ∀ (k : Nat) (y : Fo.Item), k < i → R[k]? = some y → y.place ≠ (p : Int)) ∨ (∃ (k : Nat) (y : Fo.Item), k < i ∧ f p = k ∧ R[k]? = some y ∧ y.place = (p : Int))

theorem nodup_at {R : List Fo.Item} (hR : (R.map (·.place)).Nodup) {i k : Nat} {x y : Fo.Item} (hi : R[i]? = some x) (hk : R[k]? = some y) (h : x.place = y.place) : i = k := by
  obtain ⟨hi1, hi2⟩ := List.getElem?_eq_some_iff.1 hi
  obtain ⟨hk1, hk2⟩ := List.getElem?_eq_some_iff.1 hk
  have hp := List.pairwise_iff_getElem.1 hR
  rcases Nat.lt_trichotomy i k with h1 | h1 | h1
  · have := hp i k (by simpa using hi1) (by simpa using hk1) h1
    simp [hi2, hk2, h] at this
  · exact h1
  · have := hp k i (by simpa using hk1) (by simpa using hi1) h1
    simp [hi2, hk2, h] at this

theorem Below.drewN {B : Nat} {a w : World} (h : Below B a w) (q : Nat) : Below B a (w.drewN q) := ⟨h.os, h.tape, h.output, h.size, h.block⟩

theorem AtIs.step {R : List Fo.Item} {n j : Nat} {f : Nat → Int} (h : AtIs R n j f) {y : Fo.Item} (hy : R[j]? = some y) {z : Nat} (hz : y.place = z) : AtIs R n (j + 1) (Fo.upd f z j) := by
  intro p hp
  unfold Fo.upd
  by_cases e : p = z
  · subst e
    rw [if_pos rfl]
    exact .inr ⟨j, y, by omega, rfl, hy, hz⟩
  · rw [if_neg e]
    rcases h p hp with ⟨h1, h2⟩ | ⟨k, q, h1, h2, h3, h4⟩
    · refine .inl ⟨h1, fun k x hk hx => ?_⟩
      rcases Nat.lt_or_ge k j with h3 | h3
      · exact h2 k x h3 hx
      · obtain rfl : k = j := by omega
        rw [hy] at hx
        cases hx
        rw [hz]
        intro e'
        exact e (by omega)
    · exact .inr ⟨k, q, by omega, h2, h3, h4⟩

/-- Behind the store of a round: what the rest of the round reads. -/
theorem once_world {w2 wr : World} {i j z : Nat} {f : Nat → Int} {yd yp : Int} (nq : Nat) (how : wr.ownsRow w2.heap.size 3 1 (.slice (some ⟨w2.heap.size, 0, none⟩) i i) i (ints (Fo.cellsOf f i))) (hb : Below w2.heap.size w2 wr) :
    let W := ((wr.alloc (.cells #[.int .i64 z, .int .i64 yd, .int .i64 yp] 29)).drewN nq).setCell ⟨w2.heap.size, z, none⟩ (.int .i64 j)
    W.ownsRow w2.heap.size 3 1 (.slice (some ⟨w2.heap.size, 0, none⟩) i i) i (ints (Fo.cellsOf (Fo.upd f z j) i)) ∧ Below w2.heap.size w2 W ∧ wr.heap.size < W.heap.size ∧
      W.heap[wr.heap.size]? = some (.cells #[.int .i64 z, .int .i64 yd, .int .i64 yp] 29 (0, 0)) := by
  intro W
  have hlt : w2.heap.size < wr.heap.size := (how.lt _ rfl).2
  have h1 : (wr.alloc (.cells #[.int .i64 z, .int .i64 yd, .int .i64 yp] 29)).drewN nq |>.ownsRow w2.heap.size 3 1 (.slice (some ⟨w2.heap.size, 0, none⟩) i i) i (ints (Fo.cellsOf f i)) := how.alloc _
  have h2 := (h1.stored z (.int .i64 j)).1
  rw [ints_set, Fo.cellsOf_set] at h2
  refine ⟨h2, (Below.drewN (hb.alloc (by omega) _) nq).setCell (Nat.le_refl _) _, ?_, ?_⟩
  · show wr.heap.size < (World.setCell _ _ _).heap.size
    have : (((wr.alloc (.cells #[.int .i64 z, .int .i64 yd, .int .i64 yp] 29)).drewN nq).setCell ⟨w2.heap.size, z, none⟩ (.int .i64 j)).heap.size = (wr.alloc (.cells #[.int .i64 z, .int .i64 yd, .int .i64 yp] 29)).heap.size := by
      simp only [World.setCell, Array.size_modify]
      rfl
    rw [this]
    simp
  · rw [Below.heap_setCell _ _ _ _ (by simp; omega)]
    exact blk_new wr _ _

set_option maxRecDepth 100000 in
set_option maxHeartbeats 4000000 in
theorem once_any (l : List Sp) (hw : ∀ s ∈ l, s.wf) (n : Nat) (hl : l.length = n) (A : Option Addr) (c : Nat) (w : World) (hP : Rd w 8 n A c (spans l)) :
    Calls Try.prog 3 #[.slice A n c] w fun e w' => e = .returned (.bool true) ∧ Below w.heap.size w w' := by
  obtain ⟨i0, hi0, hz0, hz1, hz2⟩ := info_parts info_int
  have hbig : n ≤ 9223372036854775807 := by have := hP.2.1; have := hP.2.2.1; omega
  rcases Nat.lt_or_ge 60 n with h60 | h60
  · have HF := Lib.hid (fixed11_any w)
    clear hw hl hP
    go_enter Try.func3, Try.ntmps3
    go_wp2_with (go_at_call 7; go_must (refine HF.out.mono ?_; rintro e w1 ⟨rfl, hb⟩))
    go_ret
    exact ⟨rfl, hb⟩
  · have HK := Lib.hid (of_any l hw n hl A c w hP (by omega))
    clear hw hl hP
    go_enter Try.func3, Try.ntmps3
    go_upto_region 10 with (first
      | (go_at_call 8; go_must (refine HK.out.mono ?_; rintro e w1 ⟨v, P, rfl, hPl, hF, hb1, hown⟩; obtain ⟨A1, c1, rfl, hrd1⟩ := own_rd hown; have HR := Lib.hid (row_any P A1 c1 w1 (by rw [hPl]; exact hrd1) (fun ad had => by subst had; exact (hown.lt _ rfl).2) (by omega)); have H1 := Lib.hid (And.intro hPl (And.intro hF (And.intro hb1 (And.intro hown hrd1)))); rw [hPl] at HR; clear hPl hF hb1 hown hrd1))
      | (go_at_call 9; go_must (refine HR.out.mono ?_; rintro e w2 ⟨v2, rfl, hb2, hr2⟩; have hown2 : w2.ownsRow w1.heap.size 29 3 v2 n (icells (Fo.row P)) := (by (rcases hr2 with ⟨_, h⟩ | ⟨h, _⟩); (rw [H1.out.1] at h; exact h); (exact absurd H1.out.2.1 h)); obtain ⟨A2, c2, rfl, hrd2⟩ := own_rd hown2; have H2 := Lib.hid (And.intro hb2 (And.intro hown2 hrd2)); clear hr2 hown2 hrd2 hb2))
      | (at_make; go_must (refine wpList_make_full _ rfl _ _ 24 rfl w2.heap.size 3 i0 (.int .i64 0) 1 Try.underlying24 hi0 hz0 hz1 _ _ _ _ n rfl rfl rfl rfl (by rw [hz2]; omega) (by simp only [maxLen]; omega) (by omega) ?_; intro w3 hown3 hg3)))
    have h0 := toList_madeCells_one (Value.int IntKind.i64 0) (n * 1)
    rw [show (Value.int IntKind.i64 0).cells = #[Value.int .i64 0] from rfl, h0] at hown3
    have hown3' : w3.ownsRow w2.heap.size 3 1 (.slice (some ⟨w2.heap.size, 0, none⟩) n n) n (ints (Fo.cellsOf (fun _ => 0) n)) := by simpa [ints, Fo.cellsOf, List.map_const'] using hown3
    have hb3 : Below w2.heap.size w2 w3 := (Below.refl _ _).grown hg3 (Nat.le_refl _) (by simp)
    have H3 := Lib.hid (And.intro hown3' hb3)
    clear hown3' hb3 hown3 hg3 h0 HK HR
    go_wp2_with fail
    go_loopg [35] n (fun k s35 W => ∃ i : Nat, i ≤ n ∧ n - i ≤ k ∧ s35 = .int .i64 i ∧ Aside (∃ f : Nat → Int, (∀ p, p < i → f p = -1) ∧ W.ownsRow w2.heap.size 3 1 (.slice (some ⟨w2.heap.size, 0, none⟩) n n) n (ints (Fo.cellsOf f n)) ∧ Below w2.heap.size w2 W))
    case atStart => exact ⟨0, Nat.zero_le _, by omega, rfl, _, (by intro p hp; omega), H3.out⟩
    case round =>
      obtain ⟨i, hi, hk, rfl, hx⟩ := hrel
      clear H3
      rcases Nat.lt_or_ge i n with hlt | hge
      · obtain ⟨f, hf, how, hb⟩ := hx.out
        have hcl := how.cellAt i (by omega)
        have hfr := how.frozenAt i
        have hat : (ints (Fo.cellsOf f n))[i]? = some (.int .i64 (f i)) := by
          simp [ints, Fo.cellsOf_at f n i hlt]
        rw [hat] at hcl
        have HO := Lib.hid how
        have HB := Lib.hid hb
        have HF := Lib.hid hf
        clear hx hat how hb hf
        go_wp2
        go_roundg (n - (i + 1))
        case measure => omega
        case rel =>
          refine ⟨i + 1, by omega, Nat.le_refl _, by simp, Fo.upd f i (-1), ?_, ?_, HB.out.setCell (Nat.le_refl _) _⟩
          · intro p hp
            unfold Fo.upd
            split
            · rfl
            · exact HF.out p (by omega)
          · have h1 := (HO.out.stored i (.int .i64 (-1))).1
            rw [ints_set, Fo.cellsOf_set] at h1
            exact h1
      · obtain rfl : i = n := by omega
        obtain ⟨f, hf, how, hb⟩ := hx.out
        have HX := Lib.hid (show ∃ f, AtIs (Fo.row P) i 0 f ∧ wr.ownsRow w2.heap.size 3 1 (.slice (some ⟨w2.heap.size, 0, none⟩) i i) i (ints (Fo.cellsOf f i)) ∧ Below w2.heap.size w2 wr from ⟨f, fun p hp => .inl ⟨hf p hp, by intro k y hk; omega⟩, how, hb⟩)
        clear hx hf how hb hi hk hge
        go_wp2_with fail
        go_loopg [44] i (fun k s44 W => ∃ j : Nat, j ≤ i ∧ i - j ≤ k ∧ s44 = .int .i64 j ∧ Aside (∃ f, AtIs (Fo.row P) i j f ∧ W.ownsRow w2.heap.size 3 1 (.slice (some ⟨w2.heap.size, 0, none⟩) i i) i (ints (Fo.cellsOf f i)) ∧ Below w2.heap.size w2 W))
        case atStart => exact ⟨0, Nat.zero_le _, by omega, rfl, HX.out⟩
        case round =>
          clear HX
          obtain ⟨j, hj, hjk, rfl, hx⟩ := hrel
          rcases Nat.lt_or_ge j i with hlt | hge
          · obtain ⟨f, hf, how, hb⟩ := hx.out
            clear hx
            obtain ⟨hPl, hFor, hb1, hown1, hrd1⟩ := H1.out
            obtain ⟨hb2, hown2, hrd2⟩ := H2.out
            have hRl : (Fo.row P).length = i := by rw [Fo.row_length hFor, hPl]
            have hy : (Fo.row P)[j]? = some ((Fo.row P)[j]'(by rw [hRl]; exact hlt)) := List.getElem?_eq_getElem _
            generalize (Fo.row P)[j]'(by rw [hRl]; exact hlt) = y at hy
            obtain ⟨y1, y2, y3, y4, y5, y6⟩ := Fo.row_at hFor j y hy
            obtain ⟨z, hz⟩ := Int.eq_ofNat_of_zero_le y1
            have hzi : z < i := by omega
            -- the row's item
            obtain ⟨b2, o2, rfl, hl2, hc2⟩ := hrd2.at_ (by omega)
            obtain ⟨d0, d1, d2⟩ := icells_at _ _ _ hy
            have hr0 := (hb.cell (p := ⟨b2, o2 + j * 3, none⟩) hl2).trans (hc2 _ _ d0)
            have hr1 := (hb.cell (p := ⟨b2, o2 + (j * 3 + 1), none⟩) hl2).trans (hc2 _ _ d1)
            have hr2 := (hb.cell (p := ⟨b2, o2 + (j * 3 + 2), none⟩) hl2).trans (hc2 _ _ d2)
            rw [← Nat.add_assoc] at hr1 hr2
            -- its place's parent
            obtain ⟨b1, o1, rfl, hl1, hc1⟩ := hrd1.at_ (by omega)
            have hp0 := hc1 z _ (ints_at P z (by omega))
            have hp1 := (hb2.cell (p := ⟨b1, o1 + z, none⟩) hl1).trans hp0
            have hp2 := (hb.cell (p := ⟨b1, o1 + z, none⟩) (Nat.lt_of_lt_of_le hl1 hb2.size)).trans hp1
            have hpz : P.getD z (-1) = y.parent := by rw [y3, hz]; rfl
            rw [hpz] at hp2
            -- where the place stood
            have hfz : f z = -1 := by
              rcases hf z hzi with ⟨h, _⟩ | ⟨k, q, hk, _, hq, hqz⟩
              · exact h
              · have := nodup_at (Fo.row_nodup hFor) hy hq (by rw [hqz, hz])
                omega
            have hcl := how.cellAt z (by omega)
            have hfr := how.frozenAt z
            have hat : (ints (Fo.cellsOf f i))[z]? = some (.int .i64 (f z)) := by
              simp [ints, Fo.cellsOf_at f i z hzi]
            rw [hat, hfz] at hcl
            have hws : w2.heap.size < wr.heap.size := (how.lt _ rfl).2
            rw [hz] at hr0
            have hb2l : b2 < wr.heap.size := by omega
            have hb1l : b1 < wr.heap.size := by have := hb2.size; omega
            have hrng : -1 ≤ y.parent ∧ y.parent < (i : Int) := by
              have hzP : z < P.length := by omega
              have h1 : P.getD z (-1) ∈ P := by
                rw [List.getD_eq_getElem?_getD, List.getElem?_eq_getElem hzP]; simp
              have h2 := hFor.1 _ h1
              rw [hpz, hPl] at h2
              exact h2
            have hdd : y.depth ≤ 0 + ((P.length + 1 : Nat) : Int) := Fo.sub_depth P _ (-1) 0 y (List.mem_of_getElem? hy)
            rw [hPl] at hdd
            have hic2 : i ≤ c2 := hrd2.2.1
            have HY := Lib.hid (And.intro y5 y6)
            have HO := Lib.hid how
            have HB := Lib.hid hb
            have HF := Lib.hid hf
            have Hz := Lib.hid hz
            have Hy := Lib.hid hy
            have HR3 := Lib.hid hrd2
            have HFo := Lib.hid hFor
            have HC2 := Lib.hid hc2
            clear y5 y6 how hb hf hz hy hrd2 hFor hc2 hc1 hp0 hp1 hat hb1 hown1 hrd1 hown2 hb2 y1 y2 y3 hPl d0 d1 d2 hpz hfz
            have HG := Lib.hid hrng
            clear hrng
            generalize y.parent = yp at hr2 hp2 HY HG
            have t1 : decide ((z : Int) < 0) = false := decide_eq_false (by omega)
            have t2 : decide ((i : Int) ≤ (z : Int)) = false := decide_eq_false (by omega)
            have t5 : decide (i ≤ z) = false := decide_eq_false (by omega)
            have t3 : decide ((0 : Int) ≤ -1) = false := by decide
            have t4 : (yp != yp) = false := by simp
            go_upto_region 18 with fail
            go_quiet (fail)
            go_upto_region 21 with fail
            obtain ⟨ho4, hb4, hs4, hx4⟩ := once_world (z := z) (j := j) (yd := y.depth) (yp := yp) nq HO.out HB.out
            generalize (((wr.alloc (.cells #[.int .i64 z, .int .i64 y.depth, .int .i64 yp] 29)).drewN nq).setCell ⟨w2.heap.size, z, none⟩ (.int .i64 j)) = WX at ho4 hb4 hs4 hx4
            have hat4 := HF.out.step Hy.out Hz.out
            have H4 := Lib.hid (And.intro ho4 (And.intro hb4 hat4))
            obtain ⟨x0, x1, x2⟩ := blk_cells3 hx4
            clear ho4 hb4 hat4 hr0 hr1 hr2 hp2 hcl hfr t1 t2 t3 t4 t5 HO HB
            generalize wr.heap.size = xb at hs4 hx4 x0 x1 x2
            generalize y.depth = yd at x1 HY y4 hdd
            rcases Int.lt_or_le yp 0 with hneg | hpos
            · have t1 : decide (yp < 0) = true := decide_eq_true hneg
              have hd := HY.out.1 hneg
              subst hd
              go_wp2
              go_roundg (i - (j + 1))
              case measure => omega
              case rel => exact ⟨j + 1, by omega, Nat.le_refl _, by simp, _, H4.out.2.2, H4.out.1, H4.out.2.1⟩
            · have t1 : decide (yp < 0) = false := decide_eq_false (by omega)
              obtain ⟨k, q, hkj, hq, hqp, hqd, hbet⟩ := HY.out.2 hpos
              obtain ⟨p, rfl⟩ := Int.eq_ofNat_of_zero_le hpos
              have hpi : p < i := by have := HG.out.2; omega
              have hfp : Fo.upd f z j p = (k : Int) := by
                rcases H4.out.2.2 p hpi with ⟨_, h⟩ | ⟨k', q', hk', he, hq', hp'⟩
                · exact absurd hqp (h k q (by omega) hq)
                · have := nodup_at (Fo.row_nodup HFo.out) hq hq' (by rw [hqp, hp'])
                  rw [he, this]
              have hcp := H4.out.1.cellAt p (by omega)
              have hat : (ints (Fo.cellsOf (Fo.upd f z j) i))[p]? = some (.int .i64 (Fo.upd f z j p)) := by
                simp [ints, Fo.cellsOf_at _ i p hpi]
              rw [hat, hfp] at hcp
              obtain ⟨_, d1, _⟩ := icells_at _ _ _ hq
              have hkd := (H4.out.2.1.cell (p := ⟨b2, o2 + (k * 3 + 1), none⟩) hl2).trans (HC2.out _ _ d1)
              rw [← Nat.add_assoc] at hkd
              have t2 : decide ((k : Int) < 0) = false := decide_eq_false (by omega)
              have hyd : yd - 1 = q.depth := by omega
              have t3 : (q.depth != yd - 1) = false := by rw [hyd]; simp
              have hwd : -9223372036854775808 ≤ yd - 1 ∧ yd - 1 ≤ 9223372036854775807 := by omega
              have hki : k < i := by omega
              have HQ := Lib.hid (And.intro hq (And.intro hqd hbet))
              have Hyd := Lib.hid hyd
              clear hq hqp hqd hbet hat hfp d1 hyd
              have hb' := H4.out.2.1
              have HB := Lib.hid hb'
              clear hb'
              go_upto_region 25 with fail
              go_quiet (fail)
              have hbn : Below WX.heap.size WX (WX.drewN nq) := Below.drewN (Below.refl _ _) nq
              have HBN := Lib.hid hbn
              clear hbn t1 t2 t3 hwd hkd hcp x0 x1 x2 hx4
              generalize hWY : WX.drewN nq = WY at HBN
              clear hWY
              have hkl : k + 1 ≤ j := hkj
              generalize hAd : (if c2 = k + 1 then (some ⟨b2, o2, none⟩ : Option Addr) else some ⟨b2, o2 + (k + 1) * 3, none⟩) = Ad
              have hbY : Below w2.heap.size w2 WY := H4.out.2.1.trans (HBN.out.mono H4.out.2.1.size)
              have HBY := Lib.hid hbY
              have hAd' : ∀ m, m < j - (k + 1) → Ad = some ⟨b2, o2 + (k + 1) * 3, none⟩ := by
                intro m hm
                rw [← hAd, if_neg (by omega)]
              have HAd := Lib.hid hAd'
              clear hbY hAd hAd' HY HG HF
              go_upto_block 4 with fail
              go_wp2_with fail
              go_loopg [112] (j - (k + 1)) (fun g s112 W => ∃ m : Nat, m ≤ j - (k + 1) ∧ (j - (k + 1)) - m ≤ g ∧ s112 = .int .i64 m ∧ Aside (Below WY.heap.size WY W))
              case atStart => exact ⟨0, Nat.zero_le _, by omega, rfl, Below.refl _ _⟩
              case round =>
                obtain ⟨m, hm, hmk, rfl, hx⟩ := hrel
                have hbW : Below w2.heap.size w2 wr := HBY.out.trans (hx.out.mono HBY.out.size)
                have hWs : w2.heap.size ≤ wr.heap.size := hbW.size
                rcases Nat.lt_or_ge m (j - (k + 1)) with hml | hml
                · have hAe := HAd.out m hml
                  subst hAe
                  have hyi : k + 1 + m < (Fo.row P).length := by rw [hRl]; omega
                  have hym : (Fo.row P)[k + 1 + m]? = some ((Fo.row P)[k + 1 + m]) := List.getElem?_eq_getElem hyi
                  generalize (Fo.row P)[k + 1 + m] = y' at hym
                  have hdep := HQ.out.2.2 (k + 1 + m) y' (by omega) (by omega) hym
                  obtain ⟨e0, e1, e2⟩ := icells_at _ _ _ hym
                  have r0 := (hbW.cell (p := ⟨b2, o2 + ((k + 1 + m) * 3), none⟩) hl2).trans (HC2.out _ _ e0)
                  have r1 := (hbW.cell (p := ⟨b2, o2 + ((k + 1 + m) * 3 + 1), none⟩) hl2).trans (HC2.out _ _ e1)
                  have r2 := (hbW.cell (p := ⟨b2, o2 + ((k + 1 + m) * 3 + 2), none⟩) hl2).trans (HC2.out _ _ e2)
                  rw [show o2 + ((k + 1 + m) * 3) = o2 + (k + 1) * 3 + m * 3 by omega] at r0
                  rw [show o2 + ((k + 1 + m) * 3 + 1) = o2 + (k + 1) * 3 + m * 3 + 1 by omega] at r1
                  rw [show o2 + ((k + 1 + m) * 3 + 2) = o2 + (k + 1) * 3 + m * 3 + 2 by omega] at r2
                  obtain ⟨_, d1, _⟩ := icells_at _ _ _ HQ.out.1
                  have hkd := (hbW.cell (p := ⟨b2, o2 + (k * 3 + 1), none⟩) hl2).trans (HC2.out _ _ d1)
                  rw [← Nat.add_assoc] at hkd
                  have t1 : decide (y'.depth ≤ q.depth) = false := decide_eq_false (by omega)
                  have hb2W : b2 < wr.heap.size := by omega
                  have HX := Lib.hid hx
                  clear e0 e1 e2 d1 hdep hym hx hbW
                  go_upto_region 30 with fail
                  go_quiet (fail)
                  go_wp2
                  go_roundg (j - (k + 1) - (m + 1))
                  case measure => omega
                  case rel => exact ⟨m + 1, by omega, Nat.le_refl _, by simp, Below.drewN (HX.out.out.alloc HX.out.out.size _) _⟩
                · obtain rfl : m = j - (k + 1) := by omega
                  have HX := Lib.hid (And.intro hbW hx.out)
                  clear hbW hx
                  go_wp2
                  go_roundg (i - (j + 1))
                  case measure => omega
                  case rel =>
                    have h1 := HBN.out.size
                    exact ⟨j + 1, by omega, Nat.le_refl _, by simp, _, H4.out.2.2, own_below (own_below H4.out.1 HBN.out (Nat.le_refl _)) HX.out.2 (Nat.le_refl _), HX.out.1⟩
          · obtain rfl : j = i := by omega
            obtain ⟨f, hf, how, hb⟩ := hx.out
            have HB := Lib.hid hb
            have HFX := Lib.hid fixed11_any
            clear hf how hb hx
            go_wp2_with (go_at_call 7; go_must (refine (HFX.out _).mono ?_; rintro e w5 ⟨rfl, hb5⟩))
            go_ret
            have h1 := H1.out.2.2.1
            have h2 := H2.out.1
            refine ⟨rfl, ?_⟩
            have h12 : Below w.heap.size w w2 := h1.trans (h2.mono h1.size)
            have h13 := h12.trans (HB.out.mono h12.size)
            exact h13.trans (hb5.mono h13.size)

end Go.Proofs.Ytnegjplfmggeoaa
