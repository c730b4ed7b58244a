/- clamp.Starts: where spans begin, clamped. No condition but the reach of the places. -/
import Derived.Test.YtlajboohkkbgdaaGivA
import Derived.Test.YtlajboohkkbgdaaForRow2
import Derived.Test.YtlajboohkkbgdaaPXx1
import Derived.Deep.RegionHeld3
import Derived.Deep.CutBlock
import Derived.RegionTactic
import Derived.Outline
namespace Go.Proofs.Ytlajboohkkbgdaa
open Go.RowKit Go.Maps
open Go.Proofs.YtlajboohkkbgdaaX (SP spOf clamp_start.f clamp_start.calls)
set_option linter.unusedSimpArgs false
set_option linter.unusedVariables false

theorem info_i64 : (Try.prog.info? 2).map (fun i => (i.zero, i.size, i.bytes)) = some (some (.int .i64 0), 1, 8) := by kernel_rfl

abbrev z0 : SP := Go.Proofs.YtlajboohkkbgdaaX.z34
/-- Where a span begins below its parent, that begins somewhere. -/
def stV (x p : SP) (a : Int) : Int := (clamp_start.f x.f0 x.f1 x.f2 x.f3 x.f4 x.f5 x.f6 x.f7 p.f0 p.f1 p.f2 p.f3 p.f4 p.f5 p.f6 p.f7 a).getD 0
theorem stV_some (x p : SP) (a : Int) : clamp_start.f x.f0 x.f1 x.f2 x.f3 x.f4 x.f5 x.f6 x.f7 p.f0 p.f1 p.f2 p.f3 p.f4 p.f5 p.f6 p.f7 a = some (stV x p a) := by
  unfold stV clamp_start.f Go.Proofs.YtlajboohkkbgdaaX.clamp_between_int64.f
  split <;> rfl

/-- One item of the row. -/
def stepC (l : List SP) (out : List Int) (y : Fo.Item) : List Int :=
  let o1 := out.set y.place.toNat (l.getD y.place.toNat z0).f6
  if 0 ≤ y.parent then o1.set y.place.toNat (stV (l.getD y.place.toNat z0) (l.getD y.parent.toNat z0) (o1.getD y.parent.toNat 0)) else o1
theorem stepC_length (l : List SP) (out : List Int) (y : Fo.Item) : (stepC l out y).length = out.length := by
  unfold stepC
  simp only
  split <;> simp
def startsTo (l : List SP) (P : List Int) (j : Nat) : List Int := ((Fo.row P).take j).foldl (stepC l) (List.replicate l.length 0)
theorem startsTo_length (l : List SP) (P : List Int) (j : Nat) : (startsTo l P j).length = l.length := by
  unfold startsTo
  have : ∀ (ys : List Fo.Item) (o : List Int), (ys.foldl (stepC l) o).length = o.length := by
    intro ys
    induction ys with
    | nil => intro o; rfl
    | cons y ys ih => intro o; rw [List.foldl_cons, ih, stepC_length]
  rw [this]; simp
theorem startsTo_succ (l : List SP) (P : List Int) (j : Nat) (y : Fo.Item) (h : (Fo.row P)[j]? = some y) : startsTo l P (j + 1) = stepC l (startsTo l P j) y := by
  unfold startsTo
  obtain ⟨hj, rfl⟩ := List.getElem?_eq_some_iff.1 h
  rw [List.take_succ_eq_append_getElem hj, List.foldl_append]
  rfl
/-- Where all begin. -/
def startsL (l : List SP) (P : List Int) : List Int := startsTo l P (Fo.row P).length

theorem cs_later {w w1 : World} {p : Addr} {u : Value} (hb : Below w.heap.size w w1) (h : w.cell? p = some u) : w1.cell? p = some u := (hb.cell (World.block_lt_of_cell? w p h)).trans h
theorem fs_later {w w1 : World} {p : Addr} {u : Value} (hb : Below w.heap.size w w1) (hc : w.cell? p = some u) (h : w.frozen? p = false) : w1.frozen? p = false := (hb.frozen (World.block_lt_of_cell? w p hc)).trans h
/-- What lies at a cell. -/
def atv (w : World) (g z : Nat) : Value := (w.cell? ⟨g, z, none⟩).getD undef
theorem atv_of {w : World} {g z : Nat} {u : Value} (h : w.cell? ⟨g, z, none⟩ = some u) : w.cell? ⟨g, z, none⟩ = some (atv w g z) := by unfold atv; rw [h]; rfl
theorem set_far {w : World} {g z b q : Nat} {u v : Value} (hne : b ≠ g) (h : w.cell? ⟨b, q, none⟩ = some u) : (w.setCell ⟨g, z, none⟩ v).cell? ⟨b, q, none⟩ = some u := (World.cell?_setCell_other w ⟨g, z, none⟩ ⟨b, q, none⟩ v (fun e => by cases e; exact hne rfl)).trans h
theorem set_off {w : World} {g z q : Nat} {u v : Value} (hne : q ≠ z) (h : w.cell? ⟨g, q, none⟩ = some u) : (w.setCell ⟨g, z, none⟩ v).cell? ⟨g, q, none⟩ = some u := (World.cell?_setCell_other w ⟨g, z, none⟩ ⟨g, q, none⟩ v (fun e => by cases e; exact hne rfl)).trans h
theorem set_at {w : World} {g z : Nat} {u v : Value} (h : w.cell? ⟨g, z, none⟩ = some u) : (w.setCell ⟨g, z, none⟩ v).cell? ⟨g, z, none⟩ = some (atv (w.setCell ⟨g, z, none⟩ v) g z) := by
  obtain ⟨v', hv⟩ := cell?_setCell_some (w := w) (p := ⟨g, z, none⟩) (x := v) (q := ⟨g, z, none⟩) (v := u) h
  exact atv_of hv
theorem set_fr {w : World} {g z b q : Nat} {v : Value} (h : w.frozen? ⟨b, q, none⟩ = false) : (w.setCell ⟨g, z, none⟩ v).frozen? ⟨b, q, none⟩ = false := by
  rw [← h]; simp [go_sem]
theorem only_drewN {a w : World} {row : Option Nat} (h : a.grownBy w row) (n : Nat) : a.grownBy (w.drewN n) row := ⟨h.os, h.tape, h.output, h.size, h.block⟩
theorem only_alloc {a w : World} {row : Option Nat} (h : a.grownBy w row) (o : Obj) : a.grownBy (w.alloc o) row :=
  ⟨h.os, h.tape, h.output, Nat.le_trans h.size (by simp), fun i hi hne => (Below.heap_alloc w o i (Nat.lt_of_lt_of_le hi h.size)).trans (h.block i hi hne)⟩
theorem only_setCell {a w : World} {g : Nat} (h : a.grownBy w (some g)) {p : Addr} (hp : p.block = g ∨ a.heap.size ≤ p.block) (u : Value) : a.grownBy (w.setCell p u) (some g) :=
  ⟨h.os, h.tape, h.output, by simpa [World.setCell] using h.size, fun i hi hne => (Below.heap_setCell w p u i (by
    rintro rfl
    rcases hp with hp | hp
    · exact hne (by rw [hp])
    · omega)).trans (h.block i hi hne)⟩
theorem only_below {a w w1 : World} {g : Nat} (h : a.grownBy w (some g)) (hb : Below w.heap.size w w1) : a.grownBy w1 (some g) :=
  ⟨hb.os.trans h.os, hb.tape.trans h.tape, hb.output.trans h.output, Nat.le_trans h.size hb.size, fun i hi hn => (hb.block i (Nat.lt_of_lt_of_le hi h.size)).trans (h.block i hi hn)⟩
theorem only_cell {a w : World} {g b o : Nat} (h : a.grownBy w (some g)) (hb : b < a.heap.size) (hne : b ≠ g) : w.cell? ⟨b, o, none⟩ = a.cell? ⟨b, o, none⟩ :=
  World.cell?_of_block (h.block b hb (fun e => hne (by injection e)))

/-- A span lies there. -/
def At8 (w : World) (b o : Nat) (x : SP) : Prop := w.cell? ⟨b, o, none⟩ = some (.int .u64 x.f0) ∧ w.cell? ⟨b, o + 1, none⟩ = some (.int .u64 x.f1) ∧ w.cell? ⟨b, o + 2, none⟩ = some (.int .u64 x.f2) ∧ w.cell? ⟨b, o + 3, none⟩ = some (.int .u8 x.f3) ∧ w.cell? ⟨b, o + 4, none⟩ = some (.string x.f4) ∧ w.cell? ⟨b, o + 5, none⟩ = some (.string x.f5) ∧ w.cell? ⟨b, o + 6, none⟩ = some (.int .i64 x.f6) ∧ w.cell? ⟨b, o + 7, none⟩ = some (.int .i64 x.f7)
theorem At8.keep {w W : World} {b o : Nat} {x : SP} (h : At8 w b o x) (k : ∀ q u, w.cell? ⟨b, q, none⟩ = some u → W.cell? ⟨b, q, none⟩ = some u) : At8 W b o x :=
  ⟨k _ _ h.1, k _ _ h.2.1, k _ _ h.2.2.1, k _ _ h.2.2.2.1, k _ _ h.2.2.2.2.1, k _ _ h.2.2.2.2.2.1, k _ _ h.2.2.2.2.2.2.1, k _ _ h.2.2.2.2.2.2.2⟩
theorem span_at {w : World} {A : Option Addr} {c : Nat} {l : List SP} (h : Rd w 8 (l.map spOf).length A c (spans (l.map spOf))) (i : Nat) (hi : i < l.length) : ∃ b o, A = some ⟨b, o, none⟩ ∧ b < w.heap.size ∧ At8 w b (o + i * 8) (l.getD i z0) := by
  obtain ⟨b, o, rfl, hlt, hc⟩ := h.at_ (by rw [List.length_map]; omega)
  refine ⟨b, o, rfl, hlt, ?_⟩
  have he : (l.map spOf)[i]? = some (spOf (l.getD i z0)) := by
    rw [List.getElem?_map, List.getD_eq_getElem?_getD, List.getElem?_eq_getElem hi]; rfl
  exact span_cells hc i _ he

/-- Behind the first store of a round. -/
theorem cs_world {w3 wr : World} {g n z : Nat} {out : List Int} {yz yd yp sv : Int} (how : wr.ownsRow g 2 1 (.slice (some ⟨g, 0, none⟩) n n) n (ints out)) (hs : w3.heap.size ≤ wr.heap.size) (hg : w3.grownBy wr (some g)) :
    let W := ((wr.setCell ⟨g, z, none⟩ (.int .i64 sv)).alloc (.cells #[.int .i64 yz, .int .i64 yd, .int .i64 yp] 42)).drew
    W.ownsRow g 2 1 (.slice (some ⟨g, 0, none⟩) n n) n (ints (out.set z sv)) ∧ w3.grownBy W (some g) ∧ wr.heap.size < W.heap.size ∧
      W.heap[wr.heap.size]? = some (.cells #[.int .i64 yz, .int .i64 yd, .int .i64 yp] 42 (0, 0)) := by
  intro W
  have hlt : g < wr.heap.size := (how.lt _ rfl).2
  have h2 := (how.stored z (.int .i64 sv)).1
  rw [ints_set] at h2
  have hsz : (wr.setCell ⟨g, z, none⟩ (.int .i64 sv)).heap.size = wr.heap.size := by simp [World.setCell]
  refine ⟨h2.alloc _, only_drewN (only_alloc (only_setCell hg (.inl rfl) _) _) 1, ?_, ?_⟩
  · show wr.heap.size < (World.alloc _ _).heap.size
    simp [hsz]
  · show (World.alloc _ _).heap[_]? = _
    rw [← hsz]
    exact heap_alloc_new _ _

set_option maxRecDepth 100000 in
set_option maxHeartbeats 8000000 in
theorem cstarts_yes (l : List SP) (P : List Int) (A B : Option Addr) (c d : Nat) (w : World) (hl : Rd w 8 (l.map spOf).length A c (spans (l.map spOf))) (hP : Rd w 1 P.length B d (ints P)) (hB : ∀ ad, B = some ad → 0 < P.length → ad.block < w.heap.size) (hn : P.length ≤ 4294967296)
    (hr : rightB (l.map spOf) P = true) :
    Calls Try.prog 10 #[.slice A l.length c, .slice B P.length d] w fun e w' => ∃ v, e = .returned (.tuple #[v, .bool true]) ∧ w'.ownsRow w.heap.size 2 1 v l.length (ints (startsL l P)) ∧ Below w.heap.size w w' := by
  have HR := Lib.hid (cright_any (l.map spOf) P A B c d w hl hP hB (by omega))
  rw [hr, List.length_map] at HR
  simp only [rightB, Bool.and_eq_true, decide_eq_true_eq, List.length_map] at hr
  obtain ⟨⟨hlen, hfb⟩, hmm⟩ := hr
  clear hmm
  have hF := (forestB_iff P).1 hfb
  have HW := Lib.hid (fun (W : World) (hb : Below w.heap.size w W) => row_any P B d W (hP.below hb (Nat.le_refl _)) (fun ad h0 h1 => Nat.lt_of_lt_of_le (hB ad h0 h1) hb.size) hn)
  have hrl : (Fo.row P).length = l.length := by rw [Fo.row_length hF, hlen]
  have HS := Lib.hid hl
  have HP := Lib.hid hP
  have HF := Lib.hid (And.intro hF (And.intro hlen hrl))
  have hnl : l.length ≤ 4294967296 := by omega
  clear hl hP hB hfb hF hlen hrl
  obtain ⟨i0, hi0, hz0, hz1, hz2⟩ := info_parts info_i64
  go_enter Try.func10, Try.ntmps10
  go_wp2_with (first | (go_at_call 19; go_must (refine HR.out.mono ?_; rintro e w1 ⟨rfl, hb1⟩; have HB1 := Lib.hid hb1; clear hb1)) | (at_make; go_must (refine wpList_make_full _ rfl _ _ 26 rfl w1.heap.size 2 i0 (.int .i64 0) 1 Try.underlying26 hi0 hz0 hz1 _ _ _ _ l.length rfl rfl rfl rfl (by rw [hz2]; omega) (by simp only [maxLen]; omega) (by omega) ?_; intro w2 hown2 hg2; have HG2 := Lib.hid (And.intro hown2 hg2); clear hown2 hg2)) | (go_at_call 20; go_must (refine (HW.out w2 (HB1.out.trans (((Below.refl _ _).grown HG2.out.2 (Nat.le_refl _) (by simp)).mono HB1.out.size))).mono ?_; rintro e w3 ⟨v3, rfl, hb3, hr3⟩; have hown3 : w3.ownsRow w2.heap.size 42 3 v3 l.length (icells (Fo.row P)) := (by (rcases hr3 with ⟨_, h⟩ | ⟨h, _⟩); (rw [HF.out.2.1]; exact h); (exact absurd HF.out.1 h)); obtain ⟨A3, c3, rfl, hrd3⟩ := own_rd hown3; have H3 := Lib.hid (And.intro hb3 (And.intro hown3 hrd3)); clear hr3 hown3 hrd3 hb3)))
  have hrep : ints (startsTo l P 0) = (madeCells (Value.int IntKind.i64 0).cells (l.length * 1)).toList := by
    have h0 := toList_madeCells_one (Value.int IntKind.i64 0) (l.length * 1)
    rw [show (Value.int IntKind.i64 0).cells = #[Value.int .i64 0] from rfl, h0]
    simp [ints, startsTo]
  have hst : w3.ownsRow w1.heap.size 2 1 (.slice (some ⟨w1.heap.size, 0, none⟩) l.length l.length) l.length (ints (startsTo l P 0)) := by
    rw [hrep]; exact own_below HG2.out.1 H3.out.1 (Nat.le_refl _)
  have hlt3 : w1.heap.size < w3.heap.size := (hst.lt _ rfl).2
  have HST := Lib.hid (And.intro hst (And.intro hlt3 (World.grownBy.refl w3 (some w1.heap.size))))
  have hw12 : w1.heap.size ≤ w2.heap.size := HG2.out.2.size
  have hw23 : w2.heap.size ≤ w3.heap.size := H3.out.1.size
  have HSZ := Lib.hid (And.intro hw12 hw23)
  have hwlt : w1.heap.size < w2.heap.size := (HG2.out.1.lt _ rfl).2
  have HWL := Lib.hid hwlt
  have h13 : Below w.heap.size w w3 := (HB1.out.trans (((Below.refl _ _).grown HG2.out.2 (Nat.le_refl _) (by simp)).mono HB1.out.size)).trans (H3.out.1.mono (by have := HB1.out.size; omega))
  have H13 := Lib.hid h13
  clear hrep hst hlt3 hw12 hw23 hwlt h13
  go_loopg [19] l.length (fun k s19 W => ∃ j : Nat, j ≤ l.length ∧ l.length - j ≤ k ∧ s19 = .int .i64 j ∧ Aside (W.ownsRow w1.heap.size 2 1 (.slice (some ⟨w1.heap.size, 0, none⟩) l.length l.length) l.length (ints (startsTo l P j)) ∧ w3.heap.size ≤ W.heap.size ∧ w3.grownBy W (some w1.heap.size)))
  case atStart => exact ⟨0, Nat.zero_le _, by omega, rfl, HST.out.1, Nat.le_refl _, HST.out.2.2⟩
  case round =>
    obtain ⟨j, hj, hk, rfl, hx⟩ := hrel
    clear HST
    rcases Nat.lt_or_ge j l.length with hlt | hge
    · obtain ⟨how, hWs, hg⟩ := hx.out
      obtain ⟨hF, hlen, hrl⟩ := HF.out
      have hjr : j < (Fo.row P).length := by omega
      have hy : (Fo.row P)[j]? = some (Fo.row P)[j] := List.getElem?_eq_getElem hjr
      generalize (Fo.row P)[j] = y at hy
      obtain ⟨y1, y2, y3, y4, y5, y6⟩ := Fo.row_at hF j y hy
      obtain ⟨z, hz⟩ := Int.eq_ofNat_of_zero_le y1
      have hzl : z < l.length := by omega
      have hrng : -1 ≤ y.parent ∧ y.parent < (l.length : Int) := by
        have hzP : z < P.length := by omega
        have h1 : P.getD z (-1) ∈ P := by
          rw [List.getD_eq_getElem?_getD, List.getElem?_eq_getElem hzP]; simp
        have h2 := hF.1 _ h1
        have hpz : P.getD z (-1) = y.parent := by rw [y3, hz]; rfl
        rw [hpz] at h2
        omega
      have hstep := startsTo_succ l P j y hy
      -- the row's item
      obtain ⟨hb3, hown3, hrd3⟩ := H3.out
      obtain ⟨b3, o3, rfl, hl3, hc3⟩ := hrd3.at_ (by omega)
      have hb3ge : w2.heap.size ≤ b3 := (hown3.lt b3 rfl).1
      have hne3 : b3 ≠ w1.heap.size := by have := HWL.out; omega
      obtain ⟨d0, d1, d2⟩ := icells_at _ _ _ hy
      have hr0 := (only_cell (o := o3 + j * 3) hg hl3 hne3).trans (hc3 _ _ d0)
      have hr1 := (only_cell (o := o3 + (j * 3 + 1)) hg hl3 hne3).trans (hc3 _ _ d1)
      have hr2 := (only_cell (o := o3 + (j * 3 + 2)) hg hl3 hne3).trans (hc3 _ _ d2)
      rw [← Nat.add_assoc] at hr1 hr2
      -- its span
      obtain ⟨b, o, rfl, hlb, hat8⟩ := span_at HS.out z hzl
      have hb3l : b < w3.heap.size := Nat.lt_of_lt_of_le hlb H13.out.size
      have hneb : b ≠ w1.heap.size := by have := HB1.out.size; omega
      have cell : ∀ q u, w.cell? ⟨b, q, none⟩ = some u → wr.cell? ⟨b, q, none⟩ = some u := fun q u hu => (only_cell hg hb3l hneb).trans ((H13.out.cell (p := ⟨b, q, none⟩) hlb).trans hu)
      have k6 := (hat8.keep cell).2.2.2.2.2.2.1
      -- where the place stands
      have hcl := how.cellAt z (by omega)
      have hfr := how.frozenAt z
      have hsl := startsTo_length l P j
      have hat : (ints (startsTo l P j))[z]? = some (.int .i64 ((startsTo l P j).getD z (-1))) := ints_at _ _ (by omega)
      rw [hat] at hcl
      rw [hz] at hr0
      have hws : w1.heap.size < wr.heap.size := (how.lt _ rfl).2
      have hbl : b < wr.heap.size := by omega
      have hb3W : b3 < wr.heap.size := by omega
      have hzs : y.place.toNat = z := by omega
      have hstepN : y.parent < 0 → startsTo l P (j + 1) = (startsTo l P j).set z (l.getD z z0).f6 := fun h => by
        rw [hstep, stepC, hzs, if_neg (by omega)]
      have hstepP : ∀ p : Nat, y.parent = (p : Int) → startsTo l P (j + 1) = ((startsTo l P j).set z (l.getD z z0).f6).set z (stV (l.getD z z0) (l.getD p z0) (((startsTo l P j).set z (l.getD z z0).f6).getD p 0)) := fun p h => by
        rw [hstep, stepC, hzs, if_pos (by omega), h]
        rfl
      have hpz : ∀ p : Nat, y.parent = (p : Int) → p ≠ z := fun p h e => by
        subst e
        refine hF.2 y.place ⟨y1, 1, by omega, ?_⟩
        show Fo.nx P y.place = y.place
        rw [Fo.nx_at y1, ← y3, h, hz]
      have HY := Lib.hid (And.intro hstepN (And.intro hstepP (And.intro hpz hrng)))
      clear hstepN hstepP hpz
      have HO := Lib.hid (And.intro how (And.intro hWs hg))
      have HC := Lib.hid hat8
      have HF2 := Lib.hid hF
      have H33 := Lib.hid (And.intro hb3 (And.intro hown3 hrd3))
      have hcc3 : j * 3 + 3 ≤ l.length * 3 := by omega
      have hc3c : l.length ≤ c3 := hrd3.2.1
      have hcl' : z < c := Nat.lt_of_lt_of_le hzl (by have := HS.out.2.1; rwa [List.length_map] at this)
      clear hstep hzs how hWs hg cell hat8 hF hx y1 y2 y3 y4 y5 y6 hy hz d0 d1 d2 hc3 hb3 hown3 hrd3 hat hlen hrl hjr hrng H3
      generalize (startsTo l P j).getD z (-1) = ov at hcl
      generalize hsv : (l.getD z z0).f6 = sv at k6 HY
      have Hsv := Lib.hid hsv
      clear hsv
      have t1 : decide ((z : Int) < 0) = false := decide_eq_false (by omega)
      have t2 : decide ((l.length : Int) ≤ (z : Int)) = false := decide_eq_false (by omega)
      have t5 : decide (l.length ≤ z) = false := decide_eq_false (by omega)
      generalize y.parent = yp at hr2 HY
      generalize y.depth = yd at hr1
      go_upto_region 7 with fail
      go_region
      obtain ⟨ho4, hg4, hs4, hx4⟩ := cs_world (z := z) (yz := z) (yd := yd) (yp := yp) (sv := sv) HO.out.1 HO.out.2.1 HO.out.2.2
      generalize ((wr.setCell ⟨w1.heap.size, z, none⟩ (.int .i64 sv)).alloc (.cells #[.int .i64 z, .int .i64 yd, .int .i64 yp] 42)).drew = WX at ho4 hg4 hs4 hx4 ⊢
      obtain ⟨x0, x1, x2⟩ := blk_cells3 hx4
      have hWS := HO.out.2.1
      clear hr0 hr1 hr2 hcl hfr k6 t1 t2 t5
      generalize hxb : wr.heap.size = xb at hs4 hx4 x0 x1 x2 hWS hbl hb3W hws ⊢
      have H4 := Lib.hid (And.intro ho4 hg4)
      have HX4 := Lib.hid (And.intro hxb hx4)
      clear ho4 hg4 hx4 hxb
      rcases Int.lt_or_le yp 0 with hneg | hpos
      · have t1 : decide (0 ≤ yp) = false := decide_eq_false (by omega)
        go_wp2
        go_roundg (l.length - (j + 1))
        case measure => omega
        case rel =>
          refine ⟨j + 1, by omega, Nat.le_refl _, by simp, ?_, by omega, H4.out.2⟩
          rw [HY.out.1 hneg]
          exact H4.out.1
      · obtain ⟨p, rfl⟩ := Int.eq_ofNat_of_zero_le hpos
        have hpl : p < l.length := by have := HY.out.2.2.2.2; omega
        have t1 : decide ((0 : Int) ≤ (p : Int)) = true := decide_eq_true hpos
        obtain ⟨b', o', hbo, _, ep⟩ := span_at HS.out p hpl
        cases hbo
        have cell : ∀ q u, w.cell? ⟨b, q, none⟩ = some u → WX.cell? ⟨b, q, none⟩ = some u := fun q u hu => (only_cell H4.out.2 hb3l hneb).trans ((H13.out.cell (p := ⟨b, q, none⟩) hlb).trans hu)
        have hz8 := HC.out.keep cell
        have hp8 := ep.keep cell
        clear cell ep
        have HV := Lib.hid (stV_some (l.getD z z0) (l.getD p z0) ((((startsTo l P j).set z sv)).getD p 0))
        have hcp := H4.out.1.cellAt p (by omega)
        have hcz := H4.out.1.cellAt z (by omega)
        have hfz := H4.out.1.frozenAt z
        have hatp : (ints ((startsTo l P j).set z sv))[p]? = some (.int .i64 (((startsTo l P j).set z sv).getD p 0)) := by
          have h1 : p < ((startsTo l P j).set z sv).length := by rw [List.length_set, hsl]; exact hpl
          simp only [ints, List.getElem?_map, List.getD_eq_getElem?_getD, List.getElem?_eq_getElem h1]
          rfl
        have hatz : ∃ az, (ints ((startsTo l P j).set z sv))[z]? = some (.int .i64 az) := by
          have h1 : z < ((startsTo l P j).set z sv).length := by rw [List.length_set, hsl]; exact hzl
          exact ⟨_, by simp only [ints, List.getElem?_map, List.getElem?_eq_getElem h1]; rfl⟩
        obtain ⟨az, hatz⟩ := hatz
        rw [hatp] at hcp
        rw [hatz] at hcz
        have HNV := Lib.hid (HY.out.2.1 p rfl)
        have hpz := HY.out.2.2.1 p rfl
        generalize hxz : l.getD z z0 = xz at hz8 HV HNV
        generalize hxp : l.getD p z0 = xp at hp8 HV HNV
        generalize hap : ((startsTo l P j).set z sv).getD p 0 = ap at hcp HV HNV
        generalize hrv : stV xz xp ap = rv at HV HNV
        have HXX := Lib.hid (And.intro hxz (And.intro hxp (And.intro hap hrv)))
        clear hxz hxp hap hrv hatp hatz
        obtain ⟨k0, k1, k2, k3, k4, k5, k6, k7⟩ := hz8
        obtain ⟨q0, q1, q2, q3, q4, q5, q6, q7⟩ := hp8
        have s1 : decide ((z : Int) < 0) = false := decide_eq_false (by omega)
        have s2 : decide ((l.length : Int) ≤ (z : Int)) = false := decide_eq_false (by omega)
        have s5 : decide (l.length ≤ z) = false := decide_eq_false (by omega)
        have s1' : decide ((p : Int) < 0) = false := decide_eq_false (by omega)
        have s2' : decide ((l.length : Int) ≤ (p : Int)) = false := decide_eq_false (by omega)
        have s5' : decide (l.length ≤ p) = false := decide_eq_false (by omega)
        have hz0' : (0 : Int) ≤ (z : Int) := by omega
        have hz1' : (z : Int) < (l.length : Int) := by omega
        have hp0' : (0 : Int) ≤ (p : Int) := by omega
        have hp1' : (p : Int) < (l.length : Int) := by omega
        have hnx : xb ≠ w1.heap.size := by omega
        go_upto_region 9 with fail
        go_region_held3 (fun w' => w'.cell? ⟨xb, 0, none⟩ = some (.int .i64 z) ∧ w'.cell? ⟨xb, 2, none⟩ = some (.int .i64 p) ∧ w'.cell? ⟨b, o + z * 8, none⟩ = some (.int .u64 xz.f0) ∧ w'.cell? ⟨b, o + z * 8 + 1, none⟩ = some (.int .u64 xz.f1) ∧ w'.cell? ⟨b, o + z * 8 + 2, none⟩ = some (.int .u64 xz.f2) ∧ w'.cell? ⟨b, o + z * 8 + 3, none⟩ = some (.int .u8 xz.f3) ∧ w'.cell? ⟨b, o + z * 8 + 4, none⟩ = some (.string xz.f4) ∧ w'.cell? ⟨b, o + z * 8 + 5, none⟩ = some (.string xz.f5) ∧ w'.cell? ⟨b, o + z * 8 + 6, none⟩ = some (.int .i64 xz.f6) ∧ w'.cell? ⟨b, o + z * 8 + 7, none⟩ = some (.int .i64 xz.f7) ∧ w'.cell? ⟨b, o + p * 8, none⟩ = some (.int .u64 xp.f0) ∧ w'.cell? ⟨b, o + p * 8 + 1, none⟩ = some (.int .u64 xp.f1) ∧ w'.cell? ⟨b, o + p * 8 + 2, none⟩ = some (.int .u64 xp.f2) ∧ w'.cell? ⟨b, o + p * 8 + 3, none⟩ = some (.int .u8 xp.f3) ∧ w'.cell? ⟨b, o + p * 8 + 4, none⟩ = some (.string xp.f4) ∧ w'.cell? ⟨b, o + p * 8 + 5, none⟩ = some (.string xp.f5) ∧ w'.cell? ⟨b, o + p * 8 + 6, none⟩ = some (.int .i64 xp.f6) ∧ w'.cell? ⟨b, o + p * 8 + 7, none⟩ = some (.int .i64 xp.f7) ∧ w'.cell? ⟨w1.heap.size, p, none⟩ = some (.int .i64 ap) ∧ w'.cell? ⟨w1.heap.size, z, none⟩ = some (atv w' w1.heap.size z) ∧ w'.frozen? ⟨w1.heap.size, z, none⟩ = false ∧ WX.grownBy w' (some w1.heap.size))
          (first | (refine ⟨?_, ?_, ?_, ?_, ?_, ?_, ?_, ?_, ?_, ?_, ?_, ?_, ?_, ?_, ?_, ?_, ?_, ?_, ?_, ?_, ?_, ?_⟩ <;> first | assumption | exact atv_of (u := .int .i64 az) (by assumption) | exact only_drewN (World.grownBy.refl _ _) 1 | exact World.grownBy.refl _ _ | (go_keep; done)) | (go_split_ands; refine ⟨?_, ?_, ?_, ?_, ?_, ?_, ?_, ?_, ?_, ?_, ?_, ?_, ?_, ?_, ?_, ?_, ?_, ?_, ?_, ?_, ?_, ?_⟩ <;> first | exact atv_of (cs_later (by assumption) (by assumption)) | exact cs_later (by assumption) (by assumption) | exact fs_later (by assumption) (by assumption) (by assumption) | exact only_below (by assumption) (by assumption)) | (go_split_ands; refine ⟨?_, ?_, ?_, ?_, ?_, ?_, ?_, ?_, ?_, ?_, ?_, ?_, ?_, ?_, ?_, ?_, ?_, ?_, ?_, ?_, ?_, ?_⟩ <;> first | exact set_at (by assumption) | exact set_far hneb (by assumption) | exact set_far hnx (by assumption) | exact set_off hpz (by assumption) | exact set_fr (by assumption) | exact only_setCell (by assumption) (.inl rfl) _))
          (first | (go_at_call 21; refine (clamp_start.calls xz.f0 xz.f1 xz.f2 xz.f3 xz.f4 xz.f5 xz.f6 xz.f7 xp.f0 xp.f1 xp.f2 xp.f3 xp.f4 xp.f5 xp.f6 xp.f7 ap rv _ HV.out).mono ?_; rintro e w' ⟨rfl, hbb⟩))
        have hbb' : Below WX.heap.size WX w' := ⟨hbb.os, hbb.tape, hbb.output, hbb.size, hbb.block⟩
        have ho5 := ((own_below H4.out.1 hbb' (Nat.le_refl _)).stored z (.int .i64 rv)).1
        rw [ints_set] at ho5
        have hg5 : w3.grownBy (w'.setCell ⟨w1.heap.size, z, none⟩ (.int .i64 rv)) (some w1.heap.size) := only_setCell (only_below H4.out.2 hbb') (.inl rfl) _
        generalize (w'.setCell ⟨w1.heap.size, z, none⟩ (.int .i64 rv)) = WY at ho5 hg5 ⊢
        have H5 := Lib.hid (And.intro ho5 hg5)
        clear ho5 hg5 hbb hbb' k0 k1 k2 k3 k4 k5 k6 k7 q0 q1 q2 q3 q4 q5 q6 q7 hcp hcz hfz x0 x1 x2
        rename_i hHeld
        clear hHeld
        go_wp2
        go_roundg (l.length - (j + 1))
        case measure => omega
        case rel =>
          refine ⟨j + 1, by omega, Nat.le_refl _, by simp, ?_, H5.out.2.size, H5.out.2⟩
          rw [HNV.out]
          exact H5.out.1
    · obtain rfl : j = l.length := by omega
      obtain ⟨how, hWs, hg⟩ := hx.out
      have HX := Lib.hid (And.intro how hg)
      clear hx how hg hWs
      go_wp2
      go_ret2
      refine ⟨_, rfl, ?_, ?_⟩
      · have := HX.out.1
        rw [show startsL l P = startsTo l P l.length by unfold startsL; rw [HF.out.2.2]]
        exact own_base this HB1.out.size
      · exact H13.out.grown HX.out.2 H13.out.size (fun k hk => by injection hk with hk; have := HB1.out.size; omega)

end Go.Proofs.Ytlajboohkkbgdaa
