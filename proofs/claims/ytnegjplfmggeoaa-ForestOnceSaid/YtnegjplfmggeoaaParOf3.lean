/- parent.Of: the walk. -/
import Derived.Test.YtnegjplfmggeoaaParOf2
namespace Go.Proofs.Ytnegjplfmggeoaa
open Go.RowKit Go.Maps
set_option linter.unusedSimpArgs false
set_option linter.unusedVariables false

/-- What parent.Of answers. -/
def OfAns (n : Nat) (w : World) (e : Ending) (w' : World) : Prop :=
  ∃ v P, e = .returned v ∧ P.length = n ∧ Fo.Forest P ∧ Below w.heap.size w w' ∧ w'.ownsRow w.heap.size 3 1 v n (ints P)

theorem span_cells {w : World} {b o n : Nat} {l : List Sp} (hc : ∀ j u, (spans l)[j]? = some u → w.cell? ⟨b, o + j, none⟩ = some u) (i : Nat) (s : Sp) (hs : l[i]? = some s) :
    w.cell? ⟨b, o + i * 8, none⟩ = some (.int .u64 s.trace) ∧ w.cell? ⟨b, o + i * 8 + 1, none⟩ = some (.int .u64 s.id) ∧ w.cell? ⟨b, o + i * 8 + 2, none⟩ = some (.int .u64 s.parent) ∧ w.cell? ⟨b, o + i * 8 + 3, none⟩ = some (.int .u8 s.kind) ∧
    w.cell? ⟨b, o + i * 8 + 4, none⟩ = some (.string s.host) ∧ w.cell? ⟨b, o + i * 8 + 5, none⟩ = some (.string s.name) ∧ w.cell? ⟨b, o + i * 8 + 6, none⟩ = some (.int .i64 s.start) ∧ w.cell? ⟨b, o + i * 8 + 7, none⟩ = some (.int .i64 s.dur) := by
  have h := fun j hj u (hu : s.cells[j]? = some u) => hc (i * 8 + j) u ((spans_at l i s hs j hj).trans hu)
  refine ⟨h 0 (by omega) _ rfl, ?_, ?_, ?_, ?_, ?_, ?_, ?_⟩
  · have := h 1 (by omega) _ rfl; rwa [← Nat.add_assoc] at this
  · have := h 2 (by omega) _ rfl; rwa [← Nat.add_assoc] at this
  · have := h 3 (by omega) _ rfl; rwa [← Nat.add_assoc] at this
  · have := h 4 (by omega) _ rfl; rwa [← Nat.add_assoc] at this
  · have := h 5 (by omega) _ rfl; rwa [← Nat.add_assoc] at this
  · have := h 6 (by omega) _ rfl; rwa [← Nat.add_assoc] at this
  · have := h 7 (by omega) _ rfl; rwa [← Nat.add_assoc] at this

/-- What stands while parent.Of fills its answer: out's variable in block ob, its row in block gb. -/
structure OF (n : Nat) (w : World) (mb gb ob : Nat) (W : World) (Q : List Int) : Prop where
  len : Q.length = n
  rng : ∀ q ∈ Q, -1 ≤ q ∧ (q : Int) < n
  below : Below w.heap.size w W
  var : W.heap[ob]? = some (.cells #[.slice (some ⟨gb, 0, none⟩) n n] 24 (0, 0))
  own : W.ownsRow w.heap.size 3 1 (.slice (some ⟨gb, 0, none⟩) n n) n (ints Q)
  ne : gb ≠ ob ∧ mb ≠ gb ∧ mb ≠ ob ∧ w.heap.size ≤ gb ∧ w.heap.size ≤ ob

theorem OF.alloc {n : Nat} {w : World} {mb gb ob : Nat} {W : World} {Q : List Int} (h : OF n w mb gb ob W Q) (o : Obj) : OF n w mb gb ob (W.alloc o) Q :=
  ⟨h.len, h.rng, h.below.alloc h.below.size _, blk_alloc h.var _, h.own.alloc _, h.ne⟩

theorem OF.set {n : Nat} {w : World} {mb gb ob : Nat} {W : World} {Q : List Int} (h : OF n w mb gb ob W Q) (i : Nat) (v : Int) (hv : -1 ≤ v ∧ v < n) : OF n w mb gb ob (W.setCell ⟨gb, i, none⟩ (.int .i64 v)) (Q.set i v) := by
  refine ⟨by rw [List.length_set]; exact h.len, fun q hq => ?_, h.below.setCell h.ne.2.2.2.1 _, ?_, ?_, h.ne⟩
  · rcases List.mem_or_eq_of_mem_set hq with h1 | h1
    · exact h.rng q h1
    · rw [h1]; exact hv
  · rw [Below.heap_setCell _ _ _ _ (by simpa using h.ne.1.symm)]
    exact h.var
  · rw [← ints_set]
    exact (h.own.stored i _).1

theorem OF.grown {n : Nat} {w : World} {mb gb ob : Nat} {W W' : World} {Q : List Int} (h : OF n w mb gb ob W Q) {row : Option Nat} (hg : W.grownBy W' row) {lb : Nat} (hr : ∀ k, row = some k → lb + 2 ≤ k) (h1 : gb < lb) (h2 : ob < lb) (h3 : w.heap.size ≤ lb) : OF n w mb gb ob W' Q := by
  refine ⟨h.len, h.rng, h.below.grown hg h.below.size (fun k hk => by have := hr k hk; omega), blk_grown h.var hg (fun e => by have := hr _ e.symm; omega), ?_, h.ne⟩
  refine own_of_block h.own (hg.block gb (h.own.lt _ rfl).2 (fun e => by have := hr _ e.symm; omega))

theorem OF.other {n : Nat} {w : World} {mb gb ob : Nat} {W : World} {Q : List Int} (h : OF n w mb gb ob W Q) (p : Addr) (v : Value) (h1 : p.block ≠ gb) (h2 : p.block ≠ ob) (h3 : w.heap.size ≤ p.block) : OF n w mb gb ob (W.setCell p v) Q := by
  refine ⟨h.len, h.rng, h.below.setCell h3 _, ?_, own_of_block h.own (Below.heap_setCell _ _ _ _ (Ne.symm h1)), h.ne⟩
  rw [Below.heap_setCell _ _ _ _ (Ne.symm h2)]
  exact h.var

/-- What stands while cycles are told. -/
def OI (n : Nat) (w : World) (mb gb ob lb : Nat) (Q : List Int) (W : World) (E : List Int) : Prop :=
  ∃ (L : List Int) (lv : Value), OF n w mb gb ob W Q ∧ W.heap[lb]? = some (.cells #[lv] 24 (0, 0)) ∧ W.ownsRow (lb + 2) 3 1 lv E.length (ints L) ∧ L.length = E.length ∧ (∀ y ∈ L, 0 ≤ y ∧ y < (n : Int)) ∧ (∀ e ∈ E, ∃ j, Fo.it Q j e ∈ L)

theorem of1_tells (n : Nat) (w : World) (mb gb ob lb : Nat) (Q : List Int) (hn : n ≤ 4294967296) (hq : Q.length = n) (hR : Fo.Rng Q) (h1 : gb < lb) (h2 : ob < lb) (h3 : w.heap.size ≤ lb) :
    Tells 19 #[.pointer (some ⟨ob, 0, none⟩), .pointer (some ⟨lb, 0, none⟩)] Q (OI n w mb gb ob lb Q) (some ⟨gb, 0, none⟩) n (lb + 1) := by
  refine ⟨enters_of Try.func19 (by kernel_rfl) rfl, ?_, ?_⟩
  · rintro W E a v hB ⟨L, lv, k1, k2, k3, k4, k5, k6⟩
    refine ⟨L, lv, k1.other _ _ (by simp; omega) (by simp; omega) (by simp; omega), ?_, ownsRow_setCell_below k3 (by simp) _, k4, k5, k6⟩
    rw [Below.heap_setCell _ _ _ _ (by simp)]
    exact k2
  · rintro W E a hB hEl ⟨L, lv, k1, k2, k3, k4, k5, k6⟩ hc ha hRd
    have hvar := k1.var
    have hown := k1.own
    subst hq
    refine (of1_any Q (some ⟨gb, 0, none⟩) Q.length a ob lb (lb + 2) lv E.length L W hRd (fun ad had => by cases had; simp; omega) hR hc ha hvar k2 k3 (by omega) (by omega) (by omega)).mono ?_
    rintro e W' ⟨rfl, j, lv', w1, rfl, hg, hown', hloc⟩
    have hrow : ∀ k, lv.ownBlock = some k → lb + 2 ≤ k := fun k hk => (k3.lt k hk).1
    have hsz := hg.size
    refine ⟨rfl, ⟨L ++ [Fo.it Q j a], lv', (k1.grown hg hrow h1 h2 h3).other _ _ (by simp; omega) (by simp; omega) (by simpa using h3), ?_, ?_, ?_, ?_, ?_⟩, ?_, ?_, ?_⟩
    · have hb := blk_grown k2 hg (fun e => by have := hrow _ e.symm; omega)
      have := heap_setCell_same w1 lb 0 _ _ lv' hb
      simpa using this
    · rw [List.length_append]
      exact ownsRow_setCell_below hown' (by simp) _
    · simp [k4]
    · intro y hy
      rcases List.mem_append.1 hy with hy | hy
      · exact k5 y hy
      · simp at hy
        subst hy
        exact ⟨hc.pos j, Fo.it_lt hR (by simpa using ha) j⟩
    · intro e he
      rcases List.mem_append.1 he with he | he
      · obtain ⟨q, hq⟩ := k6 e he
        exact ⟨q, by simp [hq]⟩
      · simp at he
        subst he
        exact ⟨j, by simp⟩
    · refine Rd.setCell_ne ?_ (fun ad had => by cases had; simp; omega) _
      obtain ⟨r1, r2, r3, r4⟩ := hRd
      refine ⟨r1, r2, r3, ?_⟩
      rcases r4 with r4 | ⟨b, o, e, hlt, hcc⟩
      · exact .inl r4
      · refine .inr ⟨b, o, e, by omega, fun j u hu => ?_⟩
        cases e
        rw [← hcc j u hu]
        exact World.cell?_of_block (hg.block gb hlt (fun e => by have := hrow _ e.symm; omega))
    · rw [Below.heap_setCell _ _ _ _ (by simp)]
      exact hg.block _ hB (fun e => by have := hrow _ e.symm; omega)
    · simp [World.setCell]
      omega

theorem PM.set {W : World} {n mb k gb : Nat} (h : PM W n mb k) (hne : mb ≠ gb) (i : Nat) (v : Value) : PM (W.setCell ⟨gb, i, none⟩ v) n mb k := by
  refine h.kept (row := some gb) ⟨rfl, rfl, rfl, by simp [World.setCell], fun j _ hj => Below.heap_setCell _ _ _ _ (fun e => hj (by rw [e]))⟩ (by simpa using hne)

set_option maxRecDepth 100000 in
set_option maxHeartbeats 4000000 in
theorem of_any (l : List Sp) (hw : ∀ s ∈ l, s.wf) (n : Nat) (hl : l.length = n) (A : Option Addr) (c : Nat) (w : World) (hP : Rd w 8 n A c (spans l)) (hn : n ≤ 4294967296) :
    Calls Try.prog 8 #[.slice A n c] w (OfAns n w) := by
  have hmm := @run_makeMap Try.prog
  obtain ⟨i0, hi0, hz0, hz1, hz2⟩ := info_parts info_int
  have HW := Lib.hid hw
  have HP := Lib.hid hP
  have HL := Lib.hid hl
  clear hw hP hl
  go_enter Try.func8, Try.ntmps8
  go_wp2_with fail
  go_loopg [19] n (fun k s19 wr => ∃ i : Nat, i ≤ n ∧ n - i ≤ k ∧ s19 = .int .i64 i ∧ Aside (PM wr n w.heap.size i ∧ Below w.heap.size w wr ∧ w.heap.size < wr.heap.size))
  case atStart => exact ⟨0, Nat.zero_le _, by omega, rfl, PM.made w n, (Below.refl _ _).alloc (Nat.le_refl _) _, by simp⟩
  case round =>
    obtain ⟨i, hi, hk, rfl, hx⟩ := hrel
    rcases Nat.lt_or_ge i n with hlt | hge
    · obtain ⟨hpm, hb, hsz⟩ := hx.out
      have hs : l[i]? = some (l[i]'(by rw [HL.out]; exact hlt)) := List.getElem?_eq_getElem _
      generalize l[i]'(by rw [HL.out]; exact hlt) = s at hs
      have hwf := HW.out s (List.mem_of_getElem? hs)
      obtain ⟨b, o, rfl, hlb, hcc⟩ := HP.out.at_ (by omega)
      obtain ⟨c0, c1, c2, c3, c4, c5, c6, c7⟩ := span_cells (n := n) (fun j u hu => (hb.cell (p := ⟨b, o + j, none⟩) hlb).trans (hcc j u hu)) i s hs
      clear hcc hx
      have hpm1 : PM (wr.alloc (.cells #[.int .u64 s.trace, .int .u64 s.id, .int .u64 s.parent, .int .u8 s.kind, .string s.host, .string s.name, .int .i64 s.start, .int .i64 s.dur] 51)) n w.heap.size i := hpm.kept (World.grownBy_alloc wr _ none) (by simp)
      obtain ⟨x, ok, hrun, hx0, hx1⟩ := hpm1.look s.id hwf.2.1
      obtain ⟨w3, hrun3, hpm3, hg3⟩ := hpm1.put (by simp only [maxLen]; omega) s.id hwf.2.1 i (by omega) (by omega)
      have HPM := Lib.hid hpm1
      have HPM3 := Lib.hid hpm3
      have HG3 := Lib.hid hg3
      have HB := Lib.hid hb
      clear hpm1 hpm3 hg3 hb hpm
      cases ok
      · go_wp2
        go_roundg (n - (i + 1))
        case measure => omega
        case rel =>
          have h1 := HG3.out.size
          refine ⟨i + 1, by omega, Nat.le_refl _, by simp, HPM3.out, (HB.out.alloc (by omega) _).grown HG3.out (by simp; omega) (fun j hj => by cases hj; exact Nat.le_refl _), ?_⟩
          simp at h1
          omega
      · go_wp2
        go_roundg (n - (i + 1))
        case measure => omega
        case rel =>
          refine ⟨i + 1, by omega, Nat.le_refl _, by simp, HPM.out.mono (by omega), HB.out.alloc (by omega) _, ?_⟩
          simp
          omega
    · obtain rfl : i = n := by omega
      obtain ⟨hpm, hb, hsz⟩ := hx.out
      have HPM := Lib.hid hpm
      have HB := Lib.hid hb
      clear hpm hb hx
      go_upto_region 10 with (at_make; go_must (refine wpList_make_full _ rfl _ _ 24 rfl w.heap.size 3 i0 (.int .i64 0) 1 Try.underlying24 hi0 hz0 hz1 _ _ _ _ i rfl rfl rfl rfl (by rw [hz2]; omega) (by simp only [maxLen]; omega) (by omega) ?_; intro w2 hown hg2))
      have hgs : wr.heap.size < w2.heap.size := (hown.lt _ rfl).2
      have hbs := HB.out.size
      have hOF : OF i w w.heap.size wr.heap.size w2.heap.size (w2.alloc (.cells #[.slice (some ⟨wr.heap.size, 0, none⟩) i i] 24)) (List.replicate i 0) := by
        refine ⟨by simp, ?_, (HB.out.grown hg2 hbs (by simp)).alloc (by omega) _, blk_new _ _ _, ?_, by omega, by omega, by omega, by omega, by omega⟩
        · intro q hq
          obtain ⟨h1, h2⟩ := List.mem_replicate.1 hq
          subst h2
          omega
        · have h0 := toList_madeCells_one (Value.int IntKind.i64 0) (i * 1)
          rw [show (Value.int IntKind.i64 0).cells = #[Value.int .i64 0] from rfl, h0] at hown
          have := hown.alloc (.cells #[.slice (some ⟨wr.heap.size, 0, none⟩) i i] 24)
          simpa [ints] using this
      have hPM : PM (w2.alloc (.cells #[.slice (some ⟨wr.heap.size, 0, none⟩) i i] 24)) i w.heap.size i := (HPM.out.kept hg2 (by simp)).kept (World.grownBy_alloc w2 _ none) (by simp)
      have hsz2 : w2.heap.size < (w2.alloc (.cells #[.slice (some ⟨wr.heap.size, 0, none⟩) i i] 24)).heap.size := by simp
      have HOF := Lib.hid (And.intro hOF (And.intro hPM hsz2))
      clear hOF hPM hsz2 hown hg2 HB HPM hsz hk hi hge hgs hbs
      generalize w2.alloc (.cells #[.slice (some ⟨wr.heap.size, 0, none⟩) i i] 24) = W2 at HOF
      generalize w2.heap.size = ob at HOF
      generalize wr.heap.size = gb at HOF
      clear w2 wr
      go_wp2_with fail
      go_loopg [43] i (fun k s43 wr => ∃ j : Nat, j ≤ i ∧ i - j ≤ k ∧ s43 = .int .i64 j ∧ Aside (∃ Q, OF i w w.heap.size gb ob wr Q ∧ PM wr i w.heap.size i ∧ ob < wr.heap.size))
      case atStart => exact ⟨0, Nat.zero_le _, by omega, rfl, _, HOF.out⟩
      case round =>
        obtain ⟨j, hj, hjk, rfl, hx⟩ := hrel
        obtain ⟨Q, hO, hpm, hsz⟩ := hx.out
        clear hx
        rcases Nat.lt_or_ge j i with hlt | hge
        · have hs : l[j]? = some (l[j]'(by rw [HL.out]; exact hlt)) := List.getElem?_eq_getElem _
          generalize l[j]'(by rw [HL.out]; exact hlt) = s at hs
          have hwf := HW.out s (List.mem_of_getElem? hs)
          obtain ⟨b, o, rfl, hlb, hcc⟩ := HP.out.at_ (by omega)
          obtain ⟨c0, c1, c2, c3, c4, c5, c6, c7⟩ := span_cells (n := i) (fun j u hu => (hO.below.cell (p := ⟨b, o + j, none⟩) hlb).trans (hcc j u hu)) j s hs
          clear hcc
          have hpm1 : PM (wr.alloc (.cells #[.int .u64 s.trace, .int .u64 s.id, .int .u64 s.parent, .int .u8 s.kind, .string s.host, .string s.name, .int .i64 s.start, .int .i64 s.dur] 51)) i w.heap.size i := hpm.kept (World.grownBy_alloc wr _ none) (by simp)
          obtain ⟨x, ok, hrun, hx0, hx1⟩ := hpm1.look s.parent hwf.2.2.1
          have hO1 := hO.alloc (.cells #[.int .u64 s.trace, .int .u64 s.id, .int .u64 s.parent, .int .u8 s.kind, .string s.host, .string s.name, .int .i64 s.start, .int .i64 s.dur] 51)
          have hvc := blk_cell hO.var 0 rfl
          have hfr := hO.own.frozenAt j
          have hcl := hO.own.cellAt j (by omega)
          have hat : (ints Q)[j]? = some (.int .i64 (Q.getD j (-1))) := ints_at Q j (by rw [hO.len]; exact hlt)
          rw [hat] at hcl
          have hgb : gb < wr.heap.size := (hO.own.lt _ rfl).2
          have HO1 := Lib.hid hO1
          have HPM1 := Lib.hid hpm1
          have HO := Lib.hid hO
          have HPM := Lib.hid hpm
          clear hO1 hpm1 hO hpm hat
          cases ok
          · go_wp2
            go_roundg (i - (j + 1))
            case measure => omega
            case rel =>
              refine ⟨j + 1, by omega, Nat.le_refl _, by simp, _, (HO.out.set j (-1) (by omega)).alloc _, (HPM.out.set (HO.out.ne.2.1) _ _).kept (World.grownBy_alloc _ _ none) (by simp), ?_⟩
              simp [World.setCell]
              omega
          · by_cases hp0 : s.parent = 0
            · have t1 : (s.parent == 0) = true := by simpa using hp0
              clear hp0
              go_wp2
              go_roundg (i - (j + 1))
              case measure => omega
              case rel =>
                refine ⟨j + 1, by omega, Nat.le_refl _, by simp, _, (HO.out.set j (-1) (by omega)).alloc _, (HPM.out.set (HO.out.ne.2.1) _ _).kept (World.grownBy_alloc _ _ none) (by simp), ?_⟩
                simp [World.setCell]
                omega
            · have t1 : (s.parent == 0) = false := by simpa using hp0
              clear hp0
              have hx2 := hx1 rfl
              clear hx1
              go_wp2
              go_roundg (i - (j + 1))
              case measure => omega
              case rel =>
                refine ⟨j + 1, by omega, Nat.le_refl _, by simp, _, (HO.out.set j x (by omega)).alloc _, (HPM.out.set (HO.out.ne.2.1) _ _).kept (World.grownBy_alloc _ _ none) (by simp), ?_⟩
                simp [World.setCell]
                omega
        · obtain rfl : j = i := by omega
          have HO := Lib.hid hO
          clear hO hpm
          clear HOF
          have hO := HO.out
          have hQ := hO.len
          subst hQ
          have hR : Fo.Rng Q := fun p hp => (hO.rng p hp).2
          have hgb : gb < wr.heap.size := (hO.own.lt _ rfl).2
          have hows := hO.below.size
          have hob1 := blk_cell hO.var 0 rfl
          have K := cycles_any 19 #[.pointer (some ⟨ob, 0, none⟩), .pointer (some ⟨wr.heap.size, 0, none⟩)] Q (OI Q.length w w.heap.size gb ob wr.heap.size Q) (some ⟨gb, 0, none⟩) Q.length (wr.alloc (.cells #[.slice none 0 0] 24))
            (by
              obtain ⟨A', c', e, hrd⟩ := own_rd (hO.own.alloc (.cells #[.slice none 0 0] 24))
              injection e with e1 _ e2
              subst e1
              subst e2
              exact hrd)
            (fun ad had => by cases had; simp; omega) (by omega) hR (by simpa using of1_tells Q.length w w.heap.size gb ob wr.heap.size Q hn rfl hR hgb hsz hows)
            (fun W hg hl => ⟨[], .slice none 0 0, (hO.alloc _).grown hg (lb := wr.heap.size) (by simp) hgb hsz hows, blk_grown (blk_new wr _ _) hg (by simp), World.ownsRow_nil _ _ _ _, rfl, by simp, by simp⟩)
          have HK := Lib.hid K
          have HR := Lib.hid hR
          clear K hO hR
          go_wp2_with (go_at_call 18; go_must (refine HK.out.mono ?_; rintro e W3 ⟨rfl, E, hE, hEl, L, lv, k1, k2, k3, k4, k5, k6⟩; obtain ⟨A2, c2, rfl, hrdL⟩ := own_rd k3; have hlc := blk_cell k2 0 rfl; have HE := Lib.hid (And.intro hE (And.intro k5 k6)); have HX := Lib.hid (And.intro k1 (And.intro k2 (And.intro k3 k4))); clear hE k5 k6 k1 k2 k3 k4 hrdL))
          generalize hlbd : wr.heap.size = lb at hgb hsz hows HX
          generalize hm : E.length = m at hEl HX hlc
          have hLm : L.length = m := HX.out.2.2.2
          have HX2 := Lib.hid (show OF Q.length w w.heap.size gb ob W3 (Fo.cut Q (L.take 0)) ∧ W3.ownsRow (lb + 2) 3 1 (.slice A2 m c2) m (ints L) from ⟨by simpa [Fo.cut] using HX.out.1, HX.out.2.2.1⟩)
          clear HX hlc hlbd hm hob1 HO HK
          go_loopg [72] m (fun k s72 W => ∃ q : Nat, q ≤ m ∧ m - q ≤ k ∧ s72 = .int .i64 q ∧ Aside (OF Q.length w w.heap.size gb ob W (Fo.cut Q (L.take q)) ∧ W.ownsRow (lb + 2) 3 1 (.slice A2 m c2) m (ints L)))
          case atStart => exact ⟨0, Nat.zero_le _, by omega, rfl, HX2.out⟩
          case round =>
            obtain ⟨q, hq, hqk, rfl, hx⟩ := hrel
            obtain ⟨hO, how⟩ := hx.out
            clear hx HX2
            have hvc := blk_cell hO.var 0 rfl
            rcases Nat.lt_or_ge q m with hlt | hge
            · obtain ⟨A3, c3, e3, hrd⟩ := own_rd how
              injection e3 with e31 _ e32
              subst e31
              subst e32
              obtain ⟨b, o, rfl, hlb, hcc⟩ := hrd.at_ (by omega)
              have hqL : q < L.length := by omega
              have hcq := hcc q _ (ints_at L q hqL)
              have hmem : L.getD q (-1) ∈ L := by
                rw [List.getD_eq_getElem?_getD, List.getElem?_eq_getElem hqL]; simp
              have htk : L.take (q + 1) = L.take q ++ [L.getD q (-1)] := by
                rw [List.take_succ_eq_append_getElem hqL, List.getD_eq_getElem?_getD, List.getElem?_eq_getElem hqL]; rfl
              obtain ⟨hy0, hy1⟩ := HE.out.2.1 _ hmem
              generalize L.getD q (-1) = y at hcq hmem htk hy0 hy1
              obtain ⟨z, rfl⟩ := Int.eq_ofNat_of_zero_le hy0
              have hz : z < Q.length := by omega
              have hfr := hO.own.frozenAt z
              have hcl := hO.own.cellAt z (by omega)
              have hcz : (ints (Fo.cut Q (L.take q)))[z]? = some (.int .i64 ((Fo.cut Q (L.take q)).getD z (-1))) := ints_at _ z (by rw [hO.len]; exact hz)
              rw [hcz] at hcl
              have HO := Lib.hid hO
              have HW3 := Lib.hid how
              have HT := Lib.hid htk
              clear hO how htk hcc hrd hcz hmem
              go_wp2
              go_roundg (m - (q + 1))
              case measure => omega
              case rel =>
                refine ⟨q + 1, by omega, Nat.le_refl _, by simp, ?_, ownsRow_setCell_below HW3.out (by simp; omega) _⟩
                rw [HT.out, Fo.cut_snoc]
                exact HO.out.set z (-1) (by omega)
            · obtain rfl : q = m := by omega
              have HO := Lib.hid hO
              clear hO how
              go_wp2
              go_ret
              have hO := HO.out
              rw [List.take_of_length_le (by omega)] at hO
              obtain ⟨hT, hL, hEL⟩ := HE.out
              refine ⟨_, Fo.cut Q L, rfl, hO.len, ⟨fun p hp => ?_, Fo.cut_acyc HR.out hT (fun y hy => (hL y hy).1) hEL⟩, hO.below, hO.own⟩
              have := hO.rng p hp
              rw [Fo.cut_length]
              exact this

end Go.Proofs.Ytnegjplfmggeoaa
