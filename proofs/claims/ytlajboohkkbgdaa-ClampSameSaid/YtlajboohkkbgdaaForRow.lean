/- forest.Row: the groups in a map, the recursive closure, the row. -/
import Derived.Test.YtlajboohkkbgdaaRight
import Derived.Maps.OwnRows
import Derived.Maps.GroupsBeside
import Derived.Maps.Views
namespace Go.Proofs.Ytlajboohkkbgdaa
open Go.RowKit Go.Maps
open Go.WideElems (Fit rd rg pl rd_val elemAt)
open Go.ChangeShapes (lits)
set_option linter.unusedSimpArgs false
set_option linter.unusedVariables false

theorem info_item : (Try.prog.info? 42).map (fun i => (i.zero, i.size, i.bytes)) = some (some (.agg #[.int .i64 0, .int .i64 0, .int .i64 0]), 3, 24) := by kernel_rfl
theorem keyed_int : Keyed Try.prog 3 := int_keyed Try.underlying3
theorem zero_ints (w : World) : (zeroValue 23).run Try.prog w = .ok (.slice none 0 0) w := by kernel_rfl

/-- What a group reads as. -/
def kd (l : List Int) : DataW Unit := if l = [] then .nil else .slice (lits .i64 l) []

theorem kd_of {w : World} {base e : Nat} {v : Value} {l zs : List Int} (ho : w.ownsInts base e .i64 v zs) (h : kd l = rowDatum .i64 v zs) : zs = l := by
  unfold kd at h
  rcases ho.datum (H := Unit) with ⟨h1, rfl⟩ | h1
  · rw [h1] at h
    split at h
    · rename_i h2; exact h2.symm
    · cases h
  · rw [h1] at h
    split at h
    · cases h
    · simp only [DataW.slice.injEq, and_true, lits] at h
      exact ((List.map_inj_right (fun a b hab => by cases hab; rfl)).1 h).symm

/-- The map's reading behind k rounds. -/
def KG (D : DataW Unit) (P : List Int) (k : Nat) : Prop := IsMap D ∧ ∀ x, D.atKey (.int .i64 x) .nil = kd (Fo.kidsTo P k x)

theorem KG.start (P : List Int) : KG (.map []) P 0 := ⟨isMap_empty, fun x => by simp [Fo.kidsTo, kd, DataW.atKey]⟩

theorem KG.step {D : DataW Unit} {P : List Int} {k : Nat} (h : KG D P k) (x : Int) (hx : P.getD k (-1) = x) : KG (D.put (.int .i64 x) (.slice (lits .i64 (Fo.kidsTo P k x ++ [(k : Int)])) [])) P (k + 1) := by
  refine ⟨h.1.put _ _, fun y => ?_⟩
  by_cases e : y = x
  · subst e
    rw [atKey_put_same h.1 (show WideAt.IsKeyLit (.int .i64 y) from trivial), Fo.kidsTo_succ, if_pos hx]
    simp [kd]
  · have hne : (Lit.int .i64 y) ≠ .int .i64 x := fun h => e (by injection h)
    rw [atKey_put_other hne, h.2 y, Fo.kidsTo_succ, if_neg (fun h => e (by rw [← h, hx]))]

/-- The map's look-up, in whatever world in which its block stands. -/
theorem kids_look {w0 W : World} {base n mb : Nat} {D : DataW Unit} {P : List Int} (hown : w0.ownsGroups Try.prog 3 base 3 .i64 mb n D) (hG : KG D P P.length) (hW : W.heap[mb]? = w0.heap[mb]?)
    (x : Int) (hx : (Lit.int .i64 x).wf = true) :
    ∃ v, (Instr.lookup 51 (.map (some mb)) (.int .i64 x) false).run Try.prog W = .ok v W ∧ w0.ownsRow base 3 1 v (Fo.kids P x).length (ints (Fo.kids P x)) := by
  obtain ⟨es, clock, hb, F, hs, rfl, hbb, hlen, hap⟩ := hown
  have hkey : keyOf Try.prog 3 (.int .i64 x) = some (.int .i64 x) := keyOf_int_mk Try.underlying3 hx
  rcases fit_look (w := W) false keyed_int Try.underlying51 (zero_ints W) (hW.trans hb) F hkey with ⟨hrun, _, hat⟩ | ⟨e0, y, hm0, h3, hrun, hR, hat, _⟩
  · refine ⟨_, hrun, ?_⟩
    have h1 := hG.2 x
    rw [hat] at h1
    have h2 : Fo.kids P x = [] := by
      unfold kd at h1
      split at h1
      · assumption
      · cases h1
    rw [h2]
    exact World.ownsRow_nil _ _ _ _
  · obtain ⟨zs, ho, rfl⟩ := rowElem_inv hR
    refine ⟨_, hrun, ?_⟩
    have h1 := hG.2 x
    rw [hat] at h1
    have := kd_of ho h1.symm
    subst this
    exact ho.1

/-- The cells of items. -/
def icells (l : List Fo.Item) : List Value := l.flatMap fun y => [.int .i64 y.place, .int .i64 y.depth, .int .i64 y.parent]
theorem icells_length (l : List Fo.Item) : (icells l).length = l.length * 3 := by
  induction l with
  | nil => rfl
  | cons y l ih => simp [icells] at ih ⊢; omega
theorem icells_append (l m : List Fo.Item) : icells (l ++ m) = icells l ++ icells m := by simp [icells]
theorem icells_at (l : List Fo.Item) (i : Nat) (y : Fo.Item) (h : l[i]? = some y) : (icells l)[i * 3]? = some (.int .i64 y.place) ∧ (icells l)[i * 3 + 1]? = some (.int .i64 y.depth) ∧ (icells l)[i * 3 + 2]? = some (.int .i64 y.parent) := by
  induction l generalizing i with
  | nil => simp at h
  | cons z l ih =>
    cases i with
    | zero =>
      simp at h
      subst h
      simp [icells]
    | succ i =>
      simp only [List.getElem?_cons_succ] at h
      have := ih i h
      have e : icells (z :: l) = .int .i64 z.place :: .int .i64 z.depth :: .int .i64 z.parent :: icells l := rfl
      rw [e, show (i + 1) * 3 = i * 3 + 1 + 1 + 1 by omega]
      simpa using this

/-- What stands of the map. -/
def MW (w0 : World) (P : List Int) (tb mb : Nat) : Prop :=
  tb < w0.heap.size ∧ w0.heap[tb]? = some (.cells #[.map (some mb)] 51 (0, 0)) ∧ ∃ base D, w0.ownsGroups Try.prog 3 base 3 .i64 mb P.length D ∧ KG D P P.length

/-- What stands of the row. -/
def RW (w0 : World) (tb : Nat) (W : World) (out : List Fo.Item) : Prop :=
  Below w0.heap.size w0 W ∧ W.heap[w0.heap.size + 1]? = some (.cells #[.func (.func 32) #[] #[.pointer (some ⟨tb, 0, none⟩), .pointer (some ⟨w0.heap.size, 0, none⟩), .pointer (some ⟨w0.heap.size + 1, 0, none⟩)]] 52 (0, 0)) ∧
  ∃ ov, W.heap[w0.heap.size]? = some (.cells #[ov] 39 (0, 0)) ∧ W.ownsRow (w0.heap.size + 2) 42 3 ov out.length (icells out)

theorem sub_parts (P : List Int) (f : Nat) (x d : Int) (k : Nat) (hk : k < (Fo.kids P x).length) :
    ((Fo.kids P x).take (k + 1)).flatMap (fun i => ⟨i, d, x⟩ :: Fo.sub P f i (d + 1)) = ((Fo.kids P x).take k).flatMap (fun i => ⟨i, d, x⟩ :: Fo.sub P f i (d + 1)) ++ (⟨(Fo.kids P x).getD k (-1), d, x⟩ :: Fo.sub P f ((Fo.kids P x).getD k (-1)) (d + 1)) := by
  rw [List.take_succ_eq_append_getElem hk, List.flatMap_append]
  simp [List.getD_eq_getElem?_getD, List.getElem?_eq_getElem hk]

theorem RW.push {w0 wr w1 : World} {tb : Nat} {ov v' : Value} {out : List Fo.Item} {z d x : Int} {m : Nat}
    (hfb : wr.heap[w0.heap.size + 1]? = some (.cells #[.func (.func 32) #[] #[.pointer (some ⟨tb, 0, none⟩), .pointer (some ⟨w0.heap.size, 0, none⟩), .pointer (some ⟨w0.heap.size + 1, 0, none⟩)]] 52 (0, 0)))
    (hob : wr.heap[w0.heap.size]? = some (.cells #[ov] 39 (0, 0))) (how : wr.ownsRow (w0.heap.size + 2) 42 3 ov m (icells out)) (hb' : Below w0.heap.size w0 w1) (hg' : wr.grownBy w1 ov.ownBlock)
    (hm : m = out.length) (hown' : w1.ownsRow (w0.heap.size + 2) 42 3 v' (m + 1) (icells out ++ [.int .i64 z, .int .i64 d, .int .i64 x])) :
    RW w0 tb (w1.setCell ⟨w0.heap.size, 0, none⟩ v') (out ++ [⟨z, d, x⟩]) ∧ w1.cell? ⟨w0.heap.size, 0, none⟩ = some ov ∧ w1.frozen? ⟨w0.heap.size, 0, none⟩ = false ∧
    (w1.setCell ⟨w0.heap.size, 0, none⟩ v').cell? ⟨w0.heap.size + 1, 0, none⟩ = some (.func (.func 32) #[] #[.pointer (some ⟨tb, 0, none⟩), .pointer (some ⟨w0.heap.size, 0, none⟩), .pointer (some ⟨w0.heap.size + 1, 0, none⟩)]) := by
  subst hm
  have hne : ∀ j, j < w0.heap.size + 2 → some j ≠ ov.ownBlock := by
    intro j hj e
    have := (how.lt j e.symm).1
    omega
  have h1 := blk_grown hob hg' (hne _ (by omega))
  have h2 := blk_grown hfb hg' (hne _ (by omega))
  have h3 : (w1.setCell ⟨w0.heap.size, 0, none⟩ v').heap[w0.heap.size + 1]? = w1.heap[w0.heap.size + 1]? := Below.heap_setCell _ _ _ _ (by simp)
  refine ⟨⟨hb'.setCell (Nat.le_refl _) _, h3.trans h2, v', ?_, ?_⟩, blk_cell h1 0 rfl, blk_free h1 0, blk_cell (h3.trans h2) 0 rfl⟩
  · have := heap_setCell_same w1 w0.heap.size 0 _ _ v' h1
    simpa using this
  · rw [icells_append, List.length_append]
    exact ownsRow_setCell_below hown' (by simp) _

set_option maxRecDepth 100000 in
set_option maxHeartbeats 4000000 in
/-- forest.Row's closure, by how deep it may go. -/
theorem row1_any (w0 : World) (P : List Int) (tb mb : Nat) (hM : MW w0 P tb mb) (hP : P.length ≤ 1099511627776) : ∀ (f : Nat) (x d : Int) (out : List Fo.Item) (w : World), Fo.Deep P f x → (-1 ≤ x ∧ x ≤ 1099511627776) → (0 ≤ d ∧ d + f ≤ 4398046511104) →
    out.length + (Fo.sub P f x d).length ≤ 1099511627776 → RW w0 tb w out →
    Calls Try.prog 32 #[.int .i64 x, .int .i64 d, .pointer (some ⟨tb, 0, none⟩), .pointer (some ⟨w0.heap.size, 0, none⟩), .pointer (some ⟨w0.heap.size + 1, 0, none⟩)] w fun e w' => e = .returned (.tuple #[]) ∧ RW w0 tb w' (out ++ Fo.sub P f x d)
  | 0, x, d, out, w, hd, _, _, _, _ => hd.elim
  | f + 1, x, d, out, w, hd, hx, hdd, hlen, hr => by
    have IH := row1_any w0 P tb mb hM hP f
    obtain ⟨hb, hfb, ov, hob, how⟩ := hr
    obtain ⟨htl, htb, base, D, hown, hG⟩ := hM
    have hmb : mb < w0.heap.size := by
      obtain ⟨es, clock, h1, _⟩ := hown
      exact (Array.getElem?_eq_some_iff.1 h1).1
    obtain ⟨v, hlook, hv⟩ := kids_look (W := w) hown hG (hb.block mb hmb) x (WalkArith.wf_i64 (by omega))
    have hkl := Fo.kidsTo_length P P.length x
    have hcell := blk_cell (blk_below htb hb htl) 0 rfl
    obtain ⟨A, c, rfl, hrd⟩ := own_rd hv
    have HD := Lib.hid hd
    have HL := Lib.hid hlen
    have HR := Lib.hid hrd
    have HB := Lib.hid (And.intro hb (And.intro hfb (And.intro hob how)))
    have hnl : (Fo.kids P x).length ≤ 1099511627776 := Nat.le_trans hkl hP
    clear hd hlen hrd hb hfb hob how hown hG hv hkl htb
    generalize hn : (Fo.kids P x).length = n at hnl hlook
    have HN := Lib.hid hn
    clear hn
    go_enter Try.func32, Try.ntmps32
    have HIH := Lib.hid IH
    clear IH
    go_wp2
    go_loopg [13] n (fun k s13 wr => ∃ i : Nat, i ≤ n ∧ n - i ≤ k ∧ s13 = .int .i64 i ∧ Aside (RW w0 tb wr (out ++ ((Fo.kids P x).take i).flatMap (fun i => ⟨i, d, x⟩ :: Fo.sub P f i (d + 1)))))
    case atStart => exact ⟨0, Nat.zero_le _, by omega, rfl, by rw [List.take_zero, List.flatMap_nil, List.append_nil]; exact ⟨HB.out.1, HB.out.2.1, _, HB.out.2.2.1, HB.out.2.2.2⟩⟩
    case round =>
      obtain ⟨i, hi, hk, rfl, hRW⟩ := hrel
      rcases Nat.lt_or_ge i n with hlt | hge
      · have hlt' : i < (Fo.kids P x).length := by rw [HN.out]; exact hlt
        obtain ⟨b, o, rfl, hlb, hcb⟩ := HR.out.at_ (by omega)
        have hc0 := hcb i _ (ints_at _ i hlt')
        clear hcb
        have hmem : (Fo.kids P x).getD i (-1) ∈ Fo.kids P x := by
          rw [List.getD_eq_getElem?_getD, List.getElem?_eq_getElem hlt']
          simp
        have hstep := sub_parts P f x d i hlt'
        have hdeep : Fo.Deep P f ((Fo.kids P x).getD i (-1)) := HD.out _ hmem
        obtain ⟨hz0, hz1, _⟩ := Fo.mem_kids hmem
        have hlen' : (((Fo.kids P x).take (i + 1)).flatMap (fun i => (⟨i, d, x⟩ : Fo.Item) :: Fo.sub P f i (d + 1))).length ≤ (Fo.sub P (f + 1) x d).length := by
          have e : Fo.sub P (f + 1) x d = ((Fo.kids P x).take (i + 1)).flatMap (fun i => ⟨i, d, x⟩ :: Fo.sub P f i (d + 1)) ++ ((Fo.kids P x).drop (i + 1)).flatMap (fun i => ⟨i, d, x⟩ :: Fo.sub P f i (d + 1)) := by
            rw [← List.flatMap_append, List.take_append_drop]; rfl
          rw [e, List.length_append]
          omega
        rw [hstep, List.length_append, List.length_cons] at hlen'
        have hL := HL.out
        generalize (Fo.kids P x).getD i (-1) = z at hc0 hmem hstep hdeep hz0 hz1 hlen'
        generalize hpre : ((Fo.kids P x).take i).flatMap (fun i => (⟨i, d, x⟩ : Fo.Item) :: Fo.sub P f i (d + 1)) = pre at hRW hstep hlen'
        obtain ⟨hb, hfb, ov, hob, how⟩ := hRW.out
        have hc := (hb.cell (p := ⟨b, o + i, none⟩) hlb).trans hc0
        have hco := blk_cell hob 0 rfl
        have hfo := blk_free hob 0
        have hsz : w0.heap.size + 1 < wr.heap.size := blk_lt hfb
        have Hlen := Lib.hid hlen'
        have HLn := Lib.hid hL
        have Hstep := Lib.hid hstep
        have Hdeep := Lib.hid hdeep
        have Hb := Lib.hid hb
        have Hfb := Lib.hid hfb
        have Hob := Lib.hid hob
        clear hRW hpre hlen' hL hstep hdeep hb hfb hob hc0 hmem
        have hone : ∀ u ∈ [Value.int .i64 z, .int .i64 d, .int .i64 x], u.oneCell' = true := by
          intro u hu
          simp at hu
          rcases hu with rfl | rfl | rfl <;> rfl
        rw [List.length_append] at how
        go_wp2_with (first
          | (at_builtin; go_must (refine append_one (w0 := wr) (B := w0.heap.size) (wb := w0) rfl _ _ 39 rfl (w0.heap.size + 2) 42 (.agg #[.int .i64 0, .int .i64 0, .int .i64 0]) 3 24 Try.underlying39 info_item rfl (by omega) ov (out.length + pre.length) _ [.int .i64 z, .int .i64 d, .int .i64 x] rfl rfl how rfl hone (by have := Hlen.out; have := HLn.out; omega) (by omega) Hb.out (by omega) (by omega) ?_; intro v' w1 hown' hb' hg' hloc'; obtain ⟨hpush, hq1, hq2, hq3⟩ := RW.push (tb := tb) Hfb.out Hob.out how hb' hg' (by rw [List.length_append]) hown'; obtain ⟨A', c', rfl, hrd'⟩ := own_rd hown'; have Hpush := Lib.hid hpush; clear hpush hrd' hown' hg' hloc' hb'))
          | (go_at_call 32; go_must (refine (HIH.out z (d + 1) _ _ Hdeep.out ⟨by omega, by omega⟩ ⟨by omega, by omega⟩ (by rw [List.length_append, List.length_append]; have := Hlen.out; have := HLn.out; simp only [List.length_singleton]; omega) Hpush.out).mono ?_; rintro e w2 ⟨rfl, hRW2⟩)))
        go_roundg (n - (i + 1))
        case measure => omega
        case rel =>
          refine ⟨i + 1, by omega, Nat.le_refl _, by simp, ?_⟩
          rw [Hstep.out]
          have e : out ++ (pre ++ ⟨z, d, x⟩ :: Fo.sub P f z (d + 1)) = out ++ pre ++ [⟨z, d, x⟩] ++ Fo.sub P f z (d + 1) := by simp
          rw [e]
          exact hRW2
      · obtain rfl : i = n := by omega
        go_wp2
        refine bodyPost_end (results_none rfl _ _ _) rfl ?_
        refine ⟨rfl, ?_⟩
        have := hRW.out
        rw [List.take_of_length_le (by rw [HN.out]; exact Nat.le_refl _)] at this
        exact this

end Go.Proofs.Ytlajboohkkbgdaa
