/- forest.Row: the row of whatever parents. -/
import Derived.Test.YtlajboohkkbgdaaForRow
import Derived.Deep.AppendLies
import Derived.Deep.RegionLaw
import Derived.Laws.EntriesVeiled
namespace Go.Proofs.Ytlajboohkkbgdaa
open Go.RowKit Go.Maps Go.MapKept Go.ChangeMaps
open Go.WideElems (Fit rd rg pl rd_val elemAt)
set_option linter.unusedSimpArgs false
set_option linter.unusedVariables false

/-- A look-up yields the same value wherever the map's block stands so. -/
theorem look_same {es : Array MapEntry} {clock : Nat} (hes : ∀ e ∈ es.toList, ∃ l, keyOf Try.prog 3 e.key = some l) (x : Int) (hx : (Lit.int .i64 x).wf = true) :
    ∃ v, ∀ (W : World) (mb : Nat), W.heap[mb]? = some (.map es clock) → (Instr.lookup 51 (.map (some mb)) (.int .i64 x) false).run Try.prog W = .ok v W := by
  have hk := Try.underlying3
  have hkey : keyOf Try.prog 3 (.int .i64 x) = some (.int .i64 x) := keyOf_int_mk hk hx
  have isK : ∀ {v : Value} {l : Lit}, keyOf Try.prog 3 v = some l → IsKey (.int .i64) v := fun {v l} h => by
    have e : keyOf Try.prog 3 v = mapKey Try.prog 3 v := by simp [keyOf, hk]
    rw [e] at h
    obtain ⟨d', hd', h1, h2⟩ := Go.WideShapes.mapKey_isKey h
    rw [hk] at hd'
    cases hd'
    exact h1
  have hks : ∀ y ∈ es.toList, IsKey (.int .i64) y.key := fun y hy => by
    obtain ⟨l, hl⟩ := hes y hy
    exact isK hl
  rcases findNow_spec (isK hkey) es.toList 0 hks with ⟨h1, _⟩ | ⟨j, e0, h1, _, _⟩
  · refine ⟨.slice none 0 0, fun W mb hb => ?_⟩
    have h2 := run_findKey (w := W) hk h1
    simp [Instr.lookup, run_underlying Try.underlying51, MapKept.run_getObj_map hb, keyed_int.check W _ hkey, h2, zero_ints W, Result.andThen]
  · refine ⟨e0.val, fun W mb hb => ?_⟩
    have h2 := run_findKey (w := W) hk h1
    simp [Instr.lookup, run_underlying Try.underlying51, MapKept.run_getObj_map hb, keyed_int.check W _ hkey, h2, Result.andThen]

theorem groups_made {H : Type} (w : World) (o : Obj) : ((w.alloc (.map #[] 0)).alloc o).ownsGroups (H := H) Try.prog 3 (w.heap.size + 2) 3 .i64 w.heap.size 0 (.map []) :=
  ⟨#[], 0, (heap_alloc_old _ _ (by simp)).trans (MapKept.heap_alloc w _).1, ⟨by simp, stamped_empty 0, by simp⟩, Nat.le_refl _, rfl, by omega, by simp, by simp⟩

/-- Behind the append: the store into the map. -/
theorem group_step {wr w2 : World} {mb i g cap : Nat} {D : DataW Unit} {p x : Int} {v : Value} {zs : List Int} {o : Obj}
    (hoi : wr.ownsInts (mb + 2) 3 .i64 v zs) (hback : wr.groupBack Try.prog 51 3 (mb + 2) 3 .i64 mb i D (.int .i64 p) (.int .i64 p) v)
    (hcb : wr.heap[mb + 1]? = some (.cells #[.map (some mb)] 51 (0, 0))) (hx : (Lit.int .i64 x).wf = true) (hzl : zs.length ≤ i)
    (hown2 : w2.ownsRow (mb + 2) 3 1 (.slice (some ⟨g, 0, none⟩) (zs.length + 1) cap) (zs.length + 1) (ints zs ++ [.int .i64 x])) (hgrow2 : (wr.alloc o).drew.grownBy w2 v.ownBlock) (hat2 : v.ownBlock = some g ∨ g = wr.heap.size + 1) :
    ∃ w3, (Instr.mapUpdate 51 (.map (some mb)) (.int .i64 p) (.slice (some ⟨g, 0, none⟩) (zs.length + 1) cap)).run Try.prog w2 = .ok () w3 ∧ w2.cell? ⟨mb + 1, 0, none⟩ = some (.map (some mb)) ∧
      Hid (w3.ownsGroups Try.prog 3 (mb + 2) 3 .i64 mb (i + 1) (D.put (.int .i64 p) (.slice (Go.ChangeShapes.lits .i64 (zs ++ [x])) [])) ∧ wr.grownBy w2 v.ownBlock ∧ w2.grownBy w3 (some mb) ∧ w2.heap[mb + 1]? = some (.cells #[.map (some mb)] 51 (0, 0))) := by
  have h0 : wr.grownBy (wr.alloc o).drew v.ownBlock := by
    have h := World.grownBy_alloc wr o v.ownBlock
    exact ⟨h.os, h.tape, h.output, h.size, h.block⟩
  have hgr : wr.grownBy w2 v.ownBlock := h0.trans hgrow2
  have hcb3 := blk_grown hcb hgr (fun e => by have := (hoi.1.lt _ e.symm).1; omega)
  have ho2 := hoi.appended hown2 hx
  obtain ⟨w3, h1, h2, h3⟩ := hback w2 _ _ hgr ho2 (by simp; omega) (hat2.elim (fun h => .inl h.symm) (fun h => .inr ⟨g, rfl, by omega⟩))
  refine ⟨w3, h1, blk_cell hcb3 0 rfl, ?_, hgr, h3, hcb3⟩
  rw [← ho2.datum_pos (by simp)]
  exact h2

/-- What forest.Row answers. -/
def RowAns (P : List Int) (w : World) (e : Ending) (w' : World) : Prop :=
  ∃ v, e = .returned v ∧ Below w.heap.size w w' ∧ ((Fo.Forest P ∧ w'.ownsRow w.heap.size 42 3 v P.length (icells (Fo.row P))) ∨ (¬ Fo.Forest P ∧ v = .slice none 0 0))

set_option maxRecDepth 100000 in
set_option maxHeartbeats 4000000 in
theorem row_any (P : List Int) (A : Option Addr) (c : Nat) (w : World) (hP : Rd w 1 P.length A c (ints P)) (hA : ∀ ad, A = some ad → 0 < P.length → ad.block < w.heap.size) (hn : P.length ≤ 4294967296) :
    Calls Try.prog 20 #[.slice A P.length c] w (RowAns P w) := by
  have hmm := @run_makeMap Try.prog
  have HA := Lib.hid hA
  have HP := Lib.hid hP
  have HR := Lib.hid (right_any P A c w hP hA (by omega))
  clear hA hP
  go_enter Try.func20, Try.ntmps20
  go_wp2_with (go_at_call 28; go_must (refine HR.out.mono ?_; rintro e w1 ⟨⟨r, rfl, hr⟩, hb1⟩; have Hr := Lib.hid hr; have Hb1 := Lib.hid hb1; clear hr hb1; cases r))
  · go_ret
    exact ⟨_, rfl, Hb1.out, .inr ⟨fun h => by simpa using Hr.out.2 h, rfl⟩⟩
  · have hF : Fo.Forest P := Hr.out.1 trivial
    have HF := Lib.hid hF
    clear hF Hr HR
    go_loopg [14] P.length (fun k s14 wr => ∃ i : Nat, i ≤ P.length ∧ P.length - i ≤ k ∧ s14 = .int .i64 i ∧ Aside (∃ D, wr.ownsGroups Try.prog 3 (w1.heap.size + 2) 3 .i64 w1.heap.size i D ∧ KG D P i ∧ Below w1.heap.size w1 wr ∧ w1.heap.size + 2 ≤ wr.heap.size ∧ wr.heap[w1.heap.size + 1]? = some (.cells #[.map (some w1.heap.size)] 51 (0, 0))))
    case atStart =>
      refine ⟨0, Nat.zero_le _, by omega, rfl, _, groups_made w1 _, KG.start P, ((Below.refl _ _).alloc (Nat.le_refl _) _).alloc (by simp) _, by simp, ?_⟩
      have := blk_new (w1.alloc (.map #[] 0)) #[.map (some w1.heap.size)] 51
      simpa using this
    case round =>
      obtain ⟨i, hi, hk, rfl, hx⟩ := hrel
      rcases Nat.lt_or_ge i P.length with hlt | hge
      · obtain ⟨D, hown, hG, hb, hsz, hcb⟩ := hx.out
        have hp : -1 ≤ P.getD i (-1) ∧ P.getD i (-1) < P.length := by
          have := HF.out.1 (P.getD i (-1)) (by rw [List.getD_eq_getElem?_getD, List.getElem?_eq_getElem hlt]; simp)
          exact this
        obtain ⟨b, o, rfl, hlb, hcc⟩ := HP.out.at_ (by omega)
        have hcp := hcc i _ (ints_at P i hlt)
        have hb0 : b < w.heap.size := HA.out _ rfl (by omega)
        have hcp1 := ((Hb1.out.cell (p := ⟨b, o + i, none⟩) hb0).trans hcp)
        have hcp2 := (hb.cell (p := ⟨b, o + i, none⟩) (Nat.lt_of_lt_of_le hb0 Hb1.out.size)).trans hcp1
        clear hcc hcp hcp1
        have hstep := hG.step _ rfl
        have hatx := hG.2 (P.getD i (-1))
        generalize hpx : P.getD i (-1) = p at hp hcp2 hstep hatx
        have hwf : (Lit.int .i64 p).wf = true := WalkArith.wf_i64 (by omega)
        have hkey : keyOf Try.prog 3 (.int .i64 p) = some (.int .i64 p) := keyOf_int_mk Try.underlying3 hwf
        obtain ⟨v, zs, hrun, hat, hoi, hzl, hback⟩ := hown.at keyed_int Try.underlying51 (zero_ints wr) (by simp only [maxLen]; omega) hkey
        have hlook : ∀ W : World, W.heap[w1.heap.size]? = wr.heap[w1.heap.size]? → (Instr.lookup 51 (.map (some w1.heap.size)) (.int .i64 p) false).run Try.prog W = .ok v W := by
          obtain ⟨es, clock, hes, F, _⟩ := hown
          obtain ⟨v2, h2⟩ := look_same (clock := clock) F.keys p hwf
          have h3 := h2 wr _ hes
          rw [hrun] at h3
          cases h3
          exact fun W hW => h2 W _ (hW.trans hes)
        have hzs : zs = Fo.kidsTo P i p := kd_of hoi (hatx.symm.trans hat)
        have hrow : ∀ j, v.ownBlock = some j → w1.heap.size + 2 ≤ j := fun j hj => (hoi.1.lt j hj).1
        have hct := blk_cell hcb 0 rfl
        have hct1 := blk_cell (blk_alloc hcb (.cells #[.int .i64 i] 3)) 0 rfl
        have hl1 := hlook wr.drew rfl
        have hl2 := hlook (wr.alloc (.cells #[.int .i64 i] 3)).drew (heap_alloc_old wr _ (by omega))
        have HS := Lib.hid hstep
        have HB := Lib.hid hback
        have HX := Lib.hid hb
        have HO := Lib.hid hoi
        have HC := Lib.hid hcb
        have HK := Lib.hid hlook
        have HZ := Lib.hid hzs
        clear hstep hback hb hoi hcb hlook hx hown hG hatx hpx hkey hrun hat hzs
        obtain ⟨i0, hi0, hz0, hz1, hz2⟩ := info_parts info_int
        have hwi : (Lit.int .i64 (i : Int)).wf = true := WalkArith.wf_i64 (by omega)
        go_upto_region 7 with fail
        go_region_law (refine step_append_lies _ rfl (.tmp 23) (.tmp 25) 23 rfl (w1.heap.size + 2) 3 i0 (.int .i64 0) 1 8 Try.underlying23 hi0 hz0 hz1 hz2 rfl (by omega) v zs.length (ints zs) rfl (HO.out.1.alloc _) ⟨wr.heap.size, 0, none⟩ 1 1 [.int .i64 i] rfl rfl (World.news_of_block (blk_new wr #[.int .i64 i] 3)) (ints_one [(i : Int)]) (by omega) (by simp only [maxLen]; omega) (by omega) (by simp; omega) (wr.heap.size + 1) (by simp) ?_; intro g cap w2 hown2 hgrow2 hat2 hlt2; obtain ⟨w3, hrun3, hct3, hfin⟩ := group_step (i := i) HO.out HB.out HC.out hwi hzl hown2 hgrow2 hat2; clear hown2 hgrow2 hat2 hlt2)
        all_goals
          go_wp2
          go_roundg (P.length - (i + 1))
          case measure => omega
          case rel =>
            obtain ⟨hown3, hgr, hgr3, hcb3⟩ := hfin.out
            refine ⟨i + 1, by omega, Nat.le_refl _, by simp, _, hown3, ?_, HX.out.groups HO.out hgr hgr3 (by omega) (by omega) (by omega), ?_, blk_grown hcb3 hgr3 (by simp)⟩
            · rw [HZ.out]; exact HS.out
            · have := hgr.size
              have := hgr3.size
              omega
      · obtain rfl : i = P.length := by omega
        obtain ⟨D, hown, hG, hb, hsz, hcb⟩ := hx.out
        have HM := Lib.hid (show MW wr P (w1.heap.size + 1) w1.heap.size from ⟨by omega, hcb, _, D, hown, hG⟩)
        have HRW := Lib.hid (show RW wr (w1.heap.size + 1) ((wr.alloc (.cells #[.slice none 0 0] 39)).alloc (.cells #[.func (.func 32) #[] #[.pointer (some ⟨w1.heap.size + 1, 0, none⟩), .pointer (some ⟨wr.heap.size, 0, none⟩), .pointer (some ⟨wr.heap.size + 1, 0, none⟩)]] 52)) [] from by
          refine ⟨((Below.refl _ _).alloc (Nat.le_refl _) _).alloc (by simp) _, ?_, _, blk_alloc (blk_new wr _ _) _, World.ownsRow_nil _ _ _ _⟩
          have := blk_new (wr.alloc (.cells #[.slice none 0 0] 39)) #[.func (.func 32) #[] #[.pointer (some ⟨w1.heap.size + 1, 0, none⟩), .pointer (some ⟨wr.heap.size, 0, none⟩), .pointer (some ⟨wr.heap.size + 1, 0, none⟩)]] 52
          simpa using this)
        have hdeep : Fo.Deep P (P.length + 1) (-1) := Fo.deep_of HF.out.2 HF.out.rng _ (-1) 0 (Fo.Lv.neg (by omega)) (Nat.zero_le _) (by omega)
        have hlen : ([] : List Fo.Item).length + (Fo.sub P (P.length + 1) (-1) 0).length ≤ 1099511627776 := by
          have := Fo.row_length HF.out
          unfold Fo.row at this
          rw [this]; simp; omega
        have HDL := Lib.hid (And.intro hdeep hlen)
        have HX := Lib.hid (And.intro hb hsz)
        clear hx hown hG hb hcb hdeep hlen hsz
        go_wp2_with (go_at_call 32; go_must (refine (row1_any wr P (w1.heap.size + 1) w1.heap.size HM.out (by omega) (P.length + 1) (-1) 0 [] _ HDL.out.1 ⟨by omega, by omega⟩ ⟨by omega, by omega⟩ HDL.out.2 HRW.out).mono ?_; rintro e w2 ⟨rfl, hb2, hf2, ov, hob, how⟩; have hco := blk_cell hob 0 rfl))
        go_ret
        refine ⟨_, rfl, ?_, .inl ⟨HF.out, ?_⟩⟩
        · have h1 := Hb1.out.size
          have h2 := HX.out.2
          exact Hb1.out.trans ((HX.out.1.mono h1).trans (hb2.mono (by omega)))
        · have e1 : ([] ++ Fo.sub P (P.length + 1) (-1) 0) = Fo.row P := rfl
          rw [e1] at how
          rw [Fo.row_length HF.out] at how
          have h1 := Hb1.out.size
          have h2 := HX.out.2
          exact own_base how (by omega)

end Go.Proofs.Ytlajboohkkbgdaa
