/- parent.cycles: what it tells a function value, at whatever function value. No condition but the reach of the places. -/
import Derived.Test.YtlajboohkkbgdaaBase
import Derived.Test.YtlajboohkkbgdaaForP
import Derived.Deep.LoopGhost
import Derived.Deep.CutBlock
import Derived.Shelf.Abstract
import Derived.Deep.DeepCutAuto
namespace Go.Proofs.Ytlajboohkkbgdaa
open Go.RowKit
set_option linter.unusedSimpArgs false
set_option linter.unusedVariables false

/-- The cells of numbers. -/
def ints (l : List Int) : List Value := l.map (Value.int .i64)
theorem ints_length (l : List Int) : (ints l).length = l.length := by simp [ints]
theorem ints_at (l : List Int) (j : Nat) (h : j < l.length) : (ints l)[j]? = some (.int .i64 (l.getD j (-1))) := by
  simp [ints, List.getD_eq_getElem?_getD, List.getElem?_eq_getElem h]
theorem ints_set (l : List Int) (j : Nat) (v : Int) : (ints l).set j (.int .i64 v) = ints (l.set j v) := by simp [ints, List.map_set]
theorem ints_one (l : List Int) : ∀ u ∈ ints l, u.oneCell' = true := by
  intro u hu
  obtain ⟨_, _, rfl⟩ := List.mem_map.1 hu
  rfl
theorem ints_append (l m : List Int) : ints (l ++ m) = ints l ++ ints m := by simp [ints]

theorem info_int : (Try.prog.info? 3).map (fun i => (i.zero, i.size, i.bytes)) = some (some (.int .i64 0), 1, 8) := by kernel_rfl

/-- What is asked of the function value that cycles calls. -/
structure Tells (g : Nat) (lb : Array Value) (P : List Int) (I : World → List Int → Prop) (A : Option Addr) (c : Nat) (B : Nat) : Prop where
  enters : ∀ args w, (callFunc g args).run Try.prog w = .ok (.enter g args) w
  set : ∀ W E (a : Nat) (v : Value), B < W.heap.size → I W E → I (W.setCell ⟨B, a, none⟩ v) E
  step : ∀ W E (a : Nat), B < W.heap.size → E.length < P.length → I W E → Fo.OnCyc P a → a < P.length → Rd W 1 P.length A c (ints P) →
    Calls Try.prog g (#[.int .i64 (a : Int)] ++ lb) W fun e W' => e = .returned (.tuple #[]) ∧ I W' (E ++ [(a : Int)]) ∧ Rd W' 1 P.length A c (ints P) ∧ W'.heap[B]? = W.heap[B]? ∧ W.heap.size ≤ W'.heap.size

theorem own_of_block {w w' : World} {base e size n B cap : Nat} {xs : List Value} (h : w.ownsRow base e size (.slice (some ⟨B, 0, none⟩) n cap) n xs) (hk : w'.heap[B]? = w.heap[B]?) :
    w'.ownsRow base e size (.slice (some ⟨B, 0, none⟩) n cap) n xs := by
  obtain ⟨h1, h2⟩ := h
  refine ⟨h1, ?_⟩
  rcases h2 with h2 | ⟨g, cap', cur, hv, hb, hg, r⟩
  · exact .inl h2
  · refine .inr ⟨g, cap', cur, hv, hb, ?_, r⟩
    simp only [Value.slice.injEq, Option.some.injEq, Addr.mk.injEq] at hv
    obtain ⟨⟨rfl, _⟩, _⟩ := hv
    rw [hk, hg]

theorem Rd.stored {w : World} {size n : Nat} {A : Option Addr} {c : Nat} {cs : List Value} (h : Rd w size n A c cs) {B : Nat} (hB : ∀ ad, A = some ad → 0 < n → ad.block < B) (a : Nat) (u : Value) : Rd (w.setCell ⟨B, a, none⟩ u) size n A c cs :=
  h.setCell_ne (fun ad had hn => by have := hB ad had hn; simp; omega) u

set_option maxRecDepth 100000 in
set_option maxHeartbeats 4000000 in
theorem cycles_any (g : Nat) (lb : Array Value) (P : List Int) (I : World → List Int → Prop) (A : Option Addr) (c : Nat) (w : World) (hP : Rd w 1 P.length A c (ints P)) (hA : ∀ ad, A = some ad → 0 < P.length → ad.block < w.heap.size)
    (hn : P.length ≤ 1099511627776) (hR : Fo.Rng P) (hT : Tells g lb P I A c w.heap.size) (hI0 : ∀ W, w.grownBy W none → w.heap.size < W.heap.size → I W []) :
    Calls Try.prog 38 #[.slice A P.length c, .func (.func g) #[] lb] w fun e w' => e = .returned (.tuple #[]) ∧ ∃ E, Fo.Told P E ∧ E.length ≤ P.length ∧ I w' E := by
  obtain ⟨i0, hi, hz0, hz1, hz2⟩ := info_parts info_int
  have eg := hT.enters
  go_enter Try.func38, Try.ntmps38
  go_wp2_with (at_make; go_must (refine wpList_make_full _ rfl _ _ 23 rfl w.heap.size 3 i0 (.int .i64 0) 1 Try.underlying23 hi hz0 hz1 _ _ _ _ P.length rfl rfl rfl rfl (by rw [hz2]; omega) (by simp only [maxLen]; omega) (Nat.le_refl _) ?_; intro w1 hown hg))
  have hB : w.heap.size < w1.heap.size := (hown.lt w.heap.size rfl).2
  have hown0 : w1.ownsRow w.heap.size 3 1 (.slice (some ⟨w.heap.size, 0, none⟩) P.length P.length) P.length (ints (Fo.cellsOf (fun _ => 0) P.length)) := by
    have e : (madeCells (Value.int IntKind.i64 0).cells (P.length * 1)).toList = ints (Fo.cellsOf (fun _ => 0) P.length) := by
      have h0 := toList_madeCells_one (Value.int IntKind.i64 0) (P.length * 1)
      rw [show (Value.int IntKind.i64 0).cells = #[Value.int .i64 0] from rfl, h0]
      simp [ints, Fo.cellsOf, List.map_const']
    rw [← e]; exact hown
  have hP1 : Rd w1 1 P.length A c (ints P) := by
    obtain ⟨h1, h2, h3, h4⟩ := hP
    refine ⟨h1, h2, h3, ?_⟩
    rcases h4 with h4 | ⟨b, o, rfl, hlt, hc⟩
    · exact .inl h4
    · refine .inr ⟨b, o, rfl, by omega, fun j u hu => ?_⟩
      rw [← hc j u hu]
      exact World.cell?_of_block (hg.block b hlt (by simp))
  have hI1 := hI0 w1 hg hB
  clear hown hg hI0 hz2 hz1 hz0 hi hP
  go_loopg [12] P.length (fun k s12 wr => ∃ (i : Nat) (st : Nat → Int) (E : List Int), i ≤ P.length ∧ P.length - i ≤ k ∧ s12 = .int .i64 i ∧
    Aside (E.length ≤ i ∧ wr.ownsRow w.heap.size 3 1 (.slice (some ⟨w.heap.size, 0, none⟩) P.length P.length) P.length (ints (Fo.cellsOf st P.length)) ∧ Fo.St P i st E ∧ I wr E ∧ Rd wr 1 P.length A c (ints P) ∧ w.heap.size < wr.heap.size))
  case atStart => exact ⟨0, _, [], Nat.zero_le _, by omega, rfl, Nat.le_refl _, hown0, Fo.St.start P, hI1, hP1, hB⟩
  case round =>
    obtain ⟨i, st, E, hi, hk, rfl, hrest⟩ := hrel
    clear hB hown0 hP1 hI1
    rcases Nat.lt_or_ge i P.length with hlt | hge
    · go_wp2_with fail
      go_step3
      go_wp2_with fail
      go_step3
      go_upto_block 2 with fail
      go_cut [6] (fun s6 wx => ∃ (m : Nat) (st' : Nat → Int) (E' : List Int), Aside (wx.ownsRow w.heap.size 3 1 (.slice (some ⟨w.heap.size, 0, none⟩) P.length P.length) P.length (ints (Fo.cellsOf st' P.length)) ∧ I wx E' ∧ Rd wx 1 P.length A c (ints P) ∧ w.heap.size < wx.heap.size ∧
        Fo.Wk P i st m st' ∧ Fo.Ends P i st m ∧ (E' = E ∨ ∃ e, E' = E ++ [e]) ∧ (∀ e ∈ E', Fo.OnCyc P e ∧ e < P.length) ∧ ((∃ j, j < m ∧ Fo.it P j i = Fo.it P m i) → Fo.it P m i ∈ E')))
      case first =>
        obtain ⟨hEl, own, hS, hI, hRd, hBs⟩ := hrest.out
        obtain ⟨b, o, rfl, hlb, hcb⟩ := hRd.at_ (by omega)
        clear hlb hcb
        have hb : b < w.heap.size := hA _ rfl (by omega)
        have HS := Lib.hid hS
        have HA := Lib.hid hA
        have HT := Lib.hid hT
        have HR := Lib.hid hR
        clear hS hrest hA hT hR
        go_wp2_with fail
        go_loopg [6] (Fo.cnt st P.length 0) (fun k s6 wx => ∃ (m : Nat) (st' : Nat → Int), s6 = .int .i64 (Fo.it P m i) ∧
          Aside (wx.ownsRow w.heap.size 3 1 (.slice (some ⟨w.heap.size, 0, none⟩) P.length P.length) P.length (ints (Fo.cellsOf st' P.length)) ∧ I wx E ∧ Rd wx 1 P.length (some ⟨b, o, none⟩) c (ints P) ∧ w.heap.size < wx.heap.size ∧
            Fo.Wk P i st m st' ∧ Fo.cnt st' P.length 0 ≤ k))
        case atStart => exact ⟨0, st, rfl, own, hI, hRd, hBs, Fo.Wk.start P i st, Nat.le_refl _⟩
        case round =>
          obtain ⟨m, st', rfl, hx⟩ := hrel
          clear own hI hRd hBs
          have hlm : Fo.it P m i < P.length := Fo.it_lt HR.out (by omega) m
          have hst1 : ∀ x, st x ≠ 1 ∨ P.length ≤ x := fun x => by
            rcases Nat.lt_or_ge x P.length with h1 | h1
            · rcases HS.out.two x h1 with h2 | h2 <;> left <;> omega
            · exact .inr h1
          generalize hxm : Fo.it P m i = x at hlm
          have Hxm := Lib.hid hxm
          have Hst1 := Lib.hid hst1
          clear hxm hst1
          rcases Int.lt_or_le x 0 with hneg | hpos
          · have t1 : decide (x < 0) = true := decide_eq_true hneg
            go_wp2
            obtain ⟨h1, h2, h3, h4, h5, h6⟩ := hx.out
            go_meet
            case rel =>
              refine ⟨m, st', E, h1, h2, h3, h4, h5, .inl (by rw [Hxm.out]; exact hneg), .inl rfl, HS.out.cyc, ?_⟩
              rintro ⟨j, hj, e⟩
              have := (h5.fresh j hj).1
              rw [e, Hxm.out] at this
              omega
          · obtain ⟨a, rfl⟩ := Int.eq_ofNat_of_zero_le hpos
            have ha : a < P.length := by omega
            obtain ⟨h1, h2, h3, h4, h5, h6⟩ := hx.out
            have hcell := h1.cellAt a (by omega)
            have hfr := h1.frozenAt a
            have hat : (ints (Fo.cellsOf st' P.length))[a]? = some (.int .i64 (st' a)) := by
              simp [ints, Fo.cellsOf_at st' P.length a ha]
            rw [hat] at hcell
            clear hat
            have H6 := Lib.hid h6
            have H5 := Lib.hid h5
            clear hx h6 h5
            have hval : st' a = 2 ∨ st' a = 1 ∨ st' a = 0 := H5.out.val HS.out a ha
            rcases hval with hv | hv | hv
            · rw [hv] at hcell
              go_wp2
              go_meet
              case rel =>
                have hne : ∀ j, j < m → Fo.it P j i ≠ Fo.it P m i := by
                  intro j hj e
                  have := H5.out.one j hj
                  rw [e, Hxm.out] at this
                  simp at this
                  omega
                refine ⟨m, st', E, h1, h2, h3, h4, H5.out, .inr (.inl ⟨by rw [Hxm.out]; omega, ?_, hne⟩), .inl rfl, HS.out.cyc, ?_⟩
                · rw [← H5.out.rest _ (fun j hj e => hne j hj (by rw [e, Hxm.out]; simp)), Hxm.out]
                  simpa using hv
                · rintro ⟨j, hj, e⟩
                  exact absurd e (hne j hj)
            · rw [hv] at hcell
              have hmet := H5.out.met (by rw [Hxm.out]; omega) Hst1.out (by rw [Hxm.out]; omega) (by rw [Hxm.out]; simpa using hv)
              have hcyc : Fo.OnCyc P (a : Int) := by
                obtain ⟨j, hj, e⟩ := hmet
                have := Fo.Wk.cyc hj e (by rw [Hxm.out]; omega)
                rwa [Hxm.out] at this
              have Hmet := Lib.hid hmet
              have Hcyc := Lib.hid hcyc
              clear hmet hcyc
              go_wp2_with (go_at_fn g; go_must (refine (HT.out.step wr E a h4 (by omega) h2 Hcyc.out ha h3).mono ?_; rintro e W' ⟨rfl, k1, k2, k3, k4⟩))
              go_meet
              case rel =>
                refine ⟨m, st', E ++ [(a : Int)], own_of_block h1 k3, k1, k2, by omega, H5.out, .inr (.inr Hmet.out), .inr ⟨_, rfl⟩, ?_, fun _ => by rw [Hxm.out]; simp⟩
                intro e he
                rcases List.mem_append.1 he with he | he
                · exact HS.out.cyc e he
                · simp at he
                  subst he
                  exact ⟨Hcyc.out, hlm⟩
            · rw [hv] at hcell
              obtain ⟨b2, o2, e2, hlt2, hc2⟩ := h3.at_ (by omega)
              cases e2
              have hcp := hc2 a _ (ints_at P a ha)
              have hcp2 : (wr.setCell ⟨w.heap.size, a, none⟩ (.int .i64 1)).cell? ⟨b, o + a, none⟩ = some (.int .i64 (P.getD a (-1))) := by
                rw [← hcp]
                exact World.cell?_of_block (Below.heap_setCell _ _ _ _ (by simp; omega))
              clear hc2 hcp
              generalize hpa : P.getD a (-1) = pa at hcp2
              have Hpa := Lib.hid hpa
              clear hpa
              go_wp2
              go_roundg (Fo.cnt (Fo.upd st' a 1) P.length 0)
              case measure => exact Nat.lt_of_lt_of_le (Fo.cnt_upd_lt st' P.length a 1 0 ha hv (by decide)) H6.out
              case rel =>
                have own' := (h1.stored a (.int .i64 1)).1
                rw [ints_set, Fo.cellsOf_set] at own'
                refine ⟨m + 1, Fo.upd st' a 1, ?_, own', HT.out.set _ _ _ _ h4 h2, h3.stored HA.out a _, by simpa [World.setCell] using h4, ?_, Nat.le_refl _⟩
                · simp only [Fo.it]
                  rw [Hxm.out, Fo.nx_nat, Hpa.out]
                · have := H5.out.step (by rw [Hxm.out]; omega) (by rw [Hxm.out]; simpa using hv)
                  rw [Hxm.out] at this
                  simpa using this
      case rest =>
        obtain ⟨m, st', E', hc⟩ := hcut
        obtain ⟨own, hI, hRd, hBs, hW, hEn, hE, hEc, hEm⟩ := hc.out
        obtain ⟨b, o, rfl, hlb, hcb⟩ := hRd.at_ (by omega)
        clear hlb hcb
        have hb : b < w.heap.size := hA _ rfl (by omega)
        have hEl := hrest.out.1
        have HS := Lib.hid hrest.out.2.2.1
        have HA := Lib.hid hA
        have HT := Lib.hid hT
        have HR := Lib.hid hR
        have HE := Lib.hid (And.intro hEn (And.intro hE (And.intro hEc hEm)))
        have hD := hW.turn
        have hm0 : m = 0 → st i = 2 := by
          intro h0
          subst h0
          rcases hEn with h1 | ⟨_, h1, _⟩ | ⟨j, hj, _⟩
          · simp [Fo.it] at h1
            omega
          · simpa [Fo.it] using h1
          · omega
        have HM0 := Lib.hid hm0
        clear hc hrest hA hT hR hEn hE hEc hEm hW hm0
        go_wp2_with fail
        go_loopg [6] m (fun k s6 wx => ∃ (j : Nat) (st'' : Nat → Int), j ≤ m ∧ m - j ≤ k ∧ s6 = .int .i64 (Fo.it P j i) ∧
          Aside (wx.ownsRow w.heap.size 3 1 (.slice (some ⟨w.heap.size, 0, none⟩) P.length P.length) P.length (ints (Fo.cellsOf st'' P.length)) ∧ I wx E' ∧ Rd wx 1 P.length (some ⟨b, o, none⟩) c (ints P) ∧ w.heap.size < wx.heap.size ∧ Fo.Dn P i st m j st''))
        case atStart => exact ⟨0, st', Nat.zero_le _, by omega, rfl, own, hI, hRd, hBs, hD⟩
        case round =>
          obtain ⟨j, st'', hj, hjk, rfl, hx⟩ := hrel
          clear own hI hRd hBs hD
          obtain ⟨h1, h2, h3, h4, h5⟩ := hx.out
          have hlm : Fo.it P j i < P.length := Fo.it_lt HR.out (by omega) j
          have htest := h5.test hj HE.out.1
          have H5 := Lib.hid h5
          clear hx h5
          generalize hxm : Fo.it P j i = x at hlm htest
          have Hxm := Lib.hid hxm
          clear hxm
          rcases Nat.lt_or_ge j m with hjm | hjm
          · obtain ⟨hx0, hx1⟩ := htest.2 hjm
            clear htest
            obtain ⟨a, rfl⟩ := Int.eq_ofNat_of_zero_le hx0
            have ha : a < P.length := by omega
            simp only [Int.toNat_natCast] at hx1
            have hcell := h1.cellAt a (by omega)
            have hfr := h1.frozenAt a
            have hat : (ints (Fo.cellsOf st'' P.length))[a]? = some (.int .i64 (st'' a)) := by
              simp [ints, Fo.cellsOf_at st'' P.length a ha]
            rw [hat, hx1] at hcell
            obtain ⟨b2, o2, e2, hlt2, hc2⟩ := h3.at_ (by omega)
            cases e2
            have hcp := hc2 a _ (ints_at P a ha)
            have hcp2 : (wr.setCell ⟨w.heap.size, a, none⟩ (.int .i64 2)).cell? ⟨b, o + a, none⟩ = some (.int .i64 (P.getD a (-1))) := by
              rw [← hcp]
              exact World.cell?_of_block (Below.heap_setCell _ _ _ _ (by simp; omega))
            clear hc2 hcp hat
            generalize hpa : P.getD a (-1) = pa at hcp2
            have Hpa := Lib.hid hpa
            clear hpa
            go_wp2
            go_roundg (m - (j + 1))
            case measure => omega
            case rel =>
              have own' := (h1.stored a (.int .i64 2)).1
              rw [ints_set, Fo.cellsOf_set] at own'
              refine ⟨j + 1, Fo.upd st'' a 2, by omega, Nat.le_refl _, ?_, own', HT.out.set _ _ _ _ h4 h2, h3.stored HA.out a _, by simpa [World.setCell] using h4, ?_⟩
              · simp only [Fo.it]
                rw [Hxm.out, Fo.nx_nat, Hpa.out]
              · have := H5.out.step hjm
                rw [Hxm.out] at this
                simpa using this
          · obtain rfl : j = m := by omega
            clear htest
            have hend := H5.out.ends HE.out.1
            rw [Hxm.out] at hend
            have hfin : Fo.St P (i + 1) st'' E' := H5.out.close HS.out HR.out hlt HE.out.1 HM0.out HE.out.2.1 HE.out.2.2.1 HE.out.2.2.2
            have HF := Lib.hid hfin
            clear hfin
            have hback : Aside (E'.length ≤ i + 1 ∧ wr.ownsRow w.heap.size 3 1 (.slice (some ⟨w.heap.size, 0, none⟩) P.length P.length) P.length (ints (Fo.cellsOf st'' P.length)) ∧ Fo.St P (i + 1) st'' E' ∧ I wr E' ∧ Rd wr 1 P.length (some ⟨b, o, none⟩) c (ints P) ∧ w.heap.size < wr.heap.size) :=
              ⟨by
                rcases HE.out.2.1 with e | ⟨_, e⟩
                · rw [e]; omega
                · rw [e, List.length_append]; simp; omega, h1, HF.out, h2, h3, h4⟩
            rcases Int.lt_or_le x 0 with hneg | hpos
            · clear hend
              have t1 : decide (0 ≤ x) = false := decide_eq_false (by omega)
              go_wp2
              simp only [Exit.noGoto, Exit.inBlock, Exit.then]
              go_wp2
              go_roundg (P.length - (i + 1))
              case measure => omega
              case rel => exact ⟨i + 1, st'', E', by omega, Nat.le_refl _, by simp, hback⟩
            · obtain ⟨a, rfl⟩ := Int.eq_ofNat_of_zero_le hpos
              have ha : a < P.length := by omega
              have hx2 : st'' a = 2 := by
                rcases hend with h9 | h9
                · omega
                · simpa using h9
              have hcell := h1.cellAt a (by omega)
              have hat : (ints (Fo.cellsOf st'' P.length))[a]? = some (.int .i64 (st'' a)) := by
                simp [ints, Fo.cellsOf_at st'' P.length a ha]
              rw [hat, hx2] at hcell
              clear hend hat
              go_wp2
              simp only [Exit.noGoto, Exit.inBlock, Exit.then]
              go_wp2
              go_roundg (P.length - (i + 1))
              case measure => omega
              case rel => exact ⟨i + 1, st'', E', by omega, Nat.le_refl _, by simp, hback⟩
    · obtain rfl : i = P.length := by omega
      go_wp2
      refine bodyPost_end (results_none rfl _ _ _) rfl ?_
      obtain ⟨hEl, h1, h2, h3, _⟩ := hrest.out
      exact ⟨rfl, E, h2.told, hEl, h3⟩

end Go.Proofs.Ytlajboohkkbgdaa
