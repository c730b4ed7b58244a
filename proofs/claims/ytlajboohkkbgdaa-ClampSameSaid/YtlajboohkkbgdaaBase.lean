/- Words and laws that all texts of this seat share: slices that are read, append, slicing, conversions; the walk's own tactics do the rest. No condition. -/
import Derived.Test.YtlajboohkkbgdaaProg
import Derived.WalkKit
import Derived.WalkLawsBesides
import Derived.WalkSpells
import Derived.Deep.QuietTactic
import Derived.BigQuiet
import Derived.KernelRfl
import Derived.Lib.Hide
import Derived.Lib.ConvBytes
import Derived.Maps.AppendAt
import Derived.Deep.AppendLies
import Derived.Laws.AppendOwnNone
import Derived.Deep.DeepCutAuto
import Derived.StillTailTactics
import Derived.ScopeJumps
import Derived.Deep.RegionHeld3
namespace Go.Proofs.Ytlajboohkkbgdaa
open Go.RowKit
set_option linter.unusedSimpArgs false
set_option linter.unusedVariables false

/-- A slice of n elements (each of 'size' cells) whose cells read as cs. -/
def Rd (w : World) (size n : Nat) (A : Option Addr) (c : Nat) (cs : List Value) : Prop :=
  cs.length = n * size ∧ n ≤ c ∧ n ≤ 9223372036854775807 ∧
  (n = 0 ∨ ∃ b o, A = some ⟨b, o, none⟩ ∧ b < w.heap.size ∧ ∀ j u, cs[j]? = some u → w.cell? ⟨b, o + j, none⟩ = some u)

/-- A value that is such a slice. -/
def RdV (w : World) (size n : Nat) (v : Value) (cs : List Value) : Prop := ∃ A c, v = .slice A n c ∧ Rd w size n A c cs

theorem Rd.below {w w1 : World} {size n : Nat} {A : Option Addr} {c : Nat} {cs : List Value} (h : Rd w size n A c cs) {B : Nat} (hb : Below B w w1) (hB : w.heap.size ≤ B) : Rd w1 size n A c cs := by
  obtain ⟨h1, h2, h3, h4⟩ := h
  refine ⟨h1, h2, h3, ?_⟩
  rcases h4 with h4 | ⟨b, o, rfl, hlt, hc⟩
  · exact .inl h4
  · refine .inr ⟨b, o, rfl, Nat.lt_of_lt_of_le hlt hb.size, fun j u hu => ?_⟩
    rw [hb.cell (p := ⟨b, o + j, none⟩) (by simp; omega)]
    exact hc j u hu

theorem RdV.below {w w1 : World} {size n : Nat} {v : Value} {cs : List Value} (h : RdV w size n v cs) {B : Nat} (hb : Below B w w1) (hB : w.heap.size ≤ B) : RdV w1 size n v cs := by
  obtain ⟨A, c, rfl, h⟩ := h
  exact ⟨A, c, rfl, h.below hb hB⟩

theorem Rd.nil (w : World) (size : Nat) : Rd w size 0 none 0 [] := ⟨by simp, Nat.le_refl _, by omega, .inl rfl⟩
theorem RdV.nil (w : World) (size : Nat) : RdV w size 0 (.slice none 0 0) [] := ⟨none, 0, rfl, Rd.nil w size⟩
theorem Rd.len {w : World} {size n : Nat} {A : Option Addr} {c : Nat} {cs : List Value} (h : Rd w size n A c cs) : cs.length = n * size := h.1

/-- Where there is an element there is an address. -/
theorem Rd.at_ {w : World} {size n : Nat} {A : Option Addr} {c : Nat} {cs : List Value} (h : Rd w size n A c cs) (hn : 0 < n) :
    ∃ b o, A = some ⟨b, o, none⟩ ∧ b < w.heap.size ∧ ∀ j u, cs[j]? = some u → w.cell? ⟨b, o + j, none⟩ = some u := by
  rcases h.2.2.2 with hc | h4
  · have := h.2.1; omega
  · exact h4

theorem Rd.slice {w : World} {size n : Nat} {A : Option Addr} {c : Nat} {cs : List Value} (h : Rd w size n A c cs) (l m : Nat) (hl : l ≤ m) (hm : m ≤ n) :
    Rd w size (m - l) (if c = l then A else A.map (·.add (l * size))) (c - l) ((cs.drop (l * size)).take ((m - l) * size)) := by
  obtain ⟨h1, h2, h3, h4⟩ := h
  refine ⟨?_, by omega, by omega, ?_⟩
  · have e1 : (m - l) * size + l * size = m * size := by rw [← Nat.add_mul]; congr 1; omega
    have e2 : m * size ≤ n * size := Nat.mul_le_mul_right _ hm
    simp only [List.length_take, List.length_drop, h1]
    omega
  · rcases h4 with rfl | ⟨b, o, rfl, hlt, hc⟩
    · left
      omega
    · right
      split
      · rename_i he
        refine ⟨b, o, rfl, hlt, fun j u hu => ?_⟩
        have : m - l = 0 := by omega
        simp [this] at hu
      · refine ⟨b, o + l * size, ?_, hlt, fun j u hu => ?_⟩
        · simp only [Option.map_some, Addr.add]
          split
          · rename_i h0; simp [h0]
          · rfl
        · rw [Nat.add_assoc]
          refine hc _ u ?_
          rw [List.getElem?_take] at hu
          split at hu
          · simpa using hu
          · cases hu

theorem RdV.len_le {w : World} {size n : Nat} {v : Value} {cs : List Value} (h : RdV w size n v cs) : n ≤ 9223372036854775807 := by
  obtain ⟨A, c, rfl, h⟩ := h
  exact h.2.2.1

/-- What is owned reads so. -/
theorem own_rd {w : World} {base e size n : Nat} {v : Value} {xs : List Value} (h : w.ownsRow base e size v n xs) : RdV w size n v xs := by
  obtain ⟨h1, h2⟩ := h
  rcases h2 with ⟨rfl, rfl⟩ | ⟨g, cap, cur, rfl, hb, hh, hn, hm, hs, ht⟩
  · refine ⟨none, 0, rfl, by simpa using h1, Nat.le_refl _, by omega, .inl rfl⟩
  · refine ⟨_, cap, rfl, h1, hn, Nat.le_trans hn (by simpa [maxLen] using hm), .inr ⟨g, 0, rfl, (Array.getElem?_eq_some_iff.1 hh).1, fun j u hu => ?_⟩⟩
    have := World.ownsRow.cells (w := w) (base := base) (e := e) (size := size) (v := .slice (some ⟨g, 0, none⟩) n cap) (n := n) (xs := xs) ⟨h1, .inr ⟨g, cap, cur, rfl, hb, hh, hn, hm, hs, ht⟩⟩ (g := g) rfl j u hu
    have ha : (⟨g, 0, none⟩ : Addr).add j = ⟨g, 0 + j, none⟩ := by unfold Addr.add; split <;> simp_all
    rwa [ha] at this

theorem own_below {w w1 : World} {base e size n : Nat} {v : Value} {xs : List Value} (h : w.ownsRow base e size v n xs) {B : Nat} (hb : Below B w w1) (hB : w.heap.size ≤ B) : w1.ownsRow base e size v n xs := by
  refine h.kept (row := none) ⟨hb.os, hb.tape, hb.output, hb.size, fun k hk _ => hb.block k (by omega)⟩ ?_
  cases v.ownBlock <;> simp

theorem own_base {w : World} {base base' e size n : Nat} {v : Value} {xs : List Value} (h : w.ownsRow base e size v n xs) (hb : base' ≤ base) : w.ownsRow base' e size v n xs := by
  obtain ⟨h1, h2⟩ := h
  refine ⟨h1, ?_⟩
  rcases h2 with h2 | ⟨g, cap, cur, hv, hg, r⟩
  · exact .inl h2
  · exact .inr ⟨g, cap, cur, hv, by omega, r⟩

theorem below_step {B : Nat} {w w1 w2 : World} (h : Below B w w1) (k : Below w1.heap.size w1 w2) (hB : B ≤ w1.heap.size) : Below B w w2 := h.trans (k.mono hB)

/-! ### append, whatever the source -/
section
variable {P : Program} {w : World} {ops : Array Oper} {rest : List Oper} {o : Oper} {a : Act} {Q : Exit → Act → World → Prop}

theorem run_append_of_nil (w : World) (base : Nat) (t ty e : TypeId) (i : TypeInfo) (size : Nat) (ht : P.underlying t = some (.slice e)) (hi : P.info? e = some i)
    (v : Value) (n : Nat) (xs : List Value) (hown : w.ownsRow base e size v n xs) (c : Nat) : (Builtin.append_ #[t, t] ty #[v, .slice none 0 c]).run P w = .ok v w := by
  rcases hown.2 with ⟨rfl, rfl⟩ | ⟨g, cap, cur, rfl, _, _, hnc, _⟩
  · simp [Builtin.append_, run_underlying ht, sizeOf, typeInfo, hi, Builtin.lenOf, Builtin.firstCells]
  · simp [Builtin.append_, run_underlying ht, sizeOf, typeInfo, hi, Builtin.lenOf, Builtin.firstCells, hnc, storeCells]

theorem append_rd (hgd : o.guard = none) (s x : Operand) (t : TypeId)
    (ho : o.op = .call { callee := .builtin .append, args := #[s, x], argTypes := #[t, t] })
    (base : Nat) (e : TypeId) (z : Value) (size bytes : Nat) (ht : P.underlying t = some (.slice e)) (hinfo : (P.info? e).map (fun i => (i.zero, i.size, i.bytes)) = some (some z, size, bytes)) (hzs : z.cells.size = size) (hsz : 0 < size)
    (v : Value) (n : Nat) (xs : List Value) (hs : a.eval s = v) (hown : w.ownsRow base e size v n xs)
    (y : Value) (m : Nat) (news : List Value) (hx : a.eval x = y) (hr : RdV w size m y news) (h1 : ∀ u ∈ news, u.oneCell' = true)
    (hbytes : (n + m) * bytes ≤ 140737488355328) (hb0 : 0 < bytes) (hbase : base ≤ w.heap.size)
    (h : ∀ v' w', w'.ownsRow base e size v' (n + m) (xs ++ news) → w.grownBy w' v.ownBlock → (v'.ownBlock = v.ownBlock ∨ v'.ownBlock = some w.heap.size) → (v' = .slice none 0 0 → v = .slice none 0 0 ∧ m = 0) → wpList P ops Q rest (a.put o.dst v') w') :
    wpList P ops Q (o :: rest) a w := by
  obtain ⟨i, hi, hz0, hz1, hz2⟩ := info_parts hinfo
  obtain ⟨A, c, rfl, hr1, hr2, hr3, hr4⟩ := hr
  have hnm : n + m ≤ 140737488355328 := Nat.le_trans (Nat.le_mul_of_pos_right _ hb0) hbytes
  rcases hr4 with hm0 | ⟨b, off, rfl, hlt, hc⟩
  · obtain rfl := hm0
    obtain rfl : news = [] := List.eq_nil_of_length_eq_zero (by simpa using hr1)
    cases A with
    | some ad =>
      refine wpList_append_own_at w hgd s x t ho base e i z size bytes ht hi hz0 hz1 hz2 hzs hsz v n xs hs hown ad 0 c [] hx (by simp) (fun j u hu => by simp at hu) (by simp) (by simp only [maxLen]; omega) hbytes hbase ?_
      intro v' w' h1 h2 h3 h4
      exact h v' w' h1 h2 h4 (fun hv => h3.1 hv)
    | none =>
    refine wpList_plain hgd fun K hK => ?_
    have hrun := run_append_of_nil (P := P) w base t o.type e i size ht hi v n xs hown c
    unfold Oper.wp execOp
    simp only [ho, resolve, invoke, builtin, Sem.run_bind, Sem.run_pure, Result.andThen_ok, List.map_toArray, List.map_cons, List.map_nil, hs, hx, hrun]
    exact hK _ _ (h v w (by simpa using hown) ⟨rfl, rfl, rfl, Nat.le_refl _, fun _ _ _ => rfl⟩ (.inl rfl) (fun hv => ⟨hv, rfl⟩))
  · refine wpList_append_own_at w hgd s x t ho base e i z size bytes ht hi hz0 hz1 hz2 hzs hsz v n xs hs hown ⟨b, off, none⟩ m c news hx hr1 (fun j u hu => ?_) h1 (by simp only [maxLen]; omega) hbytes hbase ?_
    · have ha : (⟨b, off, none⟩ : Addr).add j = ⟨b, off + j, none⟩ := by unfold Addr.add; split <;> simp_all
      rw [ha]
      exact hc j u hu
    · intro v' w' h1 h2 h3 h4
      exact h v' w' h1 h2 h4 (fun hv => h3.1 hv)

/-- append of one element, which the operation ahead has laid into a block of its own. -/
theorem append_one {w0 wb : World} {B : Nat} (hgd : o.guard = none) (s x : Operand) (t : TypeId)
    (ho : o.op = .call { callee := .builtin .append, args := #[s, x], argTypes := #[t, t] })
    (base : Nat) (e : TypeId) (z : Value) (size bytes : Nat) (ht : P.underlying t = some (.slice e)) (hinfo : (P.info? e).map (fun i => (i.zero, i.size, i.bytes)) = some (some z, size, bytes)) (hzs : z.cells.size = size) (hsz : 0 < size)
    (v : Value) (n : Nat) (xs : List Value) (cs : List Value) (hs : a.eval s = v) (hx : a.eval x = .slice (some ⟨w0.heap.size, 0, none⟩) 1 1) (hown : w0.ownsRow base e size v n xs)
    (hcs : cs.length = size) (h1 : ∀ u ∈ cs, u.oneCell' = true)
    (hbytes : (n + 1) * bytes ≤ 140737488355328) (hb0 : 0 < bytes) (HB : Below B wb w0) (hBb : B ≤ base) (hbase : base ≤ w0.heap.size)
    (h : ∀ v' w', w'.ownsRow base e size v' (n + 1) (xs ++ cs) → Below B wb w' → w0.grownBy w' v.ownBlock → (v'.ownBlock = v.ownBlock ∨ ∃ g, v'.ownBlock = some g ∧ w0.heap.size ≤ g) → wpList P ops Q rest (a.put o.dst v') w') :
    wpList P ops Q (o :: rest) a (w0.alloc (.cells cs.toArray e)) := by
  refine append_rd hgd s x t ho base e z size bytes ht hinfo hzs hsz v n xs hs (hown.alloc _) _ 1 cs hx ⟨_, _, rfl, by simpa using hcs, Nat.le_refl _, by omega, .inr ⟨w0.heap.size, 0, rfl, by simp, fun j u hu => ?_⟩⟩ h1 hbytes hb0 (by simp; omega) ?_
  · have := World.news_of_block (w := w0.alloc (.cells cs.toArray e)) (heap_alloc_new w0 _) j u (by simpa using hu)
    have ha : (⟨w0.heap.size, 0, none⟩ : Addr).add j = ⟨w0.heap.size, 0 + j, none⟩ := by unfold Addr.add; split <;> simp_all
    rwa [ha] at this
  · intro v' w' h1 h2 h3 _
    refine h v' w' h1 ((HB.alloc (by omega) _).grown h2 (by simp; omega) (fun k hk => by have := (hown.lt k hk).1; omega)) (World.grownBy.trans (World.grownBy_alloc w0 _ _) h2) ?_
    rcases h3 with h3 | h3
    · exact .inl h3
    · exact .inr ⟨_, h3, by simp⟩

end

/-- A scope with one label: the pass from the label on is proved once, and used at the label's first meeting too. -/
theorem wp_scope_once {P : Program} {a : Act} {w : World} {Q : Exit → Act → World → Prop} {c x : Code} (l : Nat) (J : Act → World → Prop) (μ : Act → World → Nat) (hf : findLabel c l = some (.seq .skip x))
    (pass : ∀ a w, J a w → x.wp P (Exit.jump l (fun a' w' => J a' w' ∧ μ a' w' < μ a w) Q) a w)
    (first : (∀ a w, J a w → x.wp P (Exit.jump l J Q) a w) → c.wp P (Exit.jump l J Q) a w) : (Code.scope c).wp P Q a w :=
  wp_scope_jumps l J μ hf (first fun a w hJ => Code.wp_mono (fun e a w h => by
    cases e <;> first | exact h | exact ⟨h.1, h.2.1⟩) (pass a w hJ)) fun a w hJ => wp_seq (wp_skip (pass a w hJ))

theorem Rd.setCell_ne {w : World} {size n : Nat} {A : Option Addr} {c : Nat} {cs : List Value} (h : Rd w size n A c cs) {p : Addr} (hne : ∀ ad, A = some ad → 0 < n → ad.block ≠ p.block) (u : Value) : Rd (w.setCell p u) size n A c cs := by
  obtain ⟨h1, h2, h3, h4⟩ := h
  refine ⟨h1, h2, h3, ?_⟩
  rcases Nat.eq_zero_or_pos n with h0 | h0
  · exact .inl h0
  rcases h4 with h4 | ⟨b, o, rfl, hlt, hc⟩
  · exact .inl h4
  · refine .inr ⟨b, o, rfl, by simpa [World.setCell] using hlt, fun j v hv => ?_⟩
    rw [← hc j v hv]
    exact World.cell?_of_block (Below.heap_setCell w p u b (hne _ rfl h0))

/-! ### bytes -/
/-- The cells of bytes. -/
def bys (l : List UInt8) : List Value := l.map fun b => .int .u8 (b.toNat : Int)
theorem bys_length (l : List UInt8) : (bys l).length = l.length := by simp [bys]
theorem bys_append (l m : List UInt8) : bys (l ++ m) = bys l ++ bys m := by simp [bys]
theorem bys_one (l : List UInt8) : ∀ u ∈ bys l, u.oneCell' = true := by
  intro u hu
  obtain ⟨_, _, rfl⟩ := List.mem_map.1 hu
  rfl
theorem bys_at (l : List UInt8) (j : Nat) (h : j < l.length) : (bys l)[j]? = some (.int .u8 ((l.getD j 0).toNat : Int)) := by
  simp [bys, List.getD_eq_getElem?_getD, List.getElem?_eq_getElem h]
theorem bys_set (l : List UInt8) (j : Nat) (b : UInt8) : (bys l).set j (.int .u8 (b.toNat : Int)) = bys (l.set j b) := by simp [bys, List.map_set]
theorem bys_drop (l : List UInt8) (k : Nat) : (bys l).drop k = bys (l.drop k) := by simp [bys]
theorem bys_take (l : List UInt8) (k : Nat) : (bys l).take k = bys (l.take k) := by simp [bys]

/-- A string of bytes. -/
def S (l : List UInt8) : ByteArray := ⟨l.toArray⟩
theorem S_data (s : ByteArray) : S s.data.toList = s := rfl
theorem S_size (l : List UInt8) : (S l).size = l.length := by simp [S, ByteArray.size]
theorem S_append (l m : List UInt8) : S l ++ S m = S (l ++ m) := by
  apply ByteArray.ext
  simp [S]
theorem S_toList (l : List UInt8) : (S l).toList = l := ByteArray.toList_mk l
theorem S_inj {l m : List UInt8} : S l = S m ↔ l = m := by
  constructor
  · intro h
    have := congrArg (fun b : ByteArray => b.data.toList) h
    simpa [S] using this
  · intro h; rw [h]

section
variable {P : Program} {w : World} {ops : Array Oper} {rest : List Oper} {o : Oper} {a : Act} {Q : Exit → Act → World → Prop}
/-- An operation is known by the slot that it writes: an arm that begins so is tried there alone. -/
theorem gate (N : Nat) (_ : o.dst = some N) (h : wpList P ops Q (o :: rest) a w) : wpList P ops Q (o :: rest) a w := h

theorem run_conv_rd {src dst e : TypeId} (hs : P.underlying src = some (.slice e)) (he : P.underlying e = some (.int .u8)) (hd : P.underlying dst = some .string) {n : Nat} {y : Value} {l : List UInt8} (hr : RdV w 1 n y (bys l)) :
    (convert src dst y).run P w = .ok (.string (S l)) w := by
  obtain ⟨A, c, rfl, h1, h2, h3, h4⟩ := hr
  have hl : l.length = n := by simpa [bys] using h1
  rcases h4 with hn0 | ⟨b, off, rfl, hlt, hc⟩
  · obtain rfl := hn0
    obtain rfl : l = [] := List.eq_nil_of_length_eq_zero hl
    cases A with
    | none => exact run_convert_bytes_nil w src e hs he 0 c dst hd
    | some ad =>
      have hl0 : (loadCells ad 0).run P w = .ok (([] : List Int).map (Value.int .u8)).toArray w := run_loadCells_list w ad [] (fun j v hj => by simp at hj)
      rw [run_convert_bytes_string w src dst e _ 0 c hs he hd, run_bytesToString w _ 0 c [] hl0]
      rfl
  · rw [run_convert_bytes_arg w src e hs he b off n c (l.map fun x => (x.toNat : Int)) (by simpa using hl) (fun i hi => ?_) dst hd]
    · congr 2
      simp only [strOfNums, S, List.map_map, Function.comp_def]
      congr 2
      simp
    · rw [hc i _ (bys_at l i (by omega))]
      simp [List.getD_eq_getElem?_getD]
      cases l[i]? <;> rfl

theorem conv_rd (hgd : o.guard = none) (src dst e : TypeId) (x : Operand) (ho : o.op = .convert src dst x) (hs : P.underlying src = some (.slice e)) (he : P.underlying e = some (.int .u8)) (hd : P.underlying dst = some .string)
    (n : Nat) (y : Value) (l : List UInt8) (hx : a.eval x = y) (hr : RdV w 1 n y (bys l)) (h : wpList P ops Q rest (a.put o.dst (.string (S l))) w) : wpList P ops Q (o :: rest) a w := by
  refine wpList_plain hgd fun K hK => ?_
  have hrun := run_conv_rd (P := P) (w := w) hs he hd hr
  unfold Oper.wp
  simp [execOp, ho, hx, hrun, Result.andThen]
  exact hK _ _ h

theorem step_conv_rd {K : Act → World → Prop} {E : Prop} (hgd : o.guard = none) (src dst e : TypeId) (x : Operand) (ho : o.op = .convert src dst x) (hs : P.underlying src = some (.slice e)) (he : P.underlying e = some (.int .u8)) (hd : P.underlying dst = some .string)
    (n : Nat) (y : Value) (l : List UInt8) (hx : a.eval x = y) (hr : RdV w 1 n y (bys l)) (h : K (a.put o.dst (.string (S l))) w) : if Region.wanted o (yielded ops a.tmps) = true then Oper.wp P o a w K Q else E := by
  have hw : Region.wanted o (yielded ops a.tmps) = true := by simp [Region.wanted, hgd]
  rw [if_pos hw]
  have hrun := run_conv_rd (P := P) (w := w) hs he hd hr
  unfold Oper.wp
  simp [execOp, ho, hx, hrun, Result.andThen]
  exact h

/-- []byte(s): new memory that reads as s. -/
theorem conv_bytes (hgd : o.guard = none) (src dst e : TypeId) (x : Operand) (ho : o.op = .convert src dst x) (hs : P.underlying src = some .string) (hd : P.underlying dst = some (.slice e)) (he : P.underlying e = some (.int .u8))
    (s : ByteArray) (l : List UInt8) (hx : a.eval x = .string s) (hsl : s = S l) (hm : l.length ≤ 9223372036854775807)
    (h : ∀ A c w', Rd w' 1 l.length A c (bys l) → (∀ ad, A = some ad → w.heap.size ≤ ad.block) → Below w.heap.size w w' → wpList P ops Q rest (a.put o.dst (.slice A l.length c)) w') : wpList P ops Q (o :: rest) a w := by
  subst hsl
  refine wpList_plain hgd fun K hK => ?_
  have hrun := Lib.run_convert_string_bytes (P := P) w src dst e (S l) hs hd he
  unfold Oper.wp
  simp [execOp, ho, hx, hrun, Result.andThen]
  have hz : (S l).size = l.length := S_size l
  rw [hz]
  refine hK _ _ (h _ _ _ ⟨by simp [bys], grownCap_ge w _ _ _, hm, .inr ⟨w.heap.size, 0, rfl, by rw [Lib.bytesWorld_size]; omega, fun j u hu => ?_⟩⟩ (fun ad had => by cases had; exact Nat.le_refl _) ⟨rfl, rfl, rfl, by rw [Lib.bytesWorld_size]; omega, fun k hk => Lib.bytesWorld_at_old w e (S l) k hk⟩)
  have hj : j < l.length := by
    rcases Nat.lt_or_ge j l.length with h | h
    · exact h
    · simp [bys, List.getElem?_eq_none h] at hu
  rw [bys_at l j hj] at hu
  cases hu
  have := Lib.bytesWorld_cell w e (S l) j (by rw [hz]; exact hj)
  simpa [S] using this

/-- string([]byte{b}), the byte laid into a block of its own by the operation ahead. -/
theorem conv_one {w0 : World} (hgd : o.guard = none) (src dst e : TypeId) (x : Operand) (ho : o.op = .convert src dst x) (hs : P.underlying src = some (.slice e)) (he : P.underlying e = some (.int .u8)) (hd : P.underlying dst = some .string)
    (b : UInt8) (u : Int) (hu : u = b.toNat) (hx : a.eval x = .slice (some ⟨w0.heap.size, 0, none⟩) 1 1) (h : wpList P ops Q rest (a.put o.dst (.string (S [b]))) (w0.alloc (.cells #[.int .u8 u] e))) : wpList P ops Q (o :: rest) a (w0.alloc (.cells #[.int .u8 u] e)) := by
  subst hu
  refine conv_rd hgd src dst e x ho hs he hd 1 _ [b] hx ⟨_, _, rfl, rfl, Nat.le_refl _, by omega, .inr ⟨w0.heap.size, 0, rfl, by simp, fun j u hu => ?_⟩⟩ h
  have := World.news_of_block (w := w0.alloc (.cells #[.int .u8 (b.toNat : Int)] e)) (heap_alloc_new w0 _) j u (by simpa [bys] using hu)
  have ha : (⟨w0.heap.size, 0, none⟩ : Addr).add j = ⟨w0.heap.size, 0 + j, none⟩ := by unfold Addr.add; split <;> simp_all
  rwa [ha] at this
end

theorem wrap_u64 (n : Int) (h0 : 0 ≤ n) (h1 : n < 18446744073709551616) : IntKind.u64.wrap n = n := by
  simp [IntKind.wrap, IntKind.bits, IntKind.signed]
  omega

/-! ### A block that is known whole -/
theorem blk_new (w : World) (cs : Array Value) (t : TypeId) : (w.alloc (.cells cs t)).heap[w.heap.size]? = some (.cells cs t (0, 0)) := heap_alloc_new w _
theorem blk_below {w w1 : World} {b : Nat} {o : Obj} (h : w.heap[b]? = some o) {B : Nat} (hb : Below B w w1) (hB : b < B) : w1.heap[b]? = some o := (hb.block b hB).trans h
theorem blk_box {w w1 : World} {cs : Array Value} {t : TypeId} {B : Nat} (hb : Below B (w.alloc (.cells cs t)) w1) (hB : w.heap.size < B) : w1.heap[w.heap.size]? = some (.cells cs t (0, 0)) := blk_below (blk_new w cs t) hb hB
theorem blk_cell {w : World} {b : Nat} {cs : Array Value} {t : TypeId} {fr : Nat × Nat} (h : w.heap[b]? = some (.cells cs t fr)) (j : Nat) {u : Value} (hu : cs[j]? = some u) : w.cell? ⟨b, j, none⟩ = some u := by simp [World.cell?, h, hu]
theorem blk_free {w : World} {b : Nat} {cs : Array Value} {t : TypeId} (h : w.heap[b]? = some (.cells cs t (0, 0))) (j : Nat) : w.frozen? ⟨b, j, none⟩ = false := by simp [World.frozen?, h]
theorem blk_cells3 {w : World} {b : Nat} {u v x : Value} {t : TypeId} {fr : Nat × Nat} (h : w.heap[b]? = some (.cells #[u, v, x] t fr)) : w.cell? ⟨b, 0, none⟩ = some u ∧ w.cell? ⟨b, 1, none⟩ = some v ∧ w.cell? ⟨b, 2, none⟩ = some x := ⟨blk_cell h 0 rfl, blk_cell h 1 rfl, blk_cell h 2 rfl⟩
theorem blk_free3 {w : World} {b : Nat} {u v x : Value} {t : TypeId} (h : w.heap[b]? = some (.cells #[u, v, x] t (0, 0))) : w.frozen? ⟨b, 0, none⟩ = false ∧ w.frozen? ⟨b, 1, none⟩ = false ∧ w.frozen? ⟨b, 2, none⟩ = false := ⟨blk_free h 0, blk_free h 1, blk_free h 2⟩
theorem blk_drew {w : World} {b : Nat} {o : Obj} (h : w.heap[b]? = some o) : w.drew.heap[b]? = some o := h
theorem blk_alloc {w : World} {b : Nat} {o : Obj} (h : w.heap[b]? = some o) (x : Obj) : (w.alloc x).heap[b]? = some o := by
  exact (heap_alloc_old w x (Array.getElem?_eq_some_iff.1 h).1).trans h
theorem blk_grown {w w1 : World} {b : Nat} {o : Obj} {row : Option Nat} (h : w.heap[b]? = some o) (hg : w.grownBy w1 row) (hne : some b ≠ row) : w1.heap[b]? = some o :=
  (hg.block b (Array.getElem?_eq_some_iff.1 h).1 hne).trans h
theorem blk_lt {w : World} {b : Nat} {o : Obj} (h : w.heap[b]? = some o) : b < w.heap.size := (Array.getElem?_eq_some_iff.1 h).1

end Go.Proofs.Ytlajboohkkbgdaa
