/- From slices that read as cells to the print's kinds, and back. No condition. -/
import Derived.Test.YtlajboohkkbgdaaBase
import Derived.Test.YtlajboohkkbgdaaWWords
namespace Go.Proofs.Ytlajboohkkbgdaa
open Go.RowKit Go.Proofs.YtlajboohkkbgdaaW.PrintWords
set_option linter.unusedSimpArgs false
set_option linter.unusedVariables false

theorem flat_length {α : Type} (enc : α → List Value) (sz : Nat) (hz : ∀ x, (enc x).length = sz) (xs : List α) : (xs.flatMap enc).length = xs.length * sz := by
  induction xs with
  | nil => simp
  | cons x xs ih => rw [List.flatMap_cons, List.length_append, ih, hz, List.length_cons, Nat.add_mul]; omega

theorem flat_at {α : Type} (enc : α → List Value) (sz : Nat) (hz : ∀ x, (enc x).length = sz) (xs : List α) (i : Nat) (x : α) (h : xs[i]? = some x) (j : Nat) (hj : j < sz) : (xs.flatMap enc)[i * sz + j]? = (enc x)[j]? := by
  induction xs generalizing i with
  | nil => simp at h
  | cons y xs ih =>
    rw [List.flatMap_cons]
    cases i with
    | zero =>
      simp at h
      subst h
      rw [List.getElem?_append_left (by rw [hz]; omega)]
      congr 1; omega
    | succ i =>
      have e : (i + 1) * sz + j = i * sz + j + sz := by rw [Nat.add_mul]; omega
      rw [List.getElem?_append_right (by rw [hz]; omega), hz, e, Nat.add_sub_cancel]
      exact ih i (by simpa using h)

theorem flat_chunk {α : Type} (enc : α → List Value) (sz : Nat) (hz : ∀ x, (enc x).length = sz) (xs : List α) (i : Nat) (x : α) (h : xs[i]? = some x) : ((xs.flatMap enc).drop (i * sz)).take sz = enc x := by
  have hl := flat_length enc sz hz xs
  have hi : i < xs.length := (List.getElem?_eq_some_iff.1 h).1
  have hm : (i + 1) * sz ≤ xs.length * sz := Nat.mul_le_mul_right _ hi
  rw [Nat.add_mul] at hm
  apply List.ext_getElem?
  intro j
  rcases Nat.lt_or_ge j sz with hj | hj
  · rw [List.getElem?_take, if_pos hj, List.getElem?_drop, flat_at enc sz hz xs i x h j hj]
  · rw [List.getElem?_eq_none (by rw [List.length_take]; omega), List.getElem?_eq_none (by rw [hz]; exact hj)]

/-- What the print reads so, reads as cells. -/
theorem rd_of_C {α : Type} {d : Kd α} (enc : α → List Value) (hz : ∀ x, (enc x).length = d.sz) (hsz : 0 < d.sz) {w : World} (hK : ∀ x cs, d.K w x cs → cs = enc x) {A : Option Addr} {c : Nat} {xs : List α} (h : Kd.C d w A xs.length xs) (hc : xs.length ≤ c) :
    Rd w d.sz xs.length A c (xs.flatMap enc) := by
  refine ⟨flat_length enc d.sz hz xs, hc, h.2.1, ?_⟩
  rcases Nat.eq_zero_or_pos xs.length with h0 | h0
  · exact .inl h0
  · right
    obtain ⟨ad, rfl, hcell⟩ := h.2.2 h0
    have hall : ∀ j u, (xs.flatMap enc)[j]? = some u → w.cell? (ad.add j) = some u := by
      intro j u hu
      have hjl : j < xs.length * d.sz := by
        rcases Nat.lt_or_ge j (xs.length * d.sz) with h1 | h1
        · exact h1
        · rw [List.getElem?_eq_none (by rw [flat_length enc d.sz hz]; exact h1)] at hu; cases hu
      have hi : j / d.sz < xs.length := (Nat.div_lt_iff_lt_mul hsz).2 hjl
      have hj : j / d.sz * d.sz + j % d.sz = j := by rw [Nat.mul_comm]; exact Nat.div_add_mod j d.sz
      obtain ⟨cs, _, hk, hcs⟩ := hcell (j / d.sz) _ (List.getElem?_eq_getElem hi)
      have hu' := flat_at enc d.sz hz xs (j / d.sz) _ (List.getElem?_eq_getElem hi) (j % d.sz) (Nat.mod_lt _ hsz)
      rw [hj, hu] at hu'
      have := hcs (j % d.sz) u (by rw [hK _ _ hk]; exact hu'.symm)
      rwa [hj] at this
    have h00 : ∃ u, (xs.flatMap enc)[0]? = some u := by
      have : 0 < (xs.flatMap enc).length := by rw [flat_length enc d.sz hz]; exact Nat.mul_pos h0 hsz
      exact ⟨_, List.getElem?_eq_getElem this⟩
    obtain ⟨u0, hu0⟩ := h00
    have hc0 := hall 0 u0 hu0
    rw [show ad.add 0 = ad by simp [Addr.add]] at hc0
    have hlt := World.block_lt_of_cell? w ad hc0
    have hspot : ad.spot = none := by
      cases hs : ad.spot with
      | none => rfl
      | some k =>
        exfalso
        unfold World.cell? at hc0
        split at hc0
        · simp [hs] at hc0
        · cases hc0
    refine ⟨ad.block, ad.off, ?_, hlt, fun j u hu => ?_⟩
    · cases ad; simp only [Addr.mk.injEq, Option.some.injEq, true_and] at *; exact hspot
    · have := hall j u hu
      have e : ad.add j = ⟨ad.block, ad.off + j, none⟩ := by
        unfold Addr.add
        split
        · rename_i hj0
          subst hj0
          cases ad; simp_all
        · rfl
      rwa [e] at this

/-- What reads as cells, the print reads so. -/
theorem C_of_rd {α : Type} {d : Kd α} (enc : α → List Value) (hz : ∀ x, (enc x).length = d.sz) {w : World} (hK : ∀ x, d.K w x (enc x)) {A : Option Addr} {c : Nat} {xs : List α} (h : Rd w d.sz xs.length A c (xs.flatMap enc)) : Kd.C d w A xs.length xs := by
  obtain ⟨h1, h2, h3, h4⟩ := h
  refine ⟨rfl, h3, fun hn => ?_⟩
  rcases h4 with h4 | ⟨b, o, rfl, hlt, hc⟩
  · omega
  · refine ⟨_, rfl, fun j p hj => ⟨enc p, hz p, hK p, fun i u hu => ?_⟩⟩
    have hi : i < d.sz := by
      have := (List.getElem?_eq_some_iff.1 hu).1
      rw [hz] at this
      exact this
    have ha : (⟨b, o, none⟩ : Addr).add (j * d.sz + i) = ⟨b, o + (j * d.sz + i), none⟩ := by
      unfold Addr.add
      split
      · rename_i h0; rw [h0]; rfl
      · rfl
    rw [ha]
    exact hc _ u ((flat_at enc d.sz hz xs j p hj i hi).trans hu)

/-- What is owned as cells, the print owns so. -/
theorem R_of_owns {α : Type} {d : Kd α} (enc : α → List Value) (hz : ∀ x, (enc x).length = d.sz) {e : Nat} {w : World} {base : Nat} {v : Value} {xs : List α} (hM : ∀ x ok, d.M w base ok x (enc x)) (h : w.ownsRow base e d.sz v xs.length (xs.flatMap enc)) :
    Kd.R d e w base (fun _ => True) v xs :=
  ⟨fun _ _ => trivial, xs.flatMap enc, h, flat_length enc d.sz hz xs, fun j p hj => by rw [flat_chunk enc d.sz hz xs j p hj]; exact hM _ _⟩

/-- What the print owns so, is owned as cells. -/
theorem owns_of_R {α : Type} {d : Kd α} (enc : α → List Value) (hz : ∀ x, (enc x).length = d.sz) {e : Nat} {w : World} {base : Nat} {ok : Nat → Prop} {v : Value} {xs : List α} (hM : ∀ ok x cs, d.M w base ok x cs → cs = enc x) (h : Kd.R d e w base ok v xs) :
    w.ownsRow base e d.sz v xs.length (xs.flatMap enc) := by
  obtain ⟨_, inner, ho, hl, hr⟩ := h
  have : inner = xs.flatMap enc := by
    apply List.ext_getElem?
    intro j
    rcases Nat.lt_or_ge j (xs.length * d.sz) with hj | hj
    · rcases Nat.eq_zero_or_pos d.sz with h0 | h0
      · rw [h0] at hj; simp at hj
      have hi : j / d.sz < xs.length := (Nat.div_lt_iff_lt_mul h0).2 hj
      have hjj : j / d.sz * d.sz + j % d.sz = j := by rw [Nat.mul_comm]; exact Nat.div_add_mod j d.sz
      have h1 := hM _ _ _ (hr (j / d.sz) _ (List.getElem?_eq_getElem hi))
      have h2 := flat_at enc d.sz hz xs (j / d.sz) _ (List.getElem?_eq_getElem hi) (j % d.sz) (Nat.mod_lt _ h0)
      rw [hjj] at h2
      rw [h2, ← h1, List.getElem?_take, if_pos (Nat.mod_lt _ h0), List.getElem?_drop, hjj]
    · rw [List.getElem?_eq_none (by omega), List.getElem?_eq_none (by rw [flat_length enc d.sz hz]; omega)]
  rwa [this] at ho

theorem flat_map {α β : Type} (f : α → β) (enc : β → List Value) (l : List α) : l.flatMap (fun x => enc (f x)) = (l.map f).flatMap enc := by
  induction l with
  | nil => rfl
  | cons x l ih => rw [List.flatMap_cons, List.map_cons, List.flatMap_cons, ih]
theorem flat_one {α : Type} (f : α → Value) (l : List α) : l.flatMap (fun x => [f x]) = l.map f := by
  induction l with
  | nil => rfl
  | cons x l ih => rw [List.flatMap_cons, List.map_cons, ih]; rfl

end Go.Proofs.Ytlajboohkkbgdaa
