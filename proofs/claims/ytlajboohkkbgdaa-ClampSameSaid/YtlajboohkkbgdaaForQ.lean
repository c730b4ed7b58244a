/- The row of a forest: each place once, behind its parent. Plain Lean. -/
import Derived.Test.YtlajboohkkbgdaaForP
namespace Go.Proofs.Ytlajboohkkbgdaa.Fo
set_option linter.unusedSimpArgs false
set_option linter.unusedVariables false

/-- A forest's parents. -/
def Forest (P : List Int) : Prop := (∀ p ∈ P, -1 ≤ p ∧ p < (P.length : Int)) ∧ Acyc P

theorem Forest.rng {P : List Int} (h : Forest P) : Rng P := fun p hp => (h.1 p hp).2

theorem pigeon : ∀ (n : Nat) (f : Nat → Nat), (∀ j, j ≤ n → f j < n) → ∃ i j, i < j ∧ j ≤ n ∧ f i = f j := by
  intro n
  induction n with
  | zero => intro f h; exact absurd (h 0 (Nat.le_refl _)) (by omega)
  | succ n ih =>
    intro f h
    by_cases hx : ∃ i, i ≤ n ∧ f i = f (n + 1)
    · obtain ⟨i, hi, e⟩ := hx
      exact ⟨i, n + 1, by omega, Nat.le_refl _, e⟩
    · have hne : ∀ i, i ≤ n → f i ≠ f (n + 1) := fun i hi e => hx ⟨i, hi, e⟩
      obtain ⟨i, j, hij, hj, e⟩ := ih (fun i => if f i = n then f (n + 1) else f i) (fun j hj => by
        have h1 := h j (by omega)
        have h2 := h (n + 1) (Nat.le_refl _)
        have h3 := hne j hj
        show (if f j = n then f (n + 1) else f j) < n
        split <;> omega)
      refine ⟨i, j, hij, by omega, ?_⟩
      have h1 := hne i (by omega)
      have h2 := hne j hj
      revert e
      show (if f i = n then f (n + 1) else f i) = (if f j = n then f (n + 1) else f j) → _
      split <;> split <;> omega

/-- x is k steps below the end. -/
def Lv (P : List Int) (x : Int) (k : Nat) : Prop := it P k x < 0 ∧ ∀ j, j < k → 0 ≤ it P j x

theorem it_succ' (P : List Int) (k : Nat) (x : Int) : it P (k + 1) x = it P k (nx P x) := by
  rw [it_add P k 1 x]; rfl

theorem Lv.uniq {P : List Int} {x : Int} {k m : Nat} (h : Lv P x k) (h' : Lv P x m) : k = m := by
  rcases Nat.lt_trichotomy k m with hl | hl | hl
  · have := h'.2 k hl; have := h.1; omega
  · exact hl
  · have := h.2 m hl; have := h'.1; omega

theorem Lv.neg {P : List Int} {x : Int} (h : x < 0) : Lv P x 0 := ⟨h, by intro j hj; omega⟩

theorem Lv.up {P : List Int} {x : Int} {k : Nat} (h : Lv P (nx P x) k) (h0 : 0 ≤ x) : Lv P x (k + 1) := by
  refine ⟨by rw [it_succ']; exact h.1, fun j hj => ?_⟩
  cases j with
  | zero => exact h0
  | succ j => rw [it_succ']; exact h.2 j (by omega)

theorem Lv.exists {P : List Int} (hA : Acyc P) (hR : Rng P) {x : Int} (hx : x < P.length) : ∃ k, k ≤ P.length ∧ Lv P x k := by
  have h1 : ∃ k, k ≤ P.length ∧ it P k x < 0 := by
    rcases Classical.em (∃ k, k ≤ P.length ∧ it P k x < 0) with h | h
    · exact h
    · exfalso
      have h2 : ∀ j, j ≤ P.length → 0 ≤ it P j x := fun j hj => by
        rcases Int.lt_or_le (it P j x) 0 with h3 | h3
        · exact absurd ⟨j, hj, h3⟩ h
        · exact h3
      obtain ⟨i, j, hij, hj, e⟩ := pigeon P.length (fun j => (it P j x).toNat) (fun j hj => by
        have := h2 j hj
        have := it_lt hR hx j
        show (it P j x).toNat < _
        omega)
      have e' : it P i x = it P j x := by
        have e : (it P i x).toNat = (it P j x).toNat := e
        have := h2 i (by omega)
        have := h2 j hj
        omega
      refine hA (it P i x) ⟨h2 i (by omega), j - i, by omega, ?_⟩
      rw [← it_add, show j - i + i = j by omega, ← e']
  obtain ⟨k, hk, hn⟩ := h1
  clear hx
  induction k using Nat.strongRecOn with
  | _ k ih =>
    by_cases h : ∃ j, j < k ∧ it P j x < 0
    · obtain ⟨j, hj, hjn⟩ := h
      exact ih j hj (by omega) hjn
    · refine ⟨k, hk, hn, fun j hj => ?_⟩
      rcases Int.lt_or_le (it P j x) 0 with h3 | h3
      · exact absurd ⟨j, hj, h3⟩ h
      · exact h3

/-- Those whose parent a place is, in order. -/
def kidsTo (P : List Int) (k : Nat) (x : Int) : List Int := ((List.range k).filter fun i => P.getD i (-1) == x).map Int.ofNat
def kids (P : List Int) (x : Int) : List Int := kidsTo P P.length x

theorem kidsTo_succ (P : List Int) (k : Nat) (x : Int) : kidsTo P (k + 1) x = if P.getD k (-1) = x then kidsTo P k x ++ [(k : Int)] else kidsTo P k x := by
  unfold kidsTo
  rw [List.range_succ, List.filter_append, List.map_append]
  by_cases h : P.getD k (-1) = x
  · rw [if_pos h]
    have hb : (P.getD k (-1) == x) = true := by simp only [h, beq_self_eq_true]
    simp only [List.filter_cons, hb, List.filter_nil, if_true, List.map_cons, List.map_nil]
    rfl
  · rw [if_neg h]
    have hb : (P.getD k (-1) == x) = false := by simpa using h
    simp only [List.filter_cons, hb, List.filter_nil, List.map_nil, List.append_nil]
    simp

theorem kidsTo_length (P : List Int) (k : Nat) (x : Int) : (kidsTo P k x).length ≤ k := by
  unfold kidsTo
  rw [List.length_map]
  exact Nat.le_trans (List.length_filter_le _ _) (by simp)

theorem mem_kids {P : List Int} {x i : Int} (h : i ∈ kids P x) : 0 ≤ i ∧ i < P.length ∧ nx P i = x := by
  unfold kids kidsTo at h
  obtain ⟨j, hj, rfl⟩ := List.mem_map.1 h
  have hj' := List.mem_filter.1 hj
  have h1 := List.mem_range.1 hj'.1
  have h2 : P.getD j (-1) = x := by simpa using hj'.2
  refine ⟨by simp, by simpa using h1, ?_⟩
  rw [show (Int.ofNat j) = (j : Int) from rfl, nx_nat, h2]

theorem mem_kidsTo {P : List Int} {k : Nat} {x i : Int} (h : i ∈ kidsTo P k x) : 0 ≤ i ∧ i < k := by
  unfold kidsTo at h
  obtain ⟨j, hj, rfl⟩ := List.mem_map.1 h
  have hj' := List.mem_filter.1 hj
  have h1 := List.mem_range.1 hj'.1
  exact ⟨by simp, by simpa using h1⟩

theorem count_kids (P : List Int) (x y : Int) (h0 : 0 ≤ y) (h1 : y < P.length) : (kids P x).count y = if nx P y = x then 1 else 0 := by
  obtain ⟨j, rfl⟩ := Int.eq_ofNat_of_zero_le h0
  have hj : j < P.length := by omega
  have gen : ∀ k, (kidsTo P k x).count (j : Int) = if j < k ∧ P.getD j (-1) = x then 1 else 0 := by
    intro k
    induction k with
    | zero => simp [kidsTo]
    | succ k ih =>
      rw [kidsTo_succ]
      by_cases hk : P.getD k (-1) = x
      · rw [if_pos hk, List.count_append, ih]
        by_cases e : k = j
        · subst e
          simp only [Nat.lt_irrefl, false_and, if_false, List.count_singleton, beq_self_eq_true, if_true]
          rw [if_pos ⟨Nat.lt_succ_self k, hk⟩]
        · have e' : ((k : Int) == (j : Int)) = false := by simp; omega
          rw [List.count_singleton, e']
          simp only [Bool.false_eq_true, if_false, Nat.add_zero]
          by_cases h2 : P.getD j (-1) = x
          · by_cases h3 : j < k
            · rw [if_pos ⟨h3, h2⟩, if_pos ⟨by omega, h2⟩]
            · rw [if_neg (fun h => h3 h.1), if_neg (fun h => by omega)]
          · rw [if_neg (fun h => h2 h.2), if_neg (fun h => h2 h.2)]
      · rw [if_neg hk, ih]
        by_cases h2 : P.getD j (-1) = x
        · have e : k ≠ j := by rintro rfl; exact hk h2
          by_cases h3 : j < k
          · rw [if_pos ⟨h3, h2⟩, if_pos ⟨by omega, h2⟩]
          · rw [if_neg (fun h => h3 h.1), if_neg (fun h => by omega)]
        · rw [if_neg (fun h => h2 h.2), if_neg (fun h => h2 h.2)]
  unfold kids
  rw [gen P.length, nx_nat]
  by_cases h2 : P.getD j (-1) = x
  · rw [if_pos ⟨hj, h2⟩, if_pos h2]
  · rw [if_neg (fun h => h2 h.2), if_neg h2]

structure Item where
  place : Int
  depth : Int
  parent : Int

/-- What stands below a place; 'f' is how deep it may go. -/
def sub (P : List Int) : Nat → Int → Int → List Item
  | 0, _, _ => []
  | f + 1, x, d => (kids P x).flatMap fun i => ⟨i, d, x⟩ :: sub P f i (d + 1)

/-- 'f' is enough. -/
def Deep (P : List Int) : Nat → Int → Prop
  | 0, _ => False
  | f + 1, x => ∀ i ∈ kids P x, Deep P f i

theorem deep_of {P : List Int} (hA : Acyc P) (hR : Rng P) : ∀ (f : Nat) (x : Int) (k : Nat), Lv P x k → k ≤ P.length → P.length + 1 ≤ f + k → Deep P f x
  | 0, x, k, _, h1, h2 => by omega
  | f + 1, x, k, hl, h1, h2 => fun i hi => by
    obtain ⟨h3, h4, h5⟩ := mem_kids hi
    have hl' : Lv P i (k + 1) := Lv.up (by rw [h5]; exact hl) h3
    obtain ⟨m, hm, hlm⟩ := Lv.exists hA hR h4
    have := hl'.uniq hlm
    exact deep_of hA hR f i (k + 1) hl' (by omega) (by omega)

theorem sum_if (c : Prop) [Decidable c] (y : Int) : ∀ (L : List Int), (L.map fun i => if c ∧ y = i then 1 else 0).sum = if c then L.count y else 0
  | [] => by simp
  | i :: L => by
    rw [List.map_cons, List.sum_cons, sum_if c y L, List.count_cons]
    by_cases hc : c
    · by_cases h : y = i
      · subst h; simp [hc]; omega
      · have : ¬ i = y := fun e => h e.symm
        simp [hc, h, this]
    · simp [hc]

theorem count_sub {P : List Int} (z : Int) (m : Nat) (hz0 : 0 ≤ z) (hz1 : z < P.length) (hR : Rng P) (hm : Lv P z m) :
    ∀ (f : Nat) (x d : Int) (k : Nat), Deep P f x → Lv P x k → ((sub P f x d).map (·.place)).count z = if k < m ∧ it P (m - k) z = x then 1 else 0
  | 0, x, d, k, h, _ => h.elim
  | f + 1, x, d, k, hd, hk => by
    rw [sub, List.map_flatMap, List.count_flatMap]
    have e1 : ∀ i ∈ kids P x, ((List.count z ∘ fun i => List.map (·.place) (⟨i, d, x⟩ :: sub P f i (d + 1))) i) = if (k + 1 ≤ m) ∧ it P (m - (k + 1)) z = i then 1 else 0 := by
      intro i hi
      obtain ⟨h3, h4, h5⟩ := mem_kids hi
      have hl : Lv P i (k + 1) := Lv.up (by rw [h5]; exact hk) h3
      simp only [Function.comp_def, List.map_cons, List.count_cons]
      rw [count_sub z m hz0 hz1 hR hm f i (d + 1) (k + 1) (hd i hi) hl]
      by_cases e : i = z
      · subst e
        have := hl.uniq hm
        subst this
        simp [it]
      · have hb : (i == z) = false := by simpa using e
        simp only [hb, Bool.false_eq_true, if_false, Nat.add_zero]
        by_cases h6 : k + 1 < m
        · by_cases h7 : it P (m - (k + 1)) z = i
          · rw [if_pos ⟨h6, h7⟩, if_pos ⟨by omega, h7⟩]
          · rw [if_neg (fun h => h7 h.2), if_neg (fun h => h7 h.2)]
        · rw [if_neg (fun h => h6 h.1)]
          by_cases h8 : k + 1 = m
          · subst h8
            rw [if_neg]
            rintro ⟨_, h9⟩
            simp [it] at h9
            exact e h9.symm
          · rw [if_neg (fun h => by omega)]
    rw [List.map_congr_left e1, sum_if]
    by_cases h1 : k + 1 ≤ m
    · rw [if_pos h1, count_kids P x _ (hm.2 _ (by omega)) (it_lt hR hz1 _)]
      have e2 : nx P (it P (m - (k + 1)) z) = it P (m - k) z := by
        have : m - k = (m - (k + 1)) + 1 := by omega
        rw [this]; rfl
      rw [e2]
      by_cases h2 : it P (m - k) z = x
      · rw [if_pos h2, if_pos ⟨by omega, h2⟩]
      · rw [if_neg h2, if_neg (fun h => h2 h.2)]
    · rw [if_neg h1, if_neg (fun h => by omega)]

theorem it_neg_one {P : List Int} (hP : ∀ p ∈ P, -1 ≤ p) {z : Int} {m : Nat} (h0 : 0 ≤ z) (h1 : z < P.length) (hR : Rng P) (hm : Lv P z m) : it P m z = -1 := by
  cases m with
  | zero => have := hm.1; simp [it] at this; omega
  | succ m =>
    have h2 := hm.2 m (by omega)
    have h3 := hm.1
    simp only [it] at h3 ⊢
    rw [nx_at h2] at h3 ⊢
    rcases getD_mem_or (P := P) (it P m z).toNat with h4 | h4
    · have := hP _ h4; omega
    · exact h4

/-- The row of a forest. -/
def row (P : List Int) : List Item := sub P (P.length + 1) (-1) 0

theorem mem_sub {P : List Int} : ∀ (f : Nat) (x d : Int) (y : Item), y ∈ sub P f x d → 0 ≤ y.place ∧ y.place < P.length ∧ nx P y.place = y.parent
  | 0, _, _, _, h => by simp [sub] at h
  | f + 1, x, d, y, h => by
    rw [sub] at h
    obtain ⟨i, hi, hy⟩ := List.mem_flatMap.1 h
    rcases List.mem_cons.1 hy with rfl | hy
    · exact mem_kids hi
    · exact mem_sub f i (d + 1) y hy

theorem row_perm {P : List Int} (h : Forest P) : ((row P).map (·.place)).Perm ((List.range P.length).map Int.ofNat) := by
  rw [List.perm_iff_count]
  intro z
  by_cases hz : 0 ≤ z ∧ z < P.length
  · obtain ⟨h0, h1⟩ := hz
    obtain ⟨m, hm, hl⟩ := Lv.exists h.2 h.rng h1
    have hd : Deep P (P.length + 1) (-1) := deep_of h.2 h.rng _ (-1) 0 (Lv.neg (by omega)) (Nat.zero_le _) (by omega)
    have hm0 : 0 < m := by
      rcases Nat.eq_zero_or_pos m with e | e
      · subst e; have := hl.1; simp [it] at this; omega
      · exact e
    unfold row
    rw [count_sub z m h0 h1 h.rng hl _ (-1) 0 0 hd (Lv.neg (by omega)), if_pos ⟨hm0, by
      rw [Nat.sub_zero]; exact it_neg_one (fun p hp => (h.1 p hp).1) h0 h1 h.rng hl⟩]
    obtain ⟨j, rfl⟩ := Int.eq_ofNat_of_zero_le h0
    have hj : j < P.length := by omega
    have gen : ∀ k, ((List.range k).map Int.ofNat).count (j : Int) = if j < k then 1 else 0 := by
      intro k
      induction k with
      | zero => simp
      | succ k ih =>
        rw [List.range_succ, List.map_append, List.count_append, ih]
        by_cases e : k = j
        · subst e; simp
        · have e' : (Int.ofNat k == (j : Int)) = false := by
            simp only [beq_eq_false_iff_ne, ne_eq]
            intro h; exact e (Int.ofNat.inj h)
          simp only [List.map_cons, List.map_nil, List.count_singleton, e', Bool.false_eq_true, if_false, Nat.add_zero]
          by_cases h3 : j < k
          · rw [if_pos h3, if_pos (by omega)]
          · rw [if_neg h3, if_neg (by omega)]
    rw [gen, if_pos hj]
  · have e1 : ((row P).map (·.place)).count z = 0 := by
      rw [List.count_eq_zero]
      intro hm
      obtain ⟨y, hy, rfl⟩ := List.mem_map.1 hm
      have := mem_sub _ _ _ y hy
      exact hz ⟨this.1, this.2.1⟩
    have e2 : ((List.range P.length).map Int.ofNat).count z = 0 := by
      rw [List.count_eq_zero]
      intro hm
      obtain ⟨j, hj, rfl⟩ := List.mem_map.1 hm
      have := List.mem_range.1 hj
      exact hz ⟨by simp, by simpa using this⟩
    rw [e1, e2]

theorem row_length {P : List Int} (h : Forest P) : (row P).length = P.length := by
  have := (row_perm h).length_eq
  simpa using this

theorem row_nodup {P : List Int} (h : Forest P) : ((row P).map (·.place)).Nodup := by
  rw [(row_perm h).nodup_iff]
  have : (List.range P.length).Nodup := List.nodup_range
  exact List.Pairwise.map _ (fun a b hab e => hab (Int.ofNat.inj e)) this

/-- Each stands behind its parent, one deeper, and all between deeper than that. -/
def Good (x d : Int) (L : List Item) : Prop :=
  ∀ A y B, L = A ++ y :: B → d ≤ y.depth ∧ ((y.parent = x ∧ y.depth = d) ∨ ∃ A1 q A2, A = A1 ++ q :: A2 ∧ q.place = y.parent ∧ q.depth + 1 = y.depth ∧ ∀ z ∈ A2, q.depth < z.depth)

theorem Good.nil (x d : Int) : Good x d [] := by
  intro A y B h
  cases A <;> simp at h

theorem Good.append {x d : Int} {L M : List Item} (hL : Good x d L) (hM : Good x d M) : Good x d (L ++ M) := by
  intro A y B h
  rcases List.append_eq_append_iff.1 h with ⟨C, h1, h2⟩ | ⟨C, h1, h2⟩
  · -- A = L ++ C, M = C ++ y :: B
    obtain ⟨h3, h4⟩ := hM C y B h2
    refine ⟨h3, h4.imp id ?_⟩
    rintro ⟨A1, q, A2, h5, h6⟩
    exact ⟨L ++ A1, q, A2, by rw [h1, h5, List.append_assoc], h6⟩
  · cases C with
    | nil =>
      simp at h1 h2
      obtain ⟨h3, h4⟩ := hM [] y B (by simpa using h2.symm)
      refine ⟨h3, h4.imp id ?_⟩
      rintro ⟨A1, q, A2, h5, _⟩
      cases A1 <;> simp at h5
    | cons c C =>
      simp only [List.cons_append, List.cons.injEq] at h2
      obtain ⟨rfl, h2⟩ := h2
      exact hL A y C h1

theorem Good.cons {i d x : Int} {L : List Item} (h : Good i (d + 1) L) : Good x d (⟨i, d, x⟩ :: L) := by
  intro A y B hA
  cases A with
  | nil =>
    simp only [List.nil_append, List.cons.injEq] at hA
    obtain ⟨rfl, _⟩ := hA
    exact ⟨Int.le_refl _, .inl ⟨rfl, rfl⟩⟩
  | cons c A =>
    simp only [List.cons_append, List.cons.injEq] at hA
    obtain ⟨rfl, hA⟩ := hA
    obtain ⟨h1, h2⟩ := h A y B hA
    refine ⟨by omega, .inr ?_⟩
    rcases h2 with ⟨h3, h4⟩ | ⟨A1, q, A2, h3, h4⟩
    · refine ⟨[], ⟨i, d, x⟩, A, rfl, h3.symm, h4.symm, fun z hz => ?_⟩
      obtain ⟨Z1, Z2, rfl⟩ := List.append_of_mem hz
      have := (h Z1 z (Z2 ++ y :: B) (by rw [hA]; simp)).1
      show d < z.depth
      omega
    · exact ⟨⟨i, d, x⟩ :: A1, q, A2, by rw [h3]; rfl, h4⟩

theorem good_sub (P : List Int) : ∀ (f : Nat) (x d : Int), Good x d (sub P f x d)
  | 0, x, d => Good.nil x d
  | f + 1, x, d => by
    rw [sub]
    generalize kids P x = L
    induction L with
    | nil => exact Good.nil x d
    | cons i L ih =>
      rw [List.flatMap_cons]
      exact (Good.cons (good_sub P f i (d + 1))).append ih

/-- What the law asks of the row at place i. -/
theorem row_at {P : List Int} (h : Forest P) (i : Nat) (y : Item) (hi : (row P)[i]? = some y) :
    0 ≤ y.place ∧ y.place < P.length ∧ y.parent = P.getD y.place.toNat (-1) ∧ 0 ≤ y.depth ∧ (y.parent < 0 → y.depth = 0) ∧
    (0 ≤ y.parent → ∃ (k : Nat) (q : Item), k < i ∧ (row P)[k]? = some q ∧ q.place = y.parent ∧ q.depth + 1 = y.depth ∧ ∀ (m : Nat) (z : Item), k < m → m < i → (row P)[m]? = some z → q.depth < z.depth) := by
  have hmem := List.mem_of_getElem? hi
  obtain ⟨h1, h2, h3⟩ := mem_sub _ _ _ y hmem
  obtain ⟨hlt, he⟩ := List.getElem?_eq_some_iff.1 hi
  have hsplit : row P = (row P).take i ++ y :: (row P).drop (i + 1) := by
    rw [← he, ← List.drop_eq_getElem_cons hlt, List.take_append_drop]
  obtain ⟨g1, g2⟩ := good_sub P _ (-1) 0 _ y _ hsplit
  refine ⟨h1, h2, by rw [← h3, nx_at h1], g1, ?_, ?_⟩
  · intro hn
    rcases g2 with ⟨_, g3⟩ | ⟨A1, q, A2, g3, g4, _⟩
    · exact g3
    · have hq : q ∈ row P := by
        have : q ∈ (row P).take i := by rw [g3]; simp
        exact List.mem_of_mem_take this
      have := (mem_sub _ _ _ q hq).1
      omega
  · intro hp
    rcases g2 with ⟨g3, _⟩ | ⟨A1, q, A2, g3, g4, g5, g6⟩
    · omega
    · have hlen : A1.length < i := by
        have := congrArg List.length g3
        simp [List.length_take] at this
        omega
      have hq : (row P)[A1.length]? = some q := by
        have : ((row P).take i)[A1.length]? = some q := by rw [g3]; simp
        rw [List.getElem?_take] at this
        rw [if_pos hlen] at this
        exact this
      refine ⟨A1.length, q, hlen, hq, g4, g5, fun m z hm1 hm2 hz => g6 z ?_⟩
      have : ((row P).take i)[m]? = some z := by
        rw [List.getElem?_take, if_pos hm2]; exact hz
      rw [g3, List.getElem?_append_right (by omega)] at this
      obtain ⟨e, he⟩ : ∃ e, m - A1.length = e + 1 := ⟨m - A1.length - 1, by omega⟩
      rw [he, List.getElem?_cons_succ] at this
      exact List.mem_of_getElem? this

end Go.Proofs.Ytlajboohkkbgdaa.Fo
