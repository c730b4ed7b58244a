/- Parents as a list of numbers: ways up, cycles, the states of a walk. Plain Lean. -/
namespace Go.Proofs.Ytlajboohkkbgdaa.Fo
set_option linter.unusedSimpArgs false
set_option linter.unusedVariables false

def nx (P : List Int) (x : Int) : Int := if x < 0 then x else P.getD x.toNat (-1)
def it (P : List Int) : Nat → Int → Int
  | 0, x => x
  | k + 1, x => nx P (it P k x)

theorem it_add (P : List Int) (a b : Nat) (x : Int) : it P (a + b) x = it P a (it P b x) := by
  induction a with
  | zero => simp [it]
  | succ a ih => rw [Nat.succ_add]; simp [it, ih]

theorem nx_neg {P : List Int} {x : Int} (h : x < 0) : nx P x = x := by simp [nx, h]
theorem it_neg {P : List Int} {x : Int} (h : x < 0) (k : Nat) : it P k x = x := by
  induction k with
  | zero => rfl
  | succ k ih => simp [it, ih, nx_neg h]
theorem nx_nat (P : List Int) (x : Nat) : nx P x = P.getD x (-1) := by
  have : ¬ ((x : Int) < 0) := by omega
  simp [nx, this]
theorem nx_at {P : List Int} {x : Int} (h : 0 ≤ x) : nx P x = P.getD x.toNat (-1) := by
  have : ¬ (x < 0) := by omega
  simp [nx, this]

/-- On a cycle. -/
def OnCyc (P : List Int) (x : Int) : Prop := 0 ≤ x ∧ ∃ k, 0 < k ∧ it P k x = x
def Acyc (P : List Int) : Prop := ∀ x, ¬ OnCyc P x
/-- No number is above the places. -/
def Rng (P : List Int) : Prop := ∀ p ∈ P, p < (P.length : Int)

theorem getD_mem_or {P : List Int} (j : Nat) : P.getD j (-1) ∈ P ∨ P.getD j (-1) = -1 := by
  rw [List.getD_eq_getElem?_getD]
  rcases h : P[j]? with _ | v
  · right; rfl
  · left; exact List.mem_of_getElem? h

theorem nx_lt {P : List Int} (h : Rng P) {x : Int} (hx : x < P.length) : nx P x < P.length := by
  unfold nx
  split
  · exact hx
  · rcases getD_mem_or (P := P) x.toNat with h1 | h1
    · exact h _ h1
    · rw [h1]; omega

theorem it_lt {P : List Int} (h : Rng P) {x : Int} (hx : x < P.length) (k : Nat) : it P k x < P.length := by
  induction k with
  | zero => exact hx
  | succ k ih => exact nx_lt h ih

/-- Behind a place of a cycle all stand on it. -/
theorem OnCyc.pos {P : List Int} {x : Int} (h : OnCyc P x) (k : Nat) : 0 ≤ it P k x := by
  obtain ⟨h0, m, hm, hx⟩ := h
  rcases Int.lt_or_le (it P k x) 0 with hn | hn
  · -- then all later are the same, also the multiples of m
    have e : ∀ q, it P (q * m) x = x := by
      intro q
      induction q with
      | zero => simp [it]
      | succ q ih => rw [Nat.succ_mul, it_add, hx, ih]
    have h1 := e k
    have h2 : k * m = (k * m - k) + k := by
      have : k ≤ k * m := Nat.le_mul_of_pos_right k hm
      omega
    rw [h2, it_add, it_neg hn] at h1
    omega
  · exact hn

theorem OnCyc.it {P : List Int} {x : Int} (h : OnCyc P x) (k : Nat) : OnCyc P (Fo.it P k x) := by
  refine ⟨h.pos k, ?_⟩
  obtain ⟨h0, m, hm, hx⟩ := h
  refine ⟨m, hm, ?_⟩
  rw [← it_add, Nat.add_comm, it_add, hx]

/-! ### states -/
def upd (f : Nat → Int) (a : Nat) (v : Int) : Nat → Int := fun x => if x = a then v else f x
def cellsOf (f : Nat → Int) (n : Nat) : List Int := (List.range n).map f
theorem cellsOf_length (f : Nat → Int) (n : Nat) : (cellsOf f n).length = n := by simp [cellsOf]
theorem cellsOf_set (f : Nat → Int) (n a : Nat) (v : Int) : (cellsOf f n).set a v = cellsOf (upd f a v) n := by
  apply List.ext_getElem?
  intro j
  simp only [cellsOf, List.getElem?_set, List.getElem?_map, List.length_map, List.length_range]
  by_cases h : a = j
  · subst h
    by_cases h2 : a < n
    · simp [h2, upd]
    · simp [h2]
  · have h' : ¬ j = a := fun e => h e.symm
    rcases hj : (List.range n)[j]? with _ | y
    · simp [h]
    · have : y = j := by
        have := List.getElem?_eq_some_iff.1 hj
        obtain ⟨h1, h2⟩ := this
        simpa using h2.symm
      subst this
      simp [h, h', upd]
theorem cellsOf_at (f : Nat → Int) (n j : Nat) (h : j < n) : (cellsOf f n)[j]? = some (f j) := by simp [cellsOf, h]

/-- how many states are c. -/
def cnt (f : Nat → Int) (n : Nat) (c : Int) : Nat := ((List.range n).filter fun x => f x == c).length
theorem cnt_succ (f : Nat → Int) (n : Nat) (c : Int) : cnt f (n + 1) c = cnt f n c + (if f n = c then 1 else 0) := by
  unfold cnt
  rw [List.range_succ, List.filter_append, List.length_append]
  congr 1
  by_cases h : f n = c <;> simp [h]
theorem cnt_upd_of_ge (f : Nat → Int) (n a : Nat) (v c : Int) (h : n ≤ a) : cnt (upd f a v) n c = cnt f n c := by
  induction n with
  | zero => rfl
  | succ n ih =>
    rw [cnt_succ, cnt_succ, ih (by omega)]
    have : upd f a v n = f n := by unfold upd; rw [if_neg (by omega)]
    rw [this]
theorem cnt_upd_lt (f : Nat → Int) (n a : Nat) (v c : Int) (ha : a < n) (h0 : f a = c) (hv : v ≠ c) : cnt (upd f a v) n c < cnt f n c := by
  induction n with
  | zero => omega
  | succ n ih =>
    rw [cnt_succ, cnt_succ]
    by_cases h : a = n
    · subst h
      rw [cnt_upd_of_ge _ _ _ _ _ (Nat.le_refl _)]
      simp [upd, h0, hv]
    · have e : upd f a v n = f n := by unfold upd; rw [if_neg (by omega)]
      rw [e]
      have := ih (by omega)
      omega

/-- What stands between two rounds of the outer walk. -/
structure St (P : List Int) (i : Nat) (st : Nat → Int) (E : List Int) : Prop where
  two : ∀ x, x < P.length → st x = 0 ∨ st x = 2
  had : ∀ x, x < i → st x = 2
  shut : ∀ x : Nat, x < P.length → st x = 2 → nx P x < 0 ∨ st (nx P x).toNat = 2
  cyc : ∀ e ∈ E, OnCyc P e ∧ e < P.length
  all : ∀ x : Nat, x < P.length → st x = 2 → OnCyc P x → ∃ e ∈ E, ∃ k, it P k x = e

/-- The walk up from i: m places are walked. -/
structure Wk (P : List Int) (i : Nat) (st0 : Nat → Int) (m : Nat) (st : Nat → Int) : Prop where
  fresh : ∀ j, j < m → 0 ≤ it P j i ∧ st0 (it P j i).toNat = 0
  one : ∀ j, j < m → st (it P j i).toNat = 1
  rest : ∀ x : Nat, (∀ j, j < m → it P j i ≠ x) → st x = st0 x
  apart : ∀ j j', j < j' → j' < m → it P j i ≠ it P j' i

theorem Wk.start (P : List Int) (i : Nat) (st0 : Nat → Int) : Wk P i st0 0 st0 := ⟨by intros; omega, by intros; omega, by intros; rfl, by intros; omega⟩

theorem Wk.step {P : List Int} {i : Nat} {st0 st : Nat → Int} {m : Nat} (h : Wk P i st0 m st) (h0 : 0 ≤ it P m i) (h1 : st (it P m i).toNat = 0) :
    Wk P i st0 (m + 1) (upd st (it P m i).toNat 1) := by
  have hne : ∀ j, j < m → it P j i ≠ it P m i := by
    intro j hj e
    have := h.one j hj
    rw [e, h1] at this
    omega
  have h2 : st0 (it P m i).toNat = 0 := by
    rw [← h.rest _ (fun j hj e => hne j hj (by rw [e]; omega)), h1]
  refine ⟨?_, ?_, ?_, ?_⟩
  · intro j hj
    by_cases e : j = m
    · subst e; exact ⟨h0, h2⟩
    · exact h.fresh j (by omega)
  · intro j hj
    unfold upd
    split
    · rfl
    · rename_i hn
      by_cases e : j = m
      · subst e; exact absurd rfl hn
      · exact h.one j (by omega)
  · intro x hx
    have h3 := hx m (by omega)
    unfold upd
    split
    · rename_i e
      subst e
      exact absurd (by omega) h3
    · exact h.rest x fun j hj => hx j (by omega)
  · intro j j' hj hj' e
    by_cases e' : j' = m
    · subst e'; exact hne j hj e
    · exact h.apart j j' hj (by omega) e

/-- Where the walk meets a walked place, that stands on a cycle. -/
theorem Wk.met {P : List Int} {i : Nat} {st0 st : Nat → Int} {m : Nat} (h : Wk P i st0 m st) (h0 : 0 ≤ it P m i) (hs : ∀ x, st0 x ≠ 1 ∨ P.length ≤ x) (hl : it P m i < P.length) (h1 : st (it P m i).toNat = 1) : ∃ j, j < m ∧ it P j i = it P m i := by
  rcases Classical.em (∃ j, j < m ∧ it P j i = it P m i) with h2 | h2
  · exact h2
  · exfalso
    have h3 := h.rest (it P m i).toNat (fun j hj e => h2 ⟨j, hj, by rw [e]; omega⟩)
    rw [h1] at h3
    rcases hs (it P m i).toNat with h4 | h4
    · exact h4 h3.symm
    · omega

theorem Wk.cyc {P : List Int} {i : Nat} {m j : Nat} (hj : j < m) (h : it P j i = it P m i) (h0 : 0 ≤ it P m i) : OnCyc P (it P m i) := by
  refine ⟨h0, m - j, by omega, ?_⟩
  have e : it P m i = it P (m - j) (it P j i) := by rw [← it_add]; congr 1; omega
  rw [h] at e
  exact e.symm

/-- The way once more: j of the m places are done. -/
structure Dn (P : List Int) (i : Nat) (st0 : Nat → Int) (m j : Nat) (st : Nat → Int) : Prop where
  fresh : ∀ k, k < m → 0 ≤ it P k i ∧ st0 (it P k i).toNat = 0
  done : ∀ k, k < j → st (it P k i).toNat = 2
  one : ∀ k, j ≤ k → k < m → st (it P k i).toNat = 1
  rest : ∀ x : Nat, (∀ k, k < m → it P k i ≠ x) → st x = st0 x
  apart : ∀ k k', k < k' → k' < m → it P k i ≠ it P k' i

theorem Wk.turn {P : List Int} {i : Nat} {st0 st : Nat → Int} {m : Nat} (h : Wk P i st0 m st) : Dn P i st0 m 0 st :=
  ⟨h.fresh, by intros; omega, fun k _ hk => h.one k hk, h.rest, h.apart⟩

theorem Dn.step {P : List Int} {i : Nat} {st0 st : Nat → Int} {m j : Nat} (h : Dn P i st0 m j st) (hj : j < m) : Dn P i st0 m (j + 1) (upd st (it P j i).toNat 2) := by
  have hp : ∀ k, k < m → 0 ≤ it P k i := fun k hk => (h.fresh k hk).1
  refine ⟨h.fresh, ?_, ?_, ?_, h.apart⟩
  · intro k hk
    unfold upd
    split
    · rfl
    · rename_i hn
      exact h.done k (by
        rcases Nat.lt_or_ge k j with h1 | h1
        · exact h1
        · exfalso; apply hn; have : k = j := by omega
          rw [this])
  · intro k hk hkm
    unfold upd
    split
    · rename_i e
      have := h.apart j k (by omega) hkm
      have h1 := hp k hkm
      have h2 := hp j hj
      omega
    · exact h.one k (by omega) hkm
  · intro x hx
    unfold upd
    split
    · rename_i e
      have := hx j hj
      have h2 := hp j hj
      omega
    · exact h.rest x hx

/-- How the walk has ended. -/
def Ends (P : List Int) (i : Nat) (st0 : Nat → Int) (m : Nat) : Prop :=
  it P m i < 0 ∨ (0 ≤ it P m i ∧ st0 (it P m i).toNat = 2 ∧ ∀ j, j < m → it P j i ≠ it P m i) ∨ (∃ j, j < m ∧ it P j i = it P m i)

/-- The loop's test as the place tells it. -/
theorem Dn.test {P : List Int} {i : Nat} {st0 st : Nat → Int} {m j : Nat} (h : Dn P i st0 m j st) (hj : j ≤ m) (he : Ends P i st0 m) : (0 ≤ it P j i ∧ st (it P j i).toNat = 1) ↔ j < m := by
  constructor
  · rintro ⟨h0, h1⟩
    rcases Nat.lt_or_ge j m with hl | hl
    · exact hl
    · exfalso
      obtain rfl : j = m := by omega
      rcases he with he | ⟨_, h2, h3⟩ | ⟨k, hk, e⟩
      · omega
      · rw [h.rest _ (fun k hk e => h3 k hk (by rw [e]; omega)), h2] at h1
        omega
      · have := h.done k hk
        rw [e, h1] at this
        omega
  · intro hl
    exact ⟨(h.fresh j hl).1, h.one j (Nat.le_refl _) hl⟩

theorem Dn.ends {P : List Int} {i : Nat} {st0 st : Nat → Int} {m : Nat} (h : Dn P i st0 m m st) (he : Ends P i st0 m) : it P m i < 0 ∨ st (it P m i).toNat = 2 := by
  rcases he with he | ⟨h0, h2, h3⟩ | ⟨j, hj, e⟩
  · exact .inl he
  · right
    rw [h.rest _ (fun k hk e => h3 k hk (by rw [e]; omega)), h2]
  · right
    rw [← e]
    exact h.done j hj

theorem Wk.val {P : List Int} {i : Nat} {st0 st : Nat → Int} {m : Nat} {E : List Int} (h : Wk P i st0 m st) (hS : St P i st0 E) (a : Nat) (ha : a < P.length) : st a = 2 ∨ st a = 1 ∨ st a = 0 := by
  rcases Classical.em (∃ j, j < m ∧ it P j i = (a : Int)) with ⟨j, hj, e⟩ | hn
  · have := h.one j hj
    rw [e] at this
    simp at this
    exact .inr (.inl this)
  · rw [h.rest a (fun j hj e => hn ⟨j, hj, e⟩)]
    rcases hS.two a ha with h1 | h1
    · exact .inr (.inr h1)
    · exact .inl h1

/-- Behind the round. -/
theorem Dn.close {P : List Int} {i : Nat} {st0 st : Nat → Int} {m : Nat} {E E' : List Int} (h : Dn P i st0 m m st) (hS : St P i st0 E) (hR : Rng P) (hi : i < P.length) (he : Ends P i st0 m)
    (hm0 : m = 0 → st0 i = 2)
    (hE : E' = E ∨ ∃ e, E' = E ++ [e]) (hEc : ∀ e ∈ E', OnCyc P e ∧ e < P.length)
    (hEm : (∃ j, j < m ∧ it P j i = it P m i) → it P m i ∈ E') : St P (i + 1) st E' := by
  have hsub : ∀ e ∈ E, e ∈ E' := by
    intro e h1
    rcases hE with rfl | ⟨f, rfl⟩
    · exact h1
    · simp [h1]
  have hlt : ∀ k, it P k i < P.length := fun k => it_lt hR (by omega) k
  have hval : ∀ x : Nat, (st x = 2 ∧ ∃ k, k < m ∧ it P k i = x) ∨ ((∀ k, k < m → it P k i ≠ x) ∧ st x = st0 x) := by
    intro x
    rcases Classical.em (∃ k, k < m ∧ it P k i = (x : Int)) with ⟨k, hk, e⟩ | hn
    · left
      have := h.done k hk
      rw [e] at this
      exact ⟨by simpa using this, k, hk, e⟩
    · right
      have h1 : ∀ k, k < m → it P k i ≠ (x : Int) := fun k hk e => hn ⟨k, hk, e⟩
      exact ⟨h1, h.rest x h1⟩
  -- the place behind the last one walked
  have hend : it P m i < 0 ∨ st (it P m i).toNat = 2 := by
    rcases he with he | ⟨h0, h2, h3⟩ | ⟨j, hj, e⟩
    · exact .inl he
    · right
      rw [h.rest _ (fun k hk e => h3 k hk (by rw [e]; omega)), h2]
    · right
      rw [← e]
      exact h.done j hj
  refine ⟨?_, ?_, ?_, hEc, ?_⟩
  · intro x hx
    rcases hval x with ⟨h1, _⟩ | ⟨_, h1⟩
    · exact .inr h1
    · rw [h1]; exact hS.two x hx
  · intro x hx
    rcases hval x with ⟨h1, _⟩ | ⟨h2, h1⟩
    · exact h1
    · rw [h1]
      rcases Nat.lt_or_ge x i with h3 | h3
      · exact hS.had x h3
      · obtain rfl : x = i := by omega
        rcases Nat.eq_zero_or_pos m with h4 | h4
        · exact hm0 h4
        · exact absurd rfl (h2 0 h4)
  · intro x hx hx2
    rcases hval x with ⟨_, k, hk, e⟩ | ⟨_, h1⟩
    · have e2 : nx P x = it P (k + 1) i := by rw [← e]; rfl
      rw [e2]
      rcases Nat.lt_or_ge (k + 1) m with h3 | h3
      · exact .inr (h.done _ h3)
      · obtain h4 : k + 1 = m := by omega
        rw [h4]; exact hend
    · rcases hS.shut x hx (by rw [← h1]; exact hx2) with h3 | h3
      · exact .inl h3
      · rcases Int.lt_or_le (nx P x) 0 with h5 | h5
        · exact .inl h5
        right
        rcases hval (nx P x).toNat with ⟨h4, _⟩ | ⟨_, h4⟩
        · exact h4
        · rw [h4, h3]
  · intro x hx hx2 hc
    rcases hval x with ⟨_, k, hk, e⟩ | ⟨_, h1⟩
    · -- a walked place: what stands at the way's end
      have e1 : it P (m - k) x = it P m i := by rw [← e, ← it_add]; congr 1; omega
      have hce : OnCyc P (it P m i) := by rw [← e1]; exact hc.it _
      rcases he with he | ⟨h0, h2, h3⟩ | hmet
      · have := hce.1; omega
      · obtain ⟨f, hf, q, hq⟩ := hS.all (it P m i).toNat (by have := hlt m; omega) h2 (by rw [Int.toNat_of_nonneg h0]; exact hce)
        refine ⟨f, hsub f hf, q + (m - k), ?_⟩
        rw [it_add, e1]
        rw [Int.toNat_of_nonneg h0] at hq
        exact hq
      · exact ⟨_, hEm hmet, m - k, e1⟩
    · obtain ⟨f, hf, q, hq⟩ := hS.all x hx (by rw [← h1]; exact hx2) hc
      exact ⟨f, hsub f hf, q, hq⟩

theorem St.start (P : List Int) : St P 0 (fun _ => 0) [] :=
  ⟨fun _ _ => .inl rfl, by intros; omega, by intro x _ h; simp at h, by simp, by intro x _ h; simp at h⟩

/-- What is told of parents: places of cycles, and of each cycle one. -/
def Told (P : List Int) (E : List Int) : Prop := (∀ e ∈ E, OnCyc P e ∧ e < P.length) ∧ ∀ x : Nat, x < P.length → OnCyc P x → ∃ e ∈ E, ∃ k, it P k x = e

theorem St.told {P : List Int} {st : Nat → Int} {E : List Int} (h : St P P.length st E) : Told P E := ⟨h.cyc, fun x hx hc => h.all x hx (h.had x hx) hc⟩

theorem Told.none {P : List Int} {E : List Int} (h : Told P E) (ha : Acyc P) : E = [] := by
  cases E with
  | nil => rfl
  | cons e E => exact absurd (h.1 e (by simp)).1 (ha e)

theorem Told.some {P : List Int} {E : List Int} (h : Told P E) (hR : Rng P) (hE : E = []) : Acyc P := by
  subst hE
  intro x hc
  rcases Int.lt_or_le x P.length with hx | hx
  · obtain ⟨n, rfl⟩ := Int.eq_ofNat_of_zero_le hc.1
    obtain ⟨e, he, _⟩ := h.2 n (by simpa using hx) hc
    simp at he
  · obtain ⟨h0, k, hk, e⟩ := hc
    have hp := OnCyc.pos (P := P) (x := x) ⟨h0, k, hk, e⟩ 1
    have : it P 1 x = -1 := by
      simp only [it]
      rw [nx_at h0, List.getD_eq_getElem?_getD, List.getElem?_eq_none (by omega)]
      rfl
    omega

end Go.Proofs.Ytlajboohkkbgdaa.Fo
