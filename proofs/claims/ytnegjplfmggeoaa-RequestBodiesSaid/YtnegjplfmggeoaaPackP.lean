/- The plain words of layer 2: a number's bytes, least first, and the number of bytes. No condition, no program. -/
namespace Go.Proofs.Ytnegjplfmggeoaa

/-- The number of bytes, the least first. -/
def leNat : List UInt8 → Nat
  | [] => 0
  | b :: r => b.toNat + 256 * leNat r

/-- A number's first k bytes, the least first. -/
def leBytes (n : Nat) : Nat → List UInt8
  | 0 => []
  | k + 1 => UInt8.ofNat n :: leBytes (n / 256) k

theorem leBytes_length (k : Nat) : ∀ n, (leBytes n k).length = k := by
  induction k with
  | zero => intro n; rfl
  | succ k ih => intro n; simp [leBytes, ih]

theorem leNat_lt (l : List UInt8) : ∀ k, l.length ≤ k → leNat l < 256 ^ k := by
  induction l with
  | nil => intro k _; simp only [leNat]; exact Nat.pow_pos (by omega)
  | cons b r ih =>
    intro k hk
    cases k with
    | zero => simp at hk
    | succ k =>
      have h1 := ih k (by simpa using hk)
      have h2 := b.toNat_lt
      rw [leNat, Nat.pow_succ]
      omega

theorem leNat_leBytes (k : Nat) : ∀ n, leNat (leBytes n k) = n % 256 ^ k := by
  induction k with
  | zero => intro n; simp [leBytes, leNat, Nat.mod_one]
  | succ k ih =>
    intro n
    rw [leBytes, leNat, ih, Nat.pow_succ, Nat.mul_comm (256 ^ k) 256, Nat.mod_mul]
    simp

theorem leBytes_leNat (l : List UInt8) : leBytes (leNat l) l.length = l := by
  induction l with
  | nil => rfl
  | cons b r ih =>
    have h2 := b.toNat_lt
    simp only [List.length_cons, leBytes, leNat]
    congr 1
    · apply UInt8.toNat.inj
      rw [UInt8.toNat_ofNat']
      omega
    · rw [show (b.toNat + 256 * leNat r) / 256 = leNat r by omega, ih]

theorem leBytes_snoc (k : Nat) : ∀ n, leBytes n (k + 1) = leBytes n k ++ [UInt8.ofNat (n / 256 ^ k)] := by
  induction k with
  | zero => intro n; simp [leBytes]
  | succ k ih =>
    intro n
    rw [leBytes, ih (n / 256), leBytes]
    simp only [List.cons_append, Nat.pow_succ, Nat.div_div_eq_div_mul]
    rw [Nat.mul_comm 256]

theorem leNat_snoc (l : List UInt8) (b : UInt8) : leNat (l ++ [b]) = leNat l + 256 ^ l.length * b.toNat := by
  induction l with
  | nil => simp [leNat]
  | cons c r ih =>
    simp only [List.cons_append, leNat, ih, List.length_cons, Nat.pow_succ]
    rw [Nat.mul_add, Nat.mul_comm (256 ^ r.length) 256, Nat.mul_assoc]
    omega

theorem leNat_take_succ (l : List UInt8) (j : Nat) (h : j < l.length) : leNat (l.take (j + 1)) = leNat (l.take j) + 256 ^ j * (l[j]).toNat := by
  rw [List.take_succ_eq_append_getElem h, leNat_snoc]
  simp [Nat.min_eq_left (Nat.le_of_lt h)]

end Go.Proofs.Ytnegjplfmggeoaa
