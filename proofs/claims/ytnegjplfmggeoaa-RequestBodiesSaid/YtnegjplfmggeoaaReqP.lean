/- The plain words of layer 23: which requests may be. No condition, no program. -/
import Derived.Test.YtnegjplfmggeoaaPackP
namespace Go.Proofs.Ytnegjplfmggeoaa

/-- Whether a request may be: its kind, how many bytes its body has, its trace. -/
def mayReq (kd : Int) (n t : Nat) : Bool :=
  decide ((kd = 1 ∧ n ≤ 4096 ∧ t = 0) ∨ ((kd = 2 ∨ kd = 3 ∨ kd = 5) ∧ t = 0 ∧ n = 0) ∨ (kd = 4 ∧ n = 0))

/-- What bytes are read as: kind, body, trace; the error's number. -/
def getReq : List UInt8 → (Nat × List UInt8 × Nat) × Nat
  | [] => ((0, [], 0), 2)
  | b :: r =>
    if b.toNat = 1 then (if 4096 < r.length then ((0, [], 0), 10) else ((1, r, 0), 0))
    else if b.toNat = 4 then (if r.length < 8 then ((0, [], 0), 2) else if 8 < r.length then ((0, [], 0), 3) else ((4, [], leNat r), 0))
    else if b.toNat = 2 ∨ b.toNat = 3 ∨ b.toNat = 5 then (if 0 < r.length then ((0, [], 0), 3) else ((b.toNat, [], 0), 0))
    else ((0, [], 0), 4)

/-- A request's bytes. -/
def reqBytes (kd : Int) (l : List UInt8) (t : Nat) : List UInt8 := UInt8.ofNat kd.toNat :: l ++ (if kd = 4 then leBytes t 8 else [])

theorem getReq_reqBytes (kd : Int) (l : List UInt8) (t : Nat) (h : mayReq kd l.length t = true) (ht : t < 18446744073709551616) : getReq (reqBytes kd l t) = ((kd.toNat, l, t), 0) := by
  simp only [mayReq, decide_eq_true_eq] at h
  have hk : 0 ≤ kd ∧ kd ≤ 5 := by omega
  have hb : (UInt8.ofNat kd.toNat).toNat = kd.toNat := by rw [UInt8.toNat_ofNat']; omega
  by_cases h4 : kd = 4
  · subst h4
    have hl : l = [] := List.eq_nil_of_length_eq_zero (by omega)
    subst hl
    have h8 : (leBytes t 8).length = 8 := leBytes_length 8 t
    have hle : leNat (leBytes t 8) = t := by rw [leNat_leBytes]; exact Nat.mod_eq_of_lt (by simpa using ht)
    simp only [reqBytes, if_true, List.cons_append, List.nil_append, getReq, hb, h8, hle]
    rfl
  · simp only [reqBytes, if_neg h4, List.append_nil, getReq, hb]
    have h4' : ¬ kd.toNat = 4 := by omega
    by_cases h1 : kd = 1
    · have ht0 : t = 0 := by omega
      have hl : ¬ 4096 < l.length := by omega
      subst h1 ht0
      simp [hl]
    · have hl : l = [] := List.eq_nil_of_length_eq_zero (by omega)
      have ht0 : t = 0 := by omega
      subst hl ht0
      rw [if_neg (by omega), if_neg h4', if_pos (by omega), if_neg (by simp)]

theorem getReq_ok (l : List UInt8) (h : (getReq l).2 = 0) : mayReq ((getReq l).1.1 : Int) (getReq l).1.2.1.length (getReq l).1.2.2 = true ∧ reqBytes ((getReq l).1.1 : Int) (getReq l).1.2.1 (getReq l).1.2.2 = l := by
  cases l with
  | nil => simp [getReq] at h
  | cons b r =>
    have hb : UInt8.ofNat b.toNat = b := by simp
    by_cases h1 : b.toNat = 1
    · by_cases h2 : 4096 < r.length
      · simp only [getReq, if_pos h1, if_pos h2] at h; omega
      · have e : getReq (b :: r) = ((1, r, 0), 0) := by simp only [getReq, if_pos h1, if_neg h2]
        rw [e]
        refine ⟨by simp [mayReq]; omega, ?_⟩
        rw [h1] at hb
        show UInt8.ofNat 1 :: r ++ [] = _
        rw [hb]; simp
    · by_cases h4 : b.toNat = 4
      · by_cases h2 : r.length < 8
        · simp only [getReq, if_neg h1, if_pos h4, if_pos h2] at h; omega
        · by_cases h3 : 8 < r.length
          · simp only [getReq, if_neg h1, if_pos h4, if_neg h2, if_pos h3] at h; omega
          · have e : getReq (b :: r) = ((4, [], leNat r), 0) := by simp only [getReq, if_neg h1, if_pos h4, if_neg h2, if_neg h3]
            rw [e]
            refine ⟨by simp [mayReq], ?_⟩
            rw [h4] at hb
            have h8 : r.length = 8 := by omega
            show UInt8.ofNat 4 :: [] ++ leBytes (leNat r) 8 = _
            rw [hb, ← h8, leBytes_leNat]; simp
      · by_cases h5 : b.toNat = 2 ∨ b.toNat = 3 ∨ b.toNat = 5
        · by_cases h2 : 0 < r.length
          · simp only [getReq, if_neg h1, if_neg h4, if_pos h5, if_pos h2] at h; omega
          · have e : getReq (b :: r) = ((b.toNat, [], 0), 0) := by simp only [getReq, if_neg h1, if_neg h4, if_pos h5, if_neg h2]
            have hr : r = [] := List.eq_nil_of_length_eq_zero (by omega)
            rw [e]
            refine ⟨by simp [mayReq]; omega, ?_⟩
            have hne : ¬ ((b.toNat : Int) = 4) := by omega
            simp only [reqBytes, if_neg hne, Int.toNat_natCast, hb, hr]
            simp
        · simp only [getReq, if_neg h1, if_neg h4, if_neg h5] at h; omega

theorem getReq_small (l : List UInt8) (hl : l.length ≤ 5000) : (getReq l).1.2.2 < 18446744073709551616 ∧ (getReq l).1.2.1.length ≤ 5000 := by
  cases l with
  | nil => simp [getReq]
  | cons b r =>
    have hr : r.length ≤ 5000 := by simp at hl; omega
    simp only [getReq]
    split
    · split <;> simp <;> omega
    · split
      · split
        · simp
        · split
          · simp
          · refine ⟨?_, by simp⟩
            have := leNat_lt r 8 (by omega)
            simpa using this
      · split
        · split <;> simp
        · simp

end Go.Proofs.Ytnegjplfmggeoaa
