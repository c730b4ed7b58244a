/- The plain words of layer 23: which requests may be. No condition, no program. -/
import Derived.Test.YtnegjplfmggeoaaPackP
namespace Go.Proofs.Ytnegjplfmggeoaa

/-- Whether a request may be: its kind, how many bytes its body has, its trace. -/
def mayReq (kd : Int) (n t : Nat) : Bool :=
  decide ((kd = 1 ∧ n ≤ 4096 ∧ t = 0) ∨ ((kd = 2 ∨ kd = 3 ∨ kd = 5) ∧ t = 0 ∧ n = 0) ∨ (kd = 4 ∧ n = 0))

/-- What bytes are read as: kind, body, trace; the error's number. -/
def getReq : List UInt8 → (Nat × List UInt8 × Nat) × Nat
  | [] => ((0, [], 0), 2)
  | b :: r =>
    if b.toNat = 1 then (if 4096 < r.length then ((0, [], 0), 10) else ((1, r, 0), 0))
    else if b.toNat = 4 then (if r.length < 8 then ((0, [], 0), 2) else if 8 < r.length then ((0, [], 0), 3) else ((4, [], leNat r), 0))
    else if b.toNat = 2 ∨ b.toNat = 3 ∨ b.toNat = 5 then (if 0 < r.length then ((0, [], 0), 3) else ((b.toNat, [], 0), 0))
    else ((0, [], 0), 4)

/-- A request's bytes. -/
def reqBytes (kd : Int) (l : List UInt8) (t : Nat) : List UInt8 := UInt8.ofNat kd.toNat :: l ++ (if kd = 4 then leBytes t 8 else [])

theorem getReq_reqBytes (kd : Int) (l : List UInt8) (t : Nat) (h : mayReq kd l.length t = true) (ht : t < 18446744073709551616) : getReq (reqBytes kd l t) = ((kd.toNat, l, t), 0) := by
  simp only [mayReq, decide_eq_true_eq] at h
  have hk : 0 ≤ kd ∧ kd ≤ 5 := by omega
  have hb : (UInt8.ofNat kd.toNat).toNat = kd.toNat := by rw [UInt8.toNat_ofNat']; omega
  by_cases h4 : kd = 4
  · subst h4
    have hl : l = [] := List.eq_nil_of_length_eq_zero (by omega)
    subst hl
    have h8 : (leBytes t 8).length = 8 := leBytes_length 8 t
    have hle : leNat (leBytes t 8) = t := by rw [leNat_leBytes]; exact Nat.mod_eq_of_lt (by simpa using ht)
    simp only [reqBytes, if_true, List.cons_append, List.nil_append, getReq, hb, h8, hle]
    rfl
  · simp only [reqBytes, if_neg h4, List.append_nil, getReq, hb]
    have h4' : ¬ kd.toNat = 4 := by omega
    by_cases h1 : kd = 1
    · have ht0 : t = 0 := by omega
      have hl : ¬ 4096 < l.length := by omega
      subst h1 ht0
      simp [hl]
    · have hl : l = [] := List.eq_nil_of_length_eq_zero (by omega)
      have ht0 : t = 0 := by omega
      subst hl ht0
      rw [if_neg (by omega), if_neg h4', if_pos (by omega), if_neg (by simp)]

end Go.Proofs.Ytnegjplfmggeoaa
