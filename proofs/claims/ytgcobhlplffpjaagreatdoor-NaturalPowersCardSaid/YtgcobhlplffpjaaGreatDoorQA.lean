/- The length of a number's text. -/
import Derived.Test.YtgcobhlplffpjaaGreatDoorQ0
namespace Go.Proofs.YtgcobhlplffpjaaGreatDoor
open Go.RowKit Go.Deep
theorem nd_step (u : Nat) : Lib.nDigits u ≤ Lib.nDigits (u / 10) + 1 := by
  by_cases h : u < 10
  · rw [Lib.nDigits_small h]; omega
  · rw [Lib.nDigits_big h]; omega
theorem nd_ten (k : Nat) : ∀ u v, u / 10 ^ k = v → Lib.nDigits u ≤ Lib.nDigits v + k := by
  induction k with
  | zero => intro u v h; simp at h; subst h; omega
  | succ k ih =>
    intro u v h
    have h1 := nd_step u
    have h2 := ih (u / 10) v (by rw [← h, Nat.div_div_eq_div_mul, Nat.pow_succ, Nat.mul_comm])
    omega
theorem nd_pw (k : Nat) : ∀ v, v < pw k → Lib.nDigits v ≤ 10 * k + 1 := by
  induction k with
  | zero => intro v h; rw [pw_zero] at h; rw [Lib.nDigits_small (by omega)]; omega
  | succ k ih =>
    intro v h
    rw [pw_succ] at h
    have h1 := nd_ten 10 v (v / 10 ^ 10) rfl
    have h2 := ih (v / 10 ^ 10) (by
      have : (10 : Nat) ^ 10 = 10000000000 := rfl
      rw [this]
      omega)
    omega
theorem dec_fit {v : Nat} (h : Fit v) : (Lib.decDigits v).length ≤ 6401 := by
  rw [Lib.decDigits_length]
  exact nd_pw 640 v (limbs_len.1 h)
end Go.Proofs.YtgcobhlplffpjaaGreatDoor
