/- Plain: lengths and order of numbers, for the laws. -/
import Derived.Test.YtgcobhlplffpjaaGreatDoorN9
namespace Go.Proofs.YtgcobhlplffpjaaGreatDoor
open Go.RowKit Go.Deep

theorem len_zero (v : Nat) : (((limbs v).length : Int) == 0) = decide (v = 0) := by
  rw [Bool.eq_iff_iff, beq_iff_eq, decide_eq_true_eq]
  constructor
  · intro h; exact limbs_nil (List.eq_nil_of_length_eq_zero (by omega))
  · rintro rfl; rfl
theorem len_pos {v : Nat} (h : v ≠ 0) : 0 < (limbs v).length := by
  rcases Nat.eq_zero_or_pos (limbs v).length with h0 | h0
  · exact absurd (limbs_nil (List.eq_nil_of_length_eq_zero h0)) h
  · exact h0
theorem cmpI_add (x y z : Nat) : cmpI (x + z) (y + z) = cmpI x y := by
  unfold cmpI
  rcases Nat.lt_trichotomy x y with h | h | h
  · rw [if_pos h, if_pos (by omega)]
  · rw [if_neg (by omega), if_neg (by omega), if_neg (by omega), if_neg (by omega)]
  · rw [if_neg (by omega), if_pos (by omega), if_neg (by omega), if_pos (by omega)]
theorem cmpI_mul (x y z : Nat) (hz : z ≠ 0) : cmpI (x * z) (y * z) = cmpI x y := by
  unfold cmpI
  rcases Nat.lt_trichotomy x y with h | h | h
  · rw [if_pos h, if_pos (Nat.mul_lt_mul_of_pos_right h (by omega))]
  · subst h; rw [if_neg (Nat.lt_irrefl _), if_neg (Nat.lt_irrefl _), if_neg (Nat.lt_irrefl _), if_neg (Nat.lt_irrefl _)]
  · have h2 := Nat.mul_lt_mul_of_pos_right h (show 0 < z by omega)
    rw [if_neg (by omega), if_pos h2, if_neg (by omega), if_pos h]

end Go.Proofs.YtgcobhlplffpjaaGreatDoor
