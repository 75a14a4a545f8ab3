/- Plain law: the guess of a limb of the quotient. -/
import Derived.Test.YtgcobhlplffpjaaGreatDoorNk
namespace Go.Proofs.YtgcobhlplffpjaaGreatDoor
open Go.RowKit Go.Deep

theorem guess_law (part v : List Nat) (n : Nat) (hn : 2 ≤ n) (hp : part.length = n + 1) (hv : v.length = n) (lp : Lim part) (lv : Lim v) (htop : 2147483648 ≤ v.getD (n - 1) 0) (hU : val part < 4294967296 * val v) :
    GuessLaw (part.getD n 0 * 4294967296 + part.getD (n - 1) 0) (v.getD (n - 1) 0) (v.getD (n - 2) 0) (part.getD (n - 2) 0) (val part / val v) := by
  obtain ⟨k, rfl⟩ : ∃ k, n = k + 2 := ⟨n - 2, by omega⟩
  simp only [show k + 2 - 1 = k + 1 by omega, show k + 2 - 2 = k by omega] at *
  have e1 : val v = val (v.take k) + pw k * v.getD k 0 + pw (k + 1) * v.getD (k + 1) 0 := by
    rw [← val_take_next, ← val_take_next, List.take_of_length_le (by omega)]
  have e2 : val part = val (part.take k) + pw k * part.getD k 0 + pw (k + 1) * part.getD (k + 1) 0 + pw (k + 2) * part.getD (k + 2) 0 := by
    rw [← val_take_next, ← val_take_next, ← val_take_next, List.take_of_length_le (by omega)]
  have b1 := val_lt (lv.take k)
  have b2 := val_lt (lp.take k)
  rw [List.length_take, Nat.min_eq_left (by omega)] at b1 b2
  have c0 := lp.getD k
  have c1 := lp.getD (k + 1)
  have c2 := lv.getD k
  have c3 := lv.getD (k + 1)
  rw [pw_succ] at e1
  rw [pw_succ (k + 1), pw_succ] at e2
  have hP := pw_pos k
  generalize val (v.take k) = A at *
  generalize val (part.take k) = B at *
  generalize pw k = P at *
  generalize v.getD k 0 = v2 at *
  generalize v.getD (k + 1) 0 = top at *
  generalize part.getD k 0 = u2 at *
  generalize part.getD (k + 1) 0 = a1 at *
  generalize part.getD (k + 2) 0 = a0 at *
  generalize val v = V at *
  generalize val part = U at *
  obtain ⟨x, hx⟩ : ∃ x, a0 * 4294967296 + a1 = x := ⟨_, rfl⟩
  have f1 : x * (4294967296 * P) = 4294967296 * P * a1 + 4294967296 * (4294967296 * P) * a0 := by
    rw [← hx, Nat.mul_comm, Nat.mul_add, Nat.mul_comm a0, ← Nat.mul_assoc, Nat.mul_comm (4294967296 * P) 4294967296, Nat.add_comm]
  have f2 : (x * 4294967296 + u2) * P = x * (4294967296 * P) + P * u2 := by rw [Nat.add_mul, Nat.mul_assoc, Nat.mul_comm u2]
  have f3 : (top * 4294967296 + v2) * P = top * (4294967296 * P) + P * v2 := by rw [Nat.add_mul, Nat.mul_assoc, Nat.mul_comm v2]
  have f4 : 4294967296 * P * top = top * (4294967296 * P) := Nat.mul_comm _ _
  have g1 : P * u2 + P ≤ 4294967296 * P := by
    have : P * (u2 + 1) ≤ P * 4294967296 := Nat.mul_le_mul_left _ (by omega)
    rw [Nat.mul_add, Nat.mul_one, Nat.mul_comm P 4294967296] at this
    exact this
  have g2 : P * v2 + P ≤ 4294967296 * P := by
    have : P * (v2 + 1) ≤ P * 4294967296 := Nat.mul_le_mul_left _ (by omega)
    rw [Nat.mul_add, Nat.mul_one, Nat.mul_comm P 4294967296] at this
    exact this
  rw [hx]
  have u1 : x * (4294967296 * P) ≤ U := by omega
  have u1' : U < (x + 1) * (4294967296 * P) := by rw [Nat.add_mul, Nat.one_mul]; omega
  have u3 : (x * 4294967296 + u2) * P ≤ U := by rw [f2]; omega
  have u4 : U < (x * 4294967296 + u2 + 1) * P := by rw [Nat.add_mul _ 1, Nat.one_mul, f2]; omega
  have w1 : top * (4294967296 * P) ≤ V := by omega
  have w2 : V < (top + 1) * (4294967296 * P) := by rw [Nat.add_mul, Nat.one_mul]; omega
  have w3 : (top * 4294967296 + v2) * P ≤ V := by rw [f3]; omega
  have w4 : V < (top * 4294967296 + v2 + 1) * P := by rw [Nat.add_mul _ 1, Nat.one_mul, f3]; omega
  have w5 : 4294967296 * P ≤ V := by
    have : 4294967296 * P ≤ top * (4294967296 * P) := Nat.le_mul_of_pos_left _ (by omega)
    omega
  have hV0 : 0 < V := by omega
  have q1 : U / V * V ≤ U := Nat.div_mul_le_self U V
  have q2 : U < (U / V + 1) * V := by rw [Nat.mul_comm]; exact Nat.lt_mul_div_succ U hV0
  have q3 : U / V < 4294967296 := by rw [Nat.div_lt_iff_lt_mul hV0]; exact hU
  generalize U / V = q at *
  refine ⟨⟨by omega, c3⟩, ?_, guess_start U V _ x top q (by omega) u1' w1 q1, q3, ?_, ?_, ?_⟩
  · have h1 : x * (4294967296 * P) < 4294967296 * (top + 1) * (4294967296 * P) := by rw [Nat.mul_assoc 4294967296 (top + 1)]; omega
    have h2 := Nat.lt_of_mul_lt_mul_right h1
    omega
  · exact fun d r h ht => guess_down U V P x top v2 u2 d r q h u4 w3 q1 ht
  · exact fun d r h hd ht => guess_stop U V P x top v2 u2 d r q h u3 w4 w5 q2 hP hd ht
  · exact fun d r h hd hr => guess_break U V _ x top d r q h u1 w2 q2 hd hr

end Go.Proofs.YtgcobhlplffpjaaGreatDoor
