/- Plain laws of the reference's Div: bit by bit. -/
import Derived.Test.YtgcobhlplffpjaaGreatDoorR7
namespace Go.Proofs.YtgcobhlplffpjaaGreatDoor
open Go.RowKit Go.Deep

theorem pow32 {s : Nat} (h : s ≤ 32) : 2 ^ s * 2 ^ (32 - s) = 4294967296 := by rw [← Nat.pow_add, show s + (32 - s) = 32 by omega]
/-- One bit more of the dividend. -/
theorem up_bit (x V s : Nat) (h : s < 32) : (x + 4294967296 * V) / 2 ^ s = 2 * ((x + 4294967296 * V) / 2 ^ (s + 1)) + x / 2 ^ s % 2 := by
  have e : 4294967296 = 2 ^ s * (2 * 2 ^ (31 - s)) := by rw [← Nat.pow_succ', ← Nat.pow_add, show s + (31 - s + 1) = 32 by omega]
  have h1 : (x + 4294967296 * V) / 2 ^ s = x / 2 ^ s + 2 * (2 ^ (31 - s) * V) := by
    rw [e, Nat.mul_assoc, Nat.add_mul_div_left _ _ (Nat.two_pow_pos s), Nat.mul_assoc]
  rw [Nat.pow_succ, ← Nat.div_div_eq_div_mul, h1]
  omega
theorem div_bit (U b e : Nat) (hb : 0 < b) (he : e ≤ 1) :
    (b ≤ 2 * (U % b) + e → (2 * U + e) / b = 2 * (U / b) + 1 ∧ (2 * U + e) % b = 2 * (U % b) + e - b) ∧ (¬ b ≤ 2 * (U % b) + e → (2 * U + e) / b = 2 * (U / b) ∧ (2 * U + e) % b = 2 * (U % b) + e) := by
  have h := Nat.div_add_mod U b
  have hr := Nat.mod_lt U hb
  generalize U / b = q at *
  generalize U % b = r at *
  refine ⟨fun h1 => ?_, fun h1 => ?_⟩
  · have e1 : 2 * U + e = (2 * r + e - b) + b * (2 * q + 1) := by
      have : b * (2 * q + 1) = 2 * (b * q) + b := by rw [Nat.mul_add, Nat.mul_one, ← Nat.mul_assoc, Nat.mul_comm b 2, Nat.mul_assoc]
      omega
    rw [e1, Nat.add_mul_div_left _ _ hb, Nat.add_mul_mod_self_left, Nat.div_eq_of_lt (by omega), Nat.mod_eq_of_lt (by omega)]
    exact ⟨by omega, rfl⟩
  · have e1 : 2 * U + e = (2 * r + e) + b * (2 * q) := by
      have : b * (2 * q) = 2 * (b * q) := by rw [← Nat.mul_assoc, Nat.mul_comm b 2, Nat.mul_assoc]
      omega
    rw [e1, Nat.add_mul_div_left _ _ hb, Nat.add_mul_mod_self_left, Nat.div_eq_of_lt (by omega), Nat.mod_eq_of_lt (by omega)]
    exact ⟨by omega, rfl⟩

/-- The quotient's row before limb cnt - 1. -/
structure DvAt (g : Nat) (a : List Nat) (b cnt : Nat) (wx : World) (m : List Nat) : Prop where
  len : m.length = a.length
  lim : Lim m
  arr : Arr wx g m
  eqn : val (m.drop cnt) = val (a.drop cnt) / b
  zer : ∀ j, j < cnt → m.getD j 0 = 0
/-- .. and in limb j, with the low s bits yet to come. -/
structure DvIn (g : Nat) (a : List Nat) (b j s : Nat) (wx : World) (m : List Nat) : Prop where
  len : m.length = a.length
  lim : Lim m
  arr : Arr wx g m
  eqn : val (m.drop j) = val (a.drop j) / 2 ^ s / b * 2 ^ s
  zer : ∀ i, i < j → m.getD i 0 = 0
theorem DvAt.start (w : World) (a : List Nat) (b : Nat) : DvAt w.heap.size a b a.length (w.alloc (.cells (madeCells #[.int .u32 0] a.length) 30)) (zeros a.length) where
  len := zeros_length _
  lim := Lim.zeros _
  arr := Arr.made w _
  eqn := by rw [List.drop_of_length_le (by rw [zeros_length]; exact Nat.le_refl _), List.drop_of_length_le (Nat.le_refl _)]; simp [val]
  zer := fun j _ => by
    unfold zeros
    rw [List.getD_eq_getElem?_getD, List.getElem?_replicate]
    split <;> rfl
theorem val_drop_cons (l : List Nat) (j : Nat) (h : j < l.length) : val (l.drop j) = l.getD j 0 + 4294967296 * val (l.drop (j + 1)) := by
  rw [drop_cons l j h]
  simp only [val]
theorem up32 {a : List Nat} (la : Lim a) (j : Nat) (h : j < a.length) : val (a.drop j) / 2 ^ 32 = val (a.drop (j + 1)) := by
  have := la.getD j
  rw [val_drop_cons a j h]
  omega
theorem DvAt.enter {g : Nat} {a : List Nat} {b j : Nat} {wx : World} {m : List Nat} (h : DvAt g a b (j + 1) wx m) (la : Lim a) (hj : j < a.length) : DvIn g a b j 32 wx m where
  len := h.len
  lim := h.lim
  arr := h.arr
  eqn := by
    rw [up32 la j hj, ← h.eqn, val_drop_cons m j (by rw [h.len]; exact hj), h.zer j (by omega)]
    omega
  zer := fun i hi => h.zer i (by omega)
theorem DvIn.leave {g : Nat} {a : List Nat} {b j : Nat} {wx : World} {m : List Nat} (h : DvIn g a b j 0 wx m) : DvAt g a b j wx m where
  len := h.len
  lim := h.lim
  arr := h.arr
  eqn := by have := h.eqn; simpa using this
  zer := h.zer
theorem DvIn.skip {g : Nat} {a : List Nat} {b j s : Nat} {wx : World} {m : List Nat} (h : DvIn g a b j (s + 1) wx m) (hq : val (a.drop j) / 2 ^ s / b = 2 * (val (a.drop j) / 2 ^ (s + 1) / b)) : DvIn g a b j s wx m where
  len := h.len
  lim := h.lim
  arr := h.arr
  eqn := by rw [h.eqn, hq, Nat.pow_succ, ← Nat.mul_assoc, Nat.mul_right_comm _ (2 ^ s) 2, Nat.mul_comm _ 2]
  zer := h.zer
/-- The limb in the making has room for the bit. -/
theorem DvIn.room {g : Nat} {a : List Nat} {b j s : Nat} {wx : World} {m : List Nat} (h : DvIn g a b j (s + 1) wx m) (hj : j < a.length) (hs : s < 32) : m.getD j 0 + 2 ^ s < 4294967296 := by
  have h1 := h.eqn
  rw [val_drop_cons m j (by rw [h.len]; exact hj)] at h1
  have h2 := h.lim.getD j
  have h3 := pow32 (s := s + 1) (by omega)
  have hp : 2 ^ (s + 1) = 2 * 2 ^ s := Nat.pow_succ'
  have hk := Nat.two_pow_pos s
  generalize val (a.drop j) / 2 ^ (s + 1) / b = Q at *
  generalize val (m.drop (j + 1)) = V at *
  generalize m.getD j 0 = x at *
  generalize 2 ^ (32 - (s + 1)) = L at *
  rw [hp] at h1 h3
  generalize 2 ^ s = K at *
  have d1 : 2 * K ∣ 4294967296 := ⟨L, h3.symm⟩
  have d2 : 2 * K ∣ x + 4294967296 * V := ⟨Q, by rw [h1, Nat.mul_comm]⟩
  have d3 : 2 * K ∣ x := (Nat.dvd_add_iff_left (Nat.dvd_trans d1 (Nat.dvd_mul_right _ _))).2 d2
  obtain ⟨y, rfl⟩ := d3
  have : y < L := by
    refine Nat.lt_of_mul_lt_mul_left (a := 2 * K) ?_
    rw [h3]
    exact h2
  have : 2 * K * (y + 1) ≤ 2 * K * L := Nat.mul_le_mul_left _ (by omega)
  rw [h3, Nat.mul_add, Nat.mul_one] at this
  omega
theorem DvIn.put {g : Nat} {a : List Nat} {b j s : Nat} {wx wy : World} {m : List Nat} (h : DvIn g a b j (s + 1) wx m) (hj : j < a.length) (hs : s < 32) (hq : val (a.drop j) / 2 ^ s / b = 2 * (val (a.drop j) / 2 ^ (s + 1) / b) + 1) (ha : Arr wy g (m.set j (m.getD j 0 + 2 ^ s))) : DvIn g a b j s wy (m.set j (m.getD j 0 + 2 ^ s)) where
  len := by rw [List.length_set]; exact h.len
  lim := h.lim.set _ _ (h.room hj hs)
  arr := ha
  eqn := by
    have hl := h.len
    have h1 := h.eqn
    rw [val_drop_cons m j (by omega)] at h1
    rw [val_drop_cons _ j (by rw [List.length_set]; omega), getD_set _ _ _ _ (by omega), if_pos rfl, List.drop_set_of_lt (by omega), hq, Nat.add_mul, Nat.one_mul]
    rw [Nat.pow_succ, ← Nat.mul_assoc, Nat.mul_right_comm _ (2 ^ s) 2, Nat.mul_comm _ 2] at h1
    rw [Nat.pow_succ]
    omega
  zer := fun i hi => by rw [getD_set _ _ _ _ (by have := h.len; omega), if_neg (by omega)]; exact h.zer i hi

end Go.Proofs.YtgcobhlplffpjaaGreatDoor
