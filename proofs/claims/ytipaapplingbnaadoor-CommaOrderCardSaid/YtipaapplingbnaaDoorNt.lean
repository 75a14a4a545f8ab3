/- Plain laws: decimal numerals. -/
import Derived.Lib.ItoaNum
namespace Go.Proofs.YtipaapplingbnaaDoor
open Go.Lib

theorem decDigits_small {u : Nat} (h : u < 10) : decDigits u = [UInt8.ofNat (48 + u)] := by rw [decDigits, dif_pos h]
theorem decDigits_big {u : Nat} (h : 10 ≤ u) : decDigits u = decDigits (u / 10) ++ [UInt8.ofNat (48 + u % 10)] := by rw [decDigits, dif_neg (by omega)]
/-- The last k digits of r, zeros ahead. -/
def padk : Nat → Nat → List UInt8
  | 0, _ => []
  | k + 1, r => padk k (r / 10) ++ [UInt8.ofNat (48 + r % 10)]
theorem padk_length (k r : Nat) : (padk k r).length = k := by
  induction k generalizing r with
  | zero => rfl
  | succ k ih => simp [padk, ih]
theorem decDigits_split (k : Nat) : ∀ q r, 0 < q → r < 10 ^ k → decDigits (q * 10 ^ k + r) = decDigits q ++ padk k r := by
  induction k with
  | zero => intro q r hq hr; simp at hr; subst hr; simp [padk]
  | succ k ih =>
    intro q r hq hr
    have hp : 1 ≤ 10 ^ k := Nat.one_le_pow _ _ (by decide)
    have e : q * 10 ^ (k + 1) + r = 10 * (q * 10 ^ k + r / 10) + r % 10 := by
      rw [Nat.pow_succ, ← Nat.mul_assoc]; omega
    have h1 : 1 ≤ q * 10 ^ k := Nat.mul_pos hq hp
    rw [e, decDigits_big (by omega), show (10 * (q * 10 ^ k + r / 10) + r % 10) / 10 = q * 10 ^ k + r / 10 from by omega,
      show (10 * (q * 10 ^ k + r / 10) + r % 10) % 10 = r % 10 from by omega, ih q (r / 10) hq (by rw [Nat.pow_succ] at hr; omega), List.append_assoc]
    rfl
theorem mem_dropLast_ {α : Type} {l : List α} {y : α} (h : y ∈ l.dropLast) : y ∈ l := (List.dropLast_sublist l).subset h
theorem decDigits_pos (u : Nat) : 0 < (decDigits u).length := by rw [decDigits_length]; exact nDigits_pos u
/-- The padding, as it is made: zeros ahead of the digits. -/
theorem padk_eq (k r : Nat) (hr : r < 10 ^ (k + 1)) : padk (k + 1) r = List.replicate (k + 1 - (decDigits r).length) 48 ++ decDigits r := by
  induction k generalizing r with
  | zero =>
    have h : r < 10 := by simpa using hr
    rw [decDigits_small h]
    simp [padk, Nat.mod_eq_of_lt h]
  | succ k ih =>
    rw [padk]
    by_cases h : r < 10
    · have h0 : r / 10 = 0 := by omega
      rw [ih (r / 10) (by rw [Nat.pow_succ] at hr; omega), h0, decDigits_small (by omega), decDigits_small h, Nat.mod_eq_of_lt h]
      simp only [List.length_singleton]
      rw [show k + 1 + 1 - 1 = (k + 1 - 1) + 1 from by omega, List.replicate_succ']
      simp
    · rw [ih (r / 10) (by rw [Nat.pow_succ] at hr; omega), decDigits_big (u := r) (by omega), List.length_append, List.length_singleton, ← List.append_assoc]
      rw [show k + 1 + 1 - ((decDigits (r / 10)).length + 1) = k + 1 - (decDigits (r / 10)).length from by omega]
/-- The number of a list of digits. -/
def num (a : Nat) (l : List UInt8) : Nat := l.foldl (fun a x => 10 * a + (x.toNat - 48)) a
theorem num_append (a : Nat) (l m : List UInt8) : num a (l ++ m) = num (num a l) m := by simp [num, List.foldl_append]
theorem digit_toNat {d : Nat} (h : d < 10) : (UInt8.ofNat (48 + d)).toNat - 48 = d := by simp [UInt8.toNat_ofNat']; omega
theorem num_dec (u : Nat) : num 0 (decDigits u) = u := by
  induction u using Nat.strongRecOn with
  | _ u ih =>
    by_cases h : u < 10
    · rw [decDigits_small h]; simp only [num, List.foldl_cons, List.foldl_nil, digit_toNat h]; omega
    · rw [decDigits_big (by omega), num_append, ih _ (by omega)]
      simp only [num, List.foldl_cons, List.foldl_nil, digit_toNat (Nat.mod_lt u (by omega))]; omega
/-- Digits alone, and no zero ahead. -/
def IsDec (l : List UInt8) : Prop := l ≠ [] ∧ (∀ x ∈ l, 48 ≤ x.toNat ∧ x.toNat ≤ 57) ∧ (l.head? = some 48 → l.length = 1)
theorem digit_range {d : Nat} (h : d < 10) : 48 ≤ (UInt8.ofNat (48 + d)).toNat ∧ (UInt8.ofNat (48 + d)).toNat ≤ 57 := by simp [UInt8.toNat_ofNat']; omega
theorem decDigits_range (u : Nat) : ∀ x ∈ decDigits u, 48 ≤ x.toNat ∧ x.toNat ≤ 57 := by
  induction u using Nat.strongRecOn with
  | _ u ih =>
    by_cases h : u < 10
    · rw [decDigits_small h]; intro x hx; obtain rfl := List.mem_singleton.1 hx; exact digit_range h
    · rw [decDigits_big (by omega)]
      intro x hx
      rcases List.mem_append.1 hx with hx | hx
      · exact ih _ (by omega) x hx
      · obtain rfl := List.mem_singleton.1 hx; exact digit_range (Nat.mod_lt u (by omega))
theorem decDigits_head (u : Nat) (h : 0 < u) : ∃ d r, 0 < d ∧ d < 10 ∧ decDigits u = UInt8.ofNat (48 + d) :: r := by
  induction u using Nat.strongRecOn with
  | _ u ih =>
    by_cases h10 : u < 10
    · exact ⟨u, [], h, h10, decDigits_small h10⟩
    · obtain ⟨d, r, h1, h2, h3⟩ := ih (u / 10) (by omega) (by omega)
      exact ⟨d, _, h1, h2, by rw [decDigits_big (by omega), h3]; rfl⟩
theorem decDigits_isDec (u : Nat) : IsDec (decDigits u) := by
  refine ⟨fun e => ?_, decDigits_range u, fun e => ?_⟩
  · have := decDigits_pos u; rw [e] at this; simp at this
  · rcases Nat.eq_zero_or_pos u with rfl | h
    · rw [decDigits_small (by omega)]; rfl
    · obtain ⟨d, r, h1, h2, h3⟩ := decDigits_head u h
      rw [h3] at e
      simp only [List.head?_cons, Option.some.injEq] at e
      have := congrArg UInt8.toNat e
      have h4 := digit_toNat h2
      rw [this] at h4
      simp at h4
      omega
/-- A list of digits without a zero ahead is the numeral of its number. -/
theorem dec_num (l : List UInt8) (h : IsDec l) : decDigits (num 0 l) = l := by
  obtain ⟨h1, h2, h3⟩ := h
  -- by the list's end
  have key : ∀ (n : Nat) (l : List UInt8), l.length = n → l ≠ [] → (∀ x ∈ l, 48 ≤ x.toNat ∧ x.toNat ≤ 57) → (l.head? = some 48 → l.length = 1) → decDigits (num 0 l) = l ∧ (1 < l.length → 0 < num 0 l) := by
    intro n
    induction n with
    | zero => intro l hl hne; exact absurd (List.eq_nil_of_length_eq_zero hl) hne
    | succ n ih =>
      intro l hl hne hr hh
      have e := List.dropLast_concat_getLast hne
      generalize hx : l.getLast hne = x at e
      have hxr := hr x (by rw [← hx]; exact List.getLast_mem hne)
      have hxe : UInt8.ofNat (48 + (x.toNat - 48)) = x := by rw [show 48 + (x.toNat - 48) = x.toNat from by omega]; simp
      rcases Nat.eq_zero_or_pos n with hn | hn
      · have hd : l.dropLast = [] := List.eq_nil_of_length_eq_zero (by rw [List.length_dropLast]; omega)
        rw [hd] at e
        rw [← e]
        simp only [List.nil_append, num, List.foldl_cons, List.foldl_nil]
        rw [decDigits_small (by omega)]
        simp only [Nat.mul_zero, Nat.zero_add, hxe]
        exact ⟨trivial, fun h => absurd h (by simp)⟩
      · have hdl : l.dropLast.length = n := by rw [List.length_dropLast]; omega
        have hdn : l.dropLast ≠ [] := fun e => by rw [e] at hdl; simp at hdl; omega
        have hhead : l.dropLast.head? = l.head? := by
          conv => rhs; rw [← e]
          rw [List.head?_append]
          rcases hq : l.dropLast with _ | ⟨y, r⟩
          · exact absurd hq hdn
          · rfl
        have hne48 : l.head? ≠ some 48 := fun e48 => by have := hh e48; omega
        have := ih l.dropLast hdl hdn (fun y hy => hr y (mem_dropLast_ hy)) (fun e48 => absurd (hhead ▸ e48) hne48)
        -- the number ahead is not zero
        have hpos : 0 < num 0 l.dropLast := by
          rcases Nat.lt_or_ge 1 n with h1n | h1n
          · exact this.2 (by omega)
          · obtain rfl : n = 1 := by omega
            match hq : l.dropLast, hdl with
            | [y], _ =>
              have hy := hr y (mem_dropLast_ (by rw [hq]; simp))
              have hy48 : y ≠ 48 := fun e48 => hne48 (by rw [← hhead, hq, e48]; rfl)
              have : y.toNat ≠ 48 := fun e48 => hy48 (UInt8.toNat_inj.1 e48)
              simp only [num, List.foldl_cons, List.foldl_nil]
              omega
        have hnum : num 0 l = 10 * num 0 l.dropLast + (x.toNat - 48) := by
          conv => lhs; rw [← e]
          rw [num_append]
          rfl
        rw [hnum]
        refine ⟨?_, fun _ => by omega⟩
        rw [decDigits_big (by omega), show (10 * num 0 l.dropLast + (x.toNat - 48)) / 10 = num 0 l.dropLast from by omega,
          show (10 * num 0 l.dropLast + (x.toNat - 48)) % 10 = x.toNat - 48 from by omega, this.1, hxe]
        exact e
  exact (key _ l rfl h1 h2 h3).1
theorem decDigits_inj {u v : Nat} (h : decDigits u = decDigits v) : u = v := by rw [← num_dec u, h, num_dec]
end Go.Proofs.YtipaapplingbnaaDoor
