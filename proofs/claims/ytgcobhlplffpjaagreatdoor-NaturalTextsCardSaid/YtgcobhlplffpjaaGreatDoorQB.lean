/- Plain laws of texts: the parsed text's number, and the order of texts of one length. -/
import Derived.Test.YtgcobhlplffpjaaGreatDoorQA
namespace Go.Proofs.YtgcobhlplffpjaaGreatDoor
open Go.RowKit Go.Deep

theorem isDig_of {l : List UInt8} (h : ∀ x ∈ l, 48 ≤ x.toNat ∧ x.toNat ≤ 57) : ∀ x ∈ l, isDig x = true := fun x hx => by
  unfold isDig
  exact decide_eq_true (h x hx)
theorem isDecB_of {s : List UInt8} (h : IsDec s) : isDecB s = true := by
  obtain ⟨h1, h2, h3⟩ := h
  unfold isDecB
  rw [Bool.and_eq_true, Bool.and_eq_true]
  refine ⟨⟨decide_eq_true h1, ?_⟩, List.all_eq_true.2 (isDig_of h2)⟩
  rw [Bool.not_eq_true', Bool.and_eq_false_iff]
  by_cases e : s.head? = some 48
  · right
    have := h3 e
    exact decide_eq_false (by omega)
  · left
    exact decide_eq_false e
theorem isDec_of {s : List UInt8} (h : isDecB s = true) : IsDec s := by
  unfold isDecB at h
  rw [Bool.and_eq_true, Bool.and_eq_true, Bool.not_eq_true', Bool.and_eq_false_iff] at h
  obtain ⟨⟨h1, h2⟩, h3⟩ := h
  refine ⟨of_decide_eq_true h1, fun x hx => ?_, fun e => ?_⟩
  · have := List.all_eq_true.1 h3 x hx
    unfold isDig at this
    exact of_decide_eq_true this
  · rcases h2 with h2 | h2
    · exact absurd e (of_decide_eq_false h2)
    · have h4 := of_decide_eq_false h2
      have h5 := of_decide_eq_true h1
      cases s with
      | nil => exact absurd rfl h5
      | cons a r => simp at h4 ⊢; exact h4
theorem dec_parsed {s : List UInt8} (h : kP s = 0) : Lib.decDigits (vP s) = s := by
  unfold kP at h
  split at h
  · rename_i hd
    have := (kE_zero h).2
    unfold vP
    rw [if_pos hd, this]
    exact dec_num s (isDec_of hd)
  · cases h
theorem kP_dec {x : Nat} (h : Fit x) : kP (Lib.decDigits x) = 0 := by
  unfold kP
  rw [if_pos (isDecB_of (decDigits_isDec x)), num_dec]
  exact kE_fit h
theorem vP_dec {x : Nat} (h : Fit x) : vP (Lib.decDigits x) = x := by
  unfold vP
  rw [if_pos (isDecB_of (decDigits_isDec x)), num_dec]
  exact vE_fit h
/-- Two lists of digits of one length are in the order of their numbers. -/
theorem less_num : ∀ (l m : List UInt8), (∀ x ∈ l, 48 ≤ x.toNat ∧ x.toNat ≤ 57) → (∀ x ∈ m, 48 ≤ x.toNat ∧ x.toNat ≤ 57) → l.length = m.length → Op.bytesLess l m = decide (num 0 l < num 0 m)
  | [], [], _, _, _ => rfl
  | [], _ :: _, _, _, h => by simp at h
  | _ :: _, [], _, _, h => by simp at h
  | a :: l, b :: m, hl, hm, h => by
    have ih := less_num l m (fun x hx => hl x (by simp [hx])) (fun x hx => hm x (by simp [hx])) (by simpa using h)
    have n1 := num_lt l (isDig_of fun x hx => hl x (by simp [hx]))
    have n2 := num_lt m (isDig_of fun x hx => hm x (by simp [hx]))
    have ha := hl a (by simp)
    have hb := hm b (by simp)
    have e1 : num 0 (a :: l) = (a.toNat - 48) * 10 ^ l.length + num 0 l := by rw [← num_from]; show num (10 * 0 + (a.toNat - 48)) l = _; rw [Nat.mul_zero, Nat.zero_add]
    have e2 : num 0 (b :: m) = (b.toNat - 48) * 10 ^ l.length + num 0 m := by rw [show l.length = m.length by simpa using h, ← num_from]; show num (10 * 0 + (b.toNat - 48)) m = _; rw [Nat.mul_zero, Nat.zero_add]
    have hlen : l.length = m.length := by simpa using h
    rw [← hlen] at n2
    generalize 10 ^ l.length = P at n1 n2 e1 e2
    show (decide (a < b) || (a == b && Op.bytesLess l m)) = _
    rw [e1, e2, ih]
    rcases Nat.lt_trichotomy a.toNat b.toNat with c | c | c
    · have : a < b := UInt8.lt_iff_toNat_lt.2 c
      rw [decide_eq_true this, Bool.true_or]
      obtain ⟨q, hq⟩ : ∃ q, b.toNat - 48 = (a.toNat - 48) + 1 + q := ⟨b.toNat - a.toNat - 1, by omega⟩
      rw [hq, Nat.add_mul, Nat.add_mul, Nat.one_mul]
      have := Nat.zero_le (q * P)
      exact (decide_eq_true (by omega)).symm
    · have e : a = b := UInt8.toNat_inj.1 c
      subst e
      rw [decide_eq_false (UInt8.lt_irrefl a), Bool.false_or, beq_self_eq_true, Bool.true_and]
      exact decide_eq_decide.2 (by omega)
    · have h1 : ¬ a < b := fun h => by have := UInt8.lt_iff_toNat_lt.1 h; omega
      have h2 : (a == b) = false := by rw [beq_eq_false_iff_ne]; intro e; subst e; omega
      rw [decide_eq_false h1, h2, Bool.false_and, Bool.false_or]
      obtain ⟨q, hq⟩ : ∃ q, a.toNat - 48 = (b.toNat - 48) + 1 + q := ⟨a.toNat - b.toNat - 1, by omega⟩
      rw [hq, Nat.add_mul, Nat.add_mul, Nat.one_mul]
      have := Nat.zero_le (q * P)
      exact (decide_eq_false (by omega)).symm
theorem nd_mono (a : Nat) : ∀ b, a ≤ b → Lib.nDigits a ≤ Lib.nDigits b := by
  induction a using Nat.strongRecOn with
  | _ a ih =>
    intro b h
    by_cases ha : a < 10
    · rw [Lib.nDigits_small ha]; exact Lib.nDigits_pos b
    · rw [Lib.nDigits_big ha, Lib.nDigits_big (u := b) (by omega)]
      have := ih (a / 10) (by omega) (b / 10) (by omega)
      omega
theorem dec_len_mono {a b : Nat} (h : a ≤ b) : (Lib.decDigits a).length ≤ (Lib.decDigits b).length := by
  rw [Lib.decDigits_length, Lib.decDigits_length]
  exact nd_mono a b h
theorem dec_less {a b : Nat} (h : (Lib.decDigits a).length = (Lib.decDigits b).length) : Op.bytesLess (Lib.decDigits a) (Lib.decDigits b) = decide (a < b) := by
  rw [less_num _ _ (decDigits_range a) (decDigits_range b) h, num_dec, num_dec]

end Go.Proofs.YtgcobhlplffpjaaGreatDoor
