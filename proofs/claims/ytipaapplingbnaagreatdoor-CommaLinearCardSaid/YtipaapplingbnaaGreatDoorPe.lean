/- Plain law of CommaLinear. -/
import Derived.Test.YtipaapplingbnaaGreatDoorPa
namespace Go.Proofs.YtipaapplingbnaaGreatDoor

/-- The counts that plus and minus return. -/
def plusC : List Int → List Int → List Int
  | x :: a, y :: b => (x + y) :: plusC a b
  | _, _ => []
def minusC (a : List Int) : List Int := a.map fun x => -x
theorem plusC_len (a b : List Int) : (plusC a b).length = min a.length b.length := by
  induction a generalizing b with
  | nil => simp [plusC]
  | cons x a ih =>
    cases b with
    | nil => simp [plusC]
    | cons y b => simp only [plusC, List.length_cons, ih]; omega
theorem plusC_comb (a b : List Int) (rs : List (Nat → Int)) (h : a.length = b.length) (j : Nat) : comb (plusC a b) rs j = comb a rs j + comb b rs j := by
  induction a generalizing b rs with
  | nil =>
    cases b with
    | nil => cases rs <;> simp [plusC, comb]
    | cons y b => simp at h
  | cons x a ih =>
    cases b with
    | nil => simp at h
    | cons y b =>
      cases rs with
      | nil => simp [plusC, comb]
      | cons r rs =>
        have := ih b rs (by simpa using h)
        simp only [plusC, comb, this, Int.add_mul]
        omega
theorem minusC_comb (a : List Int) (rs : List (Nat → Int)) (j : Nat) : comb (minusC a) rs j = -comb a rs j := by
  induction a generalizing rs with
  | nil => cases rs <;> simp [minusC, comb]
  | cons x a ih =>
    cases rs with
    | nil => simp [minusC, comb]
    | cons r rs =>
      have := ih rs
      simp only [minusC, List.map_cons, comb] at *
      rw [this, Int.neg_mul]
      omega
theorem minusC_range {a : List Int} (h : inRange a = true) : inRange (minusC a) = true := by
  unfold inRange minusC at *
  rw [List.all_eq_true] at *
  intro x hx
  obtain ⟨y, hy, rfl⟩ := List.mem_map.1 hx
  have := of_decide_eq_true (h y hy)
  exact decide_eq_true (by omega)
def Vc.neg (v : Vc) : Vc := ⟨-v.a, -v.b, -v.c, -v.d, -v.e, -v.f⟩
theorem Vc.neg_at (v : Vc) (j : Nat) : v.neg.at j = -v.at j := by
  unfold Vc.at Vc.neg
  match j with
  | 0 => rfl
  | 1 => rfl
  | 2 => rfl
  | 3 => rfl
  | 4 => rfl
  | 5 => rfl
  | j + 6 => simp
theorem sumE_parts {l : List Cm} {cs : List Int} (h : sumE l cs = 0) : inRange cs = true ∧ cs.length = l.length ∧ ValidL l ∧ (sumV l cs).ok = true ∧ MakesV l cs (sumV l cs) := by
  obtain ⟨ha, ho, e⟩ := sum_good h
  obtain ⟨hi, hlen, hL⟩ := accB_iff.1 ha
  rw [e]
  exact ⟨hi, hlen, hL, ho, tot_makes hlen⟩
theorem lin_minus {l : List Cm} {a : List Int} (h : sumE l a = 0) : sumE l (minusC a) = 0 ∧ sumV l (minusC a) = (sumV l a).neg := by
  obtain ⟨hi, hlen, hL, ho, hm⟩ := sumE_parts h
  refine sum_of hL ?_ ⟨by rw [minusC, List.length_map]; exact hlen, fun j => ?_⟩ (minusC_range hi)
  · rw [Vc.ok_iff] at *
    intro j hj
    have := ho j hj
    rw [Vc.neg_at]
    omega
  · rw [minusC_comb, hm.2, Vc.neg_at]
theorem lin_plus {l : List Cm} {a b : List Int} (h1 : sumE l a = 0) (h2 : sumE l b = 0) (h3 : sumE l (plusC a b) = 0) (j : Nat) : (sumV l (plusC a b)).at j = (sumV l a).at j + (sumV l b).at j := by
  obtain ⟨-, l1, -, -, m1⟩ := sumE_parts h1
  obtain ⟨-, l2, -, -, m2⟩ := sumE_parts h2
  obtain ⟨-, -, -, -, m3⟩ := sumE_parts h3
  rw [← m1.2, ← m2.2, ← m3.2, plusC_comb _ _ _ (by rw [l1, l2])]
theorem plusC_at (a b : List Int) (h : a.length = b.length) (k : Nat) (hk : k < a.length) : (plusC a b).take (k + 1) = (plusC a b).take k ++ [a.getD k 0 + b.getD k 0] := by
  have hl : k < (plusC a b).length := by rw [plusC_len]; omega
  have e : (plusC a b)[k] = a.getD k 0 + b.getD k 0 := by
    have gen : ∀ (a b : List Int) (k : Nat) (hl : k < (plusC a b).length), (plusC a b)[k] = a.getD k 0 + b.getD k 0 := by
      intro a
      induction a with
      | nil => intro b k hl; simp [plusC] at hl
      | cons x a ih =>
        intro b k hl
        cases b with
        | nil => simp [plusC] at hl
        | cons y b =>
          cases k with
          | zero => simp [plusC]
          | succ k => simp only [plusC, List.getElem_cons_succ, List.getD_cons_succ]; exact ih b k (by simpa [plusC] using hl)
    exact gen a b k hl
  rw [List.take_succ_eq_append_getElem hl, e]
theorem minusC_at (a : List Int) (k : Nat) (hk : k < a.length) : (minusC a).take (k + 1) = (minusC a).take k ++ [-a.getD k 0] := by
  have hl : k < (minusC a).length := by rw [minusC, List.length_map]; exact hk
  rw [List.take_succ_eq_append_getElem hl]
  congr 2
  simp only [minusC, List.getElem_map]
  rw [getD_at hk]
theorem sum_sizes {l : List Cm} {cs : List Int} (h : sumE l cs = 0) : cs.length = l.length ∧ l.length ≤ 6 ∧ (∀ k, k < cs.length → -1000 ≤ cs.getD k 0 ∧ cs.getD k 0 ≤ 1000) ∧ (sumV l cs).ok = true := by
  obtain ⟨hi, hlen, hL, ho, -⟩ := sumE_parts h
  refine ⟨hlen, hL.hi, fun k hk => ?_, ho⟩
  have := inRange_abs hi (cs.getD k 0) (by rw [getD_at hk]; exact List.getElem_mem hk)
  omega

end Go.Proofs.YtipaapplingbnaaGreatDoor
