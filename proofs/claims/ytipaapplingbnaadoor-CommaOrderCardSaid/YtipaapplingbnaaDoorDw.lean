/- Plain laws: a determinant's size; its expansion in steps. -/
import Derived.Test.YtipaapplingbnaaDoorDv
namespace Go.Proofs.YtipaapplingbnaaDoor

theorem W_bound (r : Nat → Int) (K F : Nat) (f : List Nat → Int) (cs : List Nat) (hr : ∀ c ∈ cs, (r c).natAbs ≤ K) (hf : ∀ t : List Nat, (∀ x ∈ t, x ∈ cs) → t.length + 1 ≤ cs.length → (f t).natAbs ≤ F) : (W r f cs).natAbs ≤ K * cs.length * F := by
  induction cs generalizing f with
  | nil => simp [W]
  | cons c cs ih =>
    have h1 := ih (fun t => f (c :: t)) (fun x hx => hr x (List.mem_cons_of_mem _ hx)) (fun t ht hl => hf (c :: t) (fun x hx => by
      rcases List.mem_cons.1 hx with rfl | hx
      · exact List.mem_cons_self ..
      · exact List.mem_cons_of_mem _ (ht x hx)) (by simp; omega))
    have h2 := hf cs (fun x hx => List.mem_cons_of_mem _ hx) (by simp)
    have h3 := hr c (List.mem_cons_self ..)
    have h4 : (r c * f cs).natAbs ≤ K * F := by rw [Int.natAbs_mul]; exact Nat.mul_le_mul h3 h2
    have h5 : K * (c :: cs).length * F = K * cs.length * F + K * F := by rw [List.length_cons, Nat.mul_add, Nat.mul_one, Nat.add_mul]
    rw [h5]
    show (r c * f cs - W r (fun t => f (c :: t)) cs).natAbs ≤ _
    omega
theorem Dt_bound (K m : Nat) (rs : List (Nat → Int)) (cs : List Nat) (hm : cs.length ≤ m) (hr : ∀ r ∈ rs, ∀ c ∈ cs, (r c).natAbs ≤ K) : (Dt rs cs).natAbs ≤ (K * m) ^ rs.length := by
  induction rs generalizing cs with
  | nil =>
    show (one0 cs).natAbs ≤ 1
    unfold one0
    split <;> simp
  | cons r rs ih =>
    have h := W_bound r K ((K * m) ^ rs.length) (Dt rs) cs (hr r (List.mem_cons_self ..)) (fun t ht hl => ih t (by omega) (fun q hq c hc => hr q (List.mem_cons_of_mem _ hq) c (ht c hc)))
    rw [Dt_cons, List.length_cons, Nat.pow_succ, Nat.mul_comm (_ ^ _)]
    exact Nat.le_trans h (Nat.mul_le_mul_right _ (Nat.mul_le_mul_left _ hm))

/-- The sign before the column at a place. -/
def sg (n : Nat) : Int := if n % 2 = 0 then 1 else -1
theorem sg_zero : sg 0 = 1 := rfl
theorem sg_succ (n : Nat) : sg (n + 1) = - sg n := by unfold sg; split <;> split <;> omega
theorem sg_cases (n : Nat) : sg n = 1 ∨ sg n = -1 := by unfold sg; split <;> simp
/-- The sum so far, the columns p being done, the columns q yet to come. -/
structure Part (r : Nat → Int) (f : List Nat → Int) (K F : Nat) (p q : List Nat) (s : Int) : Prop where
  eqn : W r f (p ++ q) = s + sg p.length * W r (fun t => f (p ++ t)) q
  small : s.natAbs ≤ K * p.length * F
theorem Part.start (r : Nat → Int) (f : List Nat → Int) (K F : Nat) (q : List Nat) : Part r f K F [] q 0 := ⟨by simp [sg_zero], by simp⟩
theorem Part.next {r : Nat → Int} {f : List Nat → Int} {K F : Nat} {p q : List Nat} {c : Nat} {s : Int} (h : Part r f K F p (c :: q) s) (hr : (r c).natAbs ≤ K) (hf : (f (p ++ q)).natAbs ≤ F) : Part r f K F (p ++ [c]) q (s + sg p.length * r c * f (p ++ q)) where
  eqn := by
    have h1 := h.eqn
    rw [List.append_assoc, List.singleton_append, h1, List.length_append, List.length_singleton, sg_succ]
    show s + sg p.length * (r c * f (p ++ q) - W r (fun t => f (p ++ c :: t)) q) = _
    have e : (fun t => f (p ++ [c] ++ t)) = fun t => f (p ++ c :: t) := funext fun t => by simp
    rw [e]
    grind
  small := by
    have h1 := h.small
    have h4 : (sg p.length * r c * f (p ++ q)).natAbs ≤ K * F := by
      rw [Int.natAbs_mul, Int.natAbs_mul]
      have : (sg p.length).natAbs = 1 := by rcases sg_cases p.length with e | e <;> rw [e] <;> rfl
      rw [this, Nat.one_mul]
      exact Nat.mul_le_mul hr hf
    have h5 : K * (p ++ [c]).length * F = K * p.length * F + K * F := by rw [List.length_append, List.length_singleton, Nat.mul_add, Nat.mul_one, Nat.add_mul]
    rw [h5]
    omega
theorem Part.done {r : Nat → Int} {f : List Nat → Int} {K F : Nat} {p : List Nat} {s : Int} (h : Part r f K F p [] s) : W r f p = s := by
  have := h.eqn
  simp only [List.append_nil, W] at this
  omega

end Go.Proofs.YtipaapplingbnaaDoor
