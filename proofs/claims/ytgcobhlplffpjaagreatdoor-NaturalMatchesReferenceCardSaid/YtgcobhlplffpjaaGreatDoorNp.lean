/- Plain laws: lists of limbs as natural numbers. -/
namespace Go.Proofs.YtgcobhlplffpjaaGreatDoor

def pw (k : Nat) : Nat := 4294967296 ^ k
theorem pw_zero : pw 0 = 1 := rfl
theorem pw_succ (k : Nat) : pw (k + 1) = 4294967296 * pw k := by unfold pw; rw [Nat.pow_succ, Nat.mul_comm]
theorem pw_pos (k : Nat) : 0 < pw k := Nat.pow_pos (by omega)
theorem pw_add (a b : Nat) : pw (a + b) = pw a * pw b := Nat.pow_add _ _ _
theorem pw_le {a b : Nat} (h : a ≤ b) : pw a ≤ pw b := Nat.pow_le_pow_right (by omega) h
theorem pw_lt {a b : Nat} (h : a < b) : pw a < pw b := Nat.pow_lt_pow_right (by omega) h

/-- The number of limbs, the lowest one first. -/
def val : List Nat → Nat
  | [] => 0
  | x :: l => x + 4294967296 * val l
def Lim (l : List Nat) : Prop := ∀ x ∈ l, x < 4294967296
theorem Lim.nil : Lim [] := fun _ h => by cases h
theorem Lim.cons {x : Nat} {l : List Nat} (h : x < 4294967296) (hl : Lim l) : Lim (x :: l) := fun y hy => by
  rcases List.mem_cons.1 hy with rfl | hy
  · exact h
  · exact hl y hy
theorem Lim.head {x : Nat} {l : List Nat} (h : Lim (x :: l)) : x < 4294967296 := h x (by simp)
theorem Lim.tail {x : Nat} {l : List Nat} (h : Lim (x :: l)) : Lim l := fun y hy => h y (by simp [hy])
theorem Lim.append {l m : List Nat} (h : Lim l) (h' : Lim m) : Lim (l ++ m) := fun y hy => by
  rcases List.mem_append.1 hy with hy | hy
  · exact h y hy
  · exact h' y hy
theorem Lim.take {l : List Nat} (h : Lim l) (k : Nat) : Lim (l.take k) := fun y hy => h y (List.mem_of_mem_take hy)
theorem Lim.drop {l : List Nat} (h : Lim l) (k : Nat) : Lim (l.drop k) := fun y hy => h y (List.mem_of_mem_drop hy)
theorem Lim.getD {l : List Nat} (h : Lim l) (k : Nat) : l.getD k 0 < 4294967296 := by
  rw [List.getD_eq_getElem?_getD]
  rcases Nat.lt_or_ge k l.length with hk | hk
  · rw [List.getElem?_eq_getElem hk]; exact h _ (List.getElem_mem hk)
  · rw [List.getElem?_eq_none hk]; show 0 < _; omega
theorem Lim.set {l : List Nat} (h : Lim l) (k x : Nat) (hx : x < 4294967296) : Lim (l.set k x) := fun y hy => by
  rcases List.mem_or_eq_of_mem_set hy with hy | rfl
  · exact h y hy
  · exact hx

theorem val_append (l m : List Nat) : val (l ++ m) = val l + pw l.length * val m := by
  induction l with
  | nil => simp [val, pw_zero]
  | cons x l ih =>
    simp only [List.cons_append, val, ih, List.length_cons, pw_succ, Nat.mul_add, Nat.mul_assoc, Nat.add_assoc]
theorem val_lt {l : List Nat} (h : Lim l) : val l < pw l.length := by
  induction l with
  | nil => simp [val, pw_zero]
  | cons x l ih =>
    have h1 := ih h.tail
    have h2 := h.head
    simp only [val, List.length_cons, pw_succ]
    omega
theorem val_inj : ∀ {l m : List Nat}, Lim l → Lim m → l.length = m.length → val l = val m → l = m
  | [], [], _, _, _, _ => rfl
  | [], _ :: _, _, _, h, _ => by simp at h
  | _ :: _, [], _, _, h, _ => by simp at h
  | x :: l, y :: m, hl, hm, h, e => by
    have h1 := hl.head
    have h2 := hm.head
    simp only [val] at e
    have e1 : x = y := by omega
    have e2 : val l = val m := by omega
    rw [e1, val_inj hl.tail hm.tail (by simpa using h) e2]
theorem val_zeros (k : Nat) : val (List.replicate k 0) = 0 := by
  induction k with
  | zero => rfl
  | succ k ih => simp [List.replicate_succ, val, ih]
theorem Lim.zeros (k : Nat) : Lim (List.replicate k 0) := fun y hy => by
  have := List.eq_of_mem_replicate hy
  omega
theorem val_snoc (l : List Nat) (x : Nat) : val (l ++ [x]) = val l + pw l.length * x := by
  rw [val_append]; simp [val]
theorem val_take_snoc (l : List Nat) (k : Nat) (h : k < l.length) : val (l.take (k + 1)) = val (l.take k) + pw k * l.getD k 0 := by
  rw [List.take_succ_eq_append_getElem h, val_snoc, List.length_take, Nat.min_eq_left (by omega), List.getD_eq_getElem?_getD, List.getElem?_eq_getElem h]
  rfl
theorem val_split (l : List Nat) (k : Nat) (h : k ≤ l.length) : val l = val (l.take k) + pw k * val (l.drop k) := by
  have := val_append (l.take k) (l.drop k)
  rw [List.take_append_drop, List.length_take, Nat.min_eq_left h] at this
  exact this

/-- No zero at the end. -/
def Norm (l : List Nat) : Prop := l.getLast? ≠ some 0
theorem Norm.nil : Norm [] := by simp [Norm]
theorem norm_pos {l : List Nat} (h : Norm l) (hl : l ≠ []) : pw (l.length - 1) ≤ val l := by
  have e := List.dropLast_concat_getLast hl
  have hz : l.getLast hl ≠ 0 := fun h0 => h (by rw [List.getLast?_eq_some_getLast hl, h0])
  have := val_snoc l.dropLast (l.getLast hl)
  rw [e, List.length_dropLast] at this
  rw [this]
  have h1 : pw (l.length - 1) * 1 ≤ pw (l.length - 1) * l.getLast hl := Nat.mul_le_mul_left _ (by omega)
  omega
theorem norm_len {l m : List Nat} (hl : Lim l) (hm : Norm m) (h : val m ≤ val l) : m.length ≤ l.length := by
  rcases Nat.lt_or_ge l.length m.length with hlt | hge
  · exfalso
    have hne : m ≠ [] := fun e => by rw [e] at hlt; simp at hlt
    have h1 := norm_pos hm hne
    have h2 := val_lt hl
    have h3 : pw l.length ≤ pw (m.length - 1) := pw_le (by omega)
    omega
  · exact hge
theorem norm_inj {l m : List Nat} (hl : Lim l) (hm : Lim m) (nl : Norm l) (nm : Norm m) (h : val l = val m) : l = m :=
  val_inj hl hm (Nat.le_antisymm (norm_len hm nl (by omega)) (norm_len hl nm (by omega))) h

/-- Without the zeros at the end. -/
def trim : List Nat → List Nat
  | [] => []
  | x :: l => match trim l with
    | [] => if x = 0 then [] else [x]
    | y :: m => x :: y :: m
theorem trim_cons (x : Nat) (l : List Nat) : trim (x :: l) = if trim l = [] then (if x = 0 then [] else [x]) else x :: trim l := by
  rw [trim]
  rcases trim l with _ | ⟨y, m⟩ <;> simp
theorem trim_val (l : List Nat) : val (trim l) = val l := by
  induction l with
  | nil => rfl
  | cons x l ih =>
    rw [trim_cons]
    split
    · rename_i h
      rw [h] at ih
      simp only [val] at ih ⊢
      split
      · rename_i h0; simp only [val]; omega
      · simp only [val]; omega
    · simp only [val, ih]
theorem trim_norm (l : List Nat) : Norm (trim l) := by
  induction l with
  | nil => exact Norm.nil
  | cons x l ih =>
    rw [trim_cons]
    split
    · split
      · exact Norm.nil
      · rename_i h; simp [Norm, h]
    · rename_i h
      unfold Norm at *
      rw [List.getLast?_cons]
      rcases ht : trim l with _ | ⟨y, m⟩
      · exact absurd ht h
      · rw [ht, List.getLast?_eq_some_getLast (by simp)] at ih
        rw [List.getLast?_eq_some_getLast (by simp)]
        simpa using ih
theorem trim_take (l : List Nat) : trim l = l.take (trim l).length ∧ (trim l).length ≤ l.length := by
  induction l with
  | nil => simp [trim]
  | cons x l ih =>
    rw [trim_cons]
    split
    · split <;> simp
    · simp only [List.length_cons, List.take_succ_cons]
      exact ⟨by rw [← ih.1], by omega⟩
theorem trim_lim {l : List Nat} (h : Lim l) : Lim (trim l) := by
  rw [(trim_take l).1]; exact h.take _
theorem trim_id {l : List Nat} (h : Norm l) (hl : Lim l) : trim l = l := norm_inj (trim_lim hl) hl (trim_norm l) h (trim_val l)
/-- What stands behind the trimmed list is zero. -/
theorem trim_zero (l : List Nat) (k : Nat) (hk : (trim l).length ≤ k) : l.getD k 0 = 0 := by
  induction l generalizing k with
  | nil => simp
  | cons x l ih =>
    rw [trim_cons] at hk
    split at hk
    · rename_i h
      cases k with
      | zero =>
        split at hk
        · rename_i h0; simpa using h0
        · simp at hk
      | succ k =>
        have := ih k (by rw [h]; simp)
        simpa using this
    · cases k with
      | zero => simp at hk
      | succ k =>
        have := ih k (by simpa using hk)
        simpa using this
theorem trim_last (l : List Nat) (h : trim l ≠ []) : l.getD ((trim l).length - 1) 0 ≠ 0 := by
  have hn := trim_norm l
  have hp : 0 < (trim l).length := List.length_pos_iff.2 h
  unfold Norm at hn
  intro e
  apply hn
  have h1 := (trim_take l).1
  have h2 := (trim_take l).2
  rw [List.getLast?_eq_getElem?, h1, List.length_take, Nat.min_eq_left h2, List.getElem?_take, if_pos (by omega)]
  rw [List.getD_eq_getElem?_getD] at e
  rw [List.getElem?_eq_getElem (by omega)] at e ⊢
  simpa using e

/-- The limbs of a number. -/
def limbsF : Nat → Nat → List Nat
  | 0, _ => []
  | f + 1, n => if n = 0 then [] else n % 4294967296 :: limbsF f (n / 4294967296)
def limbs (n : Nat) : List Nat := limbsF n n
theorem limbsF_val : ∀ (f n : Nat), n ≤ f → val (limbsF f n) = n := by
  intro f
  induction f with
  | zero => intro n h; obtain rfl : n = 0 := by omega
            rfl
  | succ f ih =>
    intro n h
    rw [limbsF]
    split
    · rename_i h0; rw [h0]; rfl
    · rw [val, ih _ (by omega)]; omega
theorem limbsF_lim : ∀ (f n : Nat), Lim (limbsF f n) := by
  intro f
  induction f with
  | zero => intro n; exact Lim.nil
  | succ f ih =>
    intro n
    rw [limbsF]
    split
    · exact Lim.nil
    · exact Lim.cons (Nat.mod_lt _ (by omega)) (ih _)
theorem limbsF_norm : ∀ (f n : Nat), n ≤ f → Norm (limbsF f n) := by
  intro f
  induction f with
  | zero => intro n _; exact Norm.nil
  | succ f ih =>
    intro n h
    rw [limbsF]
    split
    · exact Norm.nil
    · have h1 := ih (n / 4294967296) (by omega)
      have h2 := limbsF_val f (n / 4294967296) (by omega)
      unfold Norm at *
      rw [List.getLast?_cons]
      rcases ht : limbsF f (n / 4294967296) with _ | ⟨y, m⟩
      · rw [ht] at h2
        simp only [val] at h2
        simp; omega
      · rw [ht, List.getLast?_eq_some_getLast (by simp)] at h1
        rw [List.getLast?_eq_some_getLast (by simp)]
        simpa using h1
theorem limbs_val (n : Nat) : val (limbs n) = n := limbsF_val n n (Nat.le_refl _)
theorem limbs_lim (n : Nat) : Lim (limbs n) := limbsF_lim n n
theorem limbs_norm (n : Nat) : Norm (limbs n) := limbsF_norm n n (Nat.le_refl _)
theorem limbs_of {l : List Nat} (h : Lim l) (hn : Norm l) : limbs (val l) = l := norm_inj (limbs_lim _) h (limbs_norm _) hn (limbs_val _)
theorem trim_limbs {l : List Nat} (h : Lim l) : trim l = limbs (val l) := norm_inj (trim_lim h) (limbs_lim _) (trim_norm l) (limbs_norm _) (by rw [trim_val, limbs_val])
theorem limbs_zero : limbs 0 = [] := rfl
theorem limbs_nil {n : Nat} (h : limbs n = []) : n = 0 := by rw [← limbs_val n, h]; rfl
theorem limbs_len {n k : Nat} : (limbs n).length ≤ k ↔ n < pw k := by
  constructor
  · intro h
    have h1 := val_lt (limbs_lim n)
    rw [limbs_val] at h1
    exact Nat.lt_of_lt_of_le h1 (pw_le h)
  · intro h
    rcases Nat.lt_or_ge k (limbs n).length with hlt | hge
    · exfalso
      have hne : limbs n ≠ [] := fun e => by rw [e] at hlt; simp at hlt
      have h1 := norm_pos (limbs_norm n) hne
      rw [limbs_val] at h1
      have h2 : pw k ≤ pw ((limbs n).length - 1) := pw_le (by omega)
      omega
    · exact hge
theorem limbs_mono {m n : Nat} (h : m ≤ n) : (limbs m).length ≤ (limbs n).length := by
  rw [limbs_len]
  have := (limbs_len (n := n) (k := (limbs n).length)).1 (Nat.le_refl _)
  omega
/-- A valid natural number: bounded, and no zero at the end. -/
def isNat (l : List Nat) : Bool := decide (l.length ≤ 640) && decide (l.length = 0 ∨ l.getD (l.length - 1) 0 ≠ 0)
theorem isNat_norm {l : List Nat} (h : isNat l = true) : l.length ≤ 640 ∧ Norm l := by
  simp only [isNat, Bool.and_eq_true, decide_eq_true_eq] at h
  refine ⟨h.1, fun e => ?_⟩
  rcases h.2 with h0 | h0
  · rw [List.eq_nil_of_length_eq_zero h0] at e; simp at e
  · apply h0
    rw [List.getLast?_eq_getElem?] at e
    rw [List.getD_eq_getElem?_getD, e]; rfl
theorem isNat_limbs {n : Nat} (h : (limbs n).length ≤ 640) : isNat (limbs n) = true := by
  simp only [isNat, Bool.and_eq_true, decide_eq_true_eq]
  refine ⟨h, ?_⟩
  rcases Nat.eq_zero_or_pos (limbs n).length with h0 | h0
  · exact Or.inl h0
  · right
    intro e
    apply limbs_norm n
    rw [List.getLast?_eq_getElem?, List.getElem?_eq_getElem (by omega)]
    rw [List.getD_eq_getElem?_getD, List.getElem?_eq_getElem (by omega)] at e
    simpa using e
theorem isNat_eq {l : List Nat} (hl : Lim l) (h : isNat l = true) : l = limbs (val l) := (limbs_of hl (isNat_norm h).2).symm
theorem val_set (l : List Nat) (k x : Nat) (h : k < l.length) : val (l.set k x) + pw k * l.getD k 0 = val l + pw k * x := by
  induction l generalizing k with
  | nil => simp at h
  | cons y l ih =>
    cases k with
    | zero => simp [val, pw_zero]; omega
    | succ k =>
      have := ih k (by simpa using h)
      simp only [List.set_cons_succ, val, List.getD_cons_succ, pw_succ, Nat.mul_assoc]
      omega
/-- One limb more of a sum. -/
theorem sum_step (V P x y c s : Nat) (hs : x + y + c = s) : V + P * (s % 4294967296) + 4294967296 * P * (s / 4294967296) = V + c * P + (P * x + P * y) := by
  have e : P * s = P * (s % 4294967296) + 4294967296 * P * (s / 4294967296) := by
    have h : s = s % 4294967296 + 4294967296 * (s / 4294967296) := by omega
    rw [Nat.mul_comm 4294967296 P, Nat.mul_assoc, ← Nat.mul_add, ← h]
  have e2 : P * s = P * x + P * y + P * c := by rw [← hs, Nat.mul_add, Nat.mul_add]
  rw [Nat.mul_comm c P]
  omega

theorem top_and (a b : Nat) : (a &&& b) / 2147483648 = (a / 2147483648) &&& (b / 2147483648) := by
  have := Nat.shiftRight_and_distrib (a := a) (b := b) (i := 31)
  simpa [Nat.shiftRight_eq_div_pow] using this
theorem top_or (a b : Nat) : (a ||| b) / 2147483648 = (a / 2147483648) ||| (b / 2147483648) := by
  have := Nat.shiftRight_or_distrib (a := a) (b := b) (i := 31)
  simpa [Nat.shiftRight_eq_div_pow] using this
theorem top_xor (a b : Nat) : (a ^^^ b) / 2147483648 = (a / 2147483648) ^^^ (b / 2147483648) := by
  have := Nat.shiftRight_xor_distrib (a := a) (b := b) (i := 31)
  simpa [Nat.shiftRight_eq_div_pow] using this
/-- The borrow of a difference of 32 bits, as Go reckons it. -/
theorem borrow_bits (x y b d : Nat) (hx : x < 4294967296) (hy : y < 4294967296) (hb : b ≤ 1) (hd : d < 4294967296) (he : x + 8589934592 - y - b = d + 4294967296 * ((x + 8589934592 - y - b) / 4294967296)) :
    (((4294967295 ^^^ x) &&& y) ||| ((4294967295 ^^^ (x ^^^ y)) &&& d)) / 2147483648 = if x < y + b then 1 else 0 := by
  rw [top_or, top_and, top_and, top_xor, top_xor, top_xor]
  have h1 : x / 2147483648 = 0 ∨ x / 2147483648 = 1 := by omega
  have h2 : y / 2147483648 = 0 ∨ y / 2147483648 = 1 := by omega
  have h3 : d / 2147483648 = 0 ∨ d / 2147483648 = 1 := by omega
  rw [show (4294967295 : Nat) / 2147483648 = 1 from rfl]
  rcases h1 with h1 | h1 <;> rcases h2 with h2 | h2 <;> rcases h3 with h3 | h3 <;> rw [h1, h2, h3] <;> split <;> first | rfl | (exfalso; omega)
/-- One limb more of a difference. -/
theorem diff_step (V P x y b d : Nat) (hx : x < 4294967296) (hy : y < 4294967296) (hb : b ≤ 1) (hd : d < 4294967296) (he : x + 8589934592 - y - b = d + 4294967296 * ((x + 8589934592 - y - b) / 4294967296)) :
    V + P * d + (P * y + b * P) = V + P * x + (if x < y + b then 1 else 0) * (4294967296 * P) := by
  have e : d + y + b = x + (if x < y + b then 1 else 0) * 4294967296 := by split <;> omega
  have e2 : P * d + P * y + P * b = P * x + P * ((if x < y + b then 1 else 0) * 4294967296) := by rw [← Nat.mul_add, ← Nat.mul_add, ← Nat.mul_add, e]
  have e3 : (if x < y + b then 1 else 0) * (4294967296 * P) = P * ((if x < y + b then 1 else 0) * 4294967296) := by
    rw [Nat.mul_comm 4294967296 P, ← Nat.mul_assoc, Nat.mul_comm _ P, Nat.mul_assoc]
  rw [e3, Nat.mul_comm b P]
  omega
/-- One limb more of a product's row. -/
theorem mul_step (V V' P x y c k t : Nat) (ht : x * y + c + k = t) (hV : V' + P * c = V + P * (t % 4294967296)) : V' + (t / 4294967296) * (4294967296 * P) = V + P * (x * y) + k * P := by
  have e : P * t = P * (t % 4294967296) + (t / 4294967296) * (4294967296 * P) := by
    have h : t = t % 4294967296 + 4294967296 * (t / 4294967296) := by omega
    have h2 : (t / 4294967296) * (4294967296 * P) = P * (4294967296 * (t / 4294967296)) := by
      rw [← Nat.mul_assoc, Nat.mul_comm (t / 4294967296) 4294967296, Nat.mul_comm]
    rw [h2, ← Nat.mul_add, ← h]
  have e2 : P * t = P * (x * y) + P * c + P * k := by rw [← ht, Nat.mul_add, Nat.mul_add]
  rw [Nat.mul_comm k P]
  omega

/-- Division by one limb, from the top. -/
theorem short_step (Q V P x r d : Nat) (P' : Nat) (hP : P = 4294967296 * P') (h : V = Q * d + r * P) :
    x * P' + V = ((r * 4294967296 + x) / d * P' + Q) * d + (r * 4294967296 + x) % d * P' := by
  have e := Nat.div_add_mod (r * 4294967296 + x) d
  have e2 : (r * 4294967296 + x) * P' = (d * ((r * 4294967296 + x) / d) + (r * 4294967296 + x) % d) * P' := by rw [e]
  rw [Nat.add_mul, Nat.add_mul] at e2
  rw [h, hP, Nat.add_mul]
  have e3 : r * 4294967296 * P' = r * (4294967296 * P') := Nat.mul_assoc _ _ _
  have e4 : d * ((r * 4294967296 + x) / d) * P' = (r * 4294967296 + x) / d * P' * d := by
    rw [Nat.mul_comm d, Nat.mul_assoc, Nat.mul_comm d P', ← Nat.mul_assoc]
  omega

/-- The quotient q of U and V, guessed from the top: q ≤ x / top. -/
theorem guess_start (U V P x top q : Nat) (htop : 0 < top) (hU : U < (x + 1) * P) (hV : top * P ≤ V) (hq : q * V ≤ U) : q ≤ x / top := by
  rw [Nat.le_div_iff_mul_le htop]
  have h1 : q * (top * P) ≤ q * V := Nat.mul_le_mul_left _ hV
  have h2 : q * top * P < (x + 1) * P := by rw [Nat.mul_assoc]; omega
  have := Nat.lt_of_mul_lt_mul_right h2
  omega
/-- The test says that the guess is too great. -/
theorem guess_down (U V P x top v2 u2 d r q : Nat) (hd : d * top + r = x) (hU : U < ((x * 4294967296 + u2) + 1) * P) (hV : (top * 4294967296 + v2) * P ≤ V) (hq : q * V ≤ U)
    (ht : r * 4294967296 + u2 < d * v2) : q < d := by
  rcases Nat.lt_or_ge q d with h | h
  · exact h
  · exfalso
    have e1 : d * (top * 4294967296 + v2) = d * top * 4294967296 + d * v2 := by rw [Nat.mul_add, Nat.mul_assoc]
    have e2 : x * 4294967296 = d * top * 4294967296 + r * 4294967296 := by rw [← hd, Nat.add_mul]
    have h1 : (x * 4294967296 + u2) + 1 ≤ d * (top * 4294967296 + v2) := by rw [e1, e2]; omega
    have h2 : ((x * 4294967296 + u2) + 1) * P ≤ d * (top * 4294967296 + v2) * P := Nat.mul_le_mul_right _ h1
    have h3 : d * ((top * 4294967296 + v2) * P) ≤ d * V := Nat.mul_le_mul_left _ hV
    have h4 : d * V ≤ q * V := Nat.mul_le_mul_right _ h
    rw [Nat.mul_assoc] at h2
    omega
/-- The test lets the guess stand: it is too great by 1 at most. -/
theorem guess_stop (U V P x top v2 u2 d r q : Nat) (hd : d * top + r = x) (hU : (x * 4294967296 + u2) * P ≤ U) (hV : V < ((top * 4294967296 + v2) + 1) * P) (hV' : 4294967296 * P ≤ V)
    (hq : U < (q + 1) * V) (hP : 0 < P) (hd' : d < 4294967296) (ht : d * v2 ≤ r * 4294967296 + u2) : d ≤ q + 1 := by
  rcases Nat.lt_or_ge (q + 1) d with h | h
  · exfalso
    have e1 : d * (top * 4294967296 + v2) = d * top * 4294967296 + d * v2 := by rw [Nat.mul_add, Nat.mul_assoc]
    have e2 : x * 4294967296 = d * top * 4294967296 + r * 4294967296 := by rw [← hd, Nat.add_mul]
    have h1 : d * (top * 4294967296 + v2) ≤ x * 4294967296 + u2 := by rw [e1, e2]; omega
    have h2 : d * V ≤ d * (((top * 4294967296 + v2) + 1) * P) := Nat.mul_le_mul_left _ (by omega)
    have h3 : d * (((top * 4294967296 + v2) + 1) * P) = d * (top * 4294967296 + v2) * P + d * P := by rw [← Nat.mul_assoc, Nat.mul_add, Nat.mul_one, Nat.add_mul]
    have h4 : d * (top * 4294967296 + v2) * P ≤ (x * 4294967296 + u2) * P := Nat.mul_le_mul_right _ h1
    have h5 : d * P < 4294967296 * P := Nat.mul_lt_mul_of_pos_right hd' hP
    have h6 : (q + 2) * V ≤ d * V := Nat.mul_le_mul_right _ (by omega)
    have h7 : (q + 2) * V = (q + 1) * V + V := by rw [Nat.add_mul, Nat.add_mul]; omega
    omega
  · exact h
/-- The rest has grown past a limb: the guess is right. -/
theorem guess_break (U V P x top d r q : Nat) (hd : d * top + r = x) (hU : x * P ≤ U) (hV : V < (top + 1) * P) (hq : U < (q + 1) * V) (hd' : d ≤ 4294967296) (hr : 4294967296 ≤ r) : d ≤ q := by
  rcases Nat.lt_or_ge q d with h | h
  · exfalso
    have h1 : d * V ≤ d * ((top + 1) * P) := Nat.mul_le_mul_left _ (by omega)
    have h2 : d * ((top + 1) * P) = (d * top + d) * P := by rw [← Nat.mul_assoc, Nat.mul_add, Nat.mul_one]
    have h3 : (d * top + d) * P ≤ x * P := Nat.mul_le_mul_right _ (by omega)
    have h4 : (q + 1) * V ≤ d * V := Nat.mul_le_mul_right _ h
    omega
  · exact h
/-- One limb more of a number shifted to the left: k is the power of two. -/
theorem lift_step (V W P x c k : Nat) (h : W + P * c = V * k) : W + P * (c + x * k % 4294967296) + 4294967296 * P * (x * k / 4294967296) = (V + P * x) * k := by
  have e : x * k = x * k % 4294967296 + 4294967296 * (x * k / 4294967296) := by omega
  have e2 : P * (x * k) = P * (x * k % 4294967296) + 4294967296 * P * (x * k / 4294967296) := by
    rw [Nat.mul_comm 4294967296 P, Nat.mul_assoc, ← Nat.mul_add, ← e]
  rw [Nat.add_mul, Nat.mul_assoc P x k, e2, Nat.mul_add]
  omega
theorem lift_or (k m x c : Nat) (hkm : k * m = 4294967296) (hc : c < k) : x * k % 4294967296 = k * (x % m) ∧ c + x * k % 4294967296 < 4294967296 := by
  have h1 : x * k % 4294967296 = k * (x % m) := by rw [← hkm, Nat.mul_comm x k, Nat.mul_mod_mul_left]
  refine ⟨h1, ?_⟩
  have hm : 0 < m := by
    rcases Nat.eq_zero_or_pos m with h | h
    · rw [h] at hkm; omega
    · exact h
  have h2 : x % m < m := Nat.mod_lt _ hm
  have h3 : k * (x % m + 1) ≤ k * m := Nat.mul_le_mul_left _ h2
  rw [Nat.mul_add, Nat.mul_one] at h3
  omega
theorem lift_carry (k x : Nat) (hx : x < 4294967296) (hk : 0 < k) : x * k / 4294967296 < k := by
  rw [Nat.div_lt_iff_lt_mul (by omega)]
  rw [Nat.mul_comm]
  exact Nat.mul_lt_mul_of_pos_left hx hk
/-- The limbs shifted to the right: k is the power of two, m what a limb is of it. -/
def lowerL (k m : Nat) : List Nat → List Nat
  | [] => []
  | [x] => [x / k]
  | x :: y :: r => (x / k + y % k * m) :: lowerL k m (y :: r)
theorem lowerL_length (k m : Nat) : ∀ l, (lowerL k m l).length = l.length
  | [] => rfl
  | [x] => rfl
  | x :: y :: r => by rw [lowerL, List.length_cons, lowerL_length k m (y :: r)]; rfl
theorem val_mod (k m : Nat) (hkm : k * m = 4294967296) (y : Nat) (r : List Nat) : val (y :: r) % k = y % k := by
  rw [val, ← hkm, Nat.mul_assoc, Nat.add_mul_mod_self_left]
theorem lowerL_val (k m : Nat) (hk : 0 < k) (hkm : k * m = 4294967296) : ∀ l, val (lowerL k m l) = val l / k
  | [] => by simp [lowerL, val]
  | [x] => by simp [lowerL, val]
  | x :: y :: r => by
    have hv : val (x :: y :: r) = x + 4294967296 * val (y :: r) := rfl
    have hl : val (lowerL k m (x :: y :: r)) = x / k + y % k * m + 4294967296 * val (lowerL k m (y :: r)) := rfl
    rw [hl, hv, lowerL_val k m hk hkm (y :: r)]
    have hm := val_mod k m hkm y r
    generalize val (y :: r) = V at *
    have e : x + 4294967296 * V = x + k * (m * (V % k) + m * (k * (V / k))) := by
      rw [← Nat.mul_add, Nat.mod_add_div, ← Nat.mul_assoc, hkm]
    rw [e, Nat.add_mul_div_left _ _ hk, ← hm, Nat.mul_comm (V % k) m]
    have e2 : m * (k * (V / k)) = 4294967296 * (V / k) := by rw [← Nat.mul_assoc, Nat.mul_comm m k, hkm]
    omega
theorem lowerL_get (k m : Nat) : ∀ (l : List Nat) (i : Nat), i < l.length → (lowerL k m l).getD i 0 = l.getD i 0 / k + (if i + 1 < l.length then l.getD (i + 1) 0 % k * m else 0)
  | [], i, h => by simp at h
  | [x], i, h => by
    obtain rfl : i = 0 := by simpa using h
    simp [lowerL]
  | x :: y :: r, i, h => by
    cases i with
    | zero => simp [lowerL]
    | succ i =>
      rw [lowerL, List.getD_cons_succ, lowerL_get k m (y :: r) i (by simpa using h)]
      simp
theorem lowerL_lim (k m : Nat) (hk : 0 < k) (hkm : k * m = 4294967296) (l : List Nat) (hl : Lim l) : Lim (lowerL k m l) := by
  intro z hz
  obtain ⟨i, hi, rfl⟩ := List.mem_iff_getElem.1 hz
  rw [lowerL_length] at hi
  have h := lowerL_get k m l i hi
  rw [List.getD_eq_getElem?_getD, List.getElem?_eq_getElem (by rw [lowerL_length]; exact hi)] at h
  simp only [Option.getD_some] at h
  rw [h]
  have h1 := hl.getD i
  have h2 : l.getD i 0 / k < m := by rw [Nat.div_lt_iff_lt_mul hk, Nat.mul_comm, hkm]; exact h1
  split
  · have h3 : l.getD (i + 1) 0 % k < k := Nat.mod_lt _ hk
    have h4 : (l.getD (i + 1) 0 % k + 1) * m ≤ k * m := Nat.mul_le_mul_right _ h3
    rw [Nat.add_mul, Nat.one_mul] at h4
    omega
  · have h5 : 1 * m ≤ k * m := Nat.mul_le_mul_right _ hk
    omega
/-- The quotient's digits and what is left, all in all. -/
theorem div_of {a b q r : Nat} (h : a = q * b + r) (hr : r < b) : a / b = q ∧ a % b = r := by
  have hb : 0 < b := by omega
  constructor
  · rw [h, Nat.add_comm, Nat.add_mul_div_right _ _ hb, Nat.div_eq_of_lt hr, Nat.zero_add]
  · rw [h, Nat.add_comm, Nat.add_mul_mod_self_right, Nat.mod_eq_of_lt hr]
/-- Division by one limb. -/
def shortQ (d : Nat) : List Nat → List Nat
  | [] => []
  | x :: l => (val l % d * 4294967296 + x) / d :: shortQ d l
theorem shortQ_length (d : Nat) (l : List Nat) : (shortQ d l).length = l.length := by
  induction l with
  | nil => rfl
  | cons x l ih => simp [shortQ, ih]
theorem val_cons_mod (x : Nat) (l : List Nat) (d : Nat) : val (x :: l) % d = (val l % d * 4294967296 + x) % d := by
  have h1 := Nat.div_add_mod (val l) d
  have e : val (x :: l) = (val l % d * 4294967296 + x) + d * (val l / d * 4294967296) := by
    rw [val]
    have : val l * 4294967296 = (d * (val l / d) + val l % d) * 4294967296 := by rw [h1]
    rw [Nat.add_mul, Nat.mul_assoc] at this
    omega
  rw [e, Nat.add_mul_mod_self_left]
theorem shortQ_val (d : Nat) (hd : 0 < d) (l : List Nat) : val (shortQ d l) = val l / d := by
  induction l with
  | nil => simp [shortQ, val]
  | cons x l ih =>
    have h1 := Nat.div_add_mod (val l) d
    have e : val (x :: l) = (val l % d * 4294967296 + x) + d * (val l / d * 4294967296) := by
      rw [val]
      have : val l * 4294967296 = (d * (val l / d) + val l % d) * 4294967296 := by rw [h1]
      rw [Nat.add_mul, Nat.mul_assoc] at this
      omega
    rw [shortQ, val, ih, e, Nat.add_mul_div_left _ _ hd]
    omega
theorem shortQ_lim (d : Nat) (hd : 0 < d) (l : List Nat) (hl : Lim l) : Lim (shortQ d l) := by
  induction l with
  | nil => exact Lim.nil
  | cons x l ih =>
    refine Lim.cons ?_ (ih hl.tail)
    have h1 : val l % d < d := Nat.mod_lt _ hd
    have h2 := hl.head
    rw [Nat.div_lt_iff_lt_mul hd]
    have h3 : (val l % d + 1) * 4294967296 ≤ d * 4294967296 := Nat.mul_le_mul_right _ h1
    rw [Nat.add_mul] at h3
    rw [Nat.mul_comm 4294967296 d]
    omega
theorem shortQ_drop (d : Nat) (l : List Nat) (k : Nat) : (shortQ d l).drop k = shortQ d (l.drop k) := by
  induction l generalizing k with
  | nil => simp [shortQ]
  | cons x l ih =>
    cases k with
    | zero => rfl
    | succ k => simp [shortQ, ih]
theorem shortQ_get (d : Nat) (l : List Nat) (k : Nat) (hk : k < l.length) : (shortQ d l).getD k 0 = (val (l.drop (k + 1)) % d * 4294967296 + l.getD k 0) / d := by
  induction l generalizing k with
  | nil => simp at hk
  | cons x l ih =>
    cases k with
    | zero => simp [shortQ]
    | succ k =>
      simp only [shortQ, List.getD_cons_succ, List.drop_succ_cons]
      exact ih k (by simpa using hk)
theorem val_drop_mod (l : List Nat) (k d : Nat) (hk : k < l.length) : val (l.drop k) % d = (val (l.drop (k + 1)) % d * 4294967296 + l.getD k 0) % d := by
  rw [List.drop_eq_getElem_cons hk, val_cons_mod, List.getD_eq_getElem?_getD, List.getElem?_eq_getElem hk]
  rfl
/-- The order of two numbers by their limbs from the top. -/
theorem val_cmp (a b : List Nat) (ha : Lim a) (hl : a.length = b.length) (k : Nat) (hk : k < a.length) (he : a.drop (k + 1) = b.drop (k + 1)) (hlt : a.getD k 0 < b.getD k 0) : val a < val b := by
  have h1 := val_split a k (by omega)
  have h2 := val_split b k (by omega)
  have e1 : val (a.drop k) = a.getD k 0 + 4294967296 * val (a.drop (k + 1)) := by
    rw [List.drop_eq_getElem_cons hk, val, List.getD_eq_getElem?_getD, List.getElem?_eq_getElem hk]; rfl
  have e2 : val (b.drop k) = b.getD k 0 + 4294967296 * val (b.drop (k + 1)) := by
    rw [List.drop_eq_getElem_cons (by omega), val, List.getD_eq_getElem?_getD, List.getElem?_eq_getElem (by omega)]; rfl
  have h3 := val_lt (ha.take k)
  rw [List.length_take, Nat.min_eq_left (by omega)] at h3
  rw [h1, h2, e1, e2, he]
  have h4 : pw k * (a.getD k 0 + 4294967296 * val (b.drop (k + 1)) + 1) ≤ pw k * (b.getD k 0 + 4294967296 * val (b.drop (k + 1))) := Nat.mul_le_mul_left _ (by omega)
  rw [Nat.mul_add, Nat.mul_one] at h4
  omega
theorem val_len_lt (a b : List Nat) (ha : Lim a) (hb : Norm b) (hl : a.length < b.length) : val a < val b := by
  have h1 := val_lt ha
  have h2 := norm_pos hb (fun e => by rw [e] at hl; simp at hl)
  have h3 : pw a.length ≤ pw (b.length - 1) := pw_le (by omega)
  omega
end Go.Proofs.YtgcobhlplffpjaaGreatDoor
