/- Plain laws: determinants by expansion along the rows, for any number of rows and columns. -/
namespace Go.Proofs.YtipaapplingbnaaDoor

/-- One row more: its entries, with alternating signs, times what the other columns give. -/
def W (r : Nat → Int) (f : List Nat → Int) : List Nat → Int
  | [] => 0
  | c :: cs => r c * f cs - W r (fun t => f (c :: t)) cs
theorem W_add (r : Nat → Int) (f g : List Nat → Int) (cs : List Nat) : W r (fun t => f t + g t) cs = W r f cs + W r g cs := by
  induction cs generalizing f g with
  | nil => rfl
  | cons c cs ih => simp only [W]; rw [ih]; grind
theorem W_mul (r : Nat → Int) (k : Int) (f : List Nat → Int) (cs : List Nat) : W r (fun t => k * f t) cs = k * W r f cs := by
  induction cs generalizing f with
  | nil => simp [W]
  | cons c cs ih => simp only [W]; rw [ih]; grind
theorem W_zero (r : Nat → Int) (cs : List Nat) : W r (fun _ => 0) cs = 0 := by
  have := W_mul r 0 (fun _ => 0) cs
  simpa using this
theorem W_sub (r : Nat → Int) (f g : List Nat → Int) (cs : List Nat) : W r (fun t => f t - g t) cs = W r f cs - W r g cs := by
  have h := W_add r f (fun t => (-1) * g t) cs
  rw [W_mul] at h
  have e : (fun t => f t - g t) = (fun t => f t + (-1) * g t) := funext fun t => by omega
  rw [e, h]
  omega
theorem W_neg (r : Nat → Int) (f : List Nat → Int) (cs : List Nat) : W r (fun t => - f t) cs = - W r f cs := by
  have h := W_mul r (-1) f cs
  have e : (fun t => - f t) = (fun t => (-1) * f t) := funext fun t => by omega
  rw [e, h]
  omega
theorem W_row_add (r s : Nat → Int) (f : List Nat → Int) (cs : List Nat) : W (fun j => r j + s j) f cs = W r f cs + W s f cs := by
  induction cs generalizing f with
  | nil => rfl
  | cons c cs ih => simp only [W]; rw [ih]; grind
theorem W_row_mul (k : Int) (r : Nat → Int) (f : List Nat → Int) (cs : List Nat) : W (fun j => k * r j) f cs = k * W r f cs := by
  induction cs generalizing f with
  | nil => simp [W]
  | cons c cs ih => simp only [W]; rw [ih]; grind
theorem W_row_zero (f : List Nat → Int) (cs : List Nat) : W (fun _ => 0) f cs = 0 := by
  have := W_row_mul 0 (fun _ => 0) f cs
  simpa using this
/-- Rows change sides with the sign. -/
theorem W_swap (r s : Nat → Int) (f : List Nat → Int) (cs : List Nat) : W r (W s f) cs = - W s (W r f) cs := by
  induction cs generalizing f with
  | nil => rfl
  | cons c cs ih =>
    have h1 : (fun t => W s f (c :: t)) = fun t => s c * f t - W s (fun u => f (c :: u)) t := rfl
    have h2 : (fun t => W r f (c :: t)) = fun t => r c * f t - W r (fun u => f (c :: u)) t := rfl
    have e1 : W r (W s f) (c :: cs) = r c * W s f cs - (s c * W r f cs - W r (W s fun u => f (c :: u)) cs) := by
      show r c * W s f cs - W r (fun t => W s f (c :: t)) cs = _
      rw [h1, W_sub, W_mul]
    have e2 : W s (W r f) (c :: cs) = s c * W r f cs - (r c * W s f cs - W s (W r fun u => f (c :: u)) cs) := by
      show s c * W r f cs - W s (fun t => W r f (c :: t)) cs = _
      rw [h2, W_sub, W_mul]
    rw [e1, e2, ih]
    omega
theorem W_self (r : Nat → Int) (f : List Nat → Int) (cs : List Nat) : W r (W r f) cs = 0 := by
  have := W_swap r r f cs
  omega
/-- All rows, before what stands behind them. -/
def WW (rs : List (Nat → Int)) (f : List Nat → Int) : List Nat → Int := rs.foldr W f
theorem WW_nil (f : List Nat → Int) : WW [] f = f := rfl
theorem WW_cons (r : Nat → Int) (rs : List (Nat → Int)) (f : List Nat → Int) : WW (r :: rs) f = W r (WW rs f) := rfl
theorem WW_append (rs ss : List (Nat → Int)) (f : List Nat → Int) : WW (rs ++ ss) f = WW rs (WW ss f) := by simp [WW]
theorem WW_zero (rs : List (Nat → Int)) : WW rs (fun _ => 0) = fun _ => 0 := by
  induction rs with
  | nil => rfl
  | cons r rs ih => rw [WW_cons, ih]; exact funext fun cs => W_zero r cs
/-- A row that stands there twice. -/
theorem W_twice (r : Nat → Int) (ms : List (Nat → Int)) (f : List Nat → Int) : W r (WW ms (W r f)) = fun _ => 0 := by
  induction ms with
  | nil => exact funext fun cs => W_self r f cs
  | cons m ms ih =>
    refine funext fun cs => ?_
    rw [WW_cons, W_swap, ih, W_zero]
    rfl
theorem WW_mul (rs : List (Nat → Int)) (k : Int) (f : List Nat → Int) : WW rs (fun t => k * f t) = fun cs => k * WW rs f cs := by
  induction rs with
  | nil => rfl
  | cons r rs ih => rw [WW_cons, ih]; exact funext fun cs => W_mul r k _ cs
theorem WW_add (rs : List (Nat → Int)) (f g : List Nat → Int) : WW rs (fun t => f t + g t) = fun cs => WW rs f cs + WW rs g cs := by
  induction rs with
  | nil => rfl
  | cons r rs ih => rw [WW_cons, ih]; exact funext fun cs => W_add r _ _ cs

/-- No rows left: 1 where no column is left. -/
def one0 (cs : List Nat) : Int := if cs = [] then 1 else 0
/-- The determinant of rows on columns. -/
def Dt (rs : List (Nat → Int)) (cs : List Nat) : Int := WW rs one0 cs
theorem Dt_cons (r : Nat → Int) (rs : List (Nat → Int)) (cs : List Nat) : Dt (r :: rs) cs = W r (Dt rs) cs := rfl
/-- A sum of rows. -/
def comb : List Int → List (Nat → Int) → Nat → Int
  | k :: ks, r :: rs, j => k * r j + comb ks rs j
  | _, _, _ => 0
/-- A combination of rows in the place of one of them. -/
theorem WW_comb (pre post : List (Nat → Int)) (f : List Nat → Int) (ks : List Int) (rs : List (Nat → Int)) (cs : List Nat) (hz : ∀ r ∈ rs, WW (pre ++ r :: post) f cs = 0) : WW (pre ++ comb ks rs :: post) f cs = 0 := by
  induction rs generalizing ks with
  | nil =>
    have e : comb ks [] = fun _ => 0 := by funext j; cases ks <;> rfl
    rw [e, WW_append, WW_cons]
    have : W (fun _ => 0) (WW post f) = fun _ => 0 := funext fun t => W_row_zero _ t
    rw [this, WW_zero]
  | cons r rs ih =>
    cases ks with
    | nil =>
      have e : comb [] (r :: rs) = fun _ => 0 := rfl
      rw [e, WW_append, WW_cons]
      have : W (fun _ => 0) (WW post f) = fun _ => 0 := funext fun t => W_row_zero _ t
      rw [this, WW_zero]
    | cons k ks =>
      have e : comb (k :: ks) (r :: rs) = fun j => k * r j + comb ks rs j := rfl
      have e2 : W (fun j => k * r j + comb ks rs j) (WW post f) = fun t => k * W r (WW post f) t + W (comb ks rs) (WW post f) t := funext fun t => by rw [W_row_add (fun j => k * r j) (comb ks rs), W_row_mul]
      rw [WW_append, WW_cons, e, e2, WW_add, WW_mul]
      have h1 := hz r (List.mem_cons_self ..)
      rw [WW_append, WW_cons] at h1
      have h2 := ih ks (fun q hq => hz q (List.mem_cons_of_mem _ hq))
      rw [WW_append, WW_cons] at h2
      show k * WW pre (W r (WW post f)) cs + WW pre (W (comb ks rs) (WW post f)) cs = 0
      rw [h1, h2]
      omega

end Go.Proofs.YtipaapplingbnaaDoor
