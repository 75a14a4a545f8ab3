/- Plain laws: determinants and their columns; what the greedy search for columns finds. -/
import Derived.Test.YtipaapplingbnaaDoorDt
namespace Go.Proofs.YtipaapplingbnaaDoor

/-- A sum over columns. -/
def lc : List (Int × Nat) → (Nat → Int) → Int
  | [], _ => 0
  | p :: L, r => p.1 * r p.2 + lc L r
theorem lc_append (L M : List (Int × Nat)) (r : Nat → Int) : lc (L ++ M) r = lc L r + lc M r := by
  induction L with
  | nil => simp [lc]
  | cons p L ih => simp only [List.cons_append, lc, ih]; omega
def neg1 (p : Int × Nat) : Int × Nat := (- p.1, p.2)
theorem lc_neg (L : List (Int × Nat)) (r : Nat → Int) : lc (L.map neg1) r = - lc L r := by
  induction L with
  | nil => rfl
  | cons p L ih => simp only [List.map_cons, lc, ih, neg1]; grind
/-- The columns of a row's expansion, with what they are multiplied by. -/
def coef (f : List Nat → Int) : List Nat → List (Int × Nat)
  | [] => []
  | c :: cs => (f cs, c) :: (coef (fun t => f (c :: t)) cs).map neg1
theorem W_coef (r : Nat → Int) (f : List Nat → Int) (cs : List Nat) : W r f cs = lc (coef f cs) r := by
  induction cs generalizing f with
  | nil => rfl
  | cons c cs ih => simp only [W, coef, lc, lc_neg, ih]; grind
theorem coef_snd (f : List Nat → Int) (cs : List Nat) : (coef f cs).map Prod.snd = cs := by
  induction cs generalizing f with
  | nil => rfl
  | cons c cs ih =>
    simp only [coef, List.map_cons, List.map_map]
    have : Prod.snd ∘ neg1 = (Prod.snd : Int × Nat → Nat) := rfl
    rw [this, ih]
/-- The last column's part. -/
theorem coef_last (f : List Nat → Int) (js : List Nat) (c : Nat) : ∃ P s, coef f (js ++ [c]) = P ++ [(s * f js, c)] ∧ (s = 1 ∨ s = -1) ∧ P.map Prod.snd = js := by
  induction js generalizing f with
  | nil => exact ⟨[], 1, by simp [coef], .inl rfl, rfl⟩
  | cons j js ih =>
    obtain ⟨P, s, h1, h2, h3⟩ := ih (fun t => f (j :: t))
    refine ⟨(f (js ++ [c]), j) :: P.map neg1, -s, ?_, by omega, ?_⟩
    · simp only [List.cons_append, coef, h1, List.map_append, List.map_cons, List.map_nil, neg1]
      rw [Int.neg_mul]
    · simp only [List.map_cons, List.map_map]
      have : Prod.snd ∘ neg1 = (Prod.snd : Int × Nat → Nat) := rfl
      rw [this, h3]

/-- A linear relation of the columns is one of the determinants. -/
theorem Dt_rel (L : List (Int × Nat)) (rs : List (Nat → Int)) (hL : ∀ r ∈ rs, lc L r = 0) (cs : List Nat) : lc L (fun t => Dt rs (t :: cs)) = 0 := by
  induction rs generalizing cs with
  | nil =>
    have h : ∀ M : List (Int × Nat), lc M (fun t => Dt [] (t :: cs)) = 0 := fun M => by
      induction M with
      | nil => rfl
      | cons p M ih => simp only [lc, ih]; simp [Dt, WW, one0]
    exact h L
  | cons r rs ih =>
    have h : ∀ M : List (Int × Nat), lc M (fun t => Dt (r :: rs) (t :: cs)) = lc M r * Dt rs cs - W r (fun u => lc M (fun t => Dt rs (t :: u))) cs := fun M => by
      induction M with
      | nil =>
        show (0 : Int) = 0 * _ - W r (fun _ => 0) cs
        rw [W_zero]; omega
      | cons p M ihM =>
        have e : (fun u => lc (p :: M) (fun t => Dt rs (t :: u))) = fun u => p.1 * Dt rs (p.2 :: u) + lc M (fun t => Dt rs (t :: u)) := rfl
        have e2 : Dt (r :: rs) (p.2 :: cs) = r p.2 * Dt rs cs - W r (fun u => Dt rs (p.2 :: u)) cs := rfl
        rw [e, W_add, W_mul]
        show p.1 * Dt (r :: rs) (p.2 :: cs) + lc M _ = _
        rw [ihM, e2]
        show _ = (p.1 * r p.2 + lc M r) * _ - _
        grind
    rw [h, hL r (List.mem_cons_self ..)]
    have e : (fun u => lc L (fun t => Dt rs (t :: u))) = fun _ => 0 := funext fun u => ih (fun q hq => hL q (List.mem_cons_of_mem _ hq)) u
    rw [e, W_zero]
    omega

/-- Neighbours in the columns change places with the sign. -/
def Alt (f : List Nat → Int) : Prop := ∀ pre a b post, f (pre ++ a :: b :: post) = - f (pre ++ b :: a :: post)
theorem Alt.cons {f : List Nat → Int} (h : Alt f) (c : Nat) : Alt (fun t => f (c :: t)) := fun pre a b post => h (c :: pre) a b post
theorem Alt.W {f : List Nat → Int} (h : Alt f) (r : Nat → Int) : Alt (W r f) := by
  intro pre a b post
  induction pre generalizing f with
  | nil =>
    have e : (fun t => f (a :: b :: t)) = fun t => - f (b :: a :: t) := funext fun t => h [] a b t
    show r a * f (b :: post) - (r b * f (a :: post) - Proofs.YtipaapplingbnaaDoor.W r (fun t => f (a :: b :: t)) post) = - (r b * f (a :: post) - (r a * f (b :: post) - Proofs.YtipaapplingbnaaDoor.W r (fun t => f (b :: a :: t)) post))
    rw [e, W_neg]
    omega
  | cons p pre ih =>
    show r p * f (pre ++ a :: b :: post) - Proofs.YtipaapplingbnaaDoor.W r (fun t => f (p :: t)) (pre ++ a :: b :: post) = - (r p * f (pre ++ b :: a :: post) - Proofs.YtipaapplingbnaaDoor.W r (fun t => f (p :: t)) (pre ++ b :: a :: post))
    rw [h, ih (h.cons p)]
    grind
theorem Alt.Dt (rs : List (Nat → Int)) : Alt (Dt rs) := by
  induction rs with
  | nil => intro pre a b post; simp [Proofs.YtipaapplingbnaaDoor.Dt, WW, one0]
  | cons r rs ih => exact ih.W r
theorem Alt.perm {f : List Nat → Int} (h : Alt f) {l m : List Nat} (hp : l.Perm m) : f l = 0 ↔ f m = 0 := by
  induction hp generalizing f with
  | nil => exact Iff.rfl
  | cons x _ ih => exact ih (h.cons x)
  | swap x y l =>
    have := h [] y x l
    simp only [List.nil_append] at this
    omega
  | trans _ _ ih1 ih2 => exact (ih1 h).trans (ih2 h)
theorem Alt.twice {f : List Nat → Int} (h : Alt f) {l : List Nat} (hd : ¬ l.Nodup) : f l = 0 := by
  induction l generalizing f with
  | nil => exact absurd List.nodup_nil hd
  | cons c l ih =>
    rw [List.nodup_cons] at hd
    by_cases hc : c ∈ l
    · have hp := List.perm_cons_erase hc
      refine (h.perm (hp.cons c)).2 ?_
      have := h [] c c (l.erase c)
      simp only [List.nil_append] at this
      omega
    · exact ih (h.cons c) (fun hn => hd ⟨hc, hn⟩)
/-- Rows in another order: the sign at most. -/
theorem WW_perm {rs ss : List (Nat → Int)} (hp : rs.Perm ss) (f : List Nat → Int) : ∃ s : Int, (s = 1 ∨ s = -1) ∧ ∀ cs, WW rs f cs = s * WW ss f cs := by
  induction hp with
  | nil => exact ⟨1, .inl rfl, fun cs => by simp⟩
  | cons x _ ih =>
    obtain ⟨s, hs, h⟩ := ih
    refine ⟨s, hs, fun cs => ?_⟩
    rw [WW_cons, WW_cons, ← W_mul]
    exact congrArg (fun g => W x g cs) (funext h)
  | swap x y l => exact ⟨-1, .inr rfl, fun cs => by rw [WW_cons, WW_cons, WW_cons, WW_cons, W_swap]; omega⟩
  | trans _ _ ih1 ih2 =>
    obtain ⟨s, hs, h⟩ := ih1
    obtain ⟨t, ht, k⟩ := ih2
    refine ⟨s * t, by rcases hs with rfl | rfl <;> rcases ht with rfl | rfl <;> simp, fun cs => by rw [h, k, Int.mul_assoc]⟩
theorem Dt_perm {rs ss : List (Nat → Int)} (hp : rs.Perm ss) (cs : List Nat) : Dt rs cs = 0 ↔ Dt ss cs = 0 := by
  obtain ⟨s, hs, h⟩ := WW_perm hp one0
  unfold Dt
  rw [h cs]
  rcases hs with rfl | rfl <;> omega
theorem Dt_twice {rs : List (Nat → Int)} {r : Nat → Int} (pre mid post : List (Nat → Int)) (hr : rs = pre ++ r :: mid ++ r :: post) (cs : List Nat) : Dt rs cs = 0 := by
  subst hr
  unfold Dt
  rw [show pre ++ r :: mid ++ r :: post = pre ++ (r :: (mid ++ (r :: post))) by simp, WW_append, WW_cons, WW_append, WW_cons, W_twice, WW_zero]
theorem Dt_len {rs : List (Nat → Int)} {cs : List Nat} (h : Dt rs cs ≠ 0) : rs.length = cs.length := by
  have : ∀ (rs : List (Nat → Int)) (cs : List Nat), rs.length ≠ cs.length → Dt rs cs = 0 := by
    intro rs
    induction rs with
    | nil => intro cs hl; cases cs with
      | nil => exact absurd rfl hl
      | cons c cs => rfl
    | cons r rs ih =>
      intro cs
      have : ∀ (f : List Nat → Int) (n : Nat), (∀ t : List Nat, n ≠ t.length → f t = 0) → ∀ cs : List Nat, n + 1 ≠ cs.length → W r f cs = 0 := by
        intro f n hf cs
        induction cs generalizing f n with
        | nil => intro _; rfl
        | cons c cs ihc =>
          intro hl
          have hl' : n ≠ cs.length := fun e => hl (by simp [e])
          show r c * f cs - W r (fun t => f (c :: t)) cs = 0
          rw [hf cs hl']
          cases n with
          | zero =>
            have e : (fun t => f (c :: t)) = fun _ => 0 := funext fun t => hf _ (by simp)
            rw [e, W_zero]; omega
          | succ n =>
            rw [ihc (fun t => f (c :: t)) n (fun t ht => hf _ (by simpa using ht)) hl']
            omega
      intro hl
      exact this (Dt rs) rs.length (fun t ht => ih t ht) cs (by simpa using hl)
  refine Classical.byContradiction fun hl => h (this rs cs hl)

end Go.Proofs.YtipaapplingbnaaDoor
