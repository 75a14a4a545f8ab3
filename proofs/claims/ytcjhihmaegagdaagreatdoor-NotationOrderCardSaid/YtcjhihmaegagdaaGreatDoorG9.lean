/- Texts of the Notation chapter, together: Pb, Pc, Pd, Pe, Pf, Pg, Ph, Pi, Pj, Pk, Pm. -/
import Derived.Test.YtcjhihmaegagdaaGreatDoorG2
import Derived.Test.YtcjhihmaegagdaaGreatDoorH4
set_option maxRecDepth 100000
set_option maxHeartbeats 8000000
set_option linter.unusedSimpArgs false
set_option linter.unusedVariables false
set_option linter.unusedSectionVars false
set_option linter.unnecessarySimpa false
namespace Go.Proofs.YtcjhihmaegagdaaGreatDoor
structure Key where
 kind : Nat
 n : Nat
 text : List UInt8
deriving DecidableEq
def Tok.key (t : Tok) : Key := ⟨t.kind, t.n, t.text⟩
def Tok.add (t : Tok) (d : Nat) : Tok := ⟨t.kind, t.pos + d, t.n, t.text⟩
theorem takeWhile_stop {α : Type} (p : α → Bool) (l : List α) (c : α) (r : List α) (h : p c = false) : (l ++ c :: r).takeWhile p = l.takeWhile p := by
 induction l with
 | nil => simp [h]
 | cons x l ih =>
  rw [List.cons_append, List.takeWhile_cons, List.takeWhile_cons, ih]
theorem takeWhile_take {α : Type} (p : α → Bool) (l : List α) (m : Nat) : (l.take m).takeWhile p = (l.takeWhile p).take m := by
 induction l generalizing m with
 | nil => simp
 | cons x l ih =>
  cases m with
  | zero => simp
  | succ m =>
   rw [List.take_succ_cons, List.takeWhile_cons, List.takeWhile_cons]
   split
   ·
    rw [ih]; simp
   simp
theorem lexStep_brk (x : UInt8) (l : List UInt8) (c : UInt8) (r : List UInt8) (hw : isWord c = false) (hc : c = 10 ∨ x ≠ 35) : lexStep (x :: l ++ c :: r) = lexStep (x :: l) := by
 have hd : isDig c = false := by
  unfold isWord at hw
  exact (Bool.or_eq_false_iff.1 hw).2
 rw [List.cons_append]
 simp only [lexStep]
 rw [takeWhile_stop isWord l c r hw, takeWhile_stop isDig l c r hd]
 by_cases h1 : isBlank x = true
 ·
  rw [if_pos h1, if_pos h1]
 rw [if_neg h1, if_neg h1]
 by_cases h2 : (x == 35) = true
 ·
  rw [if_pos h2, if_pos h2]
  rcases hc with rfl | hc
  ·
   rw [takeWhile_stop _ l 10 r (by decide)]
  exact absurd (by simpa using h2) hc
 rw [if_neg h2, if_neg h2]
def LxStep.len : LxStep → Nat
 | .skip k => k
 | .tok _ _ k => k
 | .bad => 0
theorem lexStep_take (x : UInt8) (l : List UInt8) (m : Nat) (hb : lexStep (x :: l) ≠ .bad) (hm : (lexStep (x :: l)).len ≤ m) (h0 : 1 ≤ m) : lexStep ((x :: l).take m) = lexStep (x :: l) := by
 obtain ⟨m, rfl⟩ : ∃ k, m = k + 1 := ⟨m - 1, by omega⟩
 rw [List.take_succ_cons]
 revert hb hm
 simp only [lexStep, takeWhile_take]
 intro hb hm
 split at hb
 ·
  next h => rw [if_pos h, if_pos h]
 next h =>
 rw [if_neg h, if_neg h]
 rw [if_neg h] at hm
 split at hb
 ·
  next h => 
  rw [if_pos h, if_pos h]
  rw [if_pos h] at hm
  simp only [LxStep.len] at hm
  rw [List.take_of_length_le (by omega)]
 next h =>
 rw [if_neg h, if_neg h]
 rw [if_neg h] at hm
 split at hb
 ·
  next h =>
  rw [if_pos h, if_pos h]
  rw [if_pos h] at hm
  split at hb
  ·
   exact absurd rfl hb
  next h2 =>
  rw [if_neg h2] at hm
  simp only [LxStep.len] at hm
  rw [List.take_of_length_le (by omega)]
 next h =>
 rw [if_neg h, if_neg h]
 rw [if_neg h] at hm
 split at hb
 ·
  next h =>
  rw [if_pos h, if_pos h]
  rw [if_pos h] at hm
  split at hb
  ·
   exact absurd rfl hb
  next h2 =>
  rw [if_neg h2] at hm
  simp only [LxStep.len] at hm
  rw [List.take_of_length_le (by omega)]
 next h =>
 rw [if_neg h, if_neg h]
theorem lexInd {motive : Nat → List UInt8 → Prop} (nil : ∀ p, motive p []) (skip : ∀ p x l k, lexStep (x :: l) = .skip k → 1 ≤ k → k ≤ (x :: l).length → motive (p + k) ((x :: l).drop k) → motive p (x :: l))
  (tok : ∀ p x l kd n k, lexStep (x :: l) = .tok kd n k → 1 ≤ k → k ≤ (x :: l).length → motive (p + k) ((x :: l).drop k) → motive p (x :: l)) (bad : ∀ p x l, lexStep (x :: l) = .bad → motive p (x :: l)) (p : Nat) (l : List UInt8) : motive p l := by
 suffices h : ∀ (m : Nat) (p : Nat) (l : List UInt8), l.length ≤ m → motive p l from h l.length p l (Nat.le_refl _)
 intro m
 induction m with
 | zero => intro p l h; obtain rfl := List.eq_nil_of_length_eq_zero (show l.length = 0 by omega); exact nil p
 | succ m ih =>
  intro p l h
  cases l with
  | nil => exact nil p
  | cons x l =>
   rcases hs : lexStep (x :: l) with k | ⟨kd, n, k⟩ | _
   ·
    have hk := lexStep_skip hs
    exact skip p x l k hs hk.1 hk.2 (ih _ _ (by rw [List.length_drop]; omega))
   ·
    have hk := lexStep_tok hs
    exact tok p x l kd n k hs hk.1 hk.2 (ih _ _ (by rw [List.length_drop]; omega))
   exact bad p x l hs
theorem lexA_bad' {p : Nat} {x : UInt8} {l : List UInt8} (h : lexStep (x :: l) = .bad) : lexA p (x :: l) = ([], some p) := lexA_bad (x := l.length) rfl h
theorem lexA_add (d p : Nat) (l : List UInt8) : lexA (p + d) l = ((lexA p l).1.map (Tok.add · d), (lexA p l).2.map (· + d)) := by
 induction p, l using lexInd with
 | nil p => rfl
 | skip p x l k hs h1 h2 ih =>
  rw [lexA_skip hs, lexA_skip hs, ← ih]
  congr 1
  omega
 | tok p x l kd n k hs h1 h2 ih =>
  rw [lexA_tok hs, lexA_tok hs, show p + d + k = p + k + d by omega, ih]
  rfl
 | bad p x l hs => rw [lexA_bad' hs, lexA_bad' hs]; rfl
theorem lexA_append (p : Nat) (a b : List UInt8) (h : (lexA p a).2 = none) : lexA p (a ++ 10 :: b) = ((lexA p a).1 ++ (lexA (p + a.length + 1) b).1, (lexA (p + a.length + 1) b).2) := by
 induction p, a using lexInd with
 | nil p =>
  rw [List.nil_append, lexA_skip (show lexStep (10 :: b) = .skip 1 from rfl)]
  rfl
 | skip p x l k hs h1 h2 ih =>
  rw [lexA_skip hs] at h
  have hs2 := lexStep_brk x l 10 b (by decide) (Or.inl rfl)
  rw [hs] at hs2
  rw [lexA_skip hs2, lexA_skip hs, List.drop_append_of_le_length h2, ih h, show p + k + ((x :: l).drop k).length + 1 = p + (x :: l).length + 1 by rw [List.length_drop]; omega]
 | tok p x l kd n k hs h1 h2 ih =>
  rw [lexA_tok hs] at h
  have hs2 := lexStep_brk x l 10 b (by decide) (Or.inl rfl)
  rw [hs] at hs2
  rw [lexA_tok hs2, lexA_tok hs, List.drop_append_of_le_length h2, ih h, show p + k + ((x :: l).drop k).length + 1 = p + (x :: l).length + 1 by rw [List.length_drop]; omega, List.take_append_of_le_length h2]
  rfl
 | bad p x l hs => rw [lexA_bad' hs] at h; cases h
theorem lexA_front (p : Nat) (l : List UInt8) (q : Nat) (h : (lexA p l).2 = some q) : p ≤ q ∧ q - p ≤ l.length ∧ lexA p (l.take (q - p)) = ((lexA p l).1, none) := by
 induction p, l using lexInd with
 | nil p => cases h
 | skip p x l k hs h1 h2 ih =>
  rw [lexA_skip hs] at h
  obtain ⟨a1, a2, a3⟩ := ih h
  rw [List.length_drop] at a2
  have hs2 := lexStep_take x l (q - p) (by rw [hs]; intro e; cases e) (by rw [hs]; show k ≤ _; omega) (by omega)
  rw [hs] at hs2
  refine ⟨by omega, by omega, ?_⟩
  rw [lexA_skip hs2, lexA_skip hs, ← a3, List.drop_take, show q - p - k = q - (p + k) by omega]
 | tok p x l kd n k hs h1 h2 ih =>
  rw [lexA_tok hs] at h
  obtain ⟨a1, a2, a3⟩ := ih h
  rw [List.length_drop] at a2
  have hs2 := lexStep_take x l (q - p) (by rw [hs]; intro e; cases e) (by rw [hs]; show k ≤ _; omega) (by omega)
  rw [hs] at hs2
  refine ⟨by omega, by omega, ?_⟩
  rw [lexA_tok hs2, lexA_tok hs, List.drop_take, show q - p - k = q - (p + k) by omega, a3, List.take_take, Nat.min_eq_left (by omega)]
 | bad p x l hs =>
  rw [lexA_bad' hs] at h
  injection h with h
  subst h
  refine ⟨Nat.le_refl _, by omega, ?_⟩
  rw [Nat.sub_self, List.take_zero, lexA_bad' hs]
  rfl
def Tok.good (t : Tok) : Prop := lexStep t.text = .tok t.kind t.n t.text.length
theorem lexA_good (p : Nat) (l : List UInt8) : ∀ t ∈ (lexA p l).1, t.good := by
 induction p, l using lexInd with
 | nil p => intro t h; cases h
 | skip p x l k hs h1 h2 ih => rw [lexA_skip hs]; exact ih
 | tok p x l kd n k hs h1 h2 ih =>
  rw [lexA_tok hs]
  intro t ht
  rcases List.mem_cons.1 ht with rfl | ht
  ·
   have := lexStep_take x l k (by rw [hs]; intro e; cases e) (by rw [hs]; exact Nat.le_refl _) h1
   show lexStep ((x :: l).take k) = .tok kd n ((x :: l).take k).length
   rw [this, hs, List.length_take, Nat.min_eq_left h2]
  exact ih t ht
 | bad p x l hs => rw [lexA_bad' hs]; intro t h; cases h
def joinL (ts : List Tok) (c : UInt8) : List UInt8 := ts.flatMap fun t => t.text ++ [c]
theorem Tok.good_cons {t : Tok} (h : t.good) : ∃ x l, t.text = x :: l ∧ x ≠ 35 ∧ 1 ≤ t.text.length := by
 unfold Tok.good at h
 cases e : t.text with
 | nil => rw [e] at h; cases h
 | cons x l =>
  refine ⟨x, l, rfl, ?_, by simp⟩
  rintro rfl
  rw [e] at h
  simp only [lexStep] at h
  rw [if_neg (by decide), if_pos (by decide)] at h
  cases h
theorem lexA_join (c : UInt8) (hc : c = 32 ∨ c = 10) (p : Nat) (ts : List Tok) (h : ∀ t ∈ ts, t.good) : (lexA p (joinL ts c)).2 = none ∧ (lexA p (joinL ts c)).1.map Tok.key = ts.map Tok.key := by
 induction ts generalizing p with
 | nil => exact ⟨rfl, rfl⟩
 | cons t ts ih =>
  have ht := h t (List.mem_cons_self ..)
  obtain ⟨x, l, e, hx, hl⟩ := Tok.good_cons ht
  have ht' : lexStep (x :: l) = .tok t.kind t.n t.text.length := by rw [← e]; exact ht
  have hw : isWord c = false := by rcases hc with rfl | rfl <;> decide
  have hk : lexStep (c :: joinL ts c) = .skip 1 := by rcases hc with rfl | rfl <;> rfl
  have e1 : joinL (t :: ts) c = x :: l ++ c :: joinL ts c := by
   show (t.text ++ [c]) ++ joinL ts c = _
   rw [e]
   simp
  have hs := lexStep_brk x l c (joinL ts c) hw (Or.inr hx)
  rw [ht'] at hs
  have hlen : t.text.length = (x :: l).length := by rw [e]
  rw [e1, lexA_tok hs, hlen, List.drop_left, List.take_left, lexA_skip hk]
  have := ih (p + (x :: l).length + 1) (fun u hu => h u (List.mem_cons_of_mem _ hu))
  refine ⟨this.1, ?_⟩
  simp only [List.map_cons]
  rw [show (c :: joinL ts c).drop 1 = joinL ts c from rfl, this.2]
  congr 1
  unfold Tok.key
  rw [e]
def gapL : Nat → List UInt8 → Bool
 | _, [] => true
 | 0, _ => false
 | f + 1, x :: l => if x == 35 then gapL f (l.dropWhile (· != 10)) else isBlank x && gapL f l
theorem dropWhile_len {α : Type} (p : α → Bool) (l : List α) : (l.dropWhile p).length ≤ l.length := (List.dropWhile_sublist p).length_le
theorem gapL_fuel (f g : Nat) (l : List UInt8) (hf : l.length ≤ f) (hg : l.length ≤ g) : gapL f l = gapL g l := by
 induction f generalizing g l with
 | zero =>
  obtain rfl := List.eq_nil_of_length_eq_zero (show l.length = 0 by omega)
  cases g <;> rfl
 | succ f ih =>
  cases l with
  | nil => cases g <;> rfl
  | cons x l =>
   obtain ⟨g, rfl⟩ : ∃ g', g = g' + 1 := ⟨g - 1, by simp at hg; omega⟩
   have hd := dropWhile_len (· != 10) l
   simp only [List.length_cons] at hf hg
   rw [gapL, gapL, ih g l (by omega) (by omega), ih g _ (by omega) (by omega)]
def gapA (l : List UInt8) : Bool := gapL l.length l
theorem gapA_cons (x : UInt8) (l : List UInt8) : gapA (x :: l) = if x == 35 then gapA (l.dropWhile (· != 10)) else isBlank x && gapA l := by
 have hd := dropWhile_len (· != 10) l
 unfold gapA
 rw [List.length_cons, gapL, gapL_fuel l.length _ _ hd (Nat.le_refl _)]
theorem takeWhile_dropWhile {α : Type} (p : α → Bool) (l : List α) : l.drop (l.takeWhile p).length = l.dropWhile p := by
 induction l with
 | nil => rfl
 | cons x l ih =>
  rw [List.takeWhile_cons, List.dropWhile_cons]
  split
  ·
   rw [List.length_cons, List.drop_succ_cons, ih]
  rfl
theorem gapA_comment (a g : List UInt8) (h1 : ∀ x ∈ a, (x != 10) = true) (h2 : ∀ x, g.head? = some x → (x != 10) = false) : (a ++ g).dropWhile (· != 10) = g := by
 induction a with
 | nil =>
  cases g with
  | nil => rfl
  | cons x g => rw [List.nil_append, List.dropWhile_cons, if_neg (by rw [h2 x rfl]; decide)]
 | cons x a ih =>
  rw [List.cons_append, List.dropWhile_cons, if_pos (h1 x (List.mem_cons_self ..))]
  exact ih fun y hy => h1 y (List.mem_cons_of_mem _ hy)
theorem tw_all {α : Type} (p : α → Bool) (l : List α) : ∀ x ∈ l.takeWhile p, p x = true := by
 induction l with
 | nil => intro x h; cases h
 | cons y l ih =>
  intro x hx
  rw [List.takeWhile_cons] at hx
  split at hx
  ·
   next h =>
   rcases List.mem_cons.1 hx with rfl | hx
   ·
    exact h
   exact ih x hx
  cases hx
theorem dropWhile_head {α : Type} (p : α → Bool) (l : List α) (x : α) (h : (l.dropWhile p).head? = some x) : p x = false := by
 induction l with
 | nil => cases h
 | cons y l ih =>
  rw [List.dropWhile_cons] at h
  split at h
  ·
   exact ih h
  next hy => injection h with h; subst h; simpa using hy
theorem lexStep_skip_cases {x : UInt8} {l : List UInt8} {k : Nat} (h : lexStep (x :: l) = .skip k) : (isBlank x = true ∧ k = 1 ∧ (x == 35) = false) ∨ ((x == 35) = true ∧ k = 1 + (l.takeWhile (· != 10)).length) := by
 simp only [lexStep] at h
 split at h
 ·
  next hb =>
  injection h with h
  refine Or.inl ⟨hb, h.symm, ?_⟩
  rcases hx : x == 35 with _ | _
  ·
   rfl
  have : x = 35 := by simpa using hx
  subst this
  revert hb; decide
 split at h
 ·
  next hx => injection h with h; exact Or.inr ⟨hx, h.symm⟩
 split at h
 ·
  split at h <;> cases h
 split at h
 ·
  split at h <;> cases h
 split at h <;> cases h
theorem lexA_gap (p : Nat) (l : List UInt8) (h : (lexA p l).2 = none) :
  ((lexA p l).1 = [] ∧ gapA l = true) ∨ ∃ t ts g r, (lexA p l).1 = t :: ts ∧ l = g ++ t.text ++ r ∧ gapA g = true ∧ t.pos = p + g.length ∧ t.good ∧ lexA (t.pos + t.text.length) r = (ts, none) := by
 induction p, l using lexInd with
 | nil p => exact Or.inl ⟨rfl, rfl⟩
 | skip p x l k hs h1 h2 ih =>
  rw [lexA_skip hs] at h ⊢
  rcases lexStep_skip_cases hs with ⟨hb, rfl, hx⟩ | ⟨hx, rfl⟩
  ·
   rcases ih h with ⟨a1, a2⟩ | ⟨t, ts, g, r, a1, a2, a3, a4, a5, a6⟩
   ·
    refine Or.inl ⟨a1, ?_⟩
    rw [gapA_cons, hx, hb]
    exact a2
   refine Or.inr ⟨t, ts, x :: g, r, a1, ?_, ?_, ?_, a5, a6⟩
   ·
    rw [List.drop_one, List.tail_cons] at a2
    rw [List.cons_append, List.cons_append, ← a2]
   ·
    rw [gapA_cons, hx, hb]
    exact a3
   rw [a4, List.length_cons]; omega
  have e : (x :: l).drop (1 + (l.takeWhile (· != 10)).length) = l.dropWhile (· != 10) := by
   rw [Nat.add_comm, List.drop_succ_cons, takeWhile_dropWhile]
  have e2 : l = l.takeWhile (· != 10) ++ l.dropWhile (· != 10) := (List.takeWhile_append_dropWhile ..).symm
  rw [e] at h ih ⊢
  rcases ih h with ⟨a1, a2⟩ | ⟨t, ts, g, r, a1, a2, a3, a4, a5, a6⟩
  ·
   refine Or.inl ⟨a1, ?_⟩
   rw [gapA_cons, hx]
   exact a2
  refine Or.inr ⟨t, ts, x :: (l.takeWhile (· != 10) ++ g), r, a1, ?_, ?_, ?_, a5, a6⟩
  ·
   rw [List.cons_append, List.cons_append, List.append_assoc, List.append_assoc, ← List.append_assoc g, ← a2, ← e2]
  ·
   rw [gapA_cons, hx, if_pos rfl, gapA_comment _ _ (tw_all _ _) ?_]
   ·
    exact a3
   intro y hy
   refine dropWhile_head (· != 10) l y ?_
   rw [a2]
   cases g with
   | nil => cases hy
   | cons z g => exact hy
  rw [a4, List.length_cons, List.length_append]; omega
 | tok p x l kd n k hs h1 h2 ih =>
  have hg := lexA_good p (x :: l)
  rw [lexA_tok hs] at h hg ⊢
  refine Or.inr ⟨_, _, [], (x :: l).drop k, rfl, ?_, rfl, rfl, hg _ (List.mem_cons_self ..), ?_⟩
  ·
   show x :: l = [] ++ (x :: l).take k ++ (x :: l).drop k
   rw [List.nil_append, List.take_append_drop]
  show lexA (p + ((x :: l).take k).length) _ = _
  rw [List.length_take, Nat.min_eq_left h2]
  exact Prod.ext rfl h
 | bad p x l hs => rw [lexA_bad' hs] at h; cases h
end Go.Proofs.YtcjhihmaegagdaaGreatDoor
namespace Go.Proofs.YtcjhihmaegagdaaGreatDoor
open Go.Lib
def Same (ts us : List Tok) : Prop := ts.map Tok.key = us.map Tok.key
theorem Same.refl (ts : List Tok) : Same ts ts := rfl
theorem Same.length {ts us : List Tok} (h : Same ts us) : ts.length = us.length := by
 have := congrArg List.length h
 simpa using this
theorem Same.cases {ts us : List Tok} (h : Same ts us) : (ts = [] ∧ us = []) ∨ ∃ t u ts' us', ts = t :: ts' ∧ us = u :: us' ∧ t.kind = u.kind ∧ t.n = u.n ∧ t.text = u.text ∧ Same ts' us' := by
 unfold Same at h
 cases ts with
 | nil =>
  cases us with
  | nil => exact Or.inl ⟨rfl, rfl⟩
  | cons u us => cases h
 | cons t ts =>
  cases us with
  | nil => cases h
  | cons u us =>
   simp only [List.map_cons, List.cons.injEq, Tok.key, Key.mk.injEq] at h
   exact Or.inr ⟨t, u, ts, us, rfl, rfl, h.1.1, h.1.2.1, h.1.2.2, h.2⟩
def Rs.like {α : Type} : Rs α → Rs α → Prop
 | .ok a r, .ok b s => a = b ∧ Same r s
 | .err r e, .err s f => e = f ∧ Same r s
 | _, _ => False
theorem Rs.like_bind {α β : Type} {p q : Rs α} {f g : α → List Tok → Rs β} (h : p.like q) (k : ∀ a r s, Same r s → (f a r).like (g a s)) : (p.bind f).like (q.bind g) := by
 cases p with
 | ok a r =>
  cases q with
  | ok b s => obtain ⟨rfl, h⟩ := h; exact k a r s h
  | err s e => exact h.elim
 | err r e =>
  cases q with
  | ok b s => exact h.elim
  | err s f => exact h
theorem hasR_like (s : List UInt8) {ts us : List Tok} (h : Same ts us) : (hasR s ts = none ∧ hasR s us = none) ∨ ∃ r r', hasR s ts = some r ∧ hasR s us = some r' ∧ Same r r' := by
 rcases h.cases with ⟨rfl, rfl⟩ | ⟨t, u, ts, us, rfl, rfl, h1, h2, h3, h4⟩
 ·
  exact Or.inl ⟨rfl, rfl⟩
 simp only [hasR, h3]
 by_cases e : u.text = s
 ·
  rw [if_pos e, if_pos e]; exact Or.inr ⟨_, _, rfl, rfl, h4⟩
 rw [if_neg e, if_neg e]; exact Or.inl ⟨rfl, rfl⟩
theorem wantR_like (s : List UInt8) {ts us : List Tok} (h : Same ts us) : (wantR s ts).like (wantR s us) := by
 unfold wantR
 rcases hasR_like s h with ⟨h1, h2⟩ | ⟨r, r', h1, h2, h3⟩
 ·
  rw [h1, h2]; exact ⟨rfl, h⟩
 rw [h1, h2]; exact ⟨rfl, h3⟩
theorem wantsR_like (l : List (List UInt8)) {ts us : List Tok} (h : Same ts us) : (wantsR l ts).like (wantsR l us) := by
 induction l generalizing ts us with
 | nil => exact ⟨rfl, h⟩
 | cons s l ih => exact Rs.like_bind (wantR_like s h) fun _ _ _ k => ih k
theorem numR_like {ts us : List Tok} (h : Same ts us) : (numR ts).like (numR us) := by
 have h' := h
 rcases h.cases with ⟨rfl, rfl⟩ | ⟨t, u, ts, us, rfl, rfl, h1, h2, h3, h4⟩
 ·
  exact ⟨rfl, h⟩
 simp only [numR, h1, h2]
 by_cases e : u.kind = 2
 ·
  rw [if_pos e, if_pos e]; exact ⟨rfl, h4⟩
 rw [if_neg e, if_neg e]; exact ⟨rfl, h'⟩
theorem wordR_like {ts us : List Tok} (h : Same ts us) : (wordR ts).like (wordR us) := by
 have h' := h
 rcases h.cases with ⟨rfl, rfl⟩ | ⟨t, u, ts, us, rfl, rfl, h1, h2, h3, h4⟩
 ·
  exact ⟨rfl, h⟩
 simp only [wordR, h1, h3]
 by_cases e : u.kind = 1 ∧ u.text ∉ keyWords
 ·
  rw [if_pos e, if_pos e]; exact ⟨rfl, h4⟩
 rw [if_neg e, if_neg e]; exact ⟨rfl, h'⟩
theorem newR_like (ns : List (List UInt8)) {ts us : List Tok} (h : Same ts us) : (newR ns ts).like (newR ns us) := by
 have hw := wordR_like h
 unfold newR
 rcases e1 : wordR ts with ⟨s, r⟩ | ⟨r, k⟩ <;> rcases e2 : wordR us with ⟨s', r'⟩ | ⟨r', k'⟩ <;> rw [e1, e2] at hw
 ·
  obtain ⟨rfl, hr⟩ := hw
  simp only [Rs.bind]
  cases idxR ns s with
  | some _ => exact ⟨rfl, h⟩
  | none => exact ⟨rfl, hr⟩
 ·
  exact hw.elim
 ·
  exact hw.elim
 exact hw
theorem oldR_like (ns : List (List UInt8)) {ts us : List Tok} (h : Same ts us) : (oldR ns ts).like (oldR ns us) := by
 have hw := wordR_like h
 unfold oldR
 rcases e1 : wordR ts with ⟨s, r⟩ | ⟨r, k⟩ <;> rcases e2 : wordR us with ⟨s', r'⟩ | ⟨r', k'⟩ <;> rw [e1, e2] at hw
 ·
  obtain ⟨rfl, hr⟩ := hw
  simp only [Rs.bind]
  cases idxR ns s with
  | some i => exact ⟨rfl, hr⟩
  | none => exact ⟨rfl, h⟩
 ·
  exact hw.elim
 ·
  exact hw.elim
 exact hw
theorem brkR_like (m : Nat) (v : Vc) {ts us : List Tok} (h : Same ts us) : (brkR m v ts).like (brkR m v us) := by
 induction m generalizing v ts us with
 | zero =>
  unfold brkR
  rcases hasR_like mClose h with ⟨h1, h2⟩ | ⟨r, r', h1, h2, h3⟩
  ·
   rw [h1, h2]; exact ⟨rfl, h⟩
  rw [h1, h2]; exact ⟨rfl, h3⟩
 | succ m ih =>
  unfold brkR
  rcases hasR_like mClose h with ⟨h1, h2⟩ | ⟨r, r', h1, h2, h3⟩
  ·
   rw [h1, h2]
   simp only []
   rcases hasR_like mMinus h with ⟨g1, g2⟩ | ⟨r, r', g1, g2, g3⟩
   ·
    rw [g1, g2]; exact Rs.like_bind (numR_like h) fun _ _ _ k => ih _ k
   rw [g1, g2]; exact Rs.like_bind (numR_like g3) fun _ _ _ k => ih _ k
  rw [h1, h2]; exact ⟨rfl, h3⟩
theorem ivalR_like {ts us : List Tok} (h : Same ts us) : (ivalR ts).like (ivalR us) := by
 unfold ivalR
 rcases hasR_like mOpen h with ⟨h1, h2⟩ | ⟨r, r', h1, h2, h3⟩
 ·
  rw [h1, h2]
  simp only []
  refine Rs.like_bind (numR_like h) fun n _ _ k => ?_
  refine Rs.like_bind (wantR_like _ k) fun _ _ _ k => ?_
  refine Rs.like_bind (numR_like k) fun d _ _ k => ?_
  cases ratioV n d with
  | some v => exact ⟨rfl, k⟩
  | none => exact ⟨rfl, h⟩
 rw [h1, h2]; exact brkR_like 6 vc0 h3
theorem atR_like (t : Bool) {ts us : List Tok} (h : Same ts us) : (atR t ts).like (atR t us) := by
 unfold atR
 cases t with
 | true => exact ⟨rfl, h⟩
 | false =>
  simp only [Bool.false_eq_true, if_false]
  rcases hasR_like kw_at h with ⟨h1, h2⟩ | ⟨r, r', h1, h2, h3⟩
  ·
   rw [h1, h2]; exact ⟨rfl, h⟩
  rw [h1, h2]; exact ivalR_like h3
theorem byR_like {ts us : List Tok} (h : Same ts us) : (byR ts).like (byR us) := by
 unfold byR
 rcases hasR_like kw_by h with ⟨h1, h2⟩ | ⟨r, r', h1, h2, h3⟩
 ·
  rw [h1, h2]; exact ⟨rfl, h⟩
 rw [h1, h2]; exact ivalR_like h3
theorem withinR_like {ts us : List Tok} (h : Same ts us) : (withinR ts).like (withinR us) := by
 unfold withinR
 rcases hasR_like kw_within h with ⟨h1, h2⟩ | ⟨r, r', h1, h2, h3⟩
 ·
  rw [h1, h2]; exact ⟨rfl, h⟩
 rw [h1, h2]; exact numR_like h3
theorem noteR_like (t : Bool) (d : Drf) {ts us : List Tok} (h : Same ts us) : (noteR t d ts).like (noteR t d us) :=
 Rs.like_bind (newR_like _ h) fun _ _ _ k => Rs.like_bind (wantsR_like _ k) fun _ _ _ k => Rs.like_bind (numR_like k) fun _ _ _ k => Rs.like_bind (wantsR_like _ k) fun _ _ _ k => Rs.like_bind (numR_like k) fun _ _ _ k =>
  Rs.like_bind (wantsR_like _ k) fun _ _ _ k => Rs.like_bind (numR_like k) fun _ _ _ k => Rs.like_bind (atR_like _ k) fun _ _ _ k => Rs.like_bind (wantsR_like _ k) fun _ _ _ k => ⟨rfl, k⟩
theorem pairR_like (d : Drf) {ts us : List Tok} (h : Same ts us) : (pairR d ts).like (pairR d us) :=
 Rs.like_bind (oldR_like _ h) fun _ _ _ k => Rs.like_bind (oldR_like _ k) fun _ _ _ k => Rs.like_bind (byR_like k) fun _ _ _ k => Rs.like_bind (withinR_like k) fun _ _ _ k => Rs.like_bind (wantsR_like _ k) fun _ _ _ k => ⟨rfl, k⟩
theorem cadR_like (d : Drf) {ts us : List Tok} (h : Same ts us) : (cadR d ts).like (cadR d us) :=
 Rs.like_bind (numR_like h) fun _ _ _ k => Rs.like_bind (wantsR_like _ k) fun _ _ _ k => ⟨rfl, k⟩
theorem itemR_like (s : List UInt8) (d : Drf) {ts us : List Tok} (h : Same ts us) : (itemR s d ts = none ∧ itemR s d us = none) ∨ ∃ p q, itemR s d ts = some p ∧ itemR s d us = some q ∧ p.like q := by
 unfold itemR
 by_cases h1 : s = kw_note
 ·
  rw [if_pos h1, if_pos h1]; exact Or.inr ⟨_, _, rfl, rfl, noteR_like _ _ h⟩
 rw [if_neg h1, if_neg h1]
 by_cases h2 : s = kw_tied
 ·
  rw [if_pos h2, if_pos h2]; exact Or.inr ⟨_, _, rfl, rfl, noteR_like _ _ h⟩
 rw [if_neg h2, if_neg h2]
 by_cases h3 : s = kw_pair
 ·
  rw [if_pos h3, if_pos h3]; exact Or.inr ⟨_, _, rfl, rfl, pairR_like _ h⟩
 rw [if_neg h3, if_neg h3]
 by_cases h4 : s = kw_cadence
 ·
  rw [if_pos h4, if_pos h4]; exact Or.inr ⟨_, _, rfl, rfl, cadR_like _ h⟩
 rw [if_neg h4, if_neg h4]
 exact Or.inl ⟨rfl, rfl⟩
theorem itemsR_like (f : Nat) (d : Drf) {ts us : List Tok} (h : Same ts us) : (itemsR f d ts).like (itemsR f d us) := by
 induction f generalizing d ts us with
 | zero =>
  rcases h.cases with ⟨rfl, rfl⟩ | ⟨t, u, ts, us, rfl, rfl, h1, h2, h3, h4⟩
  ·
   exact ⟨rfl, h⟩
  exact ⟨rfl, h⟩
 | succ f ih =>
  have h' := h
  rcases h.cases with ⟨rfl, rfl⟩ | ⟨t, u, ts, us, rfl, rfl, h1, h2, h3, h4⟩
  ·
   exact ⟨rfl, h⟩
  simp only [itemsR, h3]
  rcases itemR_like u.text d h4 with ⟨e1, e2⟩ | ⟨p, q, e1, e2, e3⟩
  ·
   rw [e1, e2]; exact ⟨rfl, h'⟩
  rw [e1, e2]; exact Rs.like_bind e3 fun _ _ _ k => ih _ k
theorem readR_like {ts us : List Tok} (h : Same ts us) : (readR ts).like (readR us) :=
 Rs.like_bind (wantsR_like _ h) fun _ _ _ k => Rs.like_bind (numR_like k) fun _ _ _ k => Rs.like_bind (wantsR_like _ k) fun _ r s k => by
  rw [k.length]; exact itemsR_like _ _ k
def Ext {α : Type} (f : List Tok → Rs α) : Prop := ∀ ts us a r, f ts = .ok a r → r ≠ [] → f (ts ++ us) = .ok a (r ++ us)
def Fin {α : Type} (f : List Tok → Rs α) : Prop := ∀ ts us a r, f ts = .ok a r → f (ts ++ us) = .ok a (r ++ us)
theorem Fin.ext {α : Type} {f : List Tok → Rs α} (h : Fin f) : Ext f := fun ts us a r e _ => h ts us a r e
theorem suf_ne {r s : List Tok} (h : r <:+ s) (hr : r ≠ []) : s ≠ [] := by
 rintro rfl
 exact hr (List.suffix_nil.1 h)
theorem Ext.bind {α β : Type} {f : List Tok → Rs α} {g : α → List Tok → Rs β} (hf : Ext f) (hg : ∀ a, Ext (g a)) (hs : ∀ a ts, (g a ts).suf ts) : Ext fun ts => (f ts).bind g := by
 intro ts us b r h hr
 obtain ⟨a, r1, h1, h2⟩ := Rs.bind_ok h
 have s1 := hs a r1
 rw [h2] at s1
 show (f (ts ++ us)).bind g = _
 rw [hf ts us a r1 h1 (suf_ne s1 hr)]
 exact hg a r1 us b r h2 hr
theorem Fin.last {α β : Type} {f : List Tok → Rs α} {s : List UInt8} {g : α → β} (hf : Ext f) : Fin fun ts => (f ts).bind fun a r => (wantsR [s] r).bind fun _ r => .ok (g a) r := by
 intro ts us b r h
 obtain ⟨a, r1, h1, h2⟩ := Rs.bind_ok h
 cases r1 with
 | nil => cases h2
 | cons t l =>
  show (f (ts ++ us)).bind _ = _
  rw [hf ts us a _ h1 (by intro e; cases e)]
  simp only [Rs.bind, wantsR, wantR, hasR, List.cons_append] at h2 ⊢
  by_cases e : t.text = s
  ·
   rw [if_pos e] at h2 ⊢
   simp only [Rs.ok.injEq] at h2 ⊢
   exact ⟨h2.1, by rw [h2.2]⟩
  rw [if_neg e] at h2; cases h2
theorem hasR_app (s : List UInt8) {ts : List Tok} (us : List Tok) (h : ts ≠ []) : hasR s (ts ++ us) = (hasR s ts).map (· ++ us) := by
 cases ts with
 | nil => exact absurd rfl h
 | cons t l =>
  simp only [hasR, List.cons_append]
  split <;> rfl
theorem hasR_ne {s : List UInt8} {ts r : List Tok} (h : hasR s ts = some r) : ts ≠ [] := by
 rintro rfl
 cases h
theorem wantR_fin (s : List UInt8) : Fin (wantR s) := by
 intro ts us a r h
 unfold wantR at h ⊢
 cases e : hasR s ts with
 | none => rw [e] at h; cases h
 | some q =>
  rw [hasR_app s us (hasR_ne e), e]
  rw [e] at h
  simp only [Rs.ok.injEq] at h
  simp only [Option.map_some, Rs.ok.injEq]
  exact ⟨h.1, by rw [h.2]⟩
theorem wantsR_ext (l : List (List UInt8)) : Ext (wantsR l) := by
 induction l with
 | nil =>
  intro ts us a r h _
  injection h with h1 h2
  subst h2
  rfl
 | cons s l ih => exact Ext.bind (wantR_fin s).ext (fun _ => ih) fun _ _ => wantsR_suf _ _
theorem numR_fin : Fin numR := by
 intro ts us a r h
 cases ts with
 | nil => cases h
 | cons t l =>
  simp only [numR, List.cons_append] at h ⊢
  split at h
  ·
   next e =>
   rw [if_pos e]
   injection h with h1 h2
   subst h1 h2
   rfl
  cases h
theorem wordR_fin : Fin wordR := by
 intro ts us a r h
 cases ts with
 | nil => cases h
 | cons t l =>
  simp only [wordR, List.cons_append] at h ⊢
  split at h
  ·
   next e =>
   rw [if_pos e]
   injection h with h1 h2
   subst h1 h2
   rfl
  cases h
theorem newR_fin (ns : List (List UInt8)) : Fin (newR ns) := by
 intro ts us a r h
 unfold newR at h ⊢
 obtain ⟨s, r1, h1, h2⟩ := Rs.bind_ok h
 rw [wordR_fin ts us s r1 h1]
 simp only [Rs.bind]
 split at h2
 ·
  cases h2
 injection h2 with h3 h4
 subst h3 h4
 rfl
theorem oldR_fin (ns : List (List UInt8)) : Fin (oldR ns) := by
 intro ts us a r h
 unfold oldR at h ⊢
 obtain ⟨s, r1, h1, h2⟩ := Rs.bind_ok h
 rw [wordR_fin ts us s r1 h1]
 simp only [Rs.bind]
 split at h2
 ·
  injection h2 with h3 h4
  subst h3 h4
  rfl
 cases h2
theorem brkR_fin (m : Nat) (v : Vc) : Fin (brkR m v) := by
 induction m generalizing v with
 | zero =>
  intro ts us a r h
  unfold brkR at h ⊢
  cases e : hasR mClose ts with
  | none => rw [e] at h; cases h
  | some q =>
   rw [hasR_app _ us (hasR_ne e), e]
   rw [e] at h
   injection h with h1 h2
   subst h1 h2
   rfl
 | succ m ih =>
  intro ts us a r h
  have hne : ts ≠ [] := by
   rintro rfl
   cases h
  unfold brkR at h ⊢
  rw [hasR_app _ us hne, hasR_app _ us hne]
  cases e : hasR mClose ts with
  | some q =>
   rw [e] at h
   injection h with h1 h2
   subst h1 h2
   rfl
  | none =>
   rw [e] at h
   simp only [Option.map_none]
   cases e2 : hasR mMinus ts with
   | some q =>
    rw [e2] at h
    simp only [Option.map_some]
    obtain ⟨n, r1, h1, h2⟩ := Rs.bind_ok h
    rw [numR_fin q us n r1 h1]
    exact ih _ r1 us a r h2
   | none =>
    rw [e2] at h
    simp only [Option.map_none]
    obtain ⟨n, r1, h1, h2⟩ := Rs.bind_ok h
    rw [numR_fin ts us n r1 h1]
    exact ih _ r1 us a r h2
theorem ivalR_fin : Fin ivalR := by
 intro ts us a r h
 have hne : ts ≠ [] := by
  rintro rfl
  cases h
 unfold ivalR at h ⊢
 rw [hasR_app _ us hne]
 cases e : hasR mOpen ts with
 | some q =>
  rw [e] at h
  exact brkR_fin 6 vc0 q us a r h
 | none =>
  rw [e] at h
  simp only [Option.map_none]
  obtain ⟨n, r1, h1, h2⟩ := Rs.bind_ok h
  obtain ⟨u, r2, h3, h4⟩ := Rs.bind_ok h2
  obtain ⟨d, r3, h5, h6⟩ := Rs.bind_ok h4
  rw [numR_fin ts us n r1 h1]
  simp only [Rs.bind]
  rw [wantR_fin mSlash r1 us u r2 h3]
  simp only [Rs.bind]
  rw [numR_fin r2 us d r3 h5]
  simp only [Rs.bind]
  cases hq : ratioV n d with
  | none => rw [hq] at h6; cases h6
  | some v =>
   rw [hq] at h6
   injection h6 with h7 h8
   subst h7 h8
   rfl
theorem atR_ext (t : Bool) : Ext (atR t) := by
 intro ts us a r h hr
 have hs := atR_suf t ts
 rw [h] at hs
 have hne := suf_ne hs hr
 unfold atR at h ⊢
 cases t with
 | true =>
  simp only [if_true] at h ⊢
  injection h with h1 h2
  subst h1 h2
  rfl
 | false =>
  simp only [Bool.false_eq_true, if_false] at h ⊢
  rw [hasR_app _ us hne]
  cases e : hasR kw_at ts with
  | some q => rw [e] at h; exact ivalR_fin q us a r h
  | none =>
   rw [e] at h
   injection h with h1 h2
   subst h1 h2
   rfl
theorem byR_ext : Ext byR := by
 intro ts us a r h hr
 have hs := byR_suf ts
 rw [h] at hs
 have hne := suf_ne hs hr
 unfold byR at h ⊢
 rw [hasR_app _ us hne]
 cases e : hasR kw_by ts with
 | some q => rw [e] at h; exact ivalR_fin q us a r h
 | none =>
  rw [e] at h
  injection h with h1 h2
  subst h1 h2
  rfl
theorem withinR_ext : Ext withinR := by
 intro ts us a r h hr
 have hs := withinR_suf ts
 rw [h] at hs
 have hne := suf_ne hs hr
 unfold withinR at h ⊢
 rw [hasR_app _ us hne]
 cases e : hasR kw_within ts with
 | some q => rw [e] at h; exact numR_fin q us a r h
 | none =>
  rw [e] at h
  injection h with h1 h2
  subst h1 h2
  rfl
theorem Rs.ne_of_semi {α : Type} {s : List UInt8} {g : α} {r q : List Tok} {d : α} (h : ((wantsR [s] r).bind fun _ r => Rs.ok g r) = .ok d q) : r ≠ [] := by
 rintro rfl
 cases h
theorem semi_fin {α : Type} {s : List UInt8} (g : α) : Fin fun r => (wantsR [s] r).bind fun _ r => Rs.ok g r := by
 intro ts us a r h
 have := Fin.last (α := Unit) (β := α) (f := fun ts => Rs.ok () ts) (s := s) (g := fun _ => g) (fun ts us a r h _ => by injection h with h1 h2; subst h2; rfl) ts us a r h
 exact this
theorem noteR_fin (t : Bool) (d : Drf) : Fin (noteR t d) := by
 intro ts us q r h
 unfold noteR at h ⊢
 obtain ⟨a1, r1, e1, h⟩ := Rs.bind_ok h
 obtain ⟨a2, r2, e2, h⟩ := Rs.bind_ok h
 obtain ⟨a3, r3, e3, h⟩ := Rs.bind_ok h
 obtain ⟨a4, r4, e4, h⟩ := Rs.bind_ok h
 obtain ⟨a5, r5, e5, h⟩ := Rs.bind_ok h
 obtain ⟨a6, r6, e6, h⟩ := Rs.bind_ok h
 obtain ⟨a7, r7, e7, h⟩ := Rs.bind_ok h
 obtain ⟨a8, r8, e8, h⟩ := Rs.bind_ok h
 have n8 := Rs.ne_of_semi h
 have s8 := atR_suf t r7
 rw [e8] at s8
 have n7 := suf_ne s8 n8
 have s7 := numR_suf r6
 rw [e7] at s7
 have n6 := suf_ne s7 n7
 have s6 := wantsR_suf [kw_to] r5
 rw [e6] at s6
 have n5 := suf_ne s6 n6
 have s5 := numR_suf r4
 rw [e5] at s5
 have n4 := suf_ne s5 n5
 have s4 := wantsR_suf [kw_from] r3
 rw [e4] at s4
 have n3 := suf_ne s4 n4
 have s3 := numR_suf r2
 rw [e3] at s3
 have n2 := suf_ne s3 n3
 rw [newR_fin _ ts us a1 r1 e1]
 simp only [Rs.bind]
 rw [wantsR_ext _ r1 us a2 r2 e2 n2]
 simp only [Rs.bind]
 rw [numR_fin r2 us a3 r3 e3]
 simp only [Rs.bind]
 rw [wantsR_ext _ r3 us a4 r4 e4 n4]
 simp only [Rs.bind]
 rw [numR_fin r4 us a5 r5 e5]
 simp only [Rs.bind]
 rw [wantsR_ext _ r5 us a6 r6 e6 n6]
 simp only [Rs.bind]
 rw [numR_fin r6 us a7 r7 e7]
 simp only [Rs.bind]
 rw [atR_ext t r7 us a8 r8 e8 n8]
 exact semi_fin _ r8 us q r h
theorem pairR_fin (d : Drf) : Fin (pairR d) := by
 intro ts us q r h
 unfold pairR at h ⊢
 obtain ⟨a1, r1, e1, h⟩ := Rs.bind_ok h
 obtain ⟨a2, r2, e2, h⟩ := Rs.bind_ok h
 obtain ⟨a3, r3, e3, h⟩ := Rs.bind_ok h
 obtain ⟨a4, r4, e4, h⟩ := Rs.bind_ok h
 have n4 := Rs.ne_of_semi h
 have s4 := withinR_suf r3
 rw [e4] at s4
 have n3 := suf_ne s4 n4
 rw [oldR_fin _ ts us a1 r1 e1]
 simp only [Rs.bind]
 rw [oldR_fin _ r1 us a2 r2 e2]
 simp only [Rs.bind]
 rw [byR_ext r2 us a3 r3 e3 n3]
 simp only [Rs.bind]
 rw [withinR_ext r3 us a4 r4 e4 n4]
 exact semi_fin _ r4 us q r h
theorem cadR_fin (d : Drf) : Fin (cadR d) := by
 intro ts us q r h
 unfold cadR at h ⊢
 obtain ⟨a1, r1, e1, h⟩ := Rs.bind_ok h
 rw [numR_fin ts us a1 r1 e1]
 exact semi_fin _ r1 us q r h
theorem itemR_fin (s : List UInt8) (d d2 : Drf) (ts us r : List Tok) (h : itemR s d ts = some (.ok d2 r)) : itemR s d (ts ++ us) = some (.ok d2 (r ++ us)) := by
 unfold itemR at h ⊢
 split at h
 ·
  next e => rw [if_pos e]; injection h with h; rw [noteR_fin _ _ ts us d2 r h]
 next e1 =>
 rw [if_neg e1]
 split at h
 ·
  next e => rw [if_pos e]; injection h with h; rw [noteR_fin _ _ ts us d2 r h]
 next e2 =>
 rw [if_neg e2]
 split at h
 ·
  next e => rw [if_pos e]; injection h with h; rw [pairR_fin _ ts us d2 r h]
 next e3 =>
 rw [if_neg e3]
 split at h
 ·
  next e => rw [if_pos e]; injection h with h; rw [cadR_fin _ ts us d2 r h]
 cases h
theorem itemR_short {s : List UInt8} {d : Drf} {ts : List Tok} {q : Rs Drf} (h : itemR s d ts = some q) : match q with | .ok _ r => r.length ≤ ts.length | .err r _ => r.length ≤ ts.length := by
 have := itemR_suf h
 cases q with
 | ok a r => exact List.IsSuffix.length_le this
 | err r e => exact List.IsSuffix.length_le this
theorem itemsR_fuel (f g : Nat) (d : Drf) (ts : List Tok) (hf : ts.length ≤ f) (hg : ts.length ≤ g) : itemsR f d ts = itemsR g d ts := by
 induction f generalizing g d ts with
 | zero =>
  obtain rfl := List.eq_nil_of_length_eq_zero (show ts.length = 0 by omega)
  rw [itemsR_nil, itemsR_nil]
 | succ f ih =>
  cases ts with
  | nil => rw [itemsR_nil, itemsR_nil]
  | cons t ts =>
   obtain ⟨g, rfl⟩ : ∃ g', g = g' + 1 := ⟨g - 1, by simp at hg; omega⟩
   simp only [List.length_cons] at hf hg
   simp only [itemsR]
   cases e : itemR t.text d ts with
   | none => rfl
   | some q =>
    have := itemR_short e
    cases q with
    | err r k => rfl
    | ok d2 r =>
     simp only at this
     exact ih g d2 r (by omega) (by omega)
def itemsA (d : Drf) (ts : List Tok) : Rs Drf := itemsR ts.length d ts
theorem itemsA_nil (d : Drf) : itemsA d [] = .ok d [] := rfl
theorem itemsA_cons (d : Drf) (t : Tok) (ts : List Tok) : itemsA d (t :: ts) = match itemR t.text d ts with | some q => q.bind itemsA | none => .err (t :: ts) 10 := by
 unfold itemsA
 rw [List.length_cons, itemsR]
 cases e : itemR t.text d ts with
 | none => rfl
 | some q =>
  have := itemR_short e
  cases q with
  | err r k => rfl
  | ok d2 r =>
   simp only at this
   exact itemsR_fuel _ _ _ _ this (Nat.le_refl _)
theorem itemsA_app (d d2 : Drf) (ts us : List Tok) (h : itemsA d ts = .ok d2 []) : itemsA d (ts ++ us) = itemsA d2 us := by
 obtain ⟨m, hm⟩ : ∃ m, m = ts.length := ⟨_, rfl⟩
 induction m using Nat.strongRecOn generalizing d ts with
 | _ m ih =>
  cases ts with
  | nil => rw [itemsA_nil] at h; injection h with h; subst h; rfl
  | cons t ts =>
   rw [List.cons_append, itemsA_cons]
   rw [itemsA_cons] at h
   cases e : itemR t.text d ts with
   | none => rw [e] at h; cases h
   | some q =>
    rw [e] at h
    simp only at h
    obtain ⟨d3, r, e2, h⟩ := Rs.bind_ok h
    subst e2
    rw [itemR_fin _ _ _ ts us _ e]
    have := itemR_short e
    simp only at this
    exact ih r.length (by rw [hm]; simp; omega) d3 r h rfl
theorem readR_app (d : Drf) (ts us : List Tok) (h : readR ts = .ok d []) : readR (ts ++ us) = itemsA d us := by
 unfold readR at h ⊢
 obtain ⟨a1, r1, e1, h⟩ := Rs.bind_ok h
 obtain ⟨a2, r2, e2, h⟩ := Rs.bind_ok h
 have n1 : r1 ≠ [] := by
  rintro rfl
  cases e2
 rw [wantsR_ext _ ts us a1 r1 e1 n1]
 simp only [Rs.bind]
 rw [numR_fin r1 us a2 r2 e2]
 simp only [Rs.bind]
 obtain ⟨a3, r3, e3, h⟩ := Rs.bind_ok h
 have hw : wantsR [mSemi] (r2 ++ us) = .ok a3 (r3 ++ us) := by
  have h3 := semi_fin (s := mSemi) () r2 us () r3 (by show ((wantsR [mSemi] r2).bind fun x r => Rs.ok () r) = _; rw [e3]; rfl)
  cases hq : wantsR [mSemi] (r2 ++ us) with
  | ok a r => 
   simp only [hq, Rs.bind, Rs.ok.injEq, true_and] at h3
   rw [h3]
  | err r k =>
   simp only [hq, Rs.bind] at h3
   cases h3
 rw [hw]
 simp only [Rs.bind]
 exact itemsA_app _ _ r3 us h
theorem itemsA_end (d d2 : Drf) (ts r : List Tok) (h : itemsA d ts = .ok d2 r) : r = [] := by
 obtain ⟨m, hm⟩ : ∃ m, m = ts.length := ⟨_, rfl⟩
 induction m using Nat.strongRecOn generalizing d ts with
 | _ m ih =>
  cases ts with
  | nil => rw [itemsA_nil] at h; injection h with _ h; exact h.symm
  | cons t ts =>
   rw [itemsA_cons] at h
   cases e : itemR t.text d ts with
   | none => rw [e] at h; cases h
   | some q =>
    rw [e] at h
    simp only at h
    obtain ⟨d3, r3, e2, h⟩ := Rs.bind_ok h
    subst e2
    have := itemR_short e
    simp only at this
    exact ih r3.length (by rw [hm]; simp; omega) d3 r3 h rfl
theorem readR_end (d : Drf) (ts r : List Tok) (h : readR ts = .ok d r) : r = [] := by
 unfold readR at h
 obtain ⟨a1, r1, e1, h⟩ := Rs.bind_ok h
 obtain ⟨a2, r2, e2, h⟩ := Rs.bind_ok h
 obtain ⟨a3, r3, e3, h⟩ := Rs.bind_ok h
 exact itemsA_end _ _ _ _ h
theorem itemsA_suf (d : Drf) (ts : List Tok) : (itemsA d ts).suf ts := by
 obtain ⟨m, hm⟩ : ∃ m, m = ts.length := ⟨_, rfl⟩
 induction m using Nat.strongRecOn generalizing d ts with
 | _ m ih =>
  cases ts with
  | nil => exact Rs.suf_ok _
  | cons t ts =>
   rw [itemsA_cons]
   cases e : itemR t.text d ts with
   | none => exact Rs.suf_err _
   | some q =>
    have h1 := itemR_suf e
    have h2 := itemR_short e
    simp only
    cases q with
    | err r k => exact List.IsSuffix.trans h1 (List.suffix_cons t ts)
    | ok d3 r =>
     simp only at h2
     exact Rs.suf_up (ih r.length (by rw [hm]; simp; omega) d3 r rfl) (List.IsSuffix.trans h1 (List.suffix_cons t ts))
end Go.Proofs.YtcjhihmaegagdaaGreatDoor
namespace Go.Proofs.YtcjhihmaegagdaaGreatDoor
open Go.Lib
def LexTo (l : List UInt8) (ks : List Key) : Prop := ∀ p, (lexA p l).2 = none ∧ (lexA p l).1.map Tok.key = ks
theorem LexTo.nil : LexTo [] [] := fun _ => ⟨rfl, rfl⟩
theorem LexTo.skip1 {c : UInt8} {l : List UInt8} {ks : List Key} (hc : isBlank c = true) (h : LexTo l ks) : LexTo (c :: l) ks := fun p => by
 have hs : lexStep (c :: l) = .skip 1 := by simp only [lexStep, if_pos hc]
 rw [lexA_skip hs]
 exact h (p + 1)
theorem LexTo.sp {l : List UInt8} {ks : List Key} (h : LexTo l ks) : LexTo (32 :: l) ks := h.skip1 rfl
theorem LexTo.lf {l : List UInt8} {ks : List Key} (h : LexTo l ks) : LexTo (10 :: l) ks := h.skip1 rfl
theorem LexTo.tok {w l : List UInt8} {kd n : Nat} {ks : List Key} (hw : lexStep (w ++ l) = .tok kd n w.length) (h : LexTo l ks) : LexTo (w ++ l) (⟨kd, n, w⟩ :: ks) := fun p => by
 rw [lexA_tok hw, List.drop_left, List.take_left]
 have := h (p + w.length)
 exact ⟨this.1, by simp only [List.map_cons, this.2]; rfl⟩
def wK (s : List UInt8) : Key := ⟨1, 0, s⟩
def nK (n : Nat) : Key := ⟨2, n, decDigits n⟩
def mK (s : List UInt8) : Key := ⟨3, 0, s⟩
def Stops (p : UInt8 → Bool) (l : List UInt8) : Prop := ∀ c, l.head? = some c → p c = false
theorem takeWhile_app {α : Type} (p : α → Bool) (w l : List α) (hw : ∀ x ∈ w, p x = true) (hl : ∀ c, l.head? = some c → p c = false) : (w ++ l).takeWhile p = w := by
 induction w with
 | nil =>
  cases l with
  | nil => rfl
  | cons c l => rw [List.nil_append, List.takeWhile_cons, if_neg (by rw [hl c rfl]; decide)]
 | cons x w ih =>
  rw [List.cons_append, List.takeWhile_cons, if_pos (hw x (List.mem_cons_self ..)), ih fun y hy => hw y (List.mem_cons_of_mem _ hy)]
def WordOk (w : List UInt8) : Prop := ∃ x l, w = x :: l ∧ isLow x = true ∧ (∀ y ∈ l, isWord y = true) ∧ l.length < 16
theorem low_not {x : UInt8} (h : isLow x = true) : isBlank x = false ∧ (x == 35) = false := by
 simp only [isLow, Bool.and_eq_true, decide_eq_true_eq] at h
 have hn : ∀ y : UInt8, y.toNat < 97 → x ≠ y := fun y hy e => by subst e; omega
 refine ⟨?_, by simpa using hn 35 (by decide)⟩
 simp only [isBlank, Bool.or_eq_false_iff, beq_eq_false_iff_ne]
 exact ⟨⟨hn 32 (by decide), hn 9 (by decide)⟩, hn 10 (by decide)⟩
theorem dig_not {x : UInt8} (h : isDig x = true) : isBlank x = false ∧ (x == 35) = false ∧ isLow x = false := by
 simp only [isDig, Bool.and_eq_true, decide_eq_true_eq] at h
 have hn : ∀ y : UInt8, y.toNat < 48 → x ≠ y := fun y hy e => by subst e; omega
 refine ⟨?_, by simpa using hn 35 (by decide), ?_⟩
 ·
  simp only [isBlank, Bool.or_eq_false_iff, beq_eq_false_iff_ne]
  exact ⟨⟨hn 32 (by decide), hn 9 (by decide)⟩, hn 10 (by decide)⟩
 simp only [isLow, Bool.and_eq_false_iff, decide_eq_false_iff_not]
 left; omega
theorem WordOk.step {w : List UInt8} (h : WordOk w) (l : List UInt8) (hl : Stops isWord l) : lexStep (w ++ l) = .tok 1 0 w.length := by
 obtain ⟨x, r, rfl, h1, h2, h3⟩ := h
 obtain ⟨n1, n2⟩ := low_not h1
 rw [List.cons_append]
 simp only [lexStep]
 rw [takeWhile_app isWord r l h2 hl, if_neg (by rw [n1]; decide), if_neg (by rw [n2]; decide), if_pos h1, if_neg (by omega), List.length_cons, Nat.add_comm]
theorem WordOk.lex {w l : List UInt8} {ks : List Key} (h : WordOk w) (hl : Stops isWord l) (hr : LexTo l ks) : LexTo (w ++ l) (wK w :: ks) := LexTo.tok (h.step l hl) hr
theorem dec_step (n : Nat) (hn : n ≤ 9999999) (l : List UInt8) (hl : Stops isDig l) : lexStep (decDigits n ++ l) = .tok 2 n (decDigits n).length := by
 obtain ⟨d1, d2, d3⟩ := decDigits_isDec n
 have hnum := num_dec n
 have hlen : (decDigits n).length ≤ 7 := by
  rw [decDigits_length]
  by_cases h7 : nDigits n ≤ 7
  ·
   exact h7
  exfalso
  have hge : ∀ u, 10 ^ (nDigits u - 1) ≤ u ∨ u = 0 := by
   intro u
   induction u using Nat.strongRecOn with
   | _ u ih =>
    by_cases h : u < 10
    ·
     rw [nDigits_small h]
     rcases Nat.eq_zero_or_pos u with e | e
     ·
      exact Or.inr e
     exact Or.inl (by show 10 ^ 0 ≤ u; rw [Nat.pow_zero]; exact e)
    rw [nDigits_big h, Nat.add_sub_cancel]
    rcases ih (u / 10) (by omega) with e | e
    ·
     left
     have hp := nDigits_pos (u / 10)
     obtain ⟨k, hk⟩ : ∃ k, nDigits (u / 10) = k + 1 := ⟨nDigits (u / 10) - 1, by omega⟩
     rw [hk] at e ⊢
     rw [Nat.add_sub_cancel] at e
     rw [Nat.pow_succ]
     omega
    omega
  rcases hge n with e | e
  ·
   have hp : 10 ^ 7 ≤ 10 ^ (nDigits n - 1) := Nat.pow_le_pow_right (by decide) (by omega)
   have : (10 : Nat) ^ 7 = 10000000 := by decide
   omega
  subst e
  rw [nDigits_small (by omega)] at h7
  omega
 obtain ⟨x, r, e⟩ : ∃ x r, decDigits n = x :: r := by
  cases h : decDigits n with
  | nil => exact absurd h d1
  | cons x r => exact ⟨x, r, rfl⟩
 rw [e] at d2 d3 hlen hnum ⊢
 have hx : isDig x = true := by
  have := d2 x (List.mem_cons_self ..)
  simp only [isDig, Bool.and_eq_true, decide_eq_true_eq]
  omega
 have hr : ∀ y ∈ r, isDig y = true := fun y hy => by
  have := d2 y (List.mem_cons_of_mem _ hy)
  simp only [isDig, Bool.and_eq_true, decide_eq_true_eq]
  omega
 obtain ⟨n1, n2, n3⟩ := dig_not hx
 rw [List.cons_append]
 simp only [lexStep]
 rw [takeWhile_app isDig r l hr hl, if_neg (by rw [n1]; decide), if_neg (by rw [n2]; decide), if_neg (by rw [n3]; decide), if_pos hx, if_neg, hnum, List.length_cons, Nat.add_comm]
 rintro (h | ⟨h, rfl⟩)
 ·
  simp only [List.length_cons] at hlen; omega
 have := d3 rfl
 simp only [List.length_cons] at this
 omega
theorem LexTo.num {n : Nat} {l : List UInt8} {ks : List Key} (hn : n ≤ 9999999) (hl : Stops isDig l) (hr : LexTo l ks) : LexTo (decDigits n ++ l) (nK n :: ks) := LexTo.tok (dec_step n hn l hl) hr
theorem LexTo.mark {m : UInt8} {l : List UInt8} {ks : List Key} (hm : isMark m = true) (hr : LexTo l ks) : LexTo (m :: l) (mK [m] :: ks) := by
 have hs : lexStep ([m] ++ l) = .tok 3 0 [m].length := by
  simp only [isMark, Bool.or_eq_true, beq_iff_eq] at hm
  rcases hm with ((((rfl | rfl) | rfl) | rfl) | rfl) | rfl <;> rfl
 exact LexTo.tok hs hr
theorem stops_cons {p : UInt8 → Bool} {c : UInt8} {l : List UInt8} (h : p c = false) : Stops p (c :: l) := fun x hx => by
 injection hx with hx
 rw [← hx]; exact h
theorem stops_nil {p : UInt8 → Bool} : Stops p [] := fun x hx => by cases hx
theorem Stops.app {p : UInt8 → Bool} {a b : List UInt8} (ha : Stops p a) (hb : Stops p b) : Stops p (a ++ b) := by
 cases a with
 | nil => exact hb
 | cons x a => exact fun c hc => ha c hc
def eK (x : Int) : List Key := if x < 0 then [mK mMinus, nK x.natAbs] else [nK x.natAbs]
def short (v : Vc) : Prop := prodS v ≤ 9999999 ∧ prodS v.neg ≤ 9999999
instance (v : Vc) : Decidable (short v) := by unfold short; exact inferInstance
def ivK (v : Vc) : List Key :=
 if short v then [nK (prodS v), mK mSlash, nK (prodS v.neg)] else mK mOpen :: (eK v.a ++ eK v.b ++ eK v.c ++ eK v.d ++ eK v.e ++ eK v.f) ++ [mK mClose]
def cadK (c : Int) : List Key := [wK kw_cadence, nK c.toNat, mK mSemi]
def noteK (nm : List UInt8) (n : Nte) : List Key :=
 [wK (if n.tied then kw_tied else kw_note), wK nm, mK mColon, wK kw_voice, nK n.voice.toNat, wK kw_from, nK n.start.toNat, wK kw_to, nK n.stop.toNat] ++ (if !n.tied && !decide (n.place = vc0) then wK kw_at :: ivK n.place else []) ++ [mK mSemi]
def pairK (na nb : List UInt8) (p : Par) : List Key :=
 [wK kw_pair, wK na, wK nb] ++ (if !decide (p.wish = vc0) then wK kw_by :: ivK p.wish else []) ++ (if 0 < p.bound then [wK kw_within, nK p.bound.toNat] else []) ++ [mK mSemi]
def headK (v : Int) : List Key := [wK kw_voices, nK v.toNat, mK mSemi]
theorem kw_ok : ∀ w ∈ keyWords, WordOk w := by
 intro w hw
 simp only [keyWords, List.mem_cons, List.not_mem_nil, or_false] at hw
 rcases hw with rfl | rfl | rfl | rfl | rfl | rfl | rfl | rfl | rfl | rfl | rfl <;> exact ⟨_, _, rfl, by decide, by decide, by decide⟩
theorem kw_lex {w l : List UInt8} {ks : List Key} (hw : w ∈ keyWords) (hr : LexTo l ks) : LexTo (w ++ 32 :: l) (wK w :: ks) := (kw_ok w hw).lex (stops_cons (by decide)) hr.sp
theorem itoa_pos {x : Int} (h : 0 ≤ x) : itoa x = decDigits x.toNat := by unfold itoa; rw [if_neg (by omega)]
theorem itoa_nat (n : Nat) : itoa (n : Int) = decDigits n := by rw [itoa_pos (by omega)]; simp
theorem num_lex {x : Int} {l : List UInt8} {ks : List Key} (h : 0 ≤ x) (h2 : x ≤ 9999999) (hl : Stops isDig l) (hr : LexTo l ks) : LexTo (itoa x ++ l) (nK x.toNat :: ks) := by
 rw [itoa_pos h]
 exact LexTo.num (by omega) hl hr
theorem e_lex {x : Int} {l : List UInt8} {ks : List Key} (h : x.natAbs ≤ 9999999) (hl : Stops isDig l) (hr : LexTo l ks) : LexTo (itoa x ++ l) (eK x ++ ks) := by
 unfold itoa eK
 by_cases hx : x < 0
 ·
  rw [if_pos hx, if_pos hx]
  exact LexTo.mark (m := 45) (by decide) (LexTo.num h hl hr)
 rw [if_neg hx, if_neg hx, show x.natAbs = x.toNat by omega]
 exact LexTo.num (by omega) hl hr
def Vc.lim (v : Vc) (m : Nat) : Prop := v.a.natAbs ≤ m ∧ v.b.natAbs ≤ m ∧ v.c.natAbs ≤ m ∧ v.d.natAbs ≤ m ∧ v.e.natAbs ≤ m ∧ v.f.natAbs ≤ m
theorem iv_lex {v : Vc} {l : List UInt8} {ks : List Key} (h : v.lim 9999999) (hl : Stops isDig l) (hr : LexTo l ks) : LexTo (writtenS v ++ l) (ivK v ++ ks) := by
 obtain ⟨h0, h1, h2, h3, h4, h5⟩ := h
 unfold writtenS ivK
 by_cases hs : short v
 ·
  have hs' : prodS v ≤ 9999999 ∧ prodS v.neg ≤ 9999999 := hs
  rw [if_pos hs', if_pos hs]
  obtain ⟨s1, s2⟩ := hs'
  rw [itoa_nat, itoa_nat, List.append_assoc]
  exact LexTo.num s1 (stops_cons (by decide)) (LexTo.mark (m := 47) (by decide) (LexTo.num s2 hl hr))
 have hs' : ¬ (prodS v ≤ 9999999 ∧ prodS v.neg ≤ 9999999) := hs
 rw [if_neg hs', if_neg hs]
 simp only [List.append_assoc, List.cons_append, List.nil_append]
 exact LexTo.mark (m := 91) (by decide) (e_lex h0 (stops_cons (by decide)) (e_lex h1 (stops_cons (by decide)) (e_lex h2 (stops_cons (by decide)) (e_lex h3 (stops_cons (by decide)) (e_lex h4 (stops_cons (by decide)) (e_lex h5 (stops_cons (by decide))
  (LexTo.mark (m := 93) (by decide) hr)).sp).sp).sp).sp).sp)
theorem cad_lex {c : Int} {l : List UInt8} {ks : List Key} (h : 0 ≤ c) (h2 : c ≤ 9999999) (hr : LexTo l ks) : LexTo (cadL c ++ l) (cadK c ++ ks) := by
 have e : cadL c ++ l = kw_cadence ++ 32 :: (itoa c ++ 59 :: 10 :: l) := by simp [cadL, kw_cadence]
 rw [e]
 exact kw_lex (by decide) (num_lex h h2 (stops_cons (by decide)) (LexTo.mark (m := 59) (by decide) hr.lf))
theorem head_lex {v : Int} {l : List UInt8} {ks : List Key} (h : 0 ≤ v) (h2 : v ≤ 9999999) (hr : LexTo l ks) : LexTo (([118, 111, 105, 99, 101, 115, 32] ++ itoa v ++ [59, 10]) ++ l) (headK v ++ ks) := by
 have e : ([118, 111, 105, 99, 101, 115, 32] ++ itoa v ++ [59, 10]) ++ l = kw_voices ++ 32 :: (itoa v ++ 59 :: 10 :: l) := by simp [kw_voices]
 rw [e]
 exact kw_lex (by decide) (num_lex h h2 (stops_cons (by decide)) (LexTo.mark (m := 59) (by decide) hr.lf))
def nm0 (i : Nat) : List UInt8 := 110 :: decDigits i
theorem nm0_ok {i : Nat} (h : i ≤ 9999999) : WordOk (nm0 i) := by
 refine ⟨110, decDigits i, rfl, by decide, fun y hy => ?_, ?_⟩
 ·
  have := decDigits_range i y hy
  simp only [isWord, isDig, Bool.or_eq_true, Bool.and_eq_true, decide_eq_true_eq]
  right; omega
 have := dec_step i h [] stops_nil
 rw [List.append_nil] at this
 have h2 : (decDigits i).length ≤ 7 := by
  rcases e : decDigits i with _ | ⟨x, r⟩
  ·
   simp
  obtain ⟨d1, d2, d3⟩ := decDigits_isDec i
  rw [e] at this d2
  have hx : isDig x = true := by
   have := d2 x (List.mem_cons_self ..)
   simp only [isDig, Bool.and_eq_true, decide_eq_true_eq]
   omega
  have hr : r.takeWhile isDig = r := by
   have := takeWhile_app isDig r [] (fun y hy => by
    have := d2 y (List.mem_cons_of_mem _ hy)
    simp only [isDig, Bool.and_eq_true, decide_eq_true_eq]
    omega) (fun c hc => by cases hc)
   rwa [List.append_nil] at this
  obtain ⟨n1, n2, n3⟩ := dig_not hx
  simp only [lexStep] at this
  rw [if_neg (by rw [n1]; decide), if_neg (by rw [n2]; decide), if_neg (by rw [n3]; decide), if_pos hx, hr] at this
  split at this
  ·
   cases this
  next h => simp only [List.length_cons]; omega
 omega
theorem nm_lex {i : Nat} {l : List UInt8} {ks : List Key} (h : i ≤ 9999999) (hl : Stops isWord l) (hr : LexTo l ks) : LexTo (nm0 i ++ l) (wK (nm0 i) :: ks) := (nm0_ok h).lex hl hr
structure Nte.said (n : Nte) : Prop where
 v0 : 0 ≤ n.voice
 v1 : n.voice ≤ 9999999
 a0 : 0 ≤ n.start
 a1 : n.start ≤ 9999999
 b0 : 0 ≤ n.stop
 b1 : n.stop ≤ 9999999
 pl : n.place.lim 9999999
theorem note_lex {i : Nat} {n : Nte} {l : List UInt8} {ks : List Key} (hi : i ≤ 9999999) (h : n.said) (hr : LexTo l ks) : LexTo (noteL i n ++ l) (noteK (nm0 i) n ++ ks) := by
 have hw : (if n.tied then kw_tied else kw_note) ∈ keyWords := by cases n.tied <;> decide
 have e : noteL i n ++ l = (if n.tied then kw_tied else kw_note) ++ 32 :: (nm0 i ++ 58 :: 32 :: (kw_voice ++ 32 :: (itoa n.voice ++ 32 :: (kw_from ++ 32 :: (itoa n.start ++ 32 :: (kw_to ++ 32 :: (itoa n.stop ++
   ((if !n.tied && !decide (n.place = vc0) then [32, 97, 116, 32] ++ writtenS n.place else []) ++ 59 :: 10 :: l)))))))) := by
  unfold noteL
  cases n.tied <;> simp [kw_tied, kw_note, kw_voice, kw_from, kw_to, nm0, itoa_nat]
 have e2 : noteK (nm0 i) n ++ ks = wK (if n.tied then kw_tied else kw_note) :: wK (nm0 i) :: mK mColon :: wK kw_voice :: nK n.voice.toNat :: wK kw_from :: nK n.start.toNat :: wK kw_to :: nK n.stop.toNat ::
   ((if !n.tied && !decide (n.place = vc0) then wK kw_at :: ivK n.place else []) ++ mK mSemi :: ks) := by simp [noteK]
 rw [e, e2]
 have tail : LexTo ((if !n.tied && !decide (n.place = vc0) then [32, 97, 116, 32] ++ writtenS n.place else []) ++ 59 :: 10 :: l) ((if !n.tied && !decide (n.place = vc0) then wK kw_at :: ivK n.place else []) ++ mK mSemi :: ks) := by
  split
  ·
   have e3 : [32, 97, 116, 32] ++ writtenS n.place ++ 59 :: 10 :: l = 32 :: (kw_at ++ 32 :: (writtenS n.place ++ 59 :: 10 :: l)) := by simp [kw_at]
   rw [e3, List.cons_append]
   exact (kw_lex (by decide) (iv_lex h.pl (stops_cons (by decide)) (LexTo.mark (m := 59) (by decide) hr.lf))).sp
  exact LexTo.mark (m := 59) (by decide) hr.lf
 have st : Stops isDig ((if !n.tied && !decide (n.place = vc0) then [32, 97, 116, 32] ++ writtenS n.place else []) ++ 59 :: 10 :: l) := by
  split
  ·
   exact stops_cons (by decide)
  exact stops_cons (by decide)
 exact kw_lex hw (nm_lex hi (stops_cons (by decide)) (LexTo.mark (m := 58) (by decide) (kw_lex (by decide) (num_lex h.v0 h.v1 (stops_cons (by decide)) (kw_lex (by decide) (num_lex h.a0 h.a1 (stops_cons (by decide)) (kw_lex (by decide) (num_lex h.b0 h.b1 st tail)).sp)).sp)).sp))
structure Par.said (p : Par) : Prop where
 a0 : 0 ≤ p.a
 a1 : p.a ≤ 9999999
 b0 : 0 ≤ p.b
 b1 : p.b ≤ 9999999
 w : p.wish.lim 9999999
 k0 : 0 ≤ p.bound
 k1 : p.bound ≤ 9999999
theorem pair_lex {p : Par} {l : List UInt8} {ks : List Key} (h : p.said) (hr : LexTo l ks) : LexTo (pairL p ++ l) (pairK (nm0 p.a.toNat) (nm0 p.b.toNat) p ++ ks) := by
 have e : pairL p ++ l = kw_pair ++ 32 :: (nm0 p.a.toNat ++ 32 :: (nm0 p.b.toNat ++ ((if !decide (p.wish = vc0) then [32, 98, 121, 32] ++ writtenS p.wish else []) ++ ((if 0 < p.bound then [32, 119, 105, 116, 104, 105, 110, 32] ++ itoa p.bound else []) ++ 59 :: 10 :: l)))) := by
  simp [pairL, kw_pair, nm0, itoa_pos h.a0, itoa_pos h.b0]
 have e2 : pairK (nm0 p.a.toNat) (nm0 p.b.toNat) p ++ ks = wK kw_pair :: wK (nm0 p.a.toNat) :: wK (nm0 p.b.toNat) :: ((if !decide (p.wish = vc0) then wK kw_by :: ivK p.wish else []) ++ ((if 0 < p.bound then [wK kw_within, nK p.bound.toNat] else []) ++ mK mSemi :: ks)) := by simp [pairK]
 rw [e, e2]
 have t1 : LexTo ((if 0 < p.bound then [32, 119, 105, 116, 104, 105, 110, 32] ++ itoa p.bound else []) ++ 59 :: 10 :: l) ((if 0 < p.bound then [wK kw_within, nK p.bound.toNat] else []) ++ mK mSemi :: ks) := by
  split
  ·
   have e3 : [32, 119, 105, 116, 104, 105, 110, 32] ++ itoa p.bound ++ 59 :: 10 :: l = 32 :: (kw_within ++ 32 :: (itoa p.bound ++ 59 :: 10 :: l)) := by simp [kw_within]
   rw [e3]
   exact (kw_lex (by decide) (num_lex h.k0 h.k1 (stops_cons (by decide)) (LexTo.mark (m := 59) (by decide) hr.lf))).sp
  exact LexTo.mark (m := 59) (by decide) hr.lf
 have s1 : ∀ q : UInt8 → Bool, q 32 = false → q 59 = false → Stops q ((if 0 < p.bound then [32, 119, 105, 116, 104, 105, 110, 32] ++ itoa p.bound else []) ++ 59 :: 10 :: l) := by
  intro q q1 q2
  split
  ·
   exact stops_cons q1
  exact stops_cons q2
 have t2 : LexTo ((if !decide (p.wish = vc0) then [32, 98, 121, 32] ++ writtenS p.wish else []) ++ ((if 0 < p.bound then [32, 119, 105, 116, 104, 105, 110, 32] ++ itoa p.bound else []) ++ 59 :: 10 :: l))
   ((if !decide (p.wish = vc0) then wK kw_by :: ivK p.wish else []) ++ ((if 0 < p.bound then [wK kw_within, nK p.bound.toNat] else []) ++ mK mSemi :: ks)) := by
  generalize (if 0 < p.bound then [32, 119, 105, 116, 104, 105, 110, 32] ++ itoa p.bound else []) ++ 59 :: 10 :: l = L at t1 s1 ⊢
  generalize (if 0 < p.bound then [wK kw_within, nK p.bound.toNat] else []) ++ mK mSemi :: ks = K at t1 ⊢
  split
  ·
   have e3 : [32, 98, 121, 32] ++ writtenS p.wish ++ L = 32 :: (kw_by ++ 32 :: (writtenS p.wish ++ L)) := by simp [kw_by]
   rw [e3, List.cons_append]
   exact (kw_lex (by decide) (iv_lex h.w (s1 isDig (by decide) (by decide)) t1)).sp
  exact t1
 have s2 : Stops isWord ((if !decide (p.wish = vc0) then [32, 98, 121, 32] ++ writtenS p.wish else []) ++ ((if 0 < p.bound then [32, 119, 105, 116, 104, 105, 110, 32] ++ itoa p.bound else []) ++ 59 :: 10 :: l)) := by
  split
  ·
   exact stops_cons (by decide)
  exact s1 isWord (by decide) (by decide)
 exact kw_lex (by decide) (nm_lex (by have := h.a1; omega) (stops_cons (by decide)) (nm_lex (by have := h.b1; omega) s2 t2).sp)
end Go.Proofs.YtcjhihmaegagdaaGreatDoor
namespace Go.Proofs.YtcjhihmaegagdaaGreatDoor
open Go.Lib
theorem powM_le (p : Nat) (hp : 1 ≤ p) (k n : Nat) (h : powM p k n ≤ 9999999) : powM p k n = n * p ^ k ∧ n ≤ 9999999 := by
 induction k generalizing n with
 | zero => exact ⟨by rw [powM, Nat.pow_zero, Nat.mul_one], by simpa [powM] using h⟩
 | succ k ih =>
  rw [powM] at h ⊢
  by_cases hn : n ≤ 9999999
  ·
   rw [if_pos hn] at h ⊢
   obtain ⟨h1, h2⟩ := ih _ h
   refine ⟨?_, hn⟩
   rw [h1, Nat.pow_succ, Nat.mul_assoc, Nat.mul_comm p]
  rw [if_neg hn] at h
  omega
theorem prodS_eq (v : Vc) (h : prodS v ≤ 9999999) : prodS v = 2 ^ v.a.toNat * (3 ^ v.b.toNat * (5 ^ v.c.toNat * (7 ^ v.d.toNat * (11 ^ v.e.toNat * (13 ^ v.f.toNat * 1))))) := by
 unfold prodS at h ⊢
 obtain ⟨e1, h⟩ := powM_le 13 (by decide) _ _ h
 rw [e1]
 obtain ⟨e2, h⟩ := powM_le 11 (by decide) _ _ h
 rw [e2]
 obtain ⟨e3, h⟩ := powM_le 7 (by decide) _ _ h
 rw [e3]
 obtain ⟨e4, h⟩ := powM_le 5 (by decide) _ _ h
 rw [e4]
 obtain ⟨e5, h⟩ := powM_le 3 (by decide) _ _ h
 rw [e5]
 obtain ⟨e6, h⟩ := powM_le 2 (by decide) _ _ h
 rw [e6]
 simp only [Nat.mul_assoc, Nat.one_mul, Nat.mul_one]
theorem strip_pow (p : Nat) (hp : 1 ≤ p) (f k m : Nat) (hk : k ≤ f) (hm : m % p ≠ 0) : strip p f (p ^ k * m) = (m, k) := by
 induction f generalizing k with
 | zero =>
  obtain rfl : k = 0 := by omega
  simp [strip]
 | succ f ih =>
  rw [strip]
  cases k with
  | zero => rw [Nat.pow_zero, Nat.one_mul, if_neg hm]
  | succ k =>
   have e : p ^ (k + 1) * m = p * (p ^ k * m) := by rw [Nat.pow_succ, Nat.mul_comm (p ^ k) p, Nat.mul_assoc]
   rw [e, Nat.mul_mod_right, if_pos rfl, Nat.mul_div_cancel_left _ hp, ih k (by omega)]
theorem cop_mod {p m : Nat} (h : Nat.Coprime p m) (hp : p ≠ 1) : m % p ≠ 0 := fun e => hp (h.eq_one_of_dvd (Nat.dvd_of_mod_eq_zero e))
theorem ratioK_step (i : Nat) (x y m n : Nat) (v : Vc) (hx : x ≤ 64) (hy : y ≤ 64) (h1 : 1 ≤ primeAt i) (hm : m % primeAt i ≠ 0) (hn : n % primeAt i ≠ 0) :
  ratioK i (primeAt i ^ x * m, primeAt i ^ y * n, v) = (m, n, v.put i ((x : Int) - y)) := by
 simp only [ratioK, strip_pow _ h1 64 x m hx hm, strip_pow _ h1 64 y n hy hn]
theorem cop2 (b c d e f : Nat) : Nat.Coprime 2 (3 ^ b * (5 ^ c * (7 ^ d * (11 ^ e * (13 ^ f * 1))))) :=
 (Nat.Coprime.pow_right _ (by decide)).mul_right ((Nat.Coprime.pow_right _ (by decide)).mul_right ((Nat.Coprime.pow_right _ (by decide)).mul_right ((Nat.Coprime.pow_right _ (by decide)).mul_right ((Nat.Coprime.pow_right _ (by decide)).mul_right (Nat.coprime_one_right _)))))
theorem cop3 (c d e f : Nat) : Nat.Coprime 3 (5 ^ c * (7 ^ d * (11 ^ e * (13 ^ f * 1)))) :=
 (Nat.Coprime.pow_right _ (by decide)).mul_right ((Nat.Coprime.pow_right _ (by decide)).mul_right ((Nat.Coprime.pow_right _ (by decide)).mul_right ((Nat.Coprime.pow_right _ (by decide)).mul_right (Nat.coprime_one_right _))))
theorem cop5 (d e f : Nat) : Nat.Coprime 5 (7 ^ d * (11 ^ e * (13 ^ f * 1))) :=
 (Nat.Coprime.pow_right _ (by decide)).mul_right ((Nat.Coprime.pow_right _ (by decide)).mul_right ((Nat.Coprime.pow_right _ (by decide)).mul_right (Nat.coprime_one_right _)))
theorem cop7 (e f : Nat) : Nat.Coprime 7 (11 ^ e * (13 ^ f * 1)) :=
 (Nat.Coprime.pow_right _ (by decide)).mul_right ((Nat.Coprime.pow_right _ (by decide)).mul_right (Nat.coprime_one_right _))
theorem cop11 (f : Nat) : Nat.Coprime 11 (13 ^ f * 1) := (Nat.Coprime.pow_right _ (by decide)).mul_right (Nat.coprime_one_right _)
theorem ratioN_full (a b c d e f a' b' c' d' e' f' : Nat) (ha : a ≤ 64) (hb : b ≤ 64) (hc : c ≤ 64) (hd : d ≤ 64) (he : e ≤ 64) (hf : f ≤ 64) (ha' : a' ≤ 64) (hb' : b' ≤ 64) (hc' : c' ≤ 64) (hd' : d' ≤ 64) (he' : e' ≤ 64) (hf' : f' ≤ 64) :
  ratioN (2 ^ a * (3 ^ b * (5 ^ c * (7 ^ d * (11 ^ e * (13 ^ f * 1)))))) (2 ^ a' * (3 ^ b' * (5 ^ c' * (7 ^ d' * (11 ^ e' * (13 ^ f' * 1)))))) 6 =
   (1, 1, ⟨(a : Int) - a', (b : Int) - b', (c : Int) - c', (d : Int) - d', (e : Int) - e', (f : Int) - f'⟩) := by
 have h1 := ratioK_step 0 a a' _ _ vc0 ha ha' (by decide) (cop_mod (cop2 b c d e f) (by decide)) (cop_mod (cop2 b' c' d' e' f') (by decide))
 have h2 := ratioK_step 1 b b' _ _ (vc0.put 0 ((a : Int) - a')) hb hb' (by decide) (cop_mod (cop3 c d e f) (by decide)) (cop_mod (cop3 c' d' e' f') (by decide))
 have h3 := ratioK_step 2 c c' _ _ ((vc0.put 0 ((a : Int) - a')).put 1 ((b : Int) - b')) hc hc' (by decide) (cop_mod (cop5 d e f) (by decide)) (cop_mod (cop5 d' e' f') (by decide))
 have h4 := ratioK_step 3 d d' _ _ (((vc0.put 0 ((a : Int) - a')).put 1 ((b : Int) - b')).put 2 ((c : Int) - c')) hd hd' (by decide) (cop_mod (cop7 e f) (by decide)) (cop_mod (cop7 e' f') (by decide))
 have h5 := ratioK_step 4 e e' _ _ ((((vc0.put 0 ((a : Int) - a')).put 1 ((b : Int) - b')).put 2 ((c : Int) - c')).put 3 ((d : Int) - d')) he he' (by decide) (cop_mod (cop11 f) (by decide)) (cop_mod (cop11 f') (by decide))
 have h6 := ratioK_step 5 f f' 1 1 (((((vc0.put 0 ((a : Int) - a')).put 1 ((b : Int) - b')).put 2 ((c : Int) - c')).put 3 ((d : Int) - d')).put 4 ((e : Int) - e')) hf hf' (by decide) (by decide) (by decide)
 simp only [primeAt] at h1 h2 h3 h4 h5 h6
 simp only [ratioN, h1, h2, h3, h4, h5, h6]
 simp [Vc.put, vc0]
theorem ratioV_back (v : Vc) (h : v.lim 64) (hs : short v) : ratioV (prodS v) (prodS v.neg) = some v := by
 obtain ⟨h0, h1, h2, h3, h4, h5⟩ := h
 obtain ⟨s1, s2⟩ := hs
 have e1 := prodS_eq v s1
 have e2 := prodS_eq v.neg s2
 have p1 : 1 ≤ prodS v := by
  rw [e1]
  exact Nat.mul_pos (Nat.pow_pos (by decide)) (Nat.mul_pos (Nat.pow_pos (by decide)) (Nat.mul_pos (Nat.pow_pos (by decide)) (Nat.mul_pos (Nat.pow_pos (by decide)) (Nat.mul_pos (Nat.pow_pos (by decide)) (Nat.mul_pos (Nat.pow_pos (by decide)) (by decide))))))
 have p2 : 1 ≤ prodS v.neg := by
  rw [e2]
  exact Nat.mul_pos (Nat.pow_pos (by decide)) (Nat.mul_pos (Nat.pow_pos (by decide)) (Nat.mul_pos (Nat.pow_pos (by decide)) (Nat.mul_pos (Nat.pow_pos (by decide)) (Nat.mul_pos (Nat.pow_pos (by decide)) (Nat.mul_pos (Nat.pow_pos (by decide)) (by decide))))))
 unfold ratioV
 rw [if_neg (by omega), e1, e2, ratioN_full _ _ _ _ _ _ _ _ _ _ _ _ (by omega) (by omega) (by omega) (by omega) (by omega) (by omega) (by simp only [Vc.neg]; omega) (by simp only [Vc.neg]; omega) (by simp only [Vc.neg]; omega) (by simp only [Vc.neg]; omega) (by simp only [Vc.neg]; omega) (by simp only [Vc.neg]; omega)]
 simp only [if_true, Vc.neg, Option.some.injEq]
 cases v with
 | mk a b c d e f =>
  simp only [Vc.mk.injEq]
  omega
def tk (k : Key) : Tok := ⟨k.kind, 0, k.n, k.text⟩
def tks (l : List Key) : List Tok := l.map tk
theorem tks_same {ts : List Tok} {ks : List Key} (h : ts.map Tok.key = ks) : Same ts (tks ks) := by
 unfold Same tks
 rw [h, List.map_map]
 conv => lhs; rw [← List.map_id ks]
 rfl
theorem hasR_hit (k : Key) (ts : List Tok) : hasR k.text (tk k :: ts) = some ts := by simp [hasR, tk]
theorem hasR_miss (s : List UInt8) (k : Key) (ts : List Tok) (h : k.text ≠ s) : hasR s (tk k :: ts) = none := by show (if k.text = s then some ts else none) = none; exact if_neg h
theorem wantR_hit (k : Key) (ts : List Tok) : wantR k.text (tk k :: ts) = .ok () ts := by unfold wantR; rw [hasR_hit]
theorem wantsR_one (k : Key) (ts : List Tok) : wantsR [k.text] (tk k :: ts) = .ok () ts := by simp only [wantsR, wantR_hit, Rs.bind]
theorem wantsR_two (k q : Key) (ts : List Tok) : wantsR [k.text, q.text] (tk k :: tk q :: ts) = .ok () ts := by simp only [wantsR, wantR_hit, Rs.bind]
theorem numR_hit (n : Nat) (ts : List Tok) : numR (tk (nK n) :: ts) = .ok n ts := by simp [numR, tk, nK]
theorem wordR_hit (s : List UInt8) (ts : List Tok) (h : s ∉ keyWords) : wordR (tk (wK s) :: ts) = .ok s ts := by simp [wordR, tk, wK, h]
theorem dec_ne (n : Nat) (m : UInt8) (hm : isDig m = false) : decDigits n ≠ [m] := by
 intro e
 have := decDigits_range n m (by rw [e]; exact List.mem_singleton.2 rfl)
 simp only [isDig, Bool.and_eq_false_iff, decide_eq_false_iff_not] at hm
 omega
theorem brkR_e (m : Nat) (v : Vc) (x : Int) (ts : List Tok) : brkR (m + 1) v (tks (eK x) ++ ts) = brkR m (v.put (5 - m) x) ts := by
 unfold eK
 by_cases hx : x < 0
 ·
  rw [if_pos hx]
  show brkR (m + 1) v (tk (mK mMinus) :: tk (nK x.natAbs) :: ts) = _
  rw [brkR, hasR_miss _ _ _ (by decide)]
  simp only
  rw [show hasR mMinus (tk (mK mMinus) :: tk (nK x.natAbs) :: ts) = some (tk (nK x.natAbs) :: ts) from hasR_hit (mK mMinus) _]
  simp only [numR_hit, Rs.bind]
  rw [show -((x.natAbs : Nat) : Int) = x by omega]
 rw [if_neg hx]
 show brkR (m + 1) v (tk (nK x.natAbs) :: ts) = _
 rw [brkR, hasR_miss mClose (nK x.natAbs) _ (dec_ne _ 93 (by decide))]
 simp only
 rw [hasR_miss mMinus (nK x.natAbs) _ (dec_ne _ 45 (by decide))]
 simp only [numR_hit, Rs.bind]
 rw [show ((x.natAbs : Nat) : Int) = x by omega]
theorem tks_append (a b : List Key) : tks (a ++ b) = tks a ++ tks b := List.map_append
theorem tks_cons (a : Key) (b : List Key) : tks (a :: b) = tk a :: tks b := rfl
theorem tks_nil : tks [] = [] := rfl
theorem ivalR_iv (v : Vc) (h : v.lim 64) (ts : List Tok) : ivalR (tks (ivK v) ++ ts) = .ok v ts := by
 unfold ivK
 by_cases hs : short v
 ·
  rw [if_pos hs]
  show ivalR (tk (nK (prodS v)) :: tk (mK mSlash) :: tk (nK (prodS v.neg)) :: ts) = _
  unfold ivalR
  rw [hasR_miss mOpen (nK (prodS v)) _ (dec_ne _ 91 (by decide))]
  simp only [numR_hit, Rs.bind]
  rw [show wantR mSlash (tk (mK mSlash) :: tk (nK (prodS v.neg)) :: ts) = .ok () (tk (nK (prodS v.neg)) :: ts) from wantR_hit (mK mSlash) _]
  simp only [numR_hit, Rs.bind, ratioV_back v h hs]
 rw [if_neg hs]
 have e : tks (mK mOpen :: (eK v.a ++ eK v.b ++ eK v.c ++ eK v.d ++ eK v.e ++ eK v.f) ++ [mK mClose]) ++ ts = tk (mK mOpen) :: (tks (eK v.a) ++ (tks (eK v.b) ++ (tks (eK v.c) ++ (tks (eK v.d) ++ (tks (eK v.e) ++ (tks (eK v.f) ++ tk (mK mClose) :: ts)))))) := by
  simp only [tks, List.map_cons, List.map_append, List.cons_append, List.append_assoc, List.map_nil, List.nil_append]
 rw [e]
 unfold ivalR
 rw [show hasR mOpen (tk (mK mOpen) :: _) = some _ from hasR_hit (mK mOpen) _]
 simp only
 rw [brkR_e 5, brkR_e 4, brkR_e 3, brkR_e 2, brkR_e 1, brkR_e 0]
 unfold brkR
 rw [show hasR mClose (tk (mK mClose) :: ts) = some ts from hasR_hit (mK mClose) _]
 simp [Vc.put, vc0]
def Nte.raw (n : Nte) : Nte := if n.tied then { n with place := vc0 } else n
theorem atR_place (n : Nte) (h : n.place.lim 64) (ts : List Tok) :
  atR n.tied (tks ((if !n.tied && !decide (n.place = vc0) then wK kw_at :: ivK n.place else []) ++ [mK mSemi]) ++ ts) = .ok n.raw.place (tk (mK mSemi) :: ts) := by
 unfold atR Nte.raw
 cases ht : n.tied with
 | true =>
  simp only [Bool.not_true, Bool.false_and, Bool.false_eq_true, if_false, if_true]
  rfl
 | false =>
  simp only [Bool.not_false, Bool.true_and, Bool.false_eq_true, if_false]
  by_cases hp : n.place = vc0
  ·
   rw [if_neg (by simp [hp]), hp]
   show (match hasR kw_at (tk (mK mSemi) :: ts) with | some r => ivalR r | none => .ok vc0 _) = _
   rw [hasR_miss kw_at (mK mSemi) _ (by decide)]
   rfl
  rw [if_pos (by simp [hp])]
  have e : tks (wK kw_at :: ivK n.place ++ [mK mSemi]) ++ ts = tk (wK kw_at) :: (tks (ivK n.place) ++ tk (mK mSemi) :: ts) := by
   simp only [tks, List.map_cons, List.map_append, List.cons_append, List.append_assoc, List.map_nil, List.nil_append]
  rw [e, show hasR kw_at (tk (wK kw_at) :: _) = some _ from hasR_hit (wK kw_at) _]
  exact ivalR_iv _ h _
theorem noteR_note (d : Drf) (nm : List UInt8) (n : Nte) (ts : List Tok) (hk : nm ∉ keyWords) (hi : idxR d.names nm = none) (hs : n.said) (hp : n.place.lim 64) :
  itemR (if n.tied then kw_tied else kw_note) d ((tks (noteK nm n)).tail ++ ts) = some (.ok (d.note nm n.raw) ts) := by
 have e0 : itemR (if n.tied then kw_tied else kw_note) d ((tks (noteK nm n)).tail ++ ts) = some (noteR n.tied d ((tks (noteK nm n)).tail ++ ts)) := by
  unfold itemR
  cases n.tied with
  | true => rw [if_neg (by decide), if_pos (by rfl)]
  | false => rw [if_pos (by rfl)]
 rw [e0]
 congr 1
 have e : (tks (noteK nm n)).tail ++ ts = tk (wK nm) :: tk (mK mColon) :: tk (wK kw_voice) :: tk (nK n.voice.toNat) :: tk (wK kw_from) :: tk (nK n.start.toNat) :: tk (wK kw_to) :: tk (nK n.stop.toNat) ::
   (tks ((if !n.tied && !decide (n.place = vc0) then wK kw_at :: ivK n.place else []) ++ [mK mSemi]) ++ ts) := by
  unfold noteK
  simp only [tks, List.map_cons, List.map_append, List.cons_append, List.append_assoc, List.map_nil, List.nil_append, List.tail_cons]
 rw [e]
 unfold noteR newR
 rw [wordR_hit nm _ hk]
 simp only [Rs.bind, hi]
 rw [show wantsR [mColon, kw_voice] (tk (mK mColon) :: tk (wK kw_voice) :: _) = _ from wantsR_two (mK mColon) (wK kw_voice) _]
 simp only [Rs.bind, numR_hit]
 rw [show wantsR [kw_from] (tk (wK kw_from) :: _) = _ from wantsR_one (wK kw_from) _]
 simp only [Rs.bind, numR_hit]
 rw [show wantsR [kw_to] (tk (wK kw_to) :: _) = _ from wantsR_one (wK kw_to) _]
 simp only [Rs.bind, numR_hit, atR_place n hp]
 rw [show wantsR [mSemi] (tk (mK mSemi) :: _) = _ from wantsR_one (mK mSemi) _]
 simp only [Rs.bind, Int.toNat_of_nonneg hs.v0, Int.toNat_of_nonneg hs.a0, Int.toNat_of_nonneg hs.b0]
 congr 2
 unfold Nte.raw
 cases n with
 | mk a b c v t => cases t <;> rfl
theorem pairR_pair (d : Drf) (na nb : List UInt8) (i j : Nat) (p : Par) (ts : List Tok) (ha : na ∉ keyWords) (hb : nb ∉ keyWords) (hi : idxR d.names na = some i) (hj : idxR d.names nb = some j) (hs : p.said) (hp : p.wish.lim 64) :
  itemR kw_pair d ((tks (pairK na nb p)).tail ++ ts) = some (.ok (d.pair ⟨i, j, p.wish, p.bound⟩) ts) := by
 have e0 : itemR kw_pair d ((tks (pairK na nb p)).tail ++ ts) = some (pairR d ((tks (pairK na nb p)).tail ++ ts)) := by
  unfold itemR
  rw [if_neg (by decide), if_neg (by decide), if_pos rfl]
 rw [e0]
 congr 1
 have e : (tks (pairK na nb p)).tail ++ ts = tk (wK na) :: tk (wK nb) :: (tks (if !decide (p.wish = vc0) then wK kw_by :: ivK p.wish else []) ++ (tks (if 0 < p.bound then [wK kw_within, nK p.bound.toNat] else []) ++ tk (mK mSemi) :: ts)) := by
  unfold pairK
  simp only [tks, List.map_cons, List.map_append, List.cons_append, List.append_assoc, List.map_nil, List.nil_append, List.tail_cons]
 have hw : withinR (tks (if 0 < p.bound then [wK kw_within, nK p.bound.toNat] else []) ++ tk (mK mSemi) :: ts) = .ok p.bound.toNat (tk (mK mSemi) :: ts) := by
  unfold withinR
  by_cases h : 0 < p.bound
  ·
   rw [if_pos h]
   show (match hasR kw_within (tk (wK kw_within) :: tk (nK p.bound.toNat) :: tk (mK mSemi) :: ts) with | some r => numR r | none => .ok 0 (tk (wK kw_within) :: tk (nK p.bound.toNat) :: tk (mK mSemi) :: ts)) = _
   rw [show hasR kw_within (tk (wK kw_within) :: tk (nK p.bound.toNat) :: tk (mK mSemi) :: ts) = some (tk (nK p.bound.toNat) :: tk (mK mSemi) :: ts) from hasR_hit (wK kw_within) _]
   exact numR_hit _ _
  rw [if_neg h]
  show (match hasR kw_within (tk (mK mSemi) :: ts) with | some r => numR r | none => .ok 0 (tk (mK mSemi) :: ts)) = _
  rw [hasR_miss kw_within (mK mSemi) _ (by decide), show p.bound.toNat = 0 by omega]
 have hby : ∀ R, (∃ k q, R = tk k :: q ∧ k.text ≠ kw_by) → byR (tks (if !decide (p.wish = vc0) then wK kw_by :: ivK p.wish else []) ++ R) = .ok p.wish R := by
  rintro R ⟨k, q, rfl, hk⟩
  unfold byR
  by_cases h : p.wish = vc0
  ·
   rw [if_neg (by simp [h]), tks_nil, List.nil_append, hasR_miss kw_by k q hk, h]
  rw [if_pos (by simp [h]), tks_cons, List.cons_append, show hasR kw_by (tk (wK kw_by) :: _) = some _ from hasR_hit (wK kw_by) _]
  exact ivalR_iv _ hp _
 have hR : ∃ k q, (tks (if 0 < p.bound then [wK kw_within, nK p.bound.toNat] else []) ++ tk (mK mSemi) :: ts) = tk k :: q ∧ k.text ≠ kw_by := by
  by_cases h : 0 < p.bound
  ·
   rw [if_pos h]; exact ⟨wK kw_within, _, rfl, by decide⟩
  rw [if_neg h]; exact ⟨mK mSemi, _, rfl, by decide⟩
 rw [e]
 unfold pairR oldR
 rw [wordR_hit na _ ha]
 simp only [Rs.bind, hi]
 rw [wordR_hit nb _ hb]
 simp only [Rs.bind, hj, hby _ hR, hw]
 rw [show wantsR [mSemi] (tk (mK mSemi) :: _) = _ from wantsR_one (mK mSemi) _]
 simp only [Rs.bind, Int.toNat_of_nonneg hs.k0]
theorem cadR_cad (d : Drf) (c : Int) (ts : List Tok) (h : 0 ≤ c) : itemR kw_cadence d ((tks (cadK c)).tail ++ ts) = some (.ok (d.cad c) ts) := by
 have e0 : itemR kw_cadence d ((tks (cadK c)).tail ++ ts) = some (cadR d ((tks (cadK c)).tail ++ ts)) := by
  unfold itemR
  rw [if_neg (by decide), if_neg (by decide), if_neg (by decide), if_pos rfl]
 rw [e0]
 show some (cadR d (tk (nK c.toNat) :: tk (mK mSemi) :: ts)) = _
 unfold cadR
 simp only [numR_hit, Rs.bind]
 rw [show wantsR [mSemi] (tk (mK mSemi) :: _) = _ from wantsR_one (mK mSemi) _]
 simp only [Rs.bind, Int.toNat_of_nonneg h]
theorem readR_head (v : Int) (ts : List Tok) (h : 0 ≤ v) : readR (tks (headK v) ++ ts) = itemsA ⟨{ scr0 with voices := v }, []⟩ ts := by
 show readR (tk (wK kw_voices) :: tk (nK v.toNat) :: tk (mK mSemi) :: ts) = _
 unfold readR
 rw [show wantsR [kw_voices] (tk (wK kw_voices) :: _) = _ from wantsR_one (wK kw_voices) _]
 simp only [Rs.bind, numR_hit]
 rw [show wantsR [mSemi] (tk (mK mSemi) :: _) = _ from wantsR_one (mK mSemi) _]
 simp only [Rs.bind, Int.toNat_of_nonneg h]
 rfl
inductive Itm where
 | cad (c : Int)
 | note (i : Nat)
def itmK (nm : Nat → List UInt8) (l : List Nte) : Itm → List Key
 | .cad c => cadK c
 | .note i => noteK (nm i) (l.getD i nte0)
def itmD (nm : Nat → List UInt8) (l : List Nte) (d : Drf) : Itm → Drf
 | .cad c => d.cad c
 | .note i => d.note (nm i) (l.getD i nte0).raw
def Itm.idx : Itm → Option Nat
 | .cad _ => none
 | .note i => some i
def Itm.num : Itm → Option Int
 | .cad c => some c
 | .note _ => none
structure Scr.said (s : Scr) : Prop where
 v0 : 0 ≤ s.voices
 v1 : s.voices ≤ 9999999
 n : ∀ x ∈ s.notes, x.said ∧ x.place.lim 64
 p : ∀ x ∈ s.pairs, x.said ∧ x.wish.lim 64 ∧ x.a.toNat < s.notes.length ∧ x.b.toNat < s.notes.length
 c : ∀ x ∈ s.cad, 0 ≤ x ∧ x ≤ 9999999
 l : s.notes.length ≤ 9999999
theorem items_front (nm : Nat → List UInt8) (l : List Nte) (hl : ∀ x ∈ l, x.said ∧ x.place.lim 64) (hk : ∀ i, i < l.length → nm i ∉ keyWords) (hinj : ∀ i j, i < l.length → j < l.length → nm i = nm j → i = j)
  (its : List Itm) : ∀ (d : Drf) (done : List Nat) (ts : List Tok), d.names = done.map nm → (∀ i ∈ done, i < l.length) → (∀ i, Itm.note i ∈ its → i < l.length) → (∀ c, Itm.cad c ∈ its → 0 ≤ c) → (done ++ its.filterMap Itm.idx).Nodup →
   itemsA d (tks (its.flatMap (itmK nm l)) ++ ts) = itemsA (its.foldl (itmD nm l) d) ts := by
 induction its with
 | nil => intro d done ts _ _ _ _ _; rfl
 | cons it its ih =>
  intro d done ts hd hdl hn hc hnd
  cases it with
  | cad c =>
   have hc0 := hc c (List.mem_cons_self ..)
   have e : tks ((Itm.cad c :: its).flatMap (itmK nm l)) ++ ts = tk (wK kw_cadence) :: ((tks (cadK c)).tail ++ (tks (its.flatMap (itmK nm l)) ++ ts)) := by
    rw [List.flatMap_cons, tks_append, List.append_assoc]
    rfl
   rw [e, itemsA_cons, show (tk (wK kw_cadence)).text = kw_cadence from rfl, cadR_cad d c _ hc0]
   exact ih (d.cad c) done ts hd hdl (fun i h => hn i (List.mem_cons_of_mem _ h)) (fun c h => hc c (List.mem_cons_of_mem _ h)) hnd
  | note i =>
   have hi := hn i (List.mem_cons_self ..)
   have hx : l.getD i nte0 ∈ l := by rw [List.getD_eq_getElem?_getD, List.getElem?_eq_getElem hi]; exact List.getElem_mem hi
   obtain ⟨x1, x2⟩ := hl _ hx
   have hnd' : (done ++ i :: its.filterMap Itm.idx).Nodup := hnd
   have hfresh : i ∉ done := fun h => by
    have := List.nodup_append.1 hnd'
    exact this.2.2 i h i (List.mem_cons_self ..) rfl
   have hidx : idxR d.names (nm i) = none := by
    unfold idxR
    rw [hd, List.findIdx?_eq_none_iff]
    intro y hy
    obtain ⟨j, hj, rfl⟩ := List.mem_map.1 hy
    rw [beq_eq_false_iff_ne]
    intro e
    exact hfresh (by rw [← hinj j i (hdl j hj) hi e]; exact hj)
   have e : tks ((Itm.note i :: its).flatMap (itmK nm l)) ++ ts = tk (wK (if (l.getD i nte0).tied then kw_tied else kw_note)) :: ((tks (noteK (nm i) (l.getD i nte0))).tail ++ (tks (its.flatMap (itmK nm l)) ++ ts)) := by
    rw [List.flatMap_cons, tks_append, List.append_assoc]
    rfl
   rw [e, itemsA_cons, show ∀ w, (tk (wK w)).text = w from fun _ => rfl, noteR_note d (nm i) _ _ (hk i hi) hidx x1 x2]
   refine ih (d.note (nm i) _) (done ++ [i]) ts ?_ ?_ (fun i h => hn i (List.mem_cons_of_mem _ h)) (fun c h => hc c (List.mem_cons_of_mem _ h)) ?_
   ·
    simp only [Drf.note, hd, List.map_append, List.map_cons, List.map_nil]
   ·
    intro j hj
    rcases List.mem_append.1 hj with hj | hj
    ·
     exact hdl j hj
    obtain rfl := List.mem_singleton.1 hj; exact hi
   rw [List.append_assoc]; exact hnd'
theorem items_foldl (nm : Nat → List UInt8) (l : List Nte) (its : List Itm) (d : Drf) :
  its.foldl (itmD nm l) d = ⟨⟨d.sc.voices, d.sc.notes ++ (its.filterMap Itm.idx).map (fun i => (l.getD i nte0).raw), d.sc.pairs, d.sc.cad ++ its.filterMap Itm.num⟩, d.names ++ (its.filterMap Itm.idx).map nm⟩ := by
 induction its generalizing d with
 | nil => simp
 | cons it its ih =>
  rw [List.foldl_cons, ih]
  cases it with
  | cad c => simp [itmD, Drf.cad, List.filterMap_cons, Itm.idx, Itm.num]
  | note i => simp [itmD, Drf.note, List.filterMap_cons, Itm.idx, Itm.num]
def parK (nm : Nat → List UInt8) (p : Par) : List Key := pairK (nm p.a.toNat) (nm p.b.toNat) p
def parD (js : List Nat) (p : Par) : Par := ⟨js.idxOf p.a.toNat, js.idxOf p.b.toNat, p.wish, p.bound⟩
theorem idxR_map (nm : Nat → List UInt8) (js : List Nat) (i : Nat) (hi : i ∈ js) (hinj : ∀ j ∈ js, nm j = nm i → j = i) : idxR (js.map nm) (nm i) = some (js.idxOf i) := by
 induction js with
 | nil => cases hi
 | cons j js ih =>
  unfold idxR
  rw [List.map_cons, List.findIdx?_cons, List.idxOf_cons]
  by_cases e : j = i
  ·
   subst e; simp
  have hne : (nm j == nm i) = false := by
   rw [beq_eq_false_iff_ne]
   exact fun h => e (hinj j (List.mem_cons_self ..) h)
  have hne2 : (j == i) = false := by simpa using e
  have := ih (by rcases List.mem_cons.1 hi with h | h; exact absurd h.symm e; exact h) (fun k hk => hinj k (List.mem_cons_of_mem _ hk))
  unfold idxR at this
  rw [hne, hne2, this]
  rfl
theorem items_pairs (nm : Nat → List UInt8) (js : List Nat) (hk : ∀ i ∈ js, nm i ∉ keyWords) (hinj : ∀ i ∈ js, ∀ j ∈ js, nm i = nm j → i = j)
  (ps : List Par) : ∀ (d : Drf) (ts : List Tok), d.names = js.map nm → (∀ p ∈ ps, p.said ∧ p.wish.lim 64 ∧ p.a.toNat ∈ js ∧ p.b.toNat ∈ js) →
   itemsA d (tks (ps.flatMap (parK nm)) ++ ts) = itemsA ⟨{ d.sc with pairs := d.sc.pairs ++ ps.map (parD js) }, d.names⟩ ts := by
 induction ps with
 | nil => intro d ts _ _; simp [tks_nil]
 | cons p ps ih =>
  intro d ts hd hp
  obtain ⟨p1, p2, p3, p4⟩ := hp p (List.mem_cons_self ..)
  have e : tks ((p :: ps).flatMap (parK nm)) ++ ts = tk (wK kw_pair) :: ((tks (pairK (nm p.a.toNat) (nm p.b.toNat) p)).tail ++ (tks (ps.flatMap (parK nm)) ++ ts)) := by
   rw [List.flatMap_cons, tks_append, List.append_assoc]
   rfl
  rw [e, itemsA_cons, show (tk (wK kw_pair)).text = kw_pair from rfl, pairR_pair d _ _ (js.idxOf p.a.toNat) (js.idxOf p.b.toNat) p _ (hk _ p3) (hk _ p4) (by rw [hd]; exact idxR_map nm js _ p3 fun j hj e => hinj j hj _ p3 e) (by rw [hd]; exact idxR_map nm js _ p4 fun j hj e => hinj j hj _ p4 e) p1 p2]
  show itemsA (d.pair _) _ = _
  rw [ih (d.pair _) ts hd fun q hq => hp q (List.mem_cons_of_mem _ hq)]
  simp [Drf.pair, parD]
theorem read_lines (nm : Nat → List UInt8) (s : Scr) (hs : s.said) (hk : ∀ i, i < s.notes.length → nm i ∉ keyWords) (hinj : ∀ i j, i < s.notes.length → j < s.notes.length → nm i = nm j → i = j) (its : List Itm) (ps : List Par)
  (hn : (its.filterMap Itm.idx).Perm (List.range s.notes.length)) (hc : ∀ c, Itm.cad c ∈ its → 0 ≤ c) (hp : ∀ p ∈ ps, p ∈ s.pairs) :
  readR (tks (headK s.voices ++ (its.flatMap (itmK nm s.notes) ++ ps.flatMap (parK nm)))) =
   .ok ⟨⟨s.voices, (its.filterMap Itm.idx).map (fun i => (s.notes.getD i nte0).raw), ps.map (parD (its.filterMap Itm.idx)), its.filterMap Itm.num⟩, (its.filterMap Itm.idx).map nm⟩ [] := by
 have hmem : ∀ i, i ∈ its.filterMap Itm.idx ↔ i < s.notes.length := fun i => by rw [hn.mem_iff, List.mem_range]
 rw [tks_append, readR_head _ _ hs.v0, tks_append]
 rw [items_front nm s.notes hs.n hk hinj its _ [] _ rfl (fun i h => by cases h) (fun i h => (hmem i).1 (List.mem_filterMap.2 ⟨_, h, rfl⟩)) hc (by rw [List.nil_append]; exact hn.nodup_iff.2 List.nodup_range)]
 rw [items_foldl]
 have h := items_pairs nm (its.filterMap Itm.idx) (fun i hi => hk i ((hmem i).1 hi)) (fun i hi j hj => hinj i j ((hmem i).1 hi) ((hmem j).1 hj)) ps
  ⟨⟨s.voices, [] ++ (its.filterMap Itm.idx).map (fun i => (s.notes.getD i nte0).raw), [], [] ++ its.filterMap Itm.num⟩, [] ++ (its.filterMap Itm.idx).map nm⟩ [] (by simp) (fun p h => by
   obtain ⟨a, b, c, d⟩ := hs.p p (hp p h)
   exact ⟨a, b, (hmem _).2 c, (hmem _).2 d⟩)
 rw [List.append_nil] at h
 refine Eq.trans h ?_
 rw [itemsA_nil]
 simp
end Go.Proofs.YtcjhihmaegagdaaGreatDoor
namespace Go.Proofs.YtcjhihmaegagdaaGreatDoor
open Go.Lib
section
variable {α : Type} {lt : α → α → Bool}
def Rises (lt : α → α → Bool) (l : List α) : Prop := l.Pairwise fun x y => lt x y = true
theorem risesV_iff (h : Swo lt) (l : List α) (hr : risesV lt l = true) : Rises lt l := by
 induction l with
 | nil => exact List.Pairwise.nil
 | cons x l ih =>
  cases l with
  | nil => exact List.pairwise_singleton _ _
  | cons y l =>
   simp only [risesV, Bool.and_eq_true] at hr
   have h2 := ih hr.2
   refine List.pairwise_cons.2 ⟨fun z hz => ?_, h2⟩
   rcases List.mem_cons.1 hz with rfl | hz
   ·
    exact hr.1
   exact h.trans _ _ _ hr.1 ((List.pairwise_cons.1 h2).1 z hz)
theorem rises_unique {l m : List α} (hp : l.Perm m) (h1 : Sorted lt l) (h2 : Rises lt m) : l = m := by
 induction m generalizing l with
 | nil => exact List.perm_nil.1 hp
 | cons x m ih =>
  cases l with
  | nil => exact absurd hp.length_eq (by simp)
  | cons y l =>
   have a1 := List.pairwise_cons.1 h1
   have a2 := List.pairwise_cons.1 h2
   have e : y = x := by
    rcases List.mem_cons.1 (hp.mem_iff.1 (List.mem_cons_self ..)) with r | r
    ·
     exact r
    rcases List.mem_cons.1 (hp.mem_iff.2 (List.mem_cons_self (a := x))) with q | q
    ·
     exact q.symm
    have b1 := a2.1 y r
    have b2 := a1.1 x q
    rw [b1] at b2
    cases b2
   subst e
   rw [ih (List.perm_cons y |>.1 hp) a1.2 a2.2]
theorem sortS_rises (h : Swo lt) {l m : List α} (hp : l.Perm m) (hr : Rises lt m) : sortS lt l = m := rises_unique ((sortS_perm l).trans hp) (sortS_sorted h l) hr
end
theorem getD_lt {α : Type} (l : List α) (i : Nat) (d : α) (h : i < l.length) : l.getD i d = l[i] := by simp [List.getD, h]
theorem getD_map {α β : Type} (f : α → β) (l : List α) (i : Nat) (d : α) (d' : β) (h : i < l.length) : (l.map f).getD i d' = f (l.getD i d) := by simp [List.getD, h]
theorem idx_range (js : List Nat) (h : js.Nodup) : js.map (js.idxOf ·) = List.range js.length := by
 refine List.ext_getElem (by simp) fun i h1 h2 => ?_
 simp only [List.getElem_map, List.getElem_range]
 exact List.Nodup.idxOf_getElem h i (by simpa using h1)
theorem nteLt_raw (a b : Nte) : nteLt a.raw b.raw = nteLt a b := by
 unfold Nte.raw nteLt
 cases a.tied <;> cases b.tied <;> rfl
section
variable {s : Scr} {js : List Nat}
def rawAt (l : List Nte) (js : List Nat) : List Nte := js.map fun i => (l.getD i nte0).raw
theorem rawAt_length (l : List Nte) (js : List Nat) : (rawAt l js).length = js.length := by simp [rawAt]
theorem rawAt_at (l : List Nte) (js : List Nat) (a : Nat) (h : a ∈ js) : (rawAt l js).getD (js.idxOf a) nte0 = (l.getD a nte0).raw := by
 have h1 := List.idxOf_lt_length_iff.2 h
 unfold rawAt
 rw [getD_map (fun i => (l.getD i nte0).raw) js _ 0 nte0 h1, getD_lt js _ 0 h1, List.getElem_idxOf h1]
theorem order_back (l : List Nte) (hr : Rises nteLt l) (hj : js.Perm (List.range l.length)) : orderS (rawAt l js) = (List.range l.length).map (js.idxOf ·) := by
 have hnd : js.Nodup := hj.nodup_iff.2 List.nodup_range
 have hlen : js.length = l.length := by rw [hj.length_eq, List.length_range]
 unfold orderS
 rw [rawAt_length]
 refine sortS_rises (nteLt_swo.pull (fun i => (rawAt l js).getD i nte0)) ?_ ?_
 ·
  have := hj.map (js.idxOf ·)
  rw [idx_range js hnd] at this
  exact this
 unfold Rises
 rw [List.pairwise_map]
 have hmem : ∀ i, i < l.length → i ∈ js := fun i h => hj.mem_iff.2 (List.mem_range.2 h)
 refine (List.pairwise_lt_range (n := l.length)).imp_of_mem fun {a b} ha hb hab => ?_
 rw [List.mem_range] at ha hb
 show nteLt ((rawAt l js).getD (js.idxOf a) nte0) ((rawAt l js).getD (js.idxOf b) nte0) = true
 rw [rawAt_at l js a (hmem a ha), rawAt_at l js b (hmem b hb), nteLt_raw, getD_lt _ _ _ ha, getD_lt _ _ _ hb]
 exact List.pairwise_iff_getElem.1 hr a b ha hb hab
theorem place_back (l : List Nte) (hr : Rises nteLt l) (hj : js.Perm (List.range l.length)) (a : Nat) (ha : a < l.length) : placeS (rawAt l js) (js.idxOf a) = a := by
 have hlen : js.length = l.length := by rw [hj.length_eq, List.length_range]
 have h := placeS_at (rawAt l js) (k := a) (by rw [rawAt_length, hlen]; exact ha)
 rw [order_back l hr hj, getD_map (js.idxOf ·) (List.range l.length) a 0 0 (by simpa using ha), getD_lt _ _ _ (by simpa using ha), List.getElem_range] at h
 exact h
theorem sorted_back (l : List Nte) (hr : Rises nteLt l) (hj : js.Perm (List.range l.length)) : (orderS (rawAt l js)).map (fun i => (rawAt l js).getD i nte0) = l.map Nte.raw := by
 rw [order_back l hr hj, List.map_map]
 refine List.ext_getElem (by simp) fun i h1 h2 => ?_
 have hi : i < l.length := by simpa using h1
 simp only [List.getElem_map, List.getElem_range, Function.comp]
 rw [rawAt_at l js i (hj.mem_iff.2 (List.mem_range.2 hi)), getD_lt _ _ _ hi]
end
theorem lastV_some {l : List Nte} {k : Nat} {v : Int} (h : (lastV l k v).stop ≠ 0) : ∃ m, m < k ∧ ∃ hm : m < l.length, l[m] = lastV l k v ∧ l[m].voice = v ∧ ∀ i, m < i → i < k → ∀ hi : i < l.length, l[i].voice ≠ v := by
 unfold lastV at h ⊢
 cases e : (l.take k).reverse.find? (fun n => decide (n.voice = v)) with
 | none => rw [e] at h; exact absurd rfl h
 | some b =>
  simp only [Option.getD_some]
  obtain ⟨hb, us, bs, e2, hall⟩ := List.find?_eq_some_iff_append.1 e
  have e3 : l.take k = bs.reverse ++ b :: us.reverse := by
   rw [← List.reverse_reverse (l.take k), e2]
   simp
  have hlen : (l.take k).length = bs.length + (us.length + 1) := by rw [e3]; simp
  rw [List.length_take] at hlen
  have hm : bs.length < l.length := by omega
  have hat : ∀ i (hi : i < l.length), i < k → (bs.reverse ++ b :: us.reverse)[i]? = some l[i] := fun i hi hk => by
   rw [← e3, List.getElem?_take, if_pos hk, List.getElem?_eq_getElem hi]
  have hmb : l[bs.length] = b := by
   have := hat bs.length hm (by omega)
   rw [List.getElem?_append_right (by simp)] at this
   simp at this
   exact this.symm
  refine ⟨bs.length, by omega, hm, hmb, ?_, fun i h1 h2 hi hv => ?_⟩
  ·
   rw [hmb]; simpa using hb
  have := hat i hi h2
  rw [List.getElem?_append_right (by simp; omega)] at this
  obtain ⟨q, hq⟩ : ∃ q, i - bs.reverse.length = q + 1 := ⟨i - bs.length - 1, by simp; omega⟩
  rw [hq, List.getElem?_cons_succ] at this
  have hmem := List.mem_of_getElem? this
  rw [List.mem_reverse] at hmem
  have := hall _ hmem
  simp [hv] at this
theorem lastV_none {l : List Nte} {k : Nat} {v : Int} {m : Nat} (h1 : m < k) (h2 : m < l.length) (hv : l[m].voice = v) : ∃ i, m ≤ i ∧ i < k ∧ ∃ hi : i < l.length, l[i] = lastV l k v ∧ l[i].voice = v := by
 unfold lastV
 cases e : (l.take k).reverse.find? (fun n => decide (n.voice = v)) with
 | none =>
  have := List.find?_eq_none.1 e l[m] (by
   rw [List.mem_reverse, List.mem_iff_getElem?]
   exact ⟨m, by rw [List.getElem?_take, if_pos h1, List.getElem?_eq_getElem h2]⟩)
  simp [hv] at this
 | some b =>
  simp only [Option.getD_some]
  obtain ⟨hb, us, bs, e2, hall⟩ := List.find?_eq_some_iff_append.1 e
  have e3 : l.take k = bs.reverse ++ b :: us.reverse := by
   rw [← List.reverse_reverse (l.take k), e2]
   simp
  have hlen : (l.take k).length = bs.length + (us.length + 1) := by rw [e3]; simp
  rw [List.length_take] at hlen
  have hm : bs.length < l.length := by omega
  have hat : ∀ i (hi : i < l.length), i < k → (bs.reverse ++ b :: us.reverse)[i]? = some l[i] := fun i hi hk => by
   rw [← e3, List.getElem?_take, if_pos hk, List.getElem?_eq_getElem hi]
  have hmb : l[bs.length] = b := by
   have := hat bs.length hm (by omega)
   rw [List.getElem?_append_right (by simp)] at this
   simp at this
   exact this.symm
  refine ⟨bs.length, ?_, by omega, hm, hmb, by rw [hmb]; simpa using hb⟩
  by_cases hlt : bs.length < m
  ·
   exfalso
   have := hat m h2 h1
   rw [List.getElem?_append_right (by simp; omega)] at this
   obtain ⟨q, hq⟩ : ∃ q, m - bs.reverse.length = q + 1 := ⟨m - bs.length - 1, by simp; omega⟩
   rw [hq, List.getElem?_cons_succ] at this
   have hmem := List.mem_of_getElem? this
   rw [List.mem_reverse] at hmem
   have := hall _ hmem
   simp [hv] at this
  omega
def VoicesOk (l : List Nte) : Prop := ∀ k (hk : k < l.length), voiceV l k l[k] = true
theorem voice_ahead {l : List Nte} (hv : VoicesOk l) (hp : ∀ x ∈ l, x.start < x.stop) : ∀ m (hm : m < l.length) j (hj : j < m), l[j].voice = l[m].voice → l[j].stop ≤ l[m].start := by
 intro m
 induction m using Nat.strongRecOn with
 | _ m ih =>
  intro hm j hj e
  obtain ⟨i, h1, h2, hi, e1, e2⟩ := lastV_none hj (by omega) e
  have h := hv m hm
  simp only [voiceV, Bool.not_eq_true', Bool.or_eq_false_iff, decide_eq_false_iff_not] at h
  have h3 : l[i].stop ≤ l[m].start := by rw [e1]; omega
  rcases Nat.lt_or_eq_of_le h1 with h4 | rfl
  ·
   have h5 := ih i h2 hi j h4 (by rw [e, e2])
   have h6 := hp l[i] (List.getElem_mem hi)
   omega
  exact h3
theorem before_back {l : List Nte} (hv : VoicesOk l) (hp : ∀ x ∈ l, x.start < x.stop) (k : Nat) (hk : k < l.length) (ht : l[k].tied = true) :
  ∃ j, j < k ∧ ∃ hj : j < l.length, l.findIdx? (fun m => decide (m.voice = l[k].voice) && decide (m.stop = l[k].start)) = some j ∧ l[j].place = l[k].place := by
 have h := hv k hk
 simp only [voiceV, Bool.not_eq_true', Bool.or_eq_false_iff, decide_eq_false_iff_not, ht, Bool.true_and, Bool.not_eq_false', decide_eq_true_eq] at h
 obtain ⟨h1, ⟨h2, h3⟩, h4⟩ := h
 obtain ⟨m, m1, m2, m3, m4, m5⟩ := lastV_some h3
 have e1 : l[m].stop = l[k].start := by rw [m3]; exact h2
 refine ⟨m, m1, m2, ?_, by rw [m3]; exact h4⟩
 rw [List.findIdx?_eq_some_iff_getElem]
 refine ⟨m2, by simp [m4, e1], fun j hj => ?_⟩
 have hjl : j < l.length := by omega
 simp only [Bool.not_eq_true, Bool.and_eq_false_iff, decide_eq_false_iff_not]
 by_cases e : l[j].voice = l[k].voice
 ·
  right
  have := voice_ahead hv hp m m2 j hj (by rw [e, m4])
  have h6 := hp l[m] (List.getElem_mem m2)
  omega
 left; exact e
def mixS (l : List Nte) (k : Nat) : List Nte := (List.range l.length).map fun i => if i < k then l.getD i nte0 else (l.getD i nte0).raw
theorem mixS_length (l : List Nte) (k : Nat) : (mixS l k).length = l.length := by simp [mixS]
theorem mixS_at (l : List Nte) (k i : Nat) (h : i < l.length) : (mixS l k)[i]? = some (if i < k then l[i] else l[i].raw) := by
 simp [mixS, h]
theorem raw_voice (n : Nte) : n.raw.voice = n.voice := by unfold Nte.raw; split <;> rfl
theorem raw_start (n : Nte) : n.raw.start = n.start := by unfold Nte.raw; split <;> rfl
theorem raw_stop (n : Nte) : n.raw.stop = n.stop := by unfold Nte.raw; split <;> rfl
theorem raw_tied (n : Nte) : n.raw.tied = n.tied := by unfold Nte.raw; split <;> rfl
theorem findIdx_congr {α β : Type} (p : α → Bool) (q : β → Bool) (l : List α) (m : List β) (hl : l.length = m.length) (h : ∀ i (h1 : i < l.length) (h2 : i < m.length), p l[i] = q m[i]) : l.findIdx? p = m.findIdx? q := by
 induction l generalizing m with
 | nil =>
  cases m with
  | nil => rfl
  | cons y m => simp at hl
 | cons x l ih =>
  cases m with
  | nil => simp at hl
  | cons y m =>
   rw [List.findIdx?_cons, List.findIdx?_cons]
   have h0 := h 0 (by simp) (by simp)
   simp only [List.getElem_cons_zero] at h0
   rw [h0, ih m (by simpa using hl) fun i h1 h2 => by
    have := h (i + 1) (by simp; omega) (by simp; omega)
    simpa using this]
theorem ties_back (l : List Nte) (hv : VoicesOk l) (hp : ∀ x ∈ l, x.start < x.stop) (k : Nat) (hk : k ≤ l.length) : tiesS (l.map Nte.raw) k = mixS l k := by
 induction k with
 | zero =>
  refine List.ext_getElem? fun i => ?_
  by_cases h : i < l.length
  ·
   rw [mixS_at l 0 i h]; simp [tiesS, h]
  rw [List.getElem?_eq_none (by rw [tiesS_length]; simp; omega), List.getElem?_eq_none (by rw [mixS_length]; omega)]
 | succ k ih =>
  have hk' : k < l.length := hk
  rw [tiesS_succ, ih (by omega)]
  have hat := mixS_at l k k hk'
  rw [if_neg (by omega)] at hat
  have hstep : ∀ x : Nte, (l[k]).raw.tied = false → l[k].raw = l[k] := fun _ h => by
   rw [raw_tied] at h
   unfold Nte.raw
   rw [h]; rfl
  unfold tieS
  rw [hat]
  simp only []
  cases ht : l[k].raw.tied with
  | false =>
   simp only [Bool.false_eq_true, if_false]
   have e := hstep nte0 ht
   refine List.ext_getElem? fun i => ?_
   by_cases h : i < l.length
   ·
    rw [mixS_at l k i h, mixS_at l (k + 1) i h]
    rcases Nat.lt_trichotomy i k with h1 | rfl | h1
    ·
     rw [if_pos h1, if_pos (by omega)]
    ·
     rw [if_neg (by omega), if_pos (by omega), e]
    rw [if_neg (by omega), if_neg (by omega)]
   rw [List.getElem?_eq_none (by rw [mixS_length]; omega), List.getElem?_eq_none (by rw [mixS_length]; omega)]
  | true =>
   simp only [if_true]
   rw [raw_tied] at ht
   obtain ⟨j, j1, j2, j3, j4⟩ := before_back hv hp k hk' ht
   have hb : beforeS (mixS l k) l[k].raw = some j := by
    unfold beforeS
    rw [← j3]
    refine findIdx_congr _ _ _ _ (mixS_length l k) fun i h1 h2 => ?_
    have e : (mixS l k)[i] = if i < k then l[i] else l[i].raw := by
     have := mixS_at l k i h2
     rw [List.getElem?_eq_getElem h1] at this
     injection this
    rw [e, raw_voice, raw_start]
    split
    ·
     rfl
    rw [raw_voice, raw_stop]
   rw [hb]
   simp only []
   have ej : (mixS l k).getD j nte0 = l[j] := by
    rw [List.getD_eq_getElem?_getD, mixS_at l k j j2, if_pos j1]
    rfl
   rw [ej, j4]
   have ek : ({ voice := l[k].raw.voice, start := l[k].raw.start, stop := l[k].raw.stop, place := l[k].place, tied := true } : Nte) = l[k] := by
    rw [raw_voice, raw_start, raw_stop, ← ht]
   rw [ek]
   refine List.ext_getElem? fun i => ?_
   rw [List.getElem?_set]
   by_cases h : i < l.length
   ·
    rw [mixS_at l k i h, mixS_at l (k + 1) i h, mixS_length]
    rcases Nat.lt_trichotomy i k with h1 | rfl | h1
    ·
     rw [if_neg (by omega), if_pos h1, if_pos (by omega)]
    ·
     rw [if_pos rfl, if_pos h, if_pos (by omega)]
    rw [if_neg (by omega), if_neg (by omega), if_neg (by omega)]
   rw [if_neg (by omega), List.getElem?_eq_none (by rw [mixS_length]; omega), List.getElem?_eq_none (by rw [mixS_length]; omega)]
theorem mixS_full (l : List Nte) : mixS l l.length = l := by
 refine List.ext_getElem? fun i => ?_
 by_cases h : i < l.length
 ·
  rw [mixS_at l _ i h, if_pos h, List.getElem?_eq_getElem h]
 rw [List.getElem?_eq_none (by rw [mixS_length]; omega), List.getElem?_eq_none (by omega)]
structure Scr.good (s : Scr) : Prop where
 v0 : 1 ≤ s.voices
 v1 : s.voices ≤ 8
 nl : s.notes.length ≤ 200
 pl : s.pairs.length ≤ 400
 cl : s.cad.length < 16
 n : ∀ x ∈ s.notes, 0 ≤ x.voice ∧ x.voice < s.voices ∧ 0 ≤ x.start ∧ x.start < x.stop ∧ x.stop ≤ 100000 ∧ x.place.lim 24
 nr : Rises nteLt s.notes
 vo : VoicesOk s.notes
 p : ∀ x ∈ s.pairs, 0 ≤ x.a ∧ x.a < x.b ∧ x.b < s.notes.length ∧ x.wish.lim 16 ∧ 0 ≤ x.bound ∧ x.bound ≤ 100000
 pr : Rises parLt s.pairs
 c : ∀ x ∈ s.cad, 1 ≤ x ∧ x < 100000
 cr : Rises (fun a b : Int => decide (a < b)) s.cad
theorem le_lim {v : Vc} {m : Nat} (h : v.le m = true) : v.lim m := by
 simp only [Vc.le, Bool.and_eq_true, decide_eq_true_eq] at h
 unfold Vc.lim
 omega
theorem ltI_swo : Swo (fun a b : Int => decide (a < b)) := ⟨fun x => by simp, fun x y z h1 h2 => by simp at *; omega, fun x y z h1 h2 => by simp at *; omega⟩
theorem validS_good {s : Scr} (h : validS s = true) : s.good := by
 simp only [validS, sizesV, notesV, voicesV, pairsV, cadV, Bool.and_eq_true, decide_eq_true_eq, List.all_eq_true] at h
 obtain ⟨⟨⟨⟨⟨⟨⟨⟨a1, a2⟩, a3⟩, a4⟩, a5⟩, ⟨b1, b2⟩⟩, c1⟩, ⟨d1, d2⟩⟩, ⟨e1, e2⟩⟩ := h
 refine ⟨a1, a2, a3, a4, a5, fun x hx => ?_, risesV_iff nteLt_swo _ b2, fun k hk => ?_, fun x hx => ?_, risesV_iff parLt_swo _ d2, fun x hx => e1 x hx, risesV_iff ltI_swo _ e2⟩
 ·
  have := b1 x hx
  simp only [noteV, Bool.and_eq_true, decide_eq_true_eq] at this
  obtain ⟨⟨⟨⟨⟨f1, f2⟩, f3⟩, f4⟩, f5⟩, f6⟩ := this
  exact ⟨f1, f2, f3, f4, f5, le_lim f6⟩
 ·
  have := c1 k (List.mem_range.2 hk)
  rw [getD_lt _ _ _ hk] at this
  exact this
 have := d1 x hx
 simp only [pairV, Bool.and_eq_true, decide_eq_true_eq] at this
 obtain ⟨⟨⟨⟨⟨⟨⟨f1, f2⟩, f3⟩, f4⟩, f5⟩, f6⟩, f7⟩, f8⟩ := this
 exact ⟨f1, f2, f3, le_lim f4, f5, f6⟩
theorem Vc.lim.mono {v : Vc} {m n : Nat} (h : v.lim m) (hm : m ≤ n) : v.lim n := by unfold Vc.lim at *; omega
theorem Scr.good.said {s : Scr} (h : s.good) : s.said := by
 refine ⟨by have := h.v0; omega, by have := h.v1; omega, fun x hx => ?_, fun x hx => ?_, fun x hx => by have := h.c x hx; omega, by have := h.nl; omega⟩
 ·
  obtain ⟨a1, a2, a3, a4, a5, a6⟩ := h.n x hx
  have := h.v1
  exact ⟨⟨a1, by omega, a3, by omega, by omega, by omega, a6.mono (by omega)⟩, a6.mono (by omega)⟩
 obtain ⟨a1, a2, a3, a4, a5, a6⟩ := h.p x hx
 have := h.nl
 exact ⟨⟨a1, by omega, by omega, by omega, a4.mono (by omega), a5, by omega⟩, a4.mono (by omega), by omega, by omega⟩
theorem arrange_back {s : Scr} (h : s.good) {js : List Nat} {ps : List Par} {cs : List Int} (hj : js.Perm (List.range s.notes.length)) (hp : ps.Perm s.pairs) (hc : cs.Perm s.cad) :
  arrangeS ⟨s.voices, rawAt s.notes js, ps.map (parD js), cs⟩ = s := by
 have hlen : js.length = s.notes.length := by rw [hj.length_eq, List.length_range]
 have e1 : notesS (rawAt s.notes js) = s.notes := by
  unfold notesS
  rw [sorted_back s.notes h.nr hj, rawAt_length, hlen, ties_back s.notes h.vo (fun x hx => (h.n x hx).2.2.2.1) _ (Nat.le_refl _), mixS_full]
 have e2 : pairsS (rawAt s.notes js) (ps.map (parD js)) = s.pairs := by
  unfold pairsS
  rw [List.map_map]
  have e3 : ps.map (turnS (placeS (rawAt s.notes js)) ∘ parD js) = ps := by
   conv => rhs; rw [← List.map_id ps]
   refine List.map_congr_left fun p hq => ?_
   obtain ⟨a1, a2, a3, -⟩ := h.p p (hp.mem_iff.1 hq)
   have pa := place_back s.notes h.nr hj p.a.toNat (by omega)
   have pb := place_back s.notes h.nr hj p.b.toNat (by omega)
   simp only [Function.comp, turnS, parD, Int.toNat_natCast, pa, pb]
   rw [if_neg (by omega)]
   cases p with
   | mk a b w k =>
    simp only [id_eq, Par.mk.injEq, and_true]
    simp only at a1 a2
    omega
  rw [e3]
  exact sortS_rises parLt_swo hp h.pr
 have e3 : cadS cs = s.cad := sortS_rises ltI_swo hc h.cr
 unfold arrangeS
 rw [e1, e2, e3]
theorem lines_back {s : Scr} (h : s.good) (nm : Nat → List UInt8) (hk : ∀ i, i < s.notes.length → nm i ∉ keyWords) (hinj : ∀ i j, i < s.notes.length → j < s.notes.length → nm i = nm j → i = j) (its : List Itm) (ps : List Par)
  (hn : (its.filterMap Itm.idx).Perm (List.range s.notes.length)) (hc : (its.filterMap Itm.num).Perm s.cad) (hp : ps.Perm s.pairs) :
  ∃ d, readR (tks (headK s.voices ++ (its.flatMap (itmK nm s.notes) ++ ps.flatMap (parK nm)))) = .ok d [] ∧ arrangeS d.sc = s := by
 refine ⟨_, read_lines nm s h.said hk hinj its ps hn (fun c hm => ?_) (fun p hm => hp.mem_iff.1 hm), ?_⟩
 ·
  have : c ∈ s.cad := hc.mem_iff.1 (List.mem_filterMap.2 ⟨_, hm, rfl⟩)
  have := h.c c this
  omega
 exact arrange_back h hn hp hc
theorem parse_keys {t : List UInt8} {ks : List Key} {d : Drf} {s : Scr} (hl : t.length ≤ 8000) (ht : (lexA 0 t).2 = none ∧ (lexA 0 t).1.map Tok.key = ks) (hr : readR (tks ks) = .ok d []) (ha : arrangeS d.sc = s) (hv : validS s = true) :
  lexE t = 0 ∧ parseE t = 0 ∧ parseS t = s ∧ parseP t = 0 := by
 have e0 : lexE t = 0 := by unfold lexE; rw [if_neg (by omega), ht.1]
 have e1 : lexT t = (lexA 0 t).1 := by unfold lexT; rw [if_neg (by omega), ht.1]
 have hlike := readR_like (tks_same ht.2)
 rw [hr] at hlike
 cases hq : readR (lexA 0 t).1 with
 | err r k => rw [hq] at hlike; exact hlike.elim
 | ok d2 r =>
  rw [hq] at hlike
  obtain ⟨rfl, -⟩ := hlike
  refine ⟨e0, ?_, ?_, ?_⟩
  ·
   unfold parseE; rw [if_neg (by rw [e0]; decide), e1, hq]; simp only [ha, hv, if_true]
  ·
   unfold parseS; rw [if_neg (by rw [e0]; decide), e1, hq]; simp only [ha, hv, if_true]
  unfold parseP; rw [if_neg (by rw [e0]; decide), e1, hq]; simp only [ha, hv, if_true]
def headL (v : Int) : List UInt8 := [118, 111, 105, 99, 101, 115, 32] ++ itoa v ++ [59, 10]
def itmL (l : List Nte) : Itm → List UInt8
 | .cad c => cadL c
 | .note i => noteL i (l.getD i nte0)
theorem lines_lex {s : Scr} (hs : s.said) (its : List Itm) (ps : List Par) (hn : ∀ i, Itm.note i ∈ its → i < s.notes.length) (hc : ∀ c, Itm.cad c ∈ its → c ∈ s.cad) (hp : ∀ p ∈ ps, p ∈ s.pairs) :
  LexTo (headL s.voices ++ (its.flatMap (itmL s.notes) ++ ps.flatMap pairL)) (headK s.voices ++ (its.flatMap (itmK nm0 s.notes) ++ ps.flatMap (parK nm0))) := by
 refine head_lex hs.v0 hs.v1 ?_
 have hps : LexTo (ps.flatMap pairL) (ps.flatMap (parK nm0)) := by
  induction ps with
  | nil => exact LexTo.nil
  | cons p ps ih =>
   rw [List.flatMap_cons, List.flatMap_cons]
   exact pair_lex (hs.p p (hp p (List.mem_cons_self ..))).1 (ih fun q hq => hp q (List.mem_cons_of_mem _ hq))
 induction its with
 | nil => exact hps
 | cons it its ih =>
  have h2 := ih (fun i h => hn i (List.mem_cons_of_mem _ h)) (fun c h => hc c (List.mem_cons_of_mem _ h))
  rw [List.flatMap_cons, List.flatMap_cons, List.append_assoc, List.append_assoc]
  cases it with
  | cad c =>
   have := hs.c c (hc c (List.mem_cons_self ..))
   exact cad_lex this.1 this.2 h2
  | note i =>
   have hi := hn i (List.mem_cons_self ..)
   have hx : s.notes.getD i nte0 ∈ s.notes := by rw [getD_lt _ _ _ hi]; exact List.getElem_mem hi
   exact note_lex (by have := hs.l; omega) (hs.n _ hx).1 h2
def itsS (s : Scr) : List Itm := s.cad.map Itm.cad ++ (List.range s.notes.length).map Itm.note
theorem notesL_flat (l : List Nte) (k : Nat) : notesL l k = ((List.range k).map Itm.note).flatMap (itmL l) := by
 induction k with
 | zero => rfl
 | succ k ih =>
  rw [notesL, ih, List.range_succ, List.map_append, List.flatMap_append]
  simp [itmL]
theorem cadsL_flat (l : List Nte) (cs : List Int) : cadsL cs = (cs.map Itm.cad).flatMap (itmL l) := by
 unfold cadsL
 rw [List.flatMap_map]
 rfl
theorem sourceL_eq (s : Scr) : sourceL s = headL s.voices ++ ((itsS s).flatMap (itmL s.notes) ++ s.pairs.flatMap pairL) := by
 unfold sourceL headL itsS pairsL
 rw [notesL_flat, cadsL_flat s.notes, List.flatMap_append]
 simp only [List.append_assoc]
theorem itsS_idx (s : Scr) : (itsS s).filterMap Itm.idx = List.range s.notes.length := by
 unfold itsS
 rw [List.filterMap_append, List.filterMap_map, List.filterMap_map]
 have e1 : s.cad.filterMap (Itm.idx ∘ Itm.cad) = [] := by
  rw [List.filterMap_eq_nil_iff]
  intro a _
  rfl
 have e2 : (List.range s.notes.length).filterMap (Itm.idx ∘ Itm.note) = List.range s.notes.length := by
  conv => rhs; rw [← List.filterMap_some (l := List.range s.notes.length)]
  rfl
 rw [e1, e2]
 rfl
theorem itsS_num (s : Scr) : (itsS s).filterMap Itm.num = s.cad := by
 unfold itsS
 rw [List.filterMap_append, List.filterMap_map, List.filterMap_map]
 have e1 : (List.range s.notes.length).filterMap (Itm.num ∘ Itm.note) = [] := by
  rw [List.filterMap_eq_nil_iff]
  intro a _
  rfl
 have e2 : s.cad.filterMap (Itm.num ∘ Itm.cad) = s.cad := by
  conv => rhs; rw [← List.filterMap_some (l := s.cad)]
  rfl
 rw [e1, e2]
 simp
theorem itsS_note (s : Scr) (i : Nat) (h : Itm.note i ∈ itsS s) : i < s.notes.length := by
 have : i ∈ (itsS s).filterMap Itm.idx := List.mem_filterMap.2 ⟨_, h, rfl⟩
 rw [itsS_idx] at this
 exact List.mem_range.1 this
theorem itsS_cad (s : Scr) (c : Int) (h : Itm.cad c ∈ itsS s) : c ∈ s.cad := by
 have : c ∈ (itsS s).filterMap Itm.num := List.mem_filterMap.2 ⟨_, h, rfl⟩
 rw [itsS_num] at this
 exact this
theorem nm0_key {i : Nat} : nm0 i ∉ keyWords := by
 intro h
 simp only [keyWords, List.mem_cons, List.not_mem_nil, or_false] at h
 have hd := decDigits_range i
 have hne : decDigits i ≠ [] := (decDigits_isDec i).1
 unfold nm0 at h
 rcases h with h | h | h | h | h | h | h | h | h | h | h
 all_goals first
  | (injection h with h1 h2; revert h1; decide)
  | (injection h with h1 h2; rw [h2] at hd; have := hd 111 (by decide); revert this; decide)
theorem nm0_inj {i j : Nat} (h : nm0 i = nm0 j) : i = j := by
 injection h with _ h
 exact decDigits_inj h
theorem source_back {s : Scr} (hv : validS s = true) (hl : (sourceL s).length ≤ 8000) : lexE (sourceL s) = 0 ∧ parseE (sourceL s) = 0 ∧ parseS (sourceL s) = s ∧ parseP (sourceL s) = 0 := by
 have hg := validS_good hv
 obtain ⟨d, h1, h2⟩ := lines_back hg nm0 (fun _ _ => nm0_key) (fun _ _ _ _ e => nm0_inj e) (itsS s) s.pairs (by rw [itsS_idx]) (by rw [itsS_num]) (List.Perm.refl _)
 have hlex := lines_lex hg.said (itsS s) s.pairs (itsS_note s) (itsS_cad s) (fun _ h => h)
 rw [← sourceL_eq] at hlex
 exact parse_keys hl (hlex 0) h1 h2 hv
end Go.Proofs.YtcjhihmaegagdaaGreatDoor
namespace Go.Proofs.YtcjhihmaegagdaaGreatDoor
open Go.Lib
theorem lexA_range (p : Nat) (l : List UInt8) (q : Nat) (h : (lexA p l).2 = some q) : p ≤ q ∧ q ≤ p + l.length := by
 obtain ⟨h1, h2, -⟩ := lexA_front p l q h
 omega
theorem lexP_le (s : List UInt8) : lexP s ≤ s.length := by
 unfold lexP
 split
 ·
  omega
 split
 ·
  omega
 next q h =>
 have := lexA_range 0 s _ h
 omega
theorem lexT_err {s : List UInt8} (h : lexE s ≠ 0) : lexT s = [] := by
 unfold lexE at h
 unfold lexT
 split at h
 ·
  next h1 => rw [if_pos h1]
 next h1 =>
 rw [if_neg h1]
 split at h
 ·
  exact absurd rfl h
 next h2 => first | rfl | rw [h2]
theorem lexE_ok {s : List UInt8} (h : lexE s = 0) : s.length ≤ 8000 ∧ (lexA 0 s).2 = none ∧ lexT s = (lexA 0 s).1 := by
 unfold lexE at h
 split at h
 ·
  cases h
 next h1 =>
 split at h
 ·
  next h2 =>
  refine ⟨by omega, h2, ?_⟩
  unfold lexT
  rw [if_neg h1, h2]
 cases h
theorem lexE_of {s : List UInt8} (h1 : s.length ≤ 8000) (h2 : (lexA 0 s).2 = none) : lexE s = 0 ∧ lexT s = (lexA 0 s).1 ∧ lexP s = 0 := by
 unfold lexE lexT lexP
 rw [if_neg (by omega), if_neg (by omega), if_neg (by omega), h2]
 exact ⟨rfl, rfl, rfl⟩
theorem lexE_long {s : List UInt8} (h : 8000 < s.length) : lexE s = 2 := by unfold lexE; rw [if_pos h]
theorem lexE_bad {s : List UInt8} {q : Nat} (h1 : s.length ≤ 8000) (h2 : (lexA 0 s).2 = some q) : lexE s = 10 ∧ lexP s = q := by
 unfold lexE lexP
 rw [if_neg (by omega), if_neg (by omega), h2]
 exact ⟨rfl, rfl⟩
theorem lexE_cases {s : List UInt8} (h1 : s.length ≤ 8000) : (lexE s = 0 ∧ (lexA 0 s).2 = none) ∨ (lexE s = 10 ∧ (lexA 0 s).2 = some (lexP s)) := by
 cases e : (lexA 0 s).2 with
 | none => exact Or.inl ⟨(lexE_of h1 e).1, rfl⟩
 | some q =>
  obtain ⟨a, b⟩ := lexE_bad h1 e
  exact Or.inr ⟨a, by rw [b]⟩
def StandL (src : List UInt8) : Nat → List Tok → Prop
 | e, [] => e ≤ src.length ∧ gapA (src.drop e) = true
 | e, t :: ts => e ≤ t.pos ∧ t.pos + t.text.length ≤ src.length ∧ t.text ≠ [] ∧ (src.drop t.pos).take t.text.length = t.text ∧ gapA ((src.drop e).take (t.pos - e)) = true ∧ StandL src (t.pos + t.text.length) ts
theorem stand_any (src : List UInt8) (ts : List Tok) (p : Nat) (hp : p ≤ src.length) (h : lexA p (src.drop p) = (ts, none)) : StandL src p ts := by
 induction ts generalizing p with
 | nil =>
  rcases lexA_gap p (src.drop p) (by rw [h]) with ⟨-, h2⟩ | ⟨t, us, g, r, h1, -⟩
  ·
   exact ⟨hp, h2⟩
  rw [h] at h1; cases h1
 | cons t ts ih =>
  rcases lexA_gap p (src.drop p) (by rw [h]) with ⟨h1, -⟩ | ⟨t', us, g, r, h1, h2, h3, h4, h5, h6⟩
  ·
   rw [h] at h1; cases h1
  rw [h] at h1
  injection h1 with e1 e2
  subst e1 e2
  obtain ⟨x, l, e3, -, e4⟩ := Tok.good_cons h5
  have hlen := congrArg List.length h2
  rw [List.length_drop, List.length_append, List.length_append] at hlen
  have hd : src.drop t.pos = t.text ++ r := by
   rw [h4, ← List.drop_drop, h2, List.append_assoc, List.drop_left]
  have hd2 : src.drop (t.pos + t.text.length) = r := by rw [← List.drop_drop, hd, List.drop_left]
  refine ⟨by omega, by omega, (by rw [e3]; intro e; cases e), by rw [hd, List.take_left], ?_, ih _ (by omega) (by rw [hd2]; exact h6)⟩
  rw [h2, h4, show p + g.length - p = g.length by omega, List.append_assoc, List.take_left]
  exact h3
theorem stand_tokens {src : List UInt8} (h : lexE src = 0) : StandL src 0 (lexT src) := by
 obtain ⟨-, h2, h3⟩ := lexE_ok h
 rw [h3]
 exact stand_any src _ 0 (Nat.zero_le _) (by rw [List.drop_zero]; exact Prod.ext rfl h2)
theorem lexT_good (s : List UInt8) : ∀ t ∈ lexT s, t.good := by
 by_cases h : lexE s = 0
 ·
  rw [(lexE_ok h).2.2]; exact lexA_good 0 s
 rw [lexT_err h]; intro t ht; cases ht
theorem join_lex (c : UInt8) (hc : c = 32 ∨ c = 10) (s : List UInt8) (hl : (joinL (lexT s) c).length ≤ 8000) : lexE (joinL (lexT s) c) = 0 ∧ Same (lexT s) (lexT (joinL (lexT s) c)) := by
 obtain ⟨h1, h2⟩ := lexA_join c hc 0 (lexT s) (lexT_good s)
 obtain ⟨a, b, -⟩ := lexE_of hl h1
 exact ⟨a, by unfold Same; rw [b, h2]⟩
theorem parse_same {s t : List UInt8} (hs : lexE s = 0) (ht : lexE t = 0) (h : Same (lexT s) (lexT t)) : parseE s = parseE t ∧ parseS s = parseS t := by
 have hl := readR_like h
 unfold parseE parseS
 rw [if_neg (by rw [hs]; decide), if_neg (by rw [ht]; decide), if_neg (by rw [hs]; decide), if_neg (by rw [ht]; decide)]
 cases e1 : readR (lexT s) with
 | ok d r =>
  cases e2 : readR (lexT t) with
  | ok d2 r2 =>
   rw [e1, e2] at hl
   obtain ⟨rfl, -⟩ := hl
   exact ⟨rfl, rfl⟩
  | err r2 k => rw [e1, e2] at hl; exact hl.elim
 | err r k =>
  cases e2 : readR (lexT t) with
  | ok d2 r2 => rw [e1, e2] at hl; exact hl.elim
  | err r2 k2 =>
   rw [e1, e2] at hl
   obtain ⟨rfl, -⟩ := hl
   exact ⟨rfl, rfl⟩
theorem parse_lexerr {s : List UInt8} (h : lexE s ≠ 0) : parseE s = lexE s ∧ parseS s = scr0 ∧ parseP s = lexP s := by
 unfold parseE parseS parseP
 rw [if_pos h, if_pos h, if_pos h]
 exact ⟨rfl, rfl, rfl⟩
theorem layout_law (s : List UInt8) (hs : lexE s = 0) : if 8000 < (joinL (lexT s) 10).length then parseE (joinL (lexT s) 10) = 2 else parseE (joinL (lexT s) 10) = parseE s ∧ parseS (joinL (lexT s) 10) = parseS s := by
 split
 ·
  next h =>
  have := lexE_long h
  rw [(parse_lexerr (by rw [this]; decide)).1, this]
 next h =>
 obtain ⟨h1, h2⟩ := join_lex 10 (Or.inr rfl) s (by omega)
 obtain ⟨h3, h4⟩ := parse_same hs h1 h2
 exact ⟨h3.symm, h4.symm⟩
theorem front_law (s : List UInt8) (h : lexE s = 10) : lexE (s.take (lexP s)) = 0 := by
 have hl : s.length ≤ 8000 := by
  by_cases hl : 8000 < s.length
  ·
   rw [lexE_long hl] at h; cases h
  omega
 rcases lexE_cases hl with ⟨h1, -⟩ | ⟨-, h2⟩
 ·
  rw [h] at h1; cases h1
 obtain ⟨-, a2, a3⟩ := lexA_front 0 s _ h2
 rw [Nat.sub_zero] at a2 a3
 exact (lexE_of (by rw [List.length_take]; omega) (by rw [a3])).1
theorem moved_law (f s : List UInt8) (hl : (f ++ 10 :: s).length ≤ 8000) (hf : lexE f = 0) (hs : lexE s = 10) : lexE (f ++ 10 :: s) = 10 ∧ lexP (f ++ 10 :: s) = lexP s + f.length + 1 := by
 rw [List.length_append, List.length_cons] at hl
 obtain ⟨-, f2, -⟩ := lexE_ok hf
 rcases lexE_cases (s := s) (by omega) with ⟨h1, -⟩ | ⟨-, h2⟩
 ·
  rw [hs] at h1; cases h1
 have ha := lexA_append 0 f s f2
 have hm := lexA_add (f.length + 1) 0 s
 rw [Nat.zero_add] at hm
 rw [Nat.zero_add, hm] at ha
 have h3 : (lexA 0 (f ++ 10 :: s)).2 = some (lexP s + (f.length + 1)) := by rw [ha]; simp only [h2, Option.map_some]
 have := lexE_bad (by rw [List.length_append, List.length_cons]; omega) h3
 exact ⟨this.1, by rw [this.2]; omega⟩
def Rs.nz {α : Type} : Rs α → Prop
 | .ok _ _ => True
 | .err _ k => k ≠ 0
theorem Rs.nz_bind {α β : Type} {q : Rs α} {f : α → List Tok → Rs β} (h : q.nz) (k : ∀ a r, (f a r).nz) : (q.bind f).nz := by
 cases q with
 | ok a r => exact k a r
 | err r e => exact h
theorem wantR_nz (s : List UInt8) (ts : List Tok) : (wantR s ts).nz := by
 unfold wantR
 split
 ·
  trivial
 intro h; cases h
theorem wantsR_nz (l : List (List UInt8)) (ts : List Tok) : (wantsR l ts).nz := by
 induction l generalizing ts with
 | nil => trivial
 | cons s l ih => exact Rs.nz_bind (wantR_nz s ts) fun _ r => ih r
theorem numR_nz (ts : List Tok) : (numR ts).nz := by
 cases ts with
 | nil => intro h; cases h
 | cons t l =>
  simp only [numR]
  split
  ·
   trivial
  intro h; cases h
theorem wordR_nz (ts : List Tok) : (wordR ts).nz := by
 cases ts with
 | nil => intro h; cases h
 | cons t l =>
  simp only [wordR]
  split
  ·
   trivial
  intro h; cases h
theorem newR_nz (ns : List (List UInt8)) (ts : List Tok) : (newR ns ts).nz := Rs.nz_bind (wordR_nz ts) fun s r => by
 cases idxR ns s with
 | some _ => intro h; cases h
 | none => trivial
theorem oldR_nz (ns : List (List UInt8)) (ts : List Tok) : (oldR ns ts).nz := Rs.nz_bind (wordR_nz ts) fun s r => by
 cases idxR ns s with
 | some _ => trivial
 | none => intro h; cases h
theorem brkR_nz (m : Nat) (v : Vc) (ts : List Tok) : (brkR m v ts).nz := by
 induction m generalizing v ts with
 | zero =>
  unfold brkR
  split
  ·
   trivial
  intro h; cases h
 | succ m ih =>
  unfold brkR
  split
  ·
   trivial
  split
  ·
   exact Rs.nz_bind (numR_nz _) fun _ _ => ih _ _
  exact Rs.nz_bind (numR_nz _) fun _ _ => ih _ _
theorem ivalR_nz (ts : List Tok) : (ivalR ts).nz := by
 unfold ivalR
 split
 ·
  exact brkR_nz _ _ _
 refine Rs.nz_bind (numR_nz _) fun n _ => ?_
 refine Rs.nz_bind (wantR_nz _ _) fun _ _ => ?_
 refine Rs.nz_bind (numR_nz _) fun d _ => ?_
 cases ratioV n d with
 | some v => trivial
 | none => intro h; cases h
theorem atR_nz (t : Bool) (ts : List Tok) : (atR t ts).nz := by
 unfold atR
 split
 ·
  trivial
 split
 ·
  exact ivalR_nz _
 trivial
theorem byR_nz (ts : List Tok) : (byR ts).nz := by
 unfold byR
 split
 ·
  exact ivalR_nz _
 trivial
theorem withinR_nz (ts : List Tok) : (withinR ts).nz := by
 unfold withinR
 split
 ·
  exact numR_nz _
 trivial
theorem noteR_nz (t : Bool) (d : Drf) (ts : List Tok) : (noteR t d ts).nz :=
 Rs.nz_bind (newR_nz _ _) fun _ _ => Rs.nz_bind (wantsR_nz _ _) fun _ _ => Rs.nz_bind (numR_nz _) fun _ _ => Rs.nz_bind (wantsR_nz _ _) fun _ _ => Rs.nz_bind (numR_nz _) fun _ _ =>
  Rs.nz_bind (wantsR_nz _ _) fun _ _ => Rs.nz_bind (numR_nz _) fun _ _ => Rs.nz_bind (atR_nz _ _) fun _ _ => Rs.nz_bind (wantsR_nz _ _) fun _ _ => trivial
theorem pairR_nz (d : Drf) (ts : List Tok) : (pairR d ts).nz :=
 Rs.nz_bind (oldR_nz _ _) fun _ _ => Rs.nz_bind (oldR_nz _ _) fun _ _ => Rs.nz_bind (byR_nz _) fun _ _ => Rs.nz_bind (withinR_nz _) fun _ _ => Rs.nz_bind (wantsR_nz _ _) fun _ _ => trivial
theorem cadR_nz (d : Drf) (ts : List Tok) : (cadR d ts).nz := Rs.nz_bind (numR_nz _) fun _ _ => Rs.nz_bind (wantsR_nz _ _) fun _ _ => trivial
theorem itemR_nz {s : List UInt8} {d : Drf} {ts : List Tok} {q : Rs Drf} (h : itemR s d ts = some q) : q.nz := by
 unfold itemR at h
 split at h
 ·
  injection h with h; subst h; exact noteR_nz _ _ _
 split at h
 ·
  injection h with h; subst h; exact noteR_nz _ _ _
 split at h
 ·
  injection h with h; subst h; exact pairR_nz _ _
 split at h
 ·
  injection h with h; subst h; exact cadR_nz _ _
 cases h
theorem itemsR_nz (f : Nat) (d : Drf) (ts : List Tok) : (itemsR f d ts).nz := by
 induction f generalizing d ts with
 | zero => cases ts <;> trivial
 | succ f ih =>
  cases ts with
  | nil => trivial
  | cons t ts =>
   simp only [itemsR]
   cases e : itemR t.text d ts with
   | none => intro h; cases h
   | some q => exact Rs.nz_bind (itemR_nz e) fun _ _ => ih _ _
theorem readR_nz (ts : List Tok) : (readR ts).nz := Rs.nz_bind (wantsR_nz _ _) fun _ _ => Rs.nz_bind (numR_nz _) fun _ _ => Rs.nz_bind (wantsR_nz _ _) fun _ _ => itemsR_nz _ _ _
theorem readR_err_ne (ts r : List Tok) (k : Nat) (h : readR ts = .err r k) : k ≠ 0 := by
 have := readR_nz ts
 rw [h] at this
 exact this
theorem mem_suf {ts us : List Tok} (h : ts <:+ us) {t : Tok} (ht : t ∈ ts) : t ∈ us := h.subset ht
theorem lexA_pos (p : Nat) (l : List UInt8) : ∀ t ∈ (lexA p l).1, p ≤ t.pos := by
 intro t ht
 have h := lexA_add p 0 l
 rw [Nat.zero_add] at h
 rw [h] at ht
 obtain ⟨u, -, rfl⟩ := List.mem_map.1 ht
 show p ≤ u.pos + p
 omega
theorem behind_law (f s : List UInt8) (hl : (f ++ 10 :: s).length ≤ 8000) (hf : parseE f = 0) : parseE (f ++ 10 :: s) = 0 ∨ f.length + 1 ≤ parseP (f ++ 10 :: s) := by
 have hl' := hl
 rw [List.length_append, List.length_cons] at hl
 have hfe : lexE f = 0 := by
  by_cases h : lexE f = 0
  ·
   exact h
  rw [(parse_lexerr h).1] at hf; exact absurd hf h
 obtain ⟨-, f2, f3⟩ := lexE_ok hfe
 have ha := lexA_append 0 f s f2
 rw [Nat.zero_add] at ha
 rcases lexE_cases (s := s) (by omega) with ⟨h1, h2⟩ | ⟨h1, -⟩
 ·
  -- both have tokens
  have hn : (lexA (f.length + 1) s).2 = none := by
   have hm := lexA_add (f.length + 1) 0 s
   rw [Nat.zero_add] at hm
   rw [hm, h2]; rfl
  obtain ⟨g1, g2, g3⟩ := lexE_of hl' (by rw [ha]; exact hn)
  rw [ha] at g2
  simp only at g2
  have hr : ∃ d, readR (lexT f) = .ok d [] := by
   unfold parseE at hf
   rw [if_neg (by rw [hfe]; decide)] at hf
   cases e : readR (lexT f) with
   | ok d r => exact ⟨d, by rw [readR_end d _ _ e]⟩
   | err r k =>
    rw [e] at hf
    simp only at hf
    subst hf
    exfalso
    exact readR_err_ne _ _ _ e rfl
  obtain ⟨d, hr⟩ := hr
  rw [f3] at hr
  have hb := readR_app d _ (lexA (f.length + 1) s).1 hr
  rw [← g2] at hb
  unfold parseE parseP
  rw [if_neg (by rw [g1]; decide), if_neg (by rw [g1]; decide), hb]
  have hsuf := itemsA_suf d (lexA (f.length + 1) s).1
  cases e : itemsA d (lexA (f.length + 1) s).1 with
  | ok d2 r =>
   simp only
   split
   ·
    left; rfl
   right; rw [List.length_append, List.length_cons]; omega
  | err r k =>
   right
   rw [e] at hsuf
   simp only
   cases r with
   | nil => simp only [offR]; rw [List.length_append, List.length_cons]; omega
   | cons t r =>
    simp only [offR]
    exact lexA_pos _ _ t (mem_suf hsuf (List.mem_cons_self ..))
 right
 obtain ⟨m1, m2⟩ := moved_law f s hl' hfe h1
 rw [(parse_lexerr (by rw [m1]; decide)).2.2, m2]
 omega
end Go.Proofs.YtcjhihmaegagdaaGreatDoor
namespace Go.Proofs.YtcjhihmaegagdaaGreatDoor
open Go.Lib
def renT (a b : UInt8) : List UInt8 → List UInt8
 | x :: y :: l => if x == 110 && isDig y then a :: (y :: l ++ [b]) else x :: y :: l
 | l => l
def renL (a b : UInt8) (ts : List Tok) : List UInt8 := ts.flatMap fun t => renT a b t.text ++ [32]
def Key.ren (a b : UInt8) (k : Key) : Key := ⟨k.kind, k.n, renT a b k.text⟩
theorem ren_kw (a b : UInt8) (w : List UInt8) (h : w ∈ keyWords) : (wK w).ren a b = wK w := by
 simp only [keyWords, List.mem_cons, List.not_mem_nil, or_false] at h
 rcases h with rfl | rfl | rfl | rfl | rfl | rfl | rfl | rfl | rfl | rfl | rfl <;> rfl
theorem ren_num (a b : UInt8) (n : Nat) : (nK n).ren a b = nK n := by
 have hr := decDigits_range n
 unfold Key.ren nK
 simp only [Key.mk.injEq, true_and]
 cases e : decDigits n with
 | nil => rfl
 | cons x l =>
  cases l with
  | nil => rfl
  | cons y l =>
   rw [e] at hr
   have := hr x (List.mem_cons_self ..)
   have hx : (x == 110) = false := by
    rw [beq_eq_false_iff_ne]
    rintro rfl
    revert this; decide
   simp only [renT, hx, Bool.false_and, Bool.false_eq_true, if_false]
theorem dec_cons (i : Nat) : ∃ y l, decDigits i = y :: l ∧ isDig y = true := by
 have hr := decDigits_range i
 have hne : decDigits i ≠ [] := (decDigits_isDec i).1
 cases e : decDigits i with
 | nil => exact absurd e hne
 | cons y l =>
  rw [e] at hr
  have := hr y (List.mem_cons_self ..)
  refine ⟨y, l, rfl, ?_⟩
  simp only [isDig, Bool.and_eq_true, decide_eq_true_eq]
  omega
def nmO (a b : UInt8) (i : Nat) : List UInt8 := a :: (decDigits i ++ [b])
theorem ren_nm (a b : UInt8) (i : Nat) : (wK (nm0 i)).ren a b = wK (nmO a b i) := by
 obtain ⟨y, l, e, hy⟩ := dec_cons i
 unfold Key.ren wK nm0 nmO
 rw [e]
 simp [renT, hy]
theorem ren_e (a b : UInt8) (x : Int) : (eK x).map (Key.ren a b) = eK x := by
 unfold eK
 split
 ·
  simp only [List.map_cons, List.map_nil, ren_num, show (mK mMinus).ren a b = mK mMinus from rfl]
 simp only [List.map_cons, List.map_nil, ren_num]
theorem ren_iv (a b : UInt8) (v : Vc) : (ivK v).map (Key.ren a b) = ivK v := by
 unfold ivK
 split
 ·
  simp only [List.map_cons, List.map_nil, ren_num, show (mK mSlash).ren a b = mK mSlash from rfl]
 simp only [List.map_cons, List.map_nil, List.map_append, ren_e, show (mK mOpen).ren a b = mK mOpen from rfl, show (mK mClose).ren a b = mK mClose from rfl]
theorem ren_head (a b : UInt8) (v : Int) : (headK v).map (Key.ren a b) = headK v := by
 unfold headK
 simp only [List.map_cons, List.map_nil, ren_num, ren_kw a b kw_voices (by decide), show (mK mSemi).ren a b = mK mSemi from rfl]
theorem ren_cad (a b : UInt8) (c : Int) : (cadK c).map (Key.ren a b) = cadK c := by
 unfold cadK
 simp only [List.map_cons, List.map_nil, ren_num, ren_kw a b kw_cadence (by decide), show (mK mSemi).ren a b = mK mSemi from rfl]
theorem ren_note (a b : UInt8) (i : Nat) (n : Nte) : (noteK (nm0 i) n).map (Key.ren a b) = noteK (nmO a b i) n := by
 have hw : (if n.tied then kw_tied else kw_note) ∈ keyWords := by cases n.tied <;> decide
 unfold noteK
 simp only [List.map_cons, List.map_nil, List.map_append, ren_num, ren_nm, ren_kw a b _ hw, ren_kw a b kw_voice (by decide), ren_kw a b kw_from (by decide), ren_kw a b kw_to (by decide), show (mK mSemi).ren a b = mK mSemi from rfl, show (mK mColon).ren a b = mK mColon from rfl]
 congr 2
 split
 ·
  simp only [List.map_cons, ren_iv, ren_kw a b kw_at (by decide)]
 rfl
theorem ren_pair (a b : UInt8) (i j : Nat) (p : Par) : (pairK (nm0 i) (nm0 j) p).map (Key.ren a b) = pairK (nmO a b i) (nmO a b j) p := by
 unfold pairK
 simp only [List.map_cons, List.map_nil, List.map_append, ren_nm, ren_kw a b kw_pair (by decide), show (mK mSemi).ren a b = mK mSemi from rfl]
 congr 2
 ·
  congr 1
  split
  ·
   simp only [List.map_cons, ren_iv, ren_kw a b kw_by (by decide)]
  rfl
 split
 ·
  simp only [List.map_cons, List.map_nil, ren_num, ren_kw a b kw_within (by decide)]
 rfl
theorem ren_items (a b : UInt8) (l : List Nte) (its : List Itm) : (its.flatMap (itmK nm0 l)).map (Key.ren a b) = its.flatMap (itmK (nmO a b) l) := by
 induction its with
 | nil => rfl
 | cons it its ih =>
  rw [List.flatMap_cons, List.map_append, ih, List.flatMap_cons]
  congr 1
  cases it with
  | cad c => exact ren_cad a b c
  | note i => exact ren_note a b i _
theorem ren_pairs (a b : UInt8) (ps : List Par) : (ps.flatMap (parK nm0)).map (Key.ren a b) = ps.flatMap (parK (nmO a b)) := by
 induction ps with
 | nil => rfl
 | cons p ps ih =>
  rw [List.flatMap_cons, List.map_append, ih, List.flatMap_cons]
  congr 1
  exact ren_pair a b _ _ p
def Key.good (k : Key) : Prop := lexStep k.text = .tok k.kind k.n k.text.length
def AllG (l : List Key) : Prop := ∀ k ∈ l, k.good
theorem AllG.nil : AllG [] := fun k h => by cases h
theorem AllG.cons {k : Key} {l : List Key} (h : k.good) (h2 : AllG l) : AllG (k :: l) := fun q hq => by
 rcases List.mem_cons.1 hq with rfl | hq
 ·
  exact h
 exact h2 q hq
theorem AllG.app {l m : List Key} (h : AllG l) (h2 : AllG m) : AllG (l ++ m) := fun q hq => by
 rcases List.mem_append.1 hq with hq | hq
 ·
  exact h q hq
 exact h2 q hq
theorem word_good {w : List UInt8} (h : WordOk w) : (wK w).good := by
 have := h.step [] stops_nil
 rwa [List.append_nil] at this
theorem kw_good {w : List UInt8} (h : w ∈ keyWords) : (wK w).good := word_good (kw_ok w h)
theorem num_good {n : Nat} (h : n ≤ 9999999) : (nK n).good := by
 have := dec_step n h [] stops_nil
 rwa [List.append_nil] at this
theorem mark_good {m : UInt8} (h : isMark m = true) : (mK [m]).good := by
 unfold Key.good
 simp only [isMark, Bool.or_eq_true, beq_iff_eq] at h
 rcases h with ((((rfl | rfl) | rfl) | rfl) | rfl) | rfl <;> rfl
theorem e_good {x : Int} (h : x.natAbs ≤ 9999999) : AllG (eK x) := by
 unfold eK
 split
 ·
  exact AllG.cons (mark_good (by decide)) (AllG.cons (num_good h) AllG.nil)
 exact AllG.cons (num_good h) AllG.nil
theorem iv_good {v : Vc} (h : v.lim 9999999) : AllG (ivK v) := by
 obtain ⟨h0, h1, h2, h3, h4, h5⟩ := h
 unfold ivK
 split
 ·
  next hs => exact AllG.cons (num_good hs.1) (AllG.cons (mark_good (by decide)) (AllG.cons (num_good hs.2) AllG.nil))
 exact AllG.app (AllG.cons (mark_good (by decide)) (((((e_good h0).app (e_good h1)).app (e_good h2)).app (e_good h3)).app (e_good h4) |>.app (e_good h5))) (AllG.cons (mark_good (by decide)) AllG.nil)
theorem note_good {nm : List UInt8} {n : Nte} (hw : WordOk nm) (h : n.said) : AllG (noteK nm n) := by
 have hk : (if n.tied then kw_tied else kw_note) ∈ keyWords := by cases n.tied <;> decide
 have h1 := h.v1; have h2 := h.a1; have h3 := h.b1
 unfold noteK
 refine AllG.app (AllG.app ?_ ?_) (AllG.cons (mark_good (by decide)) AllG.nil)
 ·
  exact AllG.cons (kw_good hk) (AllG.cons (word_good hw) (AllG.cons (mark_good (by decide)) (AllG.cons (kw_good (by decide)) (AllG.cons (num_good (by omega)) (AllG.cons (kw_good (by decide)) (AllG.cons (num_good (by omega)) (AllG.cons (kw_good (by decide)) (AllG.cons (num_good (by omega)) AllG.nil))))))))
 split
 ·
  exact AllG.cons (kw_good (by decide)) (iv_good h.pl)
 exact AllG.nil
theorem pair_good {na nb : List UInt8} {p : Par} (ha : WordOk na) (hb : WordOk nb) (h : p.said) : AllG (pairK na nb p) := by
 have h1 := h.k1
 unfold pairK
 refine AllG.app (AllG.app (AllG.app ?_ ?_) ?_) (AllG.cons (mark_good (by decide)) AllG.nil)
 ·
  exact AllG.cons (kw_good (by decide)) (AllG.cons (word_good ha) (AllG.cons (word_good hb) AllG.nil))
 ·
  split
  ·
   exact AllG.cons (kw_good (by decide)) (iv_good h.w)
  exact AllG.nil
 split
 ·
  exact AllG.cons (kw_good (by decide)) (AllG.cons (num_good (by omega)) AllG.nil)
 exact AllG.nil
theorem cad_good {c : Int} (h : c ≤ 9999999) : AllG (cadK c) := AllG.cons (kw_good (by decide)) (AllG.cons (num_good (by omega)) (AllG.cons (mark_good (by decide)) AllG.nil))
theorem dec_len3 {i : Nat} (h : i < 1000) : (decDigits i).length ≤ 3 := by
 rw [decDigits_length]
 by_cases h1 : i < 10
 ·
  rw [nDigits_small h1]; omega
 rw [nDigits_big h1]
 by_cases h2 : i / 10 < 10
 ·
  rw [nDigits_small h2]; omega
 rw [nDigits_big h2, nDigits_small (by omega)]; omega
section
variable {a b : UInt8} (ha : isLow a = true) (hb : isDig b = true)
include ha hb in
theorem nmO_ok {i : Nat} (h : i < 1000) : WordOk (nmO a b i) := by
 refine ⟨a, _, rfl, ha, fun y hy => ?_, ?_⟩
 ·
  unfold isWord
  rcases List.mem_append.1 hy with hy | hy
  ·
   have := decDigits_range i y hy
   have hd : isDig y = true := by simp only [isDig, Bool.and_eq_true, decide_eq_true_eq]; omega
   rw [hd, Bool.or_true]
  obtain rfl := List.mem_singleton.1 hy
  rw [hb, Bool.or_true]
 have := dec_len3 h
 rw [List.length_append, List.length_singleton]
 omega
include hb in
theorem nmO_key {i : Nat} : nmO a b i ∉ keyWords := by
 intro h
 have : ∀ w ∈ keyWords, ∀ x ∈ w, isDig x = false := by decide
 have h2 := this _ h b (by simp [nmO])
 rw [hb] at h2
 cases h2
theorem nmO_inj {i j : Nat} (h : nmO a b i = nmO a b j) : i = j := by
 injection h with _ h
 exact decDigits_inj (List.append_cancel_right h)
include ha hb in
theorem renamed_law {s : Scr} (hv : validS s = true) (hl : (sourceL s).length ≤ 8000) :
  if 8000 < (renL a b (lexT (sourceL s))).length then parseE (renL a b (lexT (sourceL s))) = 2 else parseE (renL a b (lexT (sourceL s))) = 0 ∧ parseS (renL a b (lexT (sourceL s))) = s := by
 split
 ·
  next h =>
  have := lexE_long h
  rw [(parse_lexerr (by rw [this]; decide)).1, this]
 next h =>
 have hg := validS_good hv
 have hs := hg.said
 obtain ⟨d, h1, h2⟩ := lines_back hg (nmO a b) (fun _ _ => nmO_key hb) (fun _ _ _ _ e => nmO_inj e) (itsS s) s.pairs (by rw [itsS_idx]) (by rw [itsS_num]) (List.Perm.refl _)
 have hlex := lines_lex hs (itsS s) s.pairs (itsS_note s) (itsS_cad s) (fun _ h => h)
 rw [← sourceL_eq] at hlex
 obtain ⟨l1, l2⟩ := hlex 0
 have e1 : lexT (sourceL s) = (lexA 0 (sourceL s)).1 := (lexE_of hl l1).2.1
 have e2 : renL a b (lexT (sourceL s)) = joinL (tks (headK s.voices ++ ((itsS s).flatMap (itmK (nmO a b) s.notes) ++ s.pairs.flatMap (parK (nmO a b))))) 32 := by
  have e3 : headK s.voices ++ ((itsS s).flatMap (itmK (nmO a b) s.notes) ++ s.pairs.flatMap (parK (nmO a b))) = ((lexT (sourceL s)).map Tok.key).map (Key.ren a b) := by
   rw [e1, l2, List.map_append, List.map_append, ren_head, ren_items, ren_pairs]
  rw [e3]
  unfold renL joinL tks
  rw [List.map_map, List.map_map, List.flatMap_map]
  rfl
 rw [e2] at h ⊢
 have hgood : AllG (headK s.voices ++ ((itsS s).flatMap (itmK (nmO a b) s.notes) ++ s.pairs.flatMap (parK (nmO a b)))) := by
  have hv1 := hs.v1
  have hnl := hg.nl
  refine AllG.app (AllG.cons (kw_good (by decide)) (AllG.cons (num_good (by omega)) (AllG.cons (mark_good (by decide)) AllG.nil))) (AllG.app ?_ ?_)
  ·
   intro k hk
   obtain ⟨it, h1, h2⟩ := List.mem_flatMap.1 hk
   cases it with
   | cad c => exact cad_good (hs.c c (itsS_cad s c h1)).2 k h2
   | note i =>
    have hi := itsS_note s i h1
    have hx : s.notes.getD i nte0 ∈ s.notes := by rw [getD_lt _ _ _ hi]; exact List.getElem_mem hi
    exact note_good (nmO_ok ha hb (by omega)) (hs.n _ hx).1 k h2
  intro k hk
  obtain ⟨p, h1, h2⟩ := List.mem_flatMap.1 hk
  obtain ⟨p1, p2, p3, p4⟩ := hs.p p h1
  exact pair_good (nmO_ok ha hb (by omega)) (nmO_ok ha hb (by omega)) p1 k h2
 have hj := lexA_join 32 (Or.inl rfl) 0 (tks (headK s.voices ++ ((itsS s).flatMap (itmK (nmO a b) s.notes) ++ s.pairs.flatMap (parK (nmO a b))))) (fun t ht => by
  obtain ⟨k, hk, rfl⟩ := List.mem_map.1 ht
  exact hgood k hk)
 have hkey : (tks (headK s.voices ++ ((itsS s).flatMap (itmK (nmO a b) s.notes) ++ s.pairs.flatMap (parK (nmO a b))))).map Tok.key = headK s.voices ++ ((itsS s).flatMap (itmK (nmO a b) s.notes) ++ s.pairs.flatMap (parK (nmO a b))) := by
  unfold tks
  rw [List.map_map]
  conv => rhs; rw [← List.map_id (headK s.voices ++ ((itsS s).flatMap (itmK (nmO a b) s.notes) ++ s.pairs.flatMap (parK (nmO a b))))]
  rfl
 rw [hkey] at hj
 obtain ⟨-, q1, q2, -⟩ := parse_keys (by omega) hj h1 h2 hv
 exact ⟨q1, q2⟩
end
def linesF (cur : List UInt8) : List UInt8 → List (List UInt8)
 | [] => []
 | x :: l => if x = 10 then (cur ++ [x]) :: linesF [] l else linesF (cur ++ [x]) l
theorem linesF_one (w cur r : List UInt8) (h : 10 ∉ w) : linesF cur (w ++ 10 :: r) = (cur ++ w ++ [10]) :: linesF [] r := by
 induction w generalizing cur with
 | nil => rw [List.nil_append, linesF, if_pos rfl, List.append_nil]
 | cons x w ih =>
  rw [List.cons_append, linesF, if_neg (fun e => h (by rw [e]; exact List.mem_cons_self ..)), ih _ (fun hm => h (List.mem_cons_of_mem _ hm))]
  simp
def IsLine (l : List UInt8) : Prop := ∃ w, l = w ++ [10] ∧ 10 ∉ w
theorem linesF_all (ls : List (List UInt8)) (h : ∀ l ∈ ls, IsLine l) : linesF [] ls.flatten = ls := by
 induction ls with
 | nil => rfl
 | cons l ls ih =>
  obtain ⟨w, rfl, hw⟩ := h l (List.mem_cons_self ..)
  rw [List.flatten_cons, List.append_assoc]
  show linesF [] (w ++ 10 :: ls.flatten) = _
  rw [linesF_one w [] _ hw, ih fun l hl => h l (List.mem_cons_of_mem _ hl)]
  rfl
theorem itoa_no (x : Int) : 10 ∉ itoa x := by
 unfold itoa
 intro h
 split at h
 ·
  rcases List.mem_cons.1 h with h | h
  ·
   revert h; decide
  have := decDigits_range _ _ h
  revert this; decide
 have := decDigits_range _ _ h
 revert this; decide
theorem written_no (v : Vc) : 10 ∉ writtenS v := by
 unfold writtenS
 split
 ·
  simp [itoa_no]
 simp [itoa_no]
theorem head_line (v : Int) : IsLine (headL v) := ⟨[118, 111, 105, 99, 101, 115, 32] ++ itoa v ++ [59], by simp [headL], by simp [itoa_no]⟩
theorem cad_line (c : Int) : IsLine (cadL c) := ⟨[99, 97, 100, 101, 110, 99, 101, 32] ++ itoa c ++ [59], by simp [cadL], by simp [itoa_no]⟩
theorem note_line (i : Nat) (n : Nte) : IsLine (noteL i n) := by
 refine ⟨(if n.tied then [116, 105, 101, 100, 32, 110] else [110, 111, 116, 101, 32, 110]) ++ itoa i ++ [58, 32, 118, 111, 105, 99, 101, 32] ++ itoa n.voice ++ [32, 102, 114, 111, 109, 32] ++ itoa n.start ++ [32, 116, 111, 32] ++ itoa n.stop ++
  (if !n.tied && !decide (n.place = vc0) then [32, 97, 116, 32] ++ writtenS n.place else []) ++ [59], ?_, ?_⟩
 ·
  unfold noteL
  generalize (if !n.tied && !decide (n.place = vc0) then [32, 97, 116, 32] ++ writtenS n.place else []) = X
  generalize (if n.tied then ([116, 105, 101, 100, 32, 110] : List UInt8) else [110, 111, 116, 101, 32, 110]) = Y
  simp
 have h1 : 10 ∉ (if !n.tied && !decide (n.place = vc0) then [32, 97, 116, 32] ++ writtenS n.place else []) := by
  split
  ·
   simp [written_no]
  simp
 have h2 : 10 ∉ (if n.tied then ([116, 105, 101, 100, 32, 110] : List UInt8) else [110, 111, 116, 101, 32, 110]) := by
  split <;> decide
 generalize (if !n.tied && !decide (n.place = vc0) then [32, 97, 116, 32] ++ writtenS n.place else []) = X at h1 ⊢
 generalize (if n.tied then ([116, 105, 101, 100, 32, 110] : List UInt8) else [110, 111, 116, 101, 32, 110]) = Y at h2 ⊢
 simp [itoa_no, h1, h2]
theorem pair_line (p : Par) : IsLine (pairL p) := by
 refine ⟨[112, 97, 105, 114, 32, 110] ++ itoa p.a ++ [32, 110] ++ itoa p.b ++ (if !decide (p.wish = vc0) then [32, 98, 121, 32] ++ writtenS p.wish else []) ++ (if 0 < p.bound then [32, 119, 105, 116, 104, 105, 110, 32] ++ itoa p.bound else []) ++ [59], ?_, ?_⟩
 ·
  unfold pairL
  generalize (if !decide (p.wish = vc0) then [32, 98, 121, 32] ++ writtenS p.wish else []) = X
  generalize (if 0 < p.bound then [32, 119, 105, 116, 104, 105, 110, 32] ++ itoa p.bound else []) = Y
  simp
 have h1 : 10 ∉ (if !decide (p.wish = vc0) then [32, 98, 121, 32] ++ writtenS p.wish else []) := by
  split
  ·
   simp [written_no]
  simp
 have h2 : 10 ∉ (if 0 < p.bound then [32, 119, 105, 116, 104, 105, 110, 32] ++ itoa p.bound else []) := by
  split
  ·
   simp [itoa_no]
  simp
 generalize (if !decide (p.wish = vc0) then [32, 98, 121, 32] ++ writtenS p.wish else []) = X at h1 ⊢
 generalize (if 0 < p.bound then [32, 119, 105, 116, 104, 105, 110, 32] ++ itoa p.bound else []) = Y at h2 ⊢
 simp [itoa_no, h1, h2]
def isPairL (l : List UInt8) : Bool := decide (4 < l.length) && decide (l.take 4 = [112, 97, 105, 114])
theorem pair_isPair (p : Par) : isPairL (pairL p) = true := by
 unfold isPairL pairL
 simp
theorem note_isPair (i : Nat) (n : Nte) : isPairL (noteL i n) = false := by
 unfold isPairL noteL
 cases n.tied <;> simp
theorem itm_isPair (l : List Nte) (it : Itm) : isPairL (itmL l it) = false := by
 cases it with
 | cad c => simp [isPairL, itmL, cadL]
 | note i => exact note_isPair i _
theorem itm_line (l : List Nte) (it : Itm) : IsLine (itmL l it) := by
 cases it with
 | cad c => exact cad_line c
 | note i => exact note_line i _
def srcLines (s : Scr) : List (List UInt8) := headL s.voices :: ((itsS s).map (itmL s.notes) ++ s.pairs.map pairL)
theorem srcLines_flat (s : Scr) : (srcLines s).flatten = sourceL s := by
 rw [sourceL_eq]
 unfold srcLines
 rw [List.flatten_cons, List.flatten_append, List.flatMap_def, List.flatMap_def]
theorem srcLines_lines (s : Scr) : linesF [] (sourceL s) = srcLines s := by
 rw [← srcLines_flat]
 refine linesF_all _ fun l hl => ?_
 rcases List.mem_cons.1 hl with rfl | hl
 ·
  exact head_line _
 rcases List.mem_append.1 hl with hl | hl
 ·
  obtain ⟨it, -, rfl⟩ := List.mem_map.1 hl; exact itm_line _ it
 obtain ⟨p, -, rfl⟩ := List.mem_map.1 hl; exact pair_line p
def rotL {α : Type} (l : List α) (k : Nat) : List α := l.drop (k % l.length) ++ l.take (k % l.length)
theorem rotL_perm {α : Type} (l : List α) (k : Nat) : (rotL l k).Perm l := by
 unfold rotL
 refine List.perm_append_comm.trans ?_
 rw [List.take_append_drop]
theorem rotL_length {α : Type} (l : List α) (k : Nat) : (rotL l k).length = l.length := (rotL_perm l k).length_eq
theorem rotL_at {α : Type} (l : List α) (k i : Nat) (h : i < l.length) : (rotL l k)[i]? = l[(i + k) % l.length]? := by
 unfold rotL
 have hk := Nat.mod_lt k (show 0 < l.length by omega)
 have e : (i + k) % l.length = (i + k % l.length) % l.length := by rw [Nat.add_mod_mod]
 rw [e]
 clear e
 generalize k % l.length = k at hk ⊢
 by_cases h2 : i < l.length - k
 ·
  rw [List.getElem?_append_left (by rw [List.length_drop]; exact h2), List.getElem?_drop, Nat.mod_eq_of_lt (by omega), Nat.add_comm]
 rw [List.getElem?_append_right (by rw [List.length_drop]; omega), List.length_drop, List.getElem?_take, if_pos (by omega)]
 congr 1
 rw [Nat.mod_eq_sub_mod (by omega), Nat.mod_eq_of_lt (by omega)]
 omega
theorem rotL_map {α β : Type} (f : α → β) (l : List α) (k : Nat) : rotL (l.map f) k = (rotL l k).map f := by
 unfold rotL
 rw [List.map_append, List.map_drop, List.map_take, List.length_map]
def otherL (ls : List (List UInt8)) (k : Nat) : List UInt8 :=
 match ls with
 | [] => []
 | h :: ls => h ++ ((ls.filter fun l => !isPairL l).reverse.flatten ++ (rotL (ls.filter isPairL) k).flatten)
theorem other_eq (s : Scr) (k : Nat) : otherL (srcLines s) k = headL s.voices ++ ((itsS s).reverse.flatMap (itmL s.notes) ++ (rotL s.pairs k).flatMap pairL) := by
 unfold otherL srcLines
 have f1 : ((itsS s).map (itmL s.notes) ++ s.pairs.map pairL).filter (fun l => !isPairL l) = (itsS s).map (itmL s.notes) := by
  rw [List.filter_append, List.filter_eq_self.2, List.filter_eq_nil_iff.2, List.append_nil]
  ·
   intro l hl
   obtain ⟨p, -, rfl⟩ := List.mem_map.1 hl
   rw [pair_isPair]; decide
  intro l hl
  obtain ⟨it, -, rfl⟩ := List.mem_map.1 hl
  rw [itm_isPair]; rfl
 have f2 : ((itsS s).map (itmL s.notes) ++ s.pairs.map pairL).filter isPairL = s.pairs.map pairL := by
  rw [List.filter_append, List.filter_eq_nil_iff.2, List.filter_eq_self.2, List.nil_append]
  ·
   intro l hl
   obtain ⟨p, -, rfl⟩ := List.mem_map.1 hl
   exact pair_isPair p
  intro l hl
  obtain ⟨it, -, rfl⟩ := List.mem_map.1 hl
  rw [itm_isPair]; decide
 simp only [f1, f2]
 rw [rotL_map, ← List.map_reverse, List.flatMap_def, List.flatMap_def]
theorem flat_rev_len {α : Type} (f : α → List UInt8) (l : List α) : (l.reverse.flatMap f).length = (l.flatMap f).length := by
 induction l with
 | nil => rfl
 | cons x l ih =>
  rw [List.reverse_cons, List.flatMap_append, List.length_append, ih, List.flatMap_cons, List.length_append]
  simp [Nat.add_comm]
theorem flat_rot_len {α : Type} (f : α → List UInt8) (l : List α) (k : Nat) : ((rotL l k).flatMap f).length = (l.flatMap f).length := by
 unfold rotL
 rw [List.flatMap_append, List.length_append, Nat.add_comm, ← List.length_append, ← List.flatMap_append, List.take_append_drop]
theorem order_law {s : Scr} (hv : validS s = true) (hl : (sourceL s).length ≤ 8000) (k : Nat) : parseE (otherL (srcLines s) k) = 0 ∧ parseS (otherL (srcLines s) k) = s := by
 have hg := validS_good hv
 have hs := hg.said
 have p1 : ((itsS s).reverse.filterMap Itm.idx).Perm (List.range s.notes.length) := by
  rw [List.filterMap_reverse, itsS_idx]; exact List.reverse_perm _
 have p2 : ((itsS s).reverse.filterMap Itm.num).Perm s.cad := by
  rw [List.filterMap_reverse, itsS_num]; exact List.reverse_perm _
 obtain ⟨d, h1, h2⟩ := lines_back hg nm0 (fun _ _ => nm0_key) (fun _ _ _ _ e => nm0_inj e) (itsS s).reverse (rotL s.pairs k) p1 p2 (rotL_perm _ _)
 have hlex := lines_lex hs (itsS s).reverse (rotL s.pairs k) (fun i h => itsS_note s i (List.mem_reverse.1 h)) (fun c h => itsS_cad s c (List.mem_reverse.1 h)) (fun p h => (rotL_perm _ _).mem_iff.1 h)
 rw [← other_eq] at hlex
 have hlen : (otherL (srcLines s) k).length ≤ 8000 := by
  rw [other_eq]
  rw [sourceL_eq] at hl
  simp only [List.length_append, flat_rev_len, flat_rot_len] at hl ⊢
  exact hl
 obtain ⟨-, q1, q2, -⟩ := parse_keys hlen (hlex 0) h1 h2 hv
 exact ⟨q1, q2⟩
end Go.Proofs.YtcjhihmaegagdaaGreatDoor
namespace Go.Proofs.YtcjhihmaegagdaaGreatDoor
open Go.Lib
theorem lexA_length (p : Nat) (l : List UInt8) : (lexA p l).1.length ≤ l.length := by
 induction p, l using lexInd with
 | nil p => exact Nat.le_refl _
 | skip p x l k hs h1 h2 ih => rw [lexA_skip hs]; rw [List.length_drop] at ih; omega
 | tok p x l kd n k hs h1 h2 ih =>
  rw [lexA_tok hs]
  rw [List.length_drop] at ih
  show (lexA (p + k) (List.drop k (x :: l))).1.length + 1 ≤ _
  omega
 | bad p x l hs => rw [lexA_bad' hs]; exact Nat.zero_le _
theorem lexT_length (s : List UInt8) : (lexT s).length ≤ 8000 := by
 by_cases h : lexE s = 0
 ·
  obtain ⟨h1, h2, h3⟩ := lexE_ok h
  rw [h3]
  have := lexA_length 0 s
  omega
 rw [lexT_err h]; exact Nat.zero_le _
theorem lexA_text (p : Nat) (l : List UInt8) : ∀ t ∈ (lexA p l).1, t.text.length ≤ l.length := by
 induction p, l using lexInd with
 | nil p => intro t h; cases h
 | skip p x l k hs h1 h2 ih =>
  rw [lexA_skip hs]
  intro t ht
  have := ih t ht
  rw [List.length_drop] at this
  omega
 | tok p x l kd n k hs h1 h2 ih =>
  rw [lexA_tok hs]
  intro t ht
  rcases List.mem_cons.1 ht with rfl | ht
  ·
   show ((x :: l).take k).length ≤ _
   rw [List.length_take]; omega
  have := ih t ht
  rw [List.length_drop] at this
  omega
 | bad p x l hs => rw [lexA_bad' hs]; intro t h; cases h
theorem num_lt (l : List UInt8) (h : ∀ x ∈ l, isDig x = true) (a : Nat) : num a l < (a + 1) * 10 ^ l.length := by
 induction l generalizing a with
 | nil => simp [num]
 | cons x l ih =>
  have hx := h x (List.mem_cons_self ..)
  simp only [isDig, Bool.and_eq_true, decide_eq_true_eq] at hx
  have := ih (fun y hy => h y (List.mem_cons_of_mem _ hy)) (10 * a + (x.toNat - 48))
  show num (10 * a + (x.toNat - 48)) l < _
  refine Nat.lt_of_lt_of_le this ?_
  rw [List.length_cons, Nat.pow_succ, Nat.mul_comm (10 ^ l.length) 10, ← Nat.mul_assoc]
  exact Nat.mul_le_mul_right _ (by omega)
theorem Tok.good_facts {t : Tok} (h : t.good) : t.n ≤ 9999999 ∧ (t.kind = 1 → ∀ y ∈ t.text, isWord y = true) := by
 unfold Tok.good at h
 cases e : t.text with
 | nil => rw [e] at h; cases h
 | cons x l =>
  rw [e] at h
  simp only [lexStep] at h
  split at h
  ·
   cases h
  split at h
  ·
   cases h
  split at h
  ·
   next hl =>
   split at h
   ·
    cases h
   injection h with h1 h2 h3
   refine ⟨by omega, fun _ y hy => ?_⟩
   rcases List.mem_cons.1 hy with rfl | hy
   ·
    unfold isWord; rw [hl, Bool.true_or]
   have hw : l.takeWhile isWord = l := by
    have h4 := List.takeWhile_append_dropWhile (p := isWord) (l := l)
    have h5 : (l.dropWhile isWord).length = 0 := by
     have := congrArg List.length h4
     rw [List.length_append] at this
     rw [List.length_cons] at h3
     omega
    rw [List.eq_nil_of_length_eq_zero h5, List.append_nil] at h4
    exact h4
   rw [← hw] at hy
   exact tw_all isWord l y hy
  split at h
  ·
   next hd =>
   split at h
   ·
    cases h
   next h7 =>
   injection h with h1 h2 h3
   refine ⟨?_, fun e => by omega⟩
   rw [← h2]
   have hall : ∀ y ∈ x :: l.takeWhile isDig, isDig y = true := fun y hy => by
    rcases List.mem_cons.1 hy with rfl | hy
    ·
     exact hd
    exact tw_all isDig l y hy
   have h8 := num_lt _ hall 0
   have h9 : (x :: l.takeWhile isDig).length ≤ 7 := by
    rw [List.length_cons]
    by_cases h10 : 7 < 1 + (l.takeWhile isDig).length
    ·
     exact absurd (Or.inl h10) h7
    omega
   have h10 : (10 : Nat) ^ (x :: l.takeWhile isDig).length ≤ 10 ^ 7 := Nat.pow_le_pow_right (by decide) h9
   have h11 : (10 : Nat) ^ 7 = 10000000 := by decide
   omega
  split at h
  ·
   injection h with h1 h2 h3
   exact ⟨by omega, fun e => by omega⟩
  cases h
theorem lexT_facts (s : List UInt8) : ∀ t ∈ lexT s, t.n ≤ 9999999 ∧ t.text.length ≤ 8000 ∧ (t.kind = 1 → ∀ y ∈ t.text, y ≠ 32) := by
 intro t ht
 by_cases h : lexE s = 0
 ·
  obtain ⟨h1, h2, h3⟩ := lexE_ok h
  have hg := Tok.good_facts (lexT_good s t ht)
  rw [h3] at ht
  have := lexA_text 0 s t ht
  refine ⟨hg.1, by omega, fun e y hy h32 => ?_⟩
  have := hg.2 e y hy
  rw [h32] at this
  revert this; decide
 rw [lexT_err h] at ht; cases ht
def Vc.most (v : Vc) (m : Nat) : Prop := v.a.natAbs ≤ m ∧ v.b.natAbs ≤ m ∧ v.c.natAbs ≤ m ∧ v.d.natAbs ≤ m ∧ v.e.natAbs ≤ m ∧ v.f.natAbs ≤ m
theorem Vc.most.put {v : Vc} {m : Nat} (h : v.most m) (j : Nat) (x : Int) (hx : x.natAbs ≤ m) : (v.put j x).most m := by
 obtain ⟨h0, h1, h2, h3, h4, h5⟩ := h
 unfold Vc.put Vc.most
 simp only
 refine ⟨?_, ?_, ?_, ?_, ?_, ?_⟩ <;> split <;> assumption
def Small (ts : List Tok) : Prop := ∀ t ∈ ts, t.n ≤ 9999999
theorem Small.suf {ts r : List Tok} (h : Small ts) (s : r <:+ ts) : Small r := fun t ht => h t (s.subset ht)
theorem numR_small {ts r : List Tok} {n : Nat} (h : Small ts) (e : numR ts = .ok n r) : n ≤ 9999999 := by
 cases ts with
 | nil => cases e
 | cons t l =>
  simp only [numR] at e
  split at e
  ·
   injection e with e1 e2
   rw [← e1]
   exact h t (List.mem_cons_self ..)
  cases e
theorem suf_of_ok {α : Type} {q : Rs α} {ts r : List Tok} {a : α} (h : q.suf ts) (e : q = .ok a r) : r <:+ ts := by
 rw [e] at h
 exact h
theorem brkR_most (m : Nat) (v : Vc) (ts r : List Tok) (u : Vc) (hv : v.most 9999999) (h : Small ts) (e : brkR m v ts = .ok u r) : u.most 9999999 := by
 induction m generalizing v ts with
 | zero =>
  unfold brkR at e
  cases q : hasR mClose ts with
  | some r' => rw [q] at e; injection e with e1 e2; rw [← e1]; exact hv
  | none => rw [q] at e; cases e
 | succ m ih =>
  unfold brkR at e
  cases q : hasR mClose ts with
  | some r' => rw [q] at e; injection e with e1 e2; rw [← e1]; exact hv
  | none =>
   rw [q] at e
   simp only at e
   cases q2 : hasR mMinus ts with
   | some r' =>
    rw [q2] at e
    obtain ⟨n, r1, e1, e2⟩ := Rs.bind_ok e
    have hs := h.suf (hasR_suf q2)
    have hn := numR_small hs e1
    exact ih _ r1 (hv.put _ _ (by omega)) (hs.suf (suf_of_ok (numR_suf _) e1)) e2
   | none =>
    rw [q2] at e
    obtain ⟨n, r1, e1, e2⟩ := Rs.bind_ok e
    have hn := numR_small h e1
    exact ih _ r1 (hv.put _ _ (by omega)) (h.suf (suf_of_ok (numR_suf _) e1)) e2
theorem strip_cnt (p f n : Nat) : (strip p f n).2 ≤ f := by
 induction f generalizing n with
 | zero => exact Nat.le_refl _
 | succ f ih =>
  rw [strip]
  split
  ·
   have := ih (n / p); simp only; omega
  exact Nat.zero_le _
theorem ratioN_most (n d k : Nat) : (ratioN n d k).2.2.most 9999999 := by
 induction k with
 | zero => unfold ratioN Vc.most vc0; simp
 | succ k ih =>
  rw [ratioN]
  generalize ratioN n d k = q at ih
  obtain ⟨a, b, v⟩ := q
  simp only [ratioK]
  refine Vc.most.put ih k _ ?_
  have h1 := strip_cnt (primeAt k) 64 a
  have h2 := strip_cnt (primeAt k) 64 b
  omega
theorem ratioV_most {n d : Nat} {v : Vc} (h : ratioV n d = some v) : v.most 9999999 := by
 unfold ratioV at h
 split at h
 ·
  cases h
 split at h
 ·
  injection h with h; rw [← h]; exact ratioN_most n d 6
 cases h
theorem ivalR_most {ts r : List Tok} {v : Vc} (h : Small ts) (e : ivalR ts = .ok v r) : v.most 9999999 := by
 unfold ivalR at e
 cases q : hasR mOpen ts with
 | some r' =>
  rw [q] at e
  exact brkR_most 6 vc0 r' r v (by unfold Vc.most vc0; simp) (h.suf (hasR_suf q)) e
 | none =>
  rw [q] at e
  obtain ⟨n, r1, e1, e⟩ := Rs.bind_ok e
  obtain ⟨u, r2, e2, e⟩ := Rs.bind_ok e
  obtain ⟨d, r3, e3, e⟩ := Rs.bind_ok e
  cases q2 : ratioV n d with
  | none => rw [q2] at e; cases e
  | some v' => rw [q2] at e; injection e with e4 e5; rw [← e4]; exact ratioV_most q2
structure Drf.fine (d : Drf) : Prop where
 len : d.names.length = d.sc.notes.length
 p : ∀ p ∈ d.sc.pairs, 0 ≤ p.a ∧ p.a < d.sc.notes.length ∧ 0 ≤ p.b ∧ p.b < d.sc.notes.length ∧ p.wish.most 9999999
theorem idxR_lt {ns : List (List UInt8)} {s : List UInt8} {i : Nat} (h : idxR ns s = some i) : i < ns.length := by
 unfold idxR at h
 exact (List.findIdx?_eq_some_iff_getElem.1 h).1
theorem oldR_lt {ns : List (List UInt8)} {ts r : List Tok} {i : Nat} (h : oldR ns ts = .ok i r) : i < ns.length := by
 unfold oldR at h
 obtain ⟨s, r1, e1, e2⟩ := Rs.bind_ok h
 cases q : idxR ns s with
 | none => rw [q] at e2; cases e2
 | some j => rw [q] at e2; injection e2 with e3 e4; rw [← e3]; exact idxR_lt q
theorem noteR_fine {t : Bool} {d d2 : Drf} {ts r : List Tok} (hd : d.fine) (h : noteR t d ts = .ok d2 r) : d2.fine := by
 unfold noteR at h
 obtain ⟨_, _, _, h⟩ := Rs.bind_ok h
 obtain ⟨_, _, _, h⟩ := Rs.bind_ok h
 obtain ⟨_, _, _, h⟩ := Rs.bind_ok h
 obtain ⟨_, _, _, h⟩ := Rs.bind_ok h
 obtain ⟨_, _, _, h⟩ := Rs.bind_ok h
 obtain ⟨_, _, _, h⟩ := Rs.bind_ok h
 obtain ⟨_, _, _, h⟩ := Rs.bind_ok h
 obtain ⟨_, _, _, h⟩ := Rs.bind_ok h
 obtain ⟨_, _, _, h⟩ := Rs.bind_ok h
 injection h with h
 subst h
 refine ⟨by simp [Drf.note, hd.len], fun p hp => ?_⟩
 obtain ⟨a, b, c, e, f⟩ := hd.p p hp
 simp only [Drf.note, List.length_append, List.length_singleton]
 exact ⟨a, by omega, c, by omega, f⟩
theorem byR_most {ts r : List Tok} {v : Vc} (h : Small ts) (e : byR ts = .ok v r) : v.most 9999999 := by
 unfold byR at e
 cases q : hasR kw_by ts with
 | some r' => rw [q] at e; exact ivalR_most (h.suf (hasR_suf q)) e
 | none => rw [q] at e; injection e with e1 e2; rw [← e1]; unfold Vc.most vc0; simp
theorem pairR_fine {d d2 : Drf} {ts r : List Tok} (hs : Small ts) (hd : d.fine) (h : pairR d ts = .ok d2 r) : d2.fine := by
 unfold pairR at h
 obtain ⟨a, r1, e1, h⟩ := Rs.bind_ok h
 obtain ⟨b, r2, e2, h⟩ := Rs.bind_ok h
 obtain ⟨v, r3, e3, h⟩ := Rs.bind_ok h
 obtain ⟨k, r4, e4, h⟩ := Rs.bind_ok h
 obtain ⟨_, _, _, h⟩ := Rs.bind_ok h
 injection h with h
 subst h
 have h1 := oldR_lt e1
 have h2 := oldR_lt e2
 have hl := hd.len
 have s1 := hs.suf (suf_of_ok (oldR_suf _ _) e1)
 have s2 := s1.suf (suf_of_ok (oldR_suf _ _) e2)
 refine ⟨hd.len, fun p hp => ?_⟩
 simp only [Drf.pair] at hp ⊢
 rcases List.mem_append.1 hp with hp | hp
 ·
  exact hd.p p hp
 obtain rfl := List.mem_singleton.1 hp
 exact ⟨by simp only; omega, by simp only; omega, by simp only; omega, by simp only; omega, byR_most s2 e3⟩
theorem cadR_fine {d d2 : Drf} {ts r : List Tok} (hd : d.fine) (h : cadR d ts = .ok d2 r) : d2.fine := by
 unfold cadR at h
 obtain ⟨_, _, _, h⟩ := Rs.bind_ok h
 obtain ⟨_, _, _, h⟩ := Rs.bind_ok h
 injection h with h
 subst h
 exact ⟨hd.len, hd.p⟩
theorem itemR_fine {s : List UInt8} {d d2 : Drf} {ts r : List Tok} (hs : Small ts) (hd : d.fine) (h : itemR s d ts = some (.ok d2 r)) : d2.fine := by
 unfold itemR at h
 split at h
 ·
  injection h with h; exact noteR_fine hd h
 split at h
 ·
  injection h with h; exact noteR_fine hd h
 split at h
 ·
  injection h with h; exact pairR_fine hs hd h
 split at h
 ·
  injection h with h; exact cadR_fine hd h
 cases h
theorem itemsA_fine (d d2 : Drf) (ts r : List Tok) (hs : Small ts) (hd : d.fine) (h : itemsA d ts = .ok d2 r) : d2.fine ∧ d2.cnt ≤ d.cnt + ts.length := by
 obtain ⟨m, hm⟩ : ∃ m, m = ts.length := ⟨_, rfl⟩
 induction m using Nat.strongRecOn generalizing d ts with
 | _ m ih =>
  cases ts with
  | nil => rw [itemsA_nil] at h; injection h with h1 h2; rw [← h1]; exact ⟨hd, by omega⟩
  | cons t ts =>
   rw [itemsA_cons] at h
   cases e : itemR t.text d ts with
   | none => rw [e] at h; cases h
   | some q =>
    rw [e] at h
    simp only at h
    obtain ⟨d3, r3, e2, h⟩ := Rs.bind_ok h
    subst e2
    have h1 := itemR_short e
    have h2 := itemR_suf e
    simp only at h1
    have hs2 : Small ts := fun u hu => hs u (List.mem_cons_of_mem _ hu)
    have h3 := itemR_fine hs2 hd e
    have h4 := itemR_cnt e
    obtain ⟨a, b⟩ := ih r3.length (by rw [hm, List.length_cons]; omega) d3 r3 (hs2.suf h2) h3 h rfl
    exact ⟨a, by rw [List.length_cons]; omega⟩
theorem readR_fine {d : Drf} {ts r : List Tok} (hs : Small ts) (hl : ts.length ≤ 8000) (h : readR ts = .ok d r) : d.fine ∧ d.cnt ≤ 8000 := by
 unfold readR at h
 obtain ⟨a1, r1, e1, h⟩ := Rs.bind_ok h
 obtain ⟨a2, r2, e2, h⟩ := Rs.bind_ok h
 obtain ⟨a3, r3, e3, h⟩ := Rs.bind_ok h
 have s1 := suf_of_ok (wantsR_suf _ _) e1
 have s2 := suf_of_ok (numR_suf _) e2
 have s3 := suf_of_ok (wantsR_suf _ _) e3
 have s := s3.trans (s2.trans s1)
 have hle := s.length_le
 obtain ⟨a, b⟩ := itemsA_fine _ d r3 r (hs.suf s) ⟨rfl, fun p hp => by cases hp⟩ h
 refine ⟨a, ?_⟩
 have h0 : Drf.cnt ⟨{ scr0 with voices := (a2 : Int) }, []⟩ = 0 := rfl
 rw [h0] at b
 omega
end Go.Proofs.YtcjhihmaegagdaaGreatDoor
namespace Go.Proofs.YtcjhihmaegagdaaGreatDoor
open Go.Lib
theorem itemsR_suf (f : Nat) (d : Drf) (ts : List Tok) : (itemsR f d ts).suf ts := by
 induction f generalizing d ts with
 | zero => cases ts <;> exact List.suffix_refl _
 | succ f ih =>
  cases ts with
  | nil => exact List.suffix_refl _
  | cons t ts =>
   simp only [itemsR]
   cases e : itemR t.text d ts with
   | none => exact Rs.suf_err 10
   | some q => exact Rs.suf_up (Rs.suf_bind (itemR_suf e) fun _ _ => ih _ _) (List.suffix_cons t ts)
theorem readR_suf (ts : List Tok) : (readR ts).suf ts := Rs.suf_bind (wantsR_suf _ _) fun _ _ => Rs.suf_bind (numR_suf _) fun _ _ => Rs.suf_bind (wantsR_suf _ _) fun _ _ => itemsR_suf _ _ _
theorem stand_pos {src : List UInt8} {e : Nat} {ts : List Tok} (h : StandL src e ts) : ∀ t ∈ ts, t.pos ≤ src.length := by
 induction ts generalizing e with
 | nil => intro t ht; cases ht
 | cons u ts ih =>
  obtain ⟨h1, h2, -, -, -, h3⟩ := h
  intro t ht
  rcases List.mem_cons.1 ht with rfl | ht
  ·
   omega
  exact ih h3 t ht
theorem parse_bad {s : List UInt8} (h : parseE s ≠ 0) : parseP s ≤ s.length ∧ parseS s = scr0 := by
 by_cases hl : lexE s = 0
 case neg =>
  obtain ⟨-, h2, h3⟩ := parse_lexerr hl
  rw [h2, h3]
  exact ⟨lexP_le s, rfl⟩
 have hsuf := readR_suf (lexT s)
 have hpos := stand_pos (stand_tokens hl)
 unfold parseE at h
 unfold parseP parseS
 simp only [hl, ne_eq, not_true_eq_false, if_false] at h ⊢
 cases hr : readR (lexT s) with
 | err r e =>
  rw [hr] at hsuf
  refine ⟨?_, rfl⟩
  cases r with
  | nil => exact Nat.le_refl _
  | cons t r => exact hpos t (hsuf.subset (by simp))
 | ok d r =>
  rw [hr] at h
  simp only at h ⊢
  split at h
  ·
   exact absurd rfl h
  rename_i hv
  rw [if_neg hv, if_neg hv]
  exact ⟨Nat.le_refl _, rfl⟩
theorem parse_good {s : List UInt8} (h : parseE s = 0) : parseP s = 0 ∧ validS (parseS s) = true := by
 by_cases hl : lexE s = 0
 case neg =>
  rw [(parse_lexerr hl).1] at h
  exact absurd h hl
 have hnz := readR_nz (lexT s)
 unfold parseE at h
 unfold parseP parseS
 simp only [hl, ne_eq, not_true_eq_false, if_false] at h ⊢
 cases hr : readR (lexT s) with
 | err r e =>
  rw [hr] at hnz h
  exact absurd h hnz
 | ok d r =>
  rw [hr] at h
  simp only at h ⊢
  split at h
  ·
   rename_i hv
   rw [if_pos hv, if_pos hv]
   exact ⟨rfl, hv⟩
  cases h
theorem print_cases {s : Scr} (h : validS s = true) : (printE s = 2) ∨ (printE s = 0 ∧ printS s = sourceL s ∧ (sourceL s).length ≤ 8000) := by
 unfold printE printS
 rw [if_pos h, if_pos h]
 by_cases hl : 8000 < (sourceL s).length
 ·
  rw [if_pos hl]; exact Or.inl rfl
 rw [if_neg hl, if_neg hl]; exact Or.inr ⟨rfl, rfl, by omega⟩
end Go.Proofs.YtcjhihmaegagdaaGreatDoor
namespace Go.Proofs.YtcjhihmaegagdaaGreatDoor
def srcA : List UInt8 := [97, 116, 32, 51, 47, 50, 59]
def srcB : List UInt8 := [118, 111, 105, 99, 101, 115, 32, 50, 59, 32, 110, 111, 116, 101, 32, 120, 58, 32, 118, 111, 105, 99, 101, 32, 48, 32, 102, 114, 111, 109, 32, 48, 32, 116, 111, 32, 52, 59, 32, 110, 111, 116, 101, 32, 121, 58, 32, 118, 111, 105, 99, 101, 32, 49, 32, 102, 114, 111, 109, 32, 48, 32, 116, 111, 32, 52, 32, 97, 116, 32, 53, 47, 52, 59, 32, 112, 97, 105, 114, 32, 121, 32, 120, 32, 98, 121, 32, 52, 47, 53, 59]
def srcC : List UInt8 := [118, 111, 105, 99, 101, 115, 32, 50, 59, 32, 110, 111, 116, 101, 32, 120, 32, 118, 111, 105, 99, 101]
def srcD : List UInt8 := [118, 111, 105, 99, 101, 115, 32, 50, 59, 32, 112, 97, 105, 114, 32, 120, 32, 121, 59]
def srcE : List UInt8 := [118, 111, 105, 99, 101, 115, 32, 49, 59, 32, 110, 111, 116, 101, 32, 120, 58, 32, 118, 111, 105, 99, 101, 32, 48, 32, 102, 114, 111, 109, 32, 48, 32, 116, 111, 32, 52, 32, 97, 116, 32, 49, 55, 47, 49, 54, 59]
def outB : List UInt8 := [118, 111, 105, 99, 101, 115, 32, 50, 59, 10, 110, 111, 116, 101, 32, 110, 48, 58, 32, 118, 111, 105, 99, 101, 32, 48, 32, 102, 114, 111, 109, 32, 48, 32, 116, 111, 32, 52, 59, 10, 110, 111, 116, 101, 32, 110, 49, 58, 32, 118, 111, 105, 99, 101, 32, 49, 32, 102, 114, 111, 109, 32, 48, 32, 116, 111, 32, 52, 32, 97, 116, 32, 53, 47, 52, 59, 10, 112, 97, 105, 114, 32, 110, 48, 32, 110, 49, 32, 98, 121, 32, 53, 47, 52, 59, 10]
def scrB : Scr := ⟨2, [⟨0, 0, 4, ⟨0, 0, 0, 0, 0, 0⟩, false⟩, ⟨1, 0, 4, ⟨-2, 0, 1, 0, 0, 0⟩, false⟩], [⟨0, 1, ⟨-2, 0, 1, 0, 0, 0⟩, 0⟩], []⟩
def tokA : List Tok := [⟨1, 0, 0, [97, 116]⟩, ⟨2, 3, 3, [51]⟩, ⟨3, 4, 0, [47]⟩, ⟨2, 5, 2, [50]⟩, ⟨3, 6, 0, [59]⟩]
theorem lexA_a : lexT srcA = tokA ∧ lexP srcA = 0 ∧ lexE srcA = 0 := by decide +kernel
theorem parse_c : parseP srcC = 17 ∧ parseE srcC = 10 := by decide +kernel
theorem parse_d : parseP srcD = 15 ∧ parseE srcD = 11 := by decide +kernel
theorem parse_e : parseP srcE = 41 ∧ parseE srcE = 9 := by decide +kernel
theorem parse_b : parseP srcB = 0 ∧ parseE srcB = 0 ∧ parseS srcB = scrB := by decide +kernel
theorem print_b : printS scrB = outB ∧ printE scrB = 0 := by decide +kernel
end Go.Proofs.YtcjhihmaegagdaaGreatDoor
namespace Go.Proofs.YtcjhihmaegagdaaGreatDoor
open Go.Lib
theorem join_cons (t : Tok) (ts : List Tok) (c : UInt8) : joinL (t :: ts) c = t.text ++ [c] ++ joinL ts c := rfl
theorem join_snoc (ts : List Tok) (t : Tok) (c : UInt8) : joinL (ts ++ [t]) c = joinL ts c ++ (t.text ++ [c]) := by
 unfold joinL
 rw [List.flatMap_append]
 simp
theorem stand_len (src : List UInt8) (c : UInt8) : ∀ (ts : List Tok) (e : Nat), StandL src e ts → (joinL ts c).length + 2 * e ≤ 2 * src.length ∧ ts.length + e ≤ src.length
 | [], e, h => by
  obtain ⟨h1, -⟩ := h
  simp [joinL]; omega
 | t :: ts, e, h => by
  obtain ⟨h1, h2, h3, -, -, h6⟩ := h
  obtain ⟨i1, i2⟩ := stand_len src c ts _ h6
  have : 0 < t.text.length := List.length_pos_iff.2 h3
  rw [join_cons, List.length_append, List.length_append]
  simp only [List.length_cons, List.length_nil]
  omega
theorem lexT_len (s : List UInt8) : (lexT s).length ≤ 8000 := by
 by_cases h : lexE s = 0
 ·
  have := (stand_len s 32 _ 0 (stand_tokens h)).2
  have := (lexE_ok h).1
  omega
 rw [lexT_err h]; simp
theorem joinT_len (s : List UInt8) (c : UInt8) : (joinL (lexT s) c).length ≤ 16000 := by
 by_cases h : lexE s = 0
 ·
  have := (stand_len s c _ 0 (stand_tokens h)).1
  have := (lexE_ok h).1
  omega
 rw [lexT_err h]; simp [joinL]
theorem join_take_le (ts : List Tok) (c : UInt8) (i : Nat) : (joinL (ts.take i) c).length ≤ (joinL ts c).length := by
 conv => rhs; rw [← List.take_append_drop i ts]
 unfold joinL
 rw [List.flatMap_append, List.length_append]
 omega
theorem join_step (ts : List Tok) (c : UInt8) (i : Nat) (h : i < ts.length) : joinL (ts.take (i + 1)) c = joinL (ts.take i) c ++ (ts[i].text ++ [c]) := by
 rw [List.take_succ_eq_append_getElem h, join_snoc]
theorem renT_len (a b : UInt8) (t : List UInt8) : (renT a b t).length ≤ t.length + 1 := by
 unfold renT
 split
 ·
  split <;> simp
 omega
theorem ren_len (a b : UInt8) (ts : List Tok) : (renL a b ts).length ≤ (joinL ts 32).length + ts.length := by
 induction ts with
 | nil => simp [renL, joinL]
 | cons t ts ih =>
  have h1 := renT_len a b t.text
  have e1 : renL a b (t :: ts) = renT a b t.text ++ [32] ++ renL a b ts := rfl
  rw [e1, join_cons]
  simp only [List.length_append, List.length_cons, List.length_nil]
  omega
theorem ren_step (a b : UInt8) (ts : List Tok) (i : Nat) (h : i < ts.length) : renL a b (ts.take (i + 1)) = renL a b (ts.take i) ++ (renT a b ts[i].text ++ [32]) := by
 rw [List.take_succ_eq_append_getElem h]
 unfold renL
 rw [List.flatMap_append]
 simp
theorem ren_take_le (a b : UInt8) (ts : List Tok) (i : Nat) : (renL a b (ts.take i)).length ≤ (renL a b ts).length := by
 conv => rhs; rw [← List.take_append_drop i ts]
 unfold renL
 rw [List.flatMap_append, List.length_append]
 omega
def sseg (s : List UInt8) (i e : Nat) : List UInt8 := (s.drop i).take (e - i)
theorem sseg_cons (s : List UInt8) (i e : Nat) (h : i < e) (he : e ≤ s.length) : sseg s i e = s[i] :: sseg s (i + 1) e := by
 unfold sseg
 rw [List.drop_eq_getElem_cons (by omega), show e - i = (e - (i + 1)) + 1 by omega, List.take_succ_cons]
theorem sseg_nil (s : List UInt8) (i e : Nat) (h : e ≤ i) : sseg s i e = [] := by
 unfold sseg
 rw [show e - i = 0 by omega, List.take_zero]
theorem gap_step (s : List UInt8) (i e : Nat) (h : i < e) (he : e ≤ s.length) (hg : gapA (sseg s i e) = true) :
  (s[i] = 35 ∧ gapA ((sseg s i e).dropWhile (· != 10)) = true) ∨ (s[i] ≠ 35 ∧ isBlank s[i] = true ∧ gapA (sseg s (i + 1) e) = true) := by
 rw [sseg_cons s i e h he] at hg ⊢
 rw [gapA_cons] at hg
 by_cases hx : s[i] = 35
 ·
  rw [if_pos (by simpa using hx)] at hg
  refine Or.inl ⟨hx, ?_⟩
  rw [List.dropWhile_cons, if_pos (by rw [hx]; decide)]
  exact hg
 rw [if_neg (by simpa using hx)] at hg
 have := Bool.and_eq_true_iff.1 hg
 exact Or.inr ⟨hx, this.1, this.2⟩
theorem gap_in (s : List UInt8) (i e : Nat) (h : i < e) (he : e ≤ s.length) (hg : gapA ((sseg s i e).dropWhile (· != 10)) = true) (hx : s[i] ≠ 10) : gapA ((sseg s (i + 1) e).dropWhile (· != 10)) = true := by
 rw [sseg_cons s i e h he, List.dropWhile_cons, if_pos (by simpa using hx)] at hg
 exact hg
theorem gap_out (s : List UInt8) (i e : Nat) (h : i < e) (he : e ≤ s.length) (hg : gapA ((sseg s i e).dropWhile (· != 10)) = true) (hx : s[i] = 10) : gapA (sseg s (i + 1) e) = true := by
 rw [sseg_cons s i e h he, List.dropWhile_cons, if_neg (by rw [hx]; decide), gapA_cons, if_neg (by rw [hx]; decide)] at hg
 exact (Bool.and_eq_true_iff.1 hg).2
theorem gap_end (s : List UInt8) (i : Nat) : gapA (sseg s i s.length) = gapA (s.drop i) := by
 unfold sseg
 rw [List.take_of_length_le (by simp)]
def endT (ts : List Tok) : Nat → Nat
 | 0 => 0
 | i + 1 => (ts.getD i ⟨0, 0, 0, []⟩).pos + (ts.getD i ⟨0, 0, 0, []⟩).text.length
theorem stand_at (src : List UInt8) : ∀ (ts : List Tok) (e : Nat), StandL src e ts → ∀ i (hi : i < ts.length), (if i = 0 then e else endT ts i) ≤ ts[i].pos ∧ ts[i].pos + ts[i].text.length ≤ src.length ∧ ts[i].text ≠ [] ∧ (src.drop ts[i].pos).take ts[i].text.length = ts[i].text ∧ gapA (sseg src (if i = 0 then e else endT ts i) ts[i].pos) = true
 | [], _, _ => fun i hi => by simp at hi
 | t :: ts, e, h => fun i hi => by
  obtain ⟨h1, h2, h3, h4, h5, h6⟩ := h
  cases i with
  | zero => exact ⟨h1, h2, h3, h4, h5⟩
  | succ i =>
   have := stand_at src ts _ h6 i (by simpa using hi)
   rw [if_neg (Nat.succ_ne_zero i), List.getElem_cons_succ]
   have e1 : endT (t :: ts) (i + 1) = if i = 0 then t.pos + t.text.length else endT ts i := by
    cases i with
    | zero => rfl
    | succ i => rfl
   rw [e1]
   exact this
theorem stand_last (src : List UInt8) : ∀ (ts : List Tok) (e : Nat), StandL src e ts → (if ts.length = 0 then e else endT ts ts.length) ≤ src.length ∧ gapA (sseg src (if ts.length = 0 then e else endT ts ts.length) src.length) = true
 | [], e, h => ⟨h.1, by rw [gap_end]; exact h.2⟩
 | t :: ts, e, h => by
  obtain ⟨-, -, -, -, -, h6⟩ := h
  have := stand_last src ts _ h6
  rw [if_neg (by simp)]
  have e1 : endT (t :: ts) (t :: ts).length = if ts.length = 0 then t.pos + t.text.length else endT ts ts.length := by
   cases ts with
   | nil => rfl
   | cons u us => rfl
  rw [e1]
  exact this
theorem if_zero (ts : List Tok) (i : Nat) : (if i = 0 then 0 else endT ts i) = endT ts i := by
 cases i <;> rfl
theorem print_all (s : Scr) : (printE s ≠ 0 ∧ (printE s = 1 ∨ printE s = 2) ∧ printS s = []) ∨ (printE s = 0 ∧ (printS s).length ≤ 8000 ∧ printS s = sourceL s ∧ validS s = true ∧ lexE (printS s) = 0 ∧ parseE (printS s) = 0 ∧ parseS (printS s) = s ∧ parseP (printS s) = 0) := by
 unfold printE printS
 by_cases hv : validS s = true
 ·
  rw [if_pos hv, if_pos hv]
  by_cases hl : 8000 < (sourceL s).length
  ·
   rw [if_pos hl, if_pos hl]
   exact Or.inl ⟨by decide, Or.inr rfl, rfl⟩
  rw [if_neg hl, if_neg hl]
  obtain ⟨h1, h2, h3, h4⟩ := source_back hv (by omega)
  exact Or.inr ⟨rfl, by omega, rfl, hv, h1, h2, h3, h4⟩
 rw [if_neg hv, if_neg hv]
 exact Or.inl ⟨by decide, Or.inl rfl, rfl⟩
theorem lexT_text (s : List UInt8) : ∀ t ∈ lexT s, t.text.length ≤ 8000 := by
 intro t ht
 by_cases h : lexE s = 0
 ·
  obtain ⟨i, hi, rfl⟩ := List.getElem_of_mem ht
  have h1 := (stand_at s _ 0 (stand_tokens h) i hi).2.1
  have := (lexE_ok h).1
  omega
 rw [lexT_err h] at ht; cases ht
theorem low_ofNat (r : Nat) (h : r < 26) : isLow (UInt8.ofNat (97 + r)) = true := by
 have : (UInt8.ofNat (97 + r)).toNat = 97 + r := by rw [UInt8.toNat_ofNat']; omega
 unfold isLow
 rw [this]
 simp; omega
theorem dig_ofNat (r : Nat) (h : r < 10) : isDig (UInt8.ofNat (48 + r)) = true := by
 have : (UInt8.ofNat (48 + r)).toNat = 48 + r := by rw [UInt8.toNat_ofNat']; omega
 unfold isDig
 rw [this]
 simp; omega
theorem ren_small (a b : UInt8) (s : List UInt8) : (renL a b (lexT s)).length ≤ 24000 := by
 have h1 := ren_len a b (lexT s)
 have h2 := joinT_len s 32
 have h3 := lexT_len s
 omega
theorem sseg_snoc (t : List UInt8) (p j : Nat) (hp : p ≤ j) (hj : j < t.length) : sseg t p (j + 1) = sseg t p j ++ [t[j]] := by
 unfold sseg
 rw [show j + 1 - p = (j - p) + 1 by omega, List.take_succ_eq_append_getElem (by rw [List.length_drop]; omega)]
 congr 2
 rw [List.getElem_drop]
 congr 1
 omega
theorem sseg_self (t : List UInt8) (p : Nat) : sseg t p p = [] := sseg_nil t p p (Nat.le_refl _)
theorem lines_step (t : List UInt8) (p j : Nat) (hp : p ≤ j) (hj : j < t.length) : linesF (sseg t p j) (t.drop j) = if t[j] = 10 then sseg t p (j + 1) :: linesF (sseg t (j + 1) (j + 1)) (t.drop (j + 1)) else linesF (sseg t p (j + 1)) (t.drop (j + 1)) := by
 rw [List.drop_eq_getElem_cons hj, linesF, sseg_snoc t p j hp hj, sseg_self]
theorem lines_end (t : List UInt8) (p j : Nat) (hj : t.length ≤ j) : linesF (sseg t p j) (t.drop j) = [] := by
 rw [List.drop_of_length_le hj]; rfl
def frontO (ls : List (List UInt8)) (k : Nat) : List UInt8 := ((ls.take k).filter fun l => !isPairL l).reverse.flatten
def pairsO (ls : List (List UInt8)) (k : Nat) : List (List UInt8) := (ls.take k).filter isPairL
theorem frontO_yes (ls : List (List UInt8)) (k : Nat) (h : k < ls.length) (hp : isPairL ls[k] = true) : frontO ls (k + 1) = frontO ls k ∧ pairsO ls (k + 1) = pairsO ls k ++ [ls[k]] := by
 unfold frontO pairsO
 rw [List.take_succ_eq_append_getElem h, List.filter_append, List.filter_append]
 simp [hp]
theorem frontO_no (ls : List (List UInt8)) (k : Nat) (h : k < ls.length) (hp : isPairL ls[k] = false) : frontO ls (k + 1) = ls[k] ++ frontO ls k ∧ pairsO ls (k + 1) = pairsO ls k := by
 unfold frontO pairsO
 rw [List.take_succ_eq_append_getElem h, List.filter_append, List.filter_append]
 simp [hp]
theorem otherO (h : List UInt8) (ls : List (List UInt8)) (k : Nat) : otherL (h :: ls) k = h ++ (frontO ls ls.length ++ (rotL (pairsO ls ls.length) k).flatten) := by
 unfold otherL frontO pairsO
 rw [List.take_length]
def rotO (ps : List (List UInt8)) (k : Nat) : Nat → List UInt8
 | 0 => []
 | i + 1 => rotO ps k i ++ ps.getD ((i + k) % ps.length) []
theorem rotO_take (ps : List (List UInt8)) (k i : Nat) (h : i ≤ ps.length) : rotO ps k i = ((rotL ps k).take i).flatten := by
 induction i with
 | zero => rfl
 | succ i ih =>
  have hi : i < (rotL ps k).length := by rw [rotL_length]; omega
  rw [List.take_succ_eq_append_getElem hi, List.flatten_append, rotO, ih (by omega)]
  have := rotL_at ps k i (by omega)
  rw [List.getElem?_eq_getElem hi] at this
  rw [List.getD_eq_getElem?_getD, ← this]
  simp
theorem rotO_all (ps : List (List UInt8)) (k : Nat) : rotO ps k ps.length = (rotL ps k).flatten := by
 rw [rotO_take _ _ _ (Nat.le_refl _), List.take_of_length_le (by rw [rotL_length]; omega)]
theorem flat_ge (ls : List (List UInt8)) (i : Nat) (h : i < ls.length) : ls[i].length ≤ ls.flatten.length := by
 induction ls generalizing i with
 | nil => simp at h
 | cons x ls ih =>
  rw [List.flatten_cons, List.length_append]
  cases i with
  | zero => exact Nat.le_add_right _ _
  | succ i =>
   have := ih i (by simpa using h)
   rw [List.getElem_cons_succ]
   omega
theorem filter_flat (p : List UInt8 → Bool) (ls : List (List UInt8)) : (ls.filter p).flatten.length ≤ ls.flatten.length := by
 induction ls with
 | nil => simp
 | cons x ls ih =>
  rw [List.filter_cons]
  split
  ·
   simp only [List.flatten_cons, List.length_append]; omega
  simp only [List.flatten_cons, List.length_append]; omega
theorem flat_take (ls : List (List UInt8)) (k : Nat) : (ls.take k).flatten.length ≤ ls.flatten.length := by
 conv => rhs; rw [← List.take_append_drop k ls]
 rw [List.flatten_append, List.length_append]
 omega
theorem rev_flat (ls : List (List UInt8)) : ls.reverse.flatten.length = ls.flatten.length := by
 induction ls with
 | nil => rfl
 | cons x ls ih => rw [List.reverse_cons, List.flatten_append, List.length_append, ih]; simp; omega
theorem frontO_len (ls : List (List UInt8)) (k : Nat) : (frontO ls k).length ≤ ls.flatten.length := by
 unfold frontO
 rw [rev_flat]
 exact Nat.le_trans (filter_flat _ _) (flat_take _ _)
theorem rotO_len (ps : List (List UInt8)) (k i : Nat) (h : i ≤ ps.length) : (rotO ps k i).length ≤ ps.flatten.length := by
 rw [rotO_take _ _ _ h]
 refine Nat.le_trans (flat_take _ _) ?_
 unfold rotL
 rw [List.flatten_append, List.length_append, Nat.add_comm, ← List.length_append, ← List.flatten_append, List.take_append_drop]
 exact Nat.le_refl _
theorem pairsO_flat (ls : List (List UInt8)) (k : Nat) : (pairsO ls k).flatten.length ≤ ls.flatten.length := Nat.le_trans (filter_flat _ _) (flat_take _ _)
theorem pairsO_len (ls : List (List UInt8)) (k : Nat) : (pairsO ls k).length ≤ ls.length := by
 unfold pairsO
 exact Nat.le_trans (List.length_filter_le _ _) (by rw [List.length_take]; omega)
theorem linesF_count (cur l : List UInt8) : (linesF cur l).length ≤ l.length := by
 induction l generalizing cur with
 | nil => simp [linesF]
 | cons x l ih =>
  rw [linesF]
  split
  ·
   have := ih []
   simp only [List.length_cons]; omega
  have := ih (cur ++ [x])
  simp only [List.length_cons]; omega
end Go.Proofs.YtcjhihmaegagdaaGreatDoor
