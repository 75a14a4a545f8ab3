/- Plain law of CommaWalk. -/
import Derived.Test.YtipaapplingbnaaDoorPa
namespace Go.Proofs.YtipaapplingbnaaDoor

theorem comb_set {cs : List Int} {rows : List (Nat → Int)} (hl : cs.length = rows.length) {i : Nat} (hi : i < cs.length) (n : Int) (j : Nat) :
    comb (cs.set i (cs.getD i 0 + n)) rows j = comb cs rows j + n * (rows.getD i fun _ => 0) j := by
  have hir : i < rows.length := by omega
  have e1 : cs = cs.take i ++ cs[i] :: cs.drop (i + 1) := by rw [List.getElem_cons_drop, List.take_append_drop]
  have e2 : rows = rows.take i ++ rows[i] :: rows.drop (i + 1) := by rw [List.getElem_cons_drop, List.take_append_drop]
  have g1 : cs.getD i 0 = cs[i] := getD_at hi 0
  have g2 : rows.getD i (fun _ => 0) = rows[i] := getD_at hir _
  have e3 : cs.set i (cs.getD i 0 + n) = cs.take i ++ (cs[i] + n) :: cs.drop (i + 1) := by
    rw [g1, List.set_eq_take_append_cons_drop, if_pos hi]
  have hlen : (cs.take i).length = (rows.take i).length := by simp; omega
  rw [e3, g2]
  conv => lhs; rw [e2]
  conv => rhs; rw [e1]; arg 1; rw [e2]
  rw [comb_mid _ _ _ _ _ _ hlen, comb_mid _ _ _ _ _ _ hlen, Int.add_mul]
  omega
/-- How often each comma was taken by the first k takes, less how often it was given back. -/
def cntW (n : Nat) (ts : List Tk) : Nat → List Int
  | 0 => List.replicate n 0
  | k + 1 => (cntW n ts k).set (ts.getD k ⟨0, 0, 0, 0⟩).c.toNat ((cntW n ts k).getD (ts.getD k ⟨0, 0, 0, 0⟩).c.toNat 0 + (ts.getD k ⟨0, 0, 0, 0⟩).n)
theorem cntW_len (n : Nat) (ts : List Tk) (k : Nat) : (cntW n ts k).length = n := by
  induction k with
  | zero => simp [cntW]
  | succ k ih => simp [cntW, ih]
theorem comb_zero (n : Nat) (rows : List (Nat → Int)) (j : Nat) : comb (List.replicate n 0) rows j = 0 := by
  induction n generalizing rows with
  | zero => cases rows <;> rfl
  | succ n ih =>
    cases rows with
    | nil => rfl
    | cons r rows =>
      rw [List.replicate_succ]
      show 0 * r j + comb (List.replicate n 0) rows j = 0
      rw [ih]
      omega
theorem cntW_makes {l : List Cm} {ts : List Tk} (ht : okT l.length ts = true) (k : Nat) (hk : k ≤ ts.length) : MakesV l (cntW l.length ts k) (shV l ts k) := by
  refine ⟨cntW_len _ _ _, fun j => ?_⟩
  induction k with
  | zero => rw [cntW, comb_zero, shV, zeroV_at]
  | succ k ih =>
    obtain ⟨c0, c1, -⟩ := wrong_small (of_decide_eq_true ht k (by omega))
    have hi : (ts.getD k ⟨0, 0, 0, 0⟩).c.toNat < l.length := by omega
    rw [cntW, comb_set (by rw [cntW_len]; simp) (by rw [cntW_len]; exact hi), ih (by omega), shV, Vc.addm_at]
    congr 2
    rw [getD_at (by simpa using hi), getD_at hi]
    simp
theorem cntW_small {n : Nat} {ts : List Tk} (ht : okT n ts = true) (k : Nat) (hk : k ≤ ts.length) : ∀ x ∈ cntW n ts k, x.natAbs ≤ k := by
  induction k with
  | zero =>
    intro x hx
    rw [cntW, List.mem_replicate] at hx
    rw [hx.2]
    simp
  | succ k ih =>
    obtain ⟨c0, c1, c2⟩ := wrong_small (of_decide_eq_true ht k (by omega))
    intro x hx
    rw [cntW] at hx
    have hi : (ts.getD k ⟨0, 0, 0, 0⟩).c.toNat < (cntW n ts k).length := by rw [cntW_len]; omega
    rcases List.mem_or_eq_of_mem_set hx with h | h
    · have := ih (by omega) x h
      omega
    · have := ih (by omega) _ (List.getElem_mem hi)
      rw [getD_at hi] at h
      rw [h]
      rcases c2 with c2 | c2 | c2 <;> rw [c2] <;> omega
theorem walk_good {l : List Cm} {ts : List Tk} (h : walkE l ts = 0) : validB l = true ∧ ts.length < 16 ∧ okT l.length ts = true ∧ okS l ts = true ∧ walkV l ts = shs l ts ts.length := by
  have h' := h
  unfold walkE at h
  by_cases h1 : validB l = true ∧ ts.length < 16 ∧ okT l.length ts = true
  · obtain ⟨a, b, c⟩ := h1
    rcases hs : okS l ts with _ | _
    · rw [(walk_out a b c hs).1] at h'; cases h'
    · exact ⟨a, b, c, rfl, (walk_ok a b c hs).2⟩
  · have hb : walkE l ts = 1 := (walk_bad (by
      rcases hv : validB l with _ | _
      · exact .inl rfl
      · by_cases hl : ts.length < 16
        · rcases ho : okT l.length ts with _ | _
          · exact .inr (.inr rfl)
          · exact absurd ⟨hv, hl, ho⟩ h1
        · exact .inr (.inl hl))).1
    rw [hb] at h'
    cases h'
theorem walk_empty {l : List Cm} {ts : List Tk} (h : walkE l ts ≠ 0) : walkV l ts = [] := by
  by_cases h1 : validB l = true ∧ ts.length < 16 ∧ okT l.length ts = true
  · obtain ⟨a, b, c⟩ := h1
    rcases hs : okS l ts with _ | _
    · exact (walk_out a b c hs).2
    · exact absurd (walk_ok a b c hs).1 h
  · refine (walk_bad ?_).2
    rcases hv : validB l with _ | _
    · exact .inl rfl
    · by_cases hl : ts.length < 16
      · rcases ho : okT l.length ts with _ | _
        · exact .inr (.inr rfl)
        · exact absurd ⟨hv, hl, ho⟩ h1
      · exact .inr (.inl hl)
/-- Behind each section: the account of its shift, and the shift of its account. -/
theorem walk_law {l : List Cm} {ts : List Tk} (h : walkE l ts = 0) (k : Nat) (hk : k ≤ ts.length) :
    cntK l (shV l ts k) = 0 ∧ cntV l (shV l ts k) = cntW l.length ts k ∧ sumE l (cntW l.length ts k) = 0 ∧ sumV l (cntW l.length ts k) = shV l ts k := by
  obtain ⟨hv, hl, ht, ho, -⟩ := walk_good h
  have hL := validB_iff.1 hv
  have hok := of_decide_eq_true ho k hk
  have hm := cntW_makes ht k hk
  have hi : inRange (cntW l.length ts k) = true := by
    unfold inRange
    rw [List.all_eq_true]
    intro x hx
    have := cntW_small ht k hk x hx
    rw [decide_eq_true_eq]
    omega
  have h1 := cnt_makes ⟨hL, hok⟩ hm
  rw [hi] at h1
  obtain ⟨h2, h3⟩ := sum_of hL hok hm hi
  exact ⟨h1.1, h1.2, h2, h3⟩

end Go.Proofs.YtipaapplingbnaaDoor
