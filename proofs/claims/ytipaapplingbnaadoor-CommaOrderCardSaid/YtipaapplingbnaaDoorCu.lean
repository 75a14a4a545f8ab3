/- Plain laws of Counts. -/
import Derived.Test.YtipaapplingbnaaDoorCt
namespace Go.Proofs.YtipaapplingbnaaDoor
open Go.RowKit Go.Deep

def vecs (l : List Cm) : List Vc := l.map Cm.v
/-- The minor with v in the place of row k; quotient and rest by the whole. -/
def cN (l : List Cm) (v : Vc) (m0 k : Nat) : Int := Dt (((vecs l).set k v).map Vc.at) (cols m0)
def cW (l : List Cm) (m0 : Nat) : Int := Dt ((vecs l).map Vc.at) (cols m0)
def cQ (l : List Cm) (v : Vc) (m0 k : Nat) : Int := (cN l v m0 k).tdiv (cW l m0)
def cR (l : List Cm) (v : Vc) (m0 k : Nat) : Int := (cN l v m0 k).tmod (cW l m0)
def qsOf (l : List Cm) (v : Vc) (m0 : Nat) : List Int := (List.range l.length).map (cQ l v m0)
def outs (l : List Cm) (v : Vc) (m0 k : Nat) : List Int := (List.range l.length).map fun i => if i < k then cQ l v m0 i else 0
def restV (l : List Cm) (v : Vc) (m0 : Nat) : Nat → Vc
  | 0 => v
  | k + 1 => (restV l v m0 k).addm (-(cQ l v m0 k)) ((l.getD k ⟨[], zeroV⟩).v)
def nones (l : List Cm) (v : Vc) (m0 k : Nat) : Bool := (List.range k).any fun i => decide (cR l v m0 i ≠ 0)
theorem nones_succ (l : List Cm) (v : Vc) (m0 k : Nat) : nones l v m0 (k + 1) = (nones l v m0 k || decide (cR l v m0 k ≠ 0)) := by
  simp [nones, List.range_succ]
theorem outs_zero (l : List Cm) (v : Vc) (m0 : Nat) : outs l v m0 0 = List.replicate l.length 0 := by
  refine List.ext_getElem (by simp [outs]) fun i h1 h2 => ?_
  simp [outs]
theorem outs_len (l : List Cm) (v : Vc) (m0 k : Nat) : (outs l v m0 k).length = l.length := by simp [outs]
theorem outs_succ (l : List Cm) (v : Vc) (m0 k : Nat) (_hk : k < l.length) : (outs l v m0 k).set k (cQ l v m0 k) = outs l v m0 (k + 1) := by
  refine List.ext_getElem (by simp [outs]) fun i h1 h2 => ?_
  rw [List.getElem_set]
  simp only [outs, List.getElem_map, List.getElem_range]
  by_cases h : k = i
  · subst h; simp
  · rw [if_neg h]
    by_cases h3 : i < k
    · rw [if_pos h3, if_pos (by omega)]
    · rw [if_neg h3, if_neg (by omega)]
theorem outs_full (l : List Cm) (v : Vc) (m0 : Nat) : outs l v m0 l.length = qsOf l v m0 := by
  unfold outs qsOf
  refine List.map_congr_left fun i hi => ?_
  rw [if_pos (List.mem_range.1 hi)]
theorem qs_len (l : List Cm) (v : Vc) (m0 : Nat) : (qsOf l v m0).length = l.length := by simp [qsOf]
theorem rest_tot (l : List Cm) (v : Vc) (m0 k : Nat) (hk : k ≤ l.length) (j : Nat) : (restV l v m0 k).at j = v.at j - (tot l (qsOf l v m0) k).at j := by
  induction k with
  | zero => rw [restV, tot, zeroV_at]; omega
  | succ k ih =>
    have hlt : k < l.length := by omega
    have e : (qsOf l v m0).getD k 0 = cQ l v m0 k := by simp [qsOf, List.getD_eq_getElem?_getD, hlt]
    rw [restV, tot, Vc.addm_at, Vc.addm_at, ih (by omega), e]
    grind
theorem rows_eq (l : List Cm) : (vecs l).map Vc.at = l.map fun x => x.v.at := map_vat l
theorem makes_N {l : List Cm} {v : Vc} {cs : List Int} (h : MakesV l cs v) (m0 k : Nat) (hk : k < l.length) : cN l v m0 k = cs.getD k 0 * cW l m0 := by
  have := cramer_at ((vecs l).map Vc.at) cs (by rw [h.1]; simp [vecs]) v.at (fun j => by rw [rows_eq]; exact (h.2 j).symm) (cols m0) k (by simpa [vecs] using hk)
  unfold cN cW
  rw [List.map_set]
  exact this
theorem makes_Q {l : List Cm} {v : Vc} {cs : List Int} (h : MakesV l cs v) {m0 : Nat} (hw : cW l m0 ≠ 0) (k : Nat) (hk : k < l.length) : cQ l v m0 k = cs.getD k 0 ∧ cR l v m0 k = 0 := by
  unfold cQ cR
  rw [makes_N h m0 k hk]
  exact ⟨Int.mul_tdiv_cancel _ hw, Int.mul_tmod_left _ _⟩
theorem makes_qs {l : List Cm} {v : Vc} {cs : List Int} (h : MakesV l cs v) {m0 : Nat} (hw : cW l m0 ≠ 0) : qsOf l v m0 = cs := by
  refine List.ext_getElem (by rw [qs_len, h.1]) fun i h1 h2 => ?_
  have hi : i < l.length := by rw [qs_len] at h1; exact h1
  simp only [qsOf, List.getElem_map, List.getElem_range]
  rw [(makes_Q h hw i hi).1]
  simp [List.getD_eq_getElem?_getD, h2]
theorem makes_none {l : List Cm} {v : Vc} {cs : List Int} (h : MakesV l cs v) {m0 : Nat} (hw : cW l m0 ≠ 0) : nones l v m0 l.length = false := by
  unfold nones
  rw [List.any_eq_false]
  intro i hi
  simp [(makes_Q h hw i (List.mem_range.1 hi)).2]
theorem makes_rest {l : List Cm} {v : Vc} {cs : List Int} (h : MakesV l cs v) {m0 : Nat} (hw : cW l m0 ≠ 0) : restV l v m0 l.length = zeroV := by
  refine Vc.ext_at fun j _ => ?_
  rw [rest_tot l v m0 _ (Nat.le_refl _) j, tot_all l _ (qs_len l v m0) j, makes_qs h hw, h.2 j, zeroV_at]
  omega
theorem rest_makes {l : List Cm} {v : Vc} {m0 : Nat} (h : restV l v m0 l.length = zeroV) : MakesV l (qsOf l v m0) v := by
  refine ⟨qs_len l v m0, fun j => ?_⟩
  have := rest_tot l v m0 _ (Nat.le_refl _) j
  rw [h, zeroV_at, tot_all l _ (qs_len l v m0) j] at this
  omega
theorem cN_bound {l : List Cm} {v : Vc} (hl : ∀ x ∈ l, x.v.ok = true) (hv : v.ok = true) (h6 : l.length ≤ 6) {m0 : Nat} (hm : m0 < 64) (k : Nat) : (cN l v m0 k).natAbs ≤ 570630428688384 := by
  obtain ⟨-, -, -, -, e1, e2⟩ := cols_ends ⟨m0, hm⟩
  simp only at e1 e2
  have hok : ∀ u ∈ (vecs l).set k v, u.ok = true := fun u hu => by
    rcases List.mem_or_eq_of_mem_set hu with h | h
    · obtain ⟨x, hx, rfl⟩ := List.mem_map.1 h
      exact hl x hx
    · rw [h]; exact hv
  have := det_bound hok 0 (cols m0) e1 e2
  unfold rowsD at this
  rw [List.drop_zero, Nat.sub_zero, show ((vecs l).set k v).length = l.length by simp [vecs]] at this
  exact Nat.le_trans this (Nat.le_trans (Nat.pow_le_pow_right (by omega) h6) (by decide))
theorem cQ_bound {l : List Cm} {v : Vc} (hl : ∀ x ∈ l, x.v.ok = true) (hv : v.ok = true) (h6 : l.length ≤ 6) {m0 : Nat} (hm : m0 < 64) (k : Nat) : (cQ l v m0 k).natAbs ≤ 570630428688384 := by
  unfold cQ
  rw [Int.natAbs_tdiv]
  exact Nat.le_trans (Nat.div_le_self _ _) (cN_bound hl hv h6 hm k)
theorem rest_bound {l : List Cm} {v : Vc} (hl : ∀ x ∈ l, x.v.ok = true) (hv : v.ok = true) (h6 : l.length ≤ 6) {m0 : Nat} (hm : m0 < 64) (k : Nat) (hk : k ≤ l.length) (j : Nat) (hj : j < 6) : ((restV l v m0 k).at j).natAbs ≤ 1000000000000000000 := by
  have h1 := rest_tot l v m0 k hk j
  have h2 := tot_small l (qsOf l v m0) hl 570630428688384 (fun n hn => by
    obtain ⟨i, -, rfl⟩ := List.mem_map.1 hn
    exact cQ_bound hl hv h6 hm i) (qs_len l v m0) k hk j hj
  have h3 := (Vc.ok_iff v).1 hv j hj
  have h4 : 570630428688384 * 48 * k ≤ 570630428688384 * 48 * 6 := Nat.mul_le_mul_left _ (by omega)
  omega

/-- What Counts answers. -/
noncomputable def cntK (l : List Cm) (v : Vc) : Int :=
  @ite _ (ValidL l ∧ v.ok = true) (Classical.propDecidable _) (@dite _ (∃ cs, MakesV l cs v) (Classical.propDecidable _) (fun h => if inRange h.choose then 0 else 3) (fun _ => 4)) 1
noncomputable def cntV (l : List Cm) (v : Vc) : List Int :=
  @ite _ (ValidL l ∧ v.ok = true) (Classical.propDecidable _) (@dite _ (∃ cs, MakesV l cs v) (Classical.propDecidable _) (fun h => if inRange h.choose then h.choose else []) (fun _ => [])) []
theorem cnt_arg {l : List Cm} {v : Vc} (h : ¬ (ValidL l ∧ v.ok = true)) : cntK l v = 1 ∧ cntV l v = [] := by
  unfold cntK cntV
  exact ⟨if_neg h, if_neg h⟩
theorem cnt_none {l : List Cm} {v : Vc} (h : ValidL l ∧ v.ok = true) (h2 : ¬ ∃ cs, MakesV l cs v) : cntK l v = 4 ∧ cntV l v = [] := by
  unfold cntK cntV
  rw [if_pos h, if_pos h]
  exact ⟨dif_neg h2, dif_neg h2⟩
theorem cnt_makes {l : List Cm} {v : Vc} (h : ValidL l ∧ v.ok = true) {cs : List Int} (h2 : MakesV l cs v) : cntK l v = (if inRange cs then 0 else 3) ∧ cntV l v = (if inRange cs then cs else []) := by
  have he : ∃ cs, MakesV l cs v := ⟨cs, h2⟩
  have hc : he.choose = cs := makes_inj h.1 he.choose_spec h2
  unfold cntK cntV
  rw [if_pos h, if_pos h, dif_pos he, dif_pos he, hc]
  exact ⟨rfl, rfl⟩

end Go.Proofs.YtipaapplingbnaaDoor
