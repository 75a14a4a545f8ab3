/- Plain laws of Sum and Counts. -/
import Derived.Test.YtipaapplingbnaaGreatDoorHc
namespace Go.Proofs.YtipaapplingbnaaGreatDoor
open Go.RowKit Go.Deep

theorem tot_makes {l : List Cm} {cs : List Int} (hc : cs.length = l.length) : MakesV l cs (tot l cs l.length) := ⟨hc, fun j => (tot_all l cs hc j).symm⟩
theorem makes_tot {l : List Cm} {cs : List Int} {v : Vc} (h : MakesV l cs v) : tot l cs l.length = v := by
  refine Vc.ext_at fun j _ => ?_
  rw [tot_all l cs h.1 j]
  exact h.2 j
theorem sum_good {l : List Cm} {cs : List Int} (h : sumE l cs = 0) : accB l cs = true ∧ (tot l cs l.length).ok = true ∧ sumV l cs = tot l cs l.length := by
  unfold sumE at h
  rcases ha : accB l cs with _ | _
  · rw [ha] at h; simp at h
  · rw [ha] at h
    rcases ho : (tot l cs l.length).ok with _ | _
    · rw [ho] at h; simp at h
    · exact ⟨rfl, rfl, by unfold sumV; rw [ha, ho]; rfl⟩
theorem sum_of {l : List Cm} {cs : List Int} {v : Vc} (hL : ValidL l) (hv : v.ok = true) (h : MakesV l cs v) (hi : inRange cs = true) : sumE l cs = 0 ∧ sumV l cs = v := by
  have ha : accB l cs = true := accB_iff.2 ⟨hi, h.1, hL⟩
  unfold sumE sumV
  rw [ha, makes_tot h, hv]
  exact ⟨rfl, rfl⟩
/-- Counts of what Sum returns. -/
theorem cnt_sum {l : List Cm} {cs : List Int} (h : sumE l cs = 0) : cntK l (sumV l cs) = 0 ∧ cntV l (sumV l cs) = cs := by
  obtain ⟨ha, ho, e⟩ := sum_good h
  obtain ⟨hi, hlen, hL⟩ := accB_iff.1 ha
  rw [e]
  have := cnt_makes ⟨hL, ho⟩ (tot_makes hlen)
  rw [hi] at this
  exact this
theorem cnt_good {l : List Cm} {v : Vc} (h : cntK l v = 0) : ValidL l ∧ v.ok = true ∧ MakesV l (cntV l v) v ∧ inRange (cntV l v) = true := by
  by_cases h1 : ValidL l ∧ v.ok = true
  · by_cases h2 : ∃ cs, MakesV l cs v
    · obtain ⟨cs, hm⟩ := h2
      have := cnt_makes h1 hm
      rcases hi : inRange cs with _ | _
      · rw [hi] at this; rw [this.1] at h; simp at h
      · rw [hi] at this
        rw [this.2]
        exact ⟨h1.1, h1.2, hm, hi⟩
    · rw [(cnt_none h1 h2).1] at h; cases h
  · rw [(cnt_arg h1).1] at h; cases h
/-- Sum of what Counts returns. -/
theorem sum_cnt {l : List Cm} {v : Vc} (h : cntK l v = 0) : sumE l (cntV l v) = 0 ∧ sumV l (cntV l v) = v := by
  obtain ⟨hL, hv, hm, hi⟩ := cnt_good h
  exact sum_of hL hv hm hi
theorem cnt_small (l : List Cm) (v : Vc) : (cntV l v).length ≤ 6 := by
  by_cases h1 : ValidL l ∧ v.ok = true
  · have h6 := h1.1.hi
    by_cases h2 : ∃ cs, MakesV l cs v
    · obtain ⟨cs, hm⟩ := h2
      rw [(cnt_makes h1 hm).2]
      split
      · rw [hm.1]; exact h6
      · simp
    · rw [(cnt_none h1 h2).2]; simp
  · rw [(cnt_arg h1).2]; simp

end Go.Proofs.YtipaapplingbnaaGreatDoor
