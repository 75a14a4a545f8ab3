/- Plain law of CommaText. -/
import Derived.Test.YtipaapplingbnaaDoorPa
namespace Go.Proofs.YtipaapplingbnaaDoor

theorem text_well {l : List Cm} {cs : List Int} (h : textE l cs = 0) : parseE l (textV l cs) = 0 ∧ parseV l (textV l cs) = cs := by
  unfold textE at h
  rcases ha : accB l cs with _ | _
  · rw [ha] at h; simp at h
  · obtain ⟨hi, hlen, hL⟩ := accB_iff.1 ha
    have hp := parse_text (nms l) hL.nodup (fun nm hm => by
      unfold nms at hm
      obtain ⟨x, hx, rfl⟩ := List.mem_map.1 hm
      exact hL.names x hx) cs (by unfold nms; rw [List.length_map]; exact hlen) hi
    unfold parseE parseV textV
    rw [ha, validB_true hL, if_pos rfl, if_pos rfl, if_pos rfl, hp]
    exact ⟨rfl, rfl⟩
theorem text_len {l : List Cm} {cs : List Int} (h : textE l cs = 0) : cs.length ≤ 6 := by
  unfold textE at h
  rcases ha : accB l cs with _ | _
  · rw [ha] at h; simp at h
  · obtain ⟨hi, hlen, hL⟩ := accB_iff.1 ha
    rw [hlen]
    exact hL.hi
theorem raw_len {ns : List (List UInt8)} {s : List UInt8} {o : List Int} (h : rawC ns s = some o) : o.length = ns.length := by
  unfold rawC at h
  split at h
  · injection h with h
    rw [← h, zeroC, List.length_replicate]
  · rw [loopC_len h, zeroC, List.length_replicate]
theorem parseC_raw {ns : List (List UInt8)} {s : List UInt8} {cs : List Int} (h : parseC ns s = some cs) : rawC ns s = some cs := by
  unfold parseC at h
  split at h
  · cases h
  · rename_i h2
    split at h
    · injection h with h; subst h; exact h2
    · cases h
theorem parse_well {l : List Cm} {s : List UInt8} (h : parseE l s = 0) : textE l (parseV l s) = 0 ∧ textV l (parseV l s) = s := by
  unfold parseE at h
  rcases hv : validB l with _ | _
  · rw [hv] at h; simp at h
  · rw [hv, if_pos rfl] at h
    rcases hp : parseC (nms l) s with _ | cs
    · rw [hp] at h; simp at h
    · obtain ⟨hr, ht⟩ := parse_back hp
      have hlen := raw_len (parseC_raw hp)
      have ha : accB l cs = true := accB_iff.2 ⟨hr, by rw [hlen, nms, List.length_map], validB_iff.1 hv⟩
      have e : parseV l s = cs := by unfold parseV; rw [hv, if_pos rfl, hp]; rfl
      unfold textE textV
      rw [e, ha, if_pos rfl, if_pos rfl]
      exact ⟨rfl, ht⟩
theorem parse_tiny (l : List Cm) (s : List UInt8) : (parseV l s).length ≤ 6 := by
  unfold parseV
  rcases hv : validB l with _ | _
  · simp
  · rw [if_pos rfl]
    rcases hp : parseC (nms l) s with _ | cs
    · simp
    · have := raw_len (parseC_raw hp)
      have h6 := (validB_iff.1 hv).hi
      rw [Option.getD_some, this, nms, List.length_map]
      exact h6
theorem text_tiny (l : List Cm) (cs : List Int) : (textV l cs).length ≤ 1000 := by
  unfold textV
  rcases ha : accB l cs with _ | _
  · simp
  · obtain ⟨hi, hlen, hL⟩ := accB_iff.1 ha
    rw [if_pos rfl]
    unfold textC
    split
    · simp
    · have h1 := entries_length (nms l) cs
      have h6 := hL.hi
      have h2 := entries_small (nms l) cs (fun nm hm => by
        rw [nms, List.mem_map] at hm
        obtain ⟨x, hx, rfl⟩ := hm
        exact hL.names x hx) (fun n hn => inRange_abs hi n hn)
      have h3 := join_small 22 _ h2
      have : (22 + 1) * (entries (nms l) cs).length ≤ 23 * 6 := Nat.mul_le_mul_left _ (by omega)
      exact Nat.le_trans h3 (by omega)

end Go.Proofs.YtipaapplingbnaaDoor
