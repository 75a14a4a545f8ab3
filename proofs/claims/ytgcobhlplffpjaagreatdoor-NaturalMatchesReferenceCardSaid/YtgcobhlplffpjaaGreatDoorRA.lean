/- Walks of the reference: Parse of any string. -/
import Derived.Test.YtgcobhlplffpjaaGreatDoorR9
namespace Go.Proofs.YtgcobhlplffpjaaGreatDoor
open Go.RowKit Go.Deep

set_option maxRecDepth 100000 in
set_option maxHeartbeats 1000000 in
theorem rParse_none (w : World) : Calls Tryz.prog 34 #[str []] w (REndsO w (.err 8)) := by
  go_enter Tryz.func34, Tryz.ntmps34
  go_wp2
  go_ret2
  exact ⟨Below.refl _ _, none, 0, rfl, RdW.nil _ _ _⟩
set_option maxRecDepth 100000 in
set_option maxHeartbeats 1000000 in
theorem rParse_led (w : World) (s : List UInt8) (hl : s.length ≤ 9223372036854775807) (h0 : 1 < s.length) (h1 : s[0].toNat = 48) : Calls Tryz.prog 34 #[str s] w (REndsO w (.err 8)) := by
  obtain ⟨x, hx⟩ : ∃ x, s[0] = x := ⟨_, rfl⟩
  have hz0 : (⟨s.toArray⟩ : ByteArray)[0]'(by simp [ByteArray.size]; omega) = x := hx
  rw [hx] at h1
  clear hx
  have n0 : ((s.length : Int) == 0) = false := by rw [beq_eq_false_iff_ne]; omega
  go_enter Tryz.func34, Tryz.ntmps34
  go_wp2
  go_ret2
  exact ⟨Below.refl _ _, none, 0, rfl, RdW.nil _ _ _⟩
theorem rParse_any (w : World) (s : List UInt8) (hl : s.length ≤ 9223372036854775807) : Calls Tryz.prog 34 #[str s] w (REndsO w (parseO s)) := by
  rcases Nat.eq_zero_or_pos s.length with h | h0
  · obtain rfl := List.eq_nil_of_length_eq_zero h
    exact rParse_none w
  · by_cases h1 : s[0].toNat = 48 → s.length = 1
    · exact rParse_run w s hl h0 h1
    · have ha : s[0].toNat = 48 := by
        refine Classical.byContradiction fun e => h1 fun e2 => absurd e2 e
      have hb : 1 < s.length := by
        refine Classical.byContradiction fun e => h1 fun _ => by omega
      have hp : parseO s = .err 8 := by
        unfold parseO
        rw [if_neg]
        intro hd
        unfold isDecB at hd
        rw [Bool.and_eq_true, Bool.and_eq_true, Bool.not_eq_true', Bool.and_eq_false_iff] at hd
        rcases hd.1.2 with e | e
        · have e2 := of_decide_eq_false e
          rw [List.head?_eq_getElem?, List.getElem?_eq_getElem h0] at e2
          exact e2 (congrArg some (UInt8.toNat_inj.1 ha))
        · exact of_decide_eq_false e hb
      rw [hp]
      exact rParse_led w s hl hb ha

end Go.Proofs.YtgcobhlplffpjaaGreatDoor
