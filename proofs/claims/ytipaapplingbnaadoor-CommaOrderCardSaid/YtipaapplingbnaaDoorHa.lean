/- Walks: the reference's Ints and Same. -/
import Derived.Test.YtipaapplingbnaaDoorCx
import Derived.BigQuiet
import Derived.Deep.QuietTactic
namespace Go.Proofs.YtipaapplingbnaaDoor
open Go.RowKit Go.Deep

theorem getD_ext {l m : List Int} (h : l.length = m.length) (hk : ∀ k, k < l.length → l.getD k 0 = m.getD k 0) : l = m := by
  refine List.ext_getElem h fun k h1 h2 => ?_
  have := hk k h1
  simpa [List.getD_eq_getElem?_getD, h1, h2] using this
set_option maxRecDepth 100000 in
set_option maxHeartbeats 2000000 in
theorem ints_any (w : World) (A B : Option Addr) (c d : Nat) (l m : List Int) (hl : RdI w w.heap.size A l) (hm : RdI w w.heap.size B m) (hll : l.length ≤ 9223372036854775806) :
    Calls Tryd.prog 11 #[.slice A l.length c, .slice B m.length d] w fun e w' => e = .returned (.bool (decide (l = m))) ∧ Below w.heap.size w w' := by
  have HL := Lib.hid hl
  have HM := Lib.hid hm
  clear hl hm
  by_cases hlen : l.length = m.length
  · have hn : ((l.length : Int) != (m.length : Int)) = false := by rw [bne_eq_false_iff_eq, hlen]
    have HLEN := Lib.hid hlen
    obtain ⟨R, hR⟩ : ∃ R, decide (l = m) = R := ⟨_, rfl⟩
    rw [hR]
    have HR := Lib.hid hR
    clear hlen hR
    go_enter Tryd.func11, Tryd.ntmps11
    go_wp2_with fail
    clear hn
    go_loopw [5] (fun i wx => ∃ k : Nat, k ≤ l.length ∧ i = .int .i64 k ∧ Hid (Below w.heap.size w wx) ∧ Hid (∀ j, j < k → l.getD j 0 = m.getD j 0)) (fun i _ => l.length - (intOf i).toNat)
    case atStart => exact ⟨0, Nat.zero_le _, rfl, Below.refl _ _, fun j hj => absurd hj (by omega)⟩
    case round =>
      obtain ⟨k, hk, rfl, HB, HE⟩ := hrel
      by_cases hlt : k < l.length
      · obtain ⟨a, rfl, ha, qa⟩ := (HL.out.up HB.out).at hlt
        have hlm : k < m.length := by have := HLEN.out; omega
        obtain ⟨b, rfl, hb, qb⟩ := (HM.out.up HB.out).at hlm
        have HRF : Hid (l.getD k 0 ≠ m.getD k 0 → R = false) := fun h => by
          rw [← HR.out, decide_eq_false_iff_not]
          intro e
          exact h (by rw [e])
        have HEX : Hid (l.getD k 0 = m.getD k 0 → ∀ j, j < k + 1 → l.getD j 0 = m.getD j 0) := fun h j hj => by
          rcases Nat.lt_or_ge j k with h' | h'
          · exact HE.out j h'
          · obtain rfl : j = k := by omega
            exact h
        generalize l.getD k 0 = x at *
        generalize m.getD k 0 = y at *
        by_cases hxy : x = y
        · have HN := Lib.hid (HEX.out hxy)
          have h1 : (x != y) = false := by rw [bne_eq_false_iff_eq]; exact hxy
          clear hxy HEX HRF
          go_wp2_with fail
          go_quiet (fail)
          go_wp2_with fail
          go_roundw
          case rel => exact ⟨k + 1, by omega, by go_num, below_dN HB.out _, HN.out⟩
          case measure => simp [intOf]; omega
        · have HN := Lib.hid (HRF.out hxy)
          have h1 : (x != y) = true := by rw [bne_iff_ne]; exact hxy
          clear hxy HEX HRF
          go_wp2_with fail
          go_quiet (fail)
          go_wp2_with fail
          go_ret
          exact ⟨by rw [HN.out]; rfl, below_dN HB.out _⟩
      · obtain rfl : k = l.length := by omega
        have HN : Hid (R = true) := by
          show _ = _
          rw [← HR.out, decide_eq_true_eq]
          exact getD_ext HLEN.out HE.out
        go_wp2_with fail
        go_ret
        exact ⟨by rw [HN.out]; rfl, HB.out⟩
  · have hn : ((l.length : Int) != (m.length : Int)) = true := by rw [bne_iff_ne]; omega
    have HF : Hid (decide (l = m) = false) := by show _ = _; rw [decide_eq_false_iff_not]; intro e; exact hlen (by rw [e])
    clear hlen
    go_enter Tryd.func11, Tryd.ntmps11
    go_wp2_with fail
    go_ret
    exact ⟨by rw [HF.out]; rfl, Below.refl _ _⟩

theorem getV_ext {l m : List Vc} (h : l.length = m.length) (hk : ∀ k, k < l.length → l.getD k ⟨0, 0, 0, 0, 0, 0⟩ = m.getD k ⟨0, 0, 0, 0, 0, 0⟩) : l = m := by
  refine List.ext_getElem h fun k h1 h2 => ?_
  have := hk k h1
  simpa [List.getD_eq_getElem?_getD, h1, h2] using this
set_option maxRecDepth 100000 in
set_option maxHeartbeats 2000000 in
theorem same_any (w : World) (A B : Option Addr) (c d : Nat) (l m : List Vc) (hl : RdV w w.heap.size A l) (hm : RdV w w.heap.size B m) (hll : l.length ≤ 9223372036854775806) :
    Calls Tryd.prog 14 #[.slice A l.length c, .slice B m.length d] w fun e w' => e = .returned (.bool (decide (l = m))) ∧ Below w.heap.size w w' := by
  have HL := Lib.hid hl
  have HM := Lib.hid hm
  clear hl hm
  by_cases hlen : l.length = m.length
  · have hn : ((l.length : Int) != (m.length : Int)) = false := by rw [bne_eq_false_iff_eq, hlen]
    have HLEN := Lib.hid hlen
    obtain ⟨R, hR⟩ : ∃ R, decide (l = m) = R := ⟨_, rfl⟩
    rw [hR]
    have HR := Lib.hid hR
    clear hlen hR
    go_enter Tryd.func14, Tryd.ntmps14
    go_wp2_with fail
    clear hn
    go_loopw [5] (fun i wx => ∃ k : Nat, k ≤ l.length ∧ i = .int .i64 k ∧ Hid (Below w.heap.size w wx) ∧ Hid (∀ j, j < k → l.getD j ⟨0, 0, 0, 0, 0, 0⟩ = m.getD j ⟨0, 0, 0, 0, 0, 0⟩)) (fun i _ => l.length - (intOf i).toNat)
    case atStart => exact ⟨0, Nat.zero_le _, rfl, Below.refl _ _, fun j hj => absurd hj (by omega)⟩
    case round =>
      obtain ⟨k, hk, rfl, HB, HE⟩ := hrel
      by_cases hlt : k < l.length
      · obtain ⟨a, rfl, ha, ⟨a0, a1, a2, a3, a4, a5⟩, -⟩ := (HL.out.up HB.out).at hlt
        have hlm : k < m.length := by have := HLEN.out; omega
        obtain ⟨b, rfl, hb, ⟨b0, b1, b2, b3, b4, b5⟩, -⟩ := (HM.out.up HB.out).at hlm
        have e1 : l.getD k ⟨0, 0, 0, 0, 0, 0⟩ = l[k] := by rw [List.getD_eq_getElem?_getD, List.getElem?_eq_getElem hlt]; rfl
        have e2 : m.getD k ⟨0, 0, 0, 0, 0, 0⟩ = m[k] := by rw [List.getD_eq_getElem?_getD, List.getElem?_eq_getElem hlm]; rfl
        have HRF : Hid (l[k] ≠ m[k] → R = false) := fun h => by
          rw [← HR.out, decide_eq_false_iff_not]
          intro e
          refine h ?_
          rw [← e1, ← e2, e]
        have HEX : Hid (l[k] = m[k] → ∀ j, j < k + 1 → l.getD j ⟨0, 0, 0, 0, 0, 0⟩ = m.getD j ⟨0, 0, 0, 0, 0, 0⟩) := fun h j hj => by
          rcases Nat.lt_or_ge j k with h' | h'
          · exact HE.out j h'
          · obtain rfl : j = k := by omega
            rw [e1, e2, h]
        clear e1 e2
        generalize l[k] = x at *
        generalize m[k] = y at *
        have hnq := fun W => neq_vec x y W
        by_cases hxy : x = y
        · have HN := Lib.hid (HEX.out hxy)
          have h1 : decide (x = y) = true := by rw [decide_eq_true_eq]; exact hxy
          rw [h1] at hnq
          clear hxy HEX HRF h1
          go_wp2_with fail
          go_quiet (fail)
          go_wp2_with fail
          go_roundw
          case rel => exact ⟨k + 1, by omega, by go_num, below_dN HB.out _, HN.out⟩
          case measure => simp [intOf]; omega
        · have HN := Lib.hid (HRF.out hxy)
          have h1 : decide (x = y) = false := by rw [decide_eq_false_iff_not]; exact hxy
          rw [h1] at hnq
          clear hxy HEX HRF h1
          go_wp2_with fail
          go_quiet (fail)
          go_wp2_with fail
          go_ret
          exact ⟨by rw [HN.out]; rfl, below_dN HB.out _⟩
      · obtain rfl : k = l.length := by omega
        have HN : Hid (R = true) := by
          show _ = _
          rw [← HR.out, decide_eq_true_eq]
          exact getV_ext HLEN.out HE.out
        go_wp2_with fail
        go_ret
        exact ⟨by rw [HN.out]; rfl, HB.out⟩
  · have hn : ((l.length : Int) != (m.length : Int)) = true := by rw [bne_iff_ne]; omega
    have HF : Hid (decide (l = m) = false) := by show _ = _; rw [decide_eq_false_iff_not]; intro e; exact hlen (by rw [e])
    clear hlen
    go_enter Tryd.func14, Tryd.ntmps14
    go_wp2_with fail
    go_ret
    exact ⟨by rw [HF.out]; rfl, Below.refl _ _⟩

end Go.Proofs.YtipaapplingbnaaDoor
