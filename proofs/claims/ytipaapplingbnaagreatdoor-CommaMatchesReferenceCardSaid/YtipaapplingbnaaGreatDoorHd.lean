/- Walks: Ints once more: it only reads. -/
import Derived.Test.YtipaapplingbnaaGreatDoorHa
namespace Go.Proofs.YtipaapplingbnaaGreatDoor
open Go.RowKit Go.Deep

set_option maxRecDepth 100000 in
set_option maxHeartbeats 2000000 in
theorem ints_q (w : World) (A B : Option Addr) (c d : Nat) (l m : List Int) (hl : RdI w w.heap.size A l) (hm : RdI w w.heap.size B m) (hll : l.length ≤ 9223372036854775806) :
    Calls Tryz.prog 14 #[.slice A l.length c, .slice B m.length d] w fun e w' => e = .returned (.bool (decide (l = m))) ∧ ∃ n, w' = w.drewN n := by
  have HL := Lib.hid hl
  have HM := Lib.hid hm
  clear hl hm
  by_cases hlen : l.length = m.length
  · have hn : ((l.length : Int) != (m.length : Int)) = false := by rw [bne_eq_false_iff_eq, hlen]
    have HLEN := Lib.hid hlen
    obtain ⟨R, hR⟩ : ∃ R, decide (l = m) = R := ⟨_, rfl⟩
    rw [hR]
    have HR := Lib.hid hR
    clear hlen hR
    go_enter Tryz.func14, Tryz.ntmps14
    go_wp2_with fail
    clear hn
    go_loopw [5] (fun i wx => ∃ k : Nat, k ≤ l.length ∧ i = .int .i64 k ∧ Hid (∃ n, wx = w.drewN n) ∧ Hid (∀ j, j < k → l.getD j 0 = m.getD j 0)) (fun i _ => l.length - (intOf i).toNat)
    case atStart => exact ⟨0, Nat.zero_le _, rfl, ⟨0, rfl⟩, fun j hj => absurd hj (by omega)⟩
    case round =>
      obtain ⟨k, hk, rfl, HB, HE⟩ := hrel
      have hbb : Below w.heap.size w wr := by
        obtain ⟨n, e⟩ := HB.out
        rw [e]
        exact below_dN (Below.refl _ _) n
      have HBB := Lib.hid hbb
      have HDN : Hid (∀ q, ∃ n, wr.drewN q = w.drewN n) := fun q => by
        obtain ⟨n, e⟩ := HB.out
        exact ⟨n + q, by rw [e, World.drewN_drewN]⟩
      clear hbb
      by_cases hlt : k < l.length
      · obtain ⟨a, rfl, ha, qa⟩ := (HL.out.up HBB.out).at hlt
        have hlm : k < m.length := by have := HLEN.out; omega
        obtain ⟨b, rfl, hb, qb⟩ := (HM.out.up HBB.out).at hlm
        have HRF : Hid (l.getD k 0 ≠ m.getD k 0 → R = false) := fun h => by
          rw [← HR.out, decide_eq_false_iff_not]
          intro e
          exact h (by rw [e])
        have HEX : Hid (l.getD k 0 = m.getD k 0 → ∀ j, j < k + 1 → l.getD j 0 = m.getD j 0) := fun h j hj => by
          rcases Nat.lt_or_ge j k with h' | h'
          · exact HE.out j h'
          · obtain rfl : j = k := by omega
            exact h
        generalize l.getD k 0 = x at *
        generalize m.getD k 0 = y at *
        by_cases hxy : x = y
        · have HN := Lib.hid (HEX.out hxy)
          have h1 : (x != y) = false := by rw [bne_eq_false_iff_eq]; exact hxy
          clear hxy HEX HRF
          go_wp2_with fail
          go_quiet (fail)
          go_wp2_with fail
          go_roundw
          case rel => exact ⟨k + 1, by omega, by go_num, HDN.out _, HN.out⟩
          case measure => simp [intOf]; omega
        · have HN := Lib.hid (HRF.out hxy)
          have h1 : (x != y) = true := by rw [bne_iff_ne]; exact hxy
          clear hxy HEX HRF
          go_wp2_with fail
          go_quiet (fail)
          go_wp2_with fail
          go_ret
          exact ⟨by rw [HN.out]; rfl, HDN.out _⟩
      · obtain rfl : k = l.length := by omega
        have HN : Hid (R = true) := by
          show _ = _
          rw [← HR.out, decide_eq_true_eq]
          exact getD_ext HLEN.out HE.out
        go_wp2_with fail
        go_ret
        exact ⟨by rw [HN.out]; rfl, HB.out⟩
  · have hn : ((l.length : Int) != (m.length : Int)) = true := by rw [bne_iff_ne]; omega
    have HF : Hid (decide (l = m) = false) := by show _ = _; rw [decide_eq_false_iff_not]; intro e; exact hlen (by rw [e])
    clear hlen
    go_enter Tryz.func14, Tryz.ntmps14
    go_wp2_with fail
    go_ret
    exact ⟨by rw [HF.out]; rfl, ⟨0, rfl⟩⟩


end Go.Proofs.YtipaapplingbnaaGreatDoor
