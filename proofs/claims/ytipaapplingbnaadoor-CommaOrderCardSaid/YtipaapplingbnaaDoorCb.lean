/- Walks: pitch.Interval. -/
import Derived.Test.YtipaapplingbnaaDoorCa
namespace Go.Proofs.YtipaapplingbnaaDoor
open Go.RowKit

set_option maxRecDepth 100000 in
set_option maxHeartbeats 1000000 in
theorem within_any (w : World) (v : Vc) :
    Calls Tryd.prog 32 #[.agg #[.int .i64 v.a, .int .i64 v.b, .int .i64 v.c, .int .i64 v.d, .int .i64 v.e, .int .i64 v.f], .int .i64 48] w fun e w' => e = .returned (.bool v.ok) ∧ Below w.heap.size w w' := by
  go_enter Tryd.func32, Tryd.ntmps32
  go_wp2
  go_loopw [8] (fun i wx => ∃ k : Nat, k ≤ 6 ∧ i = .int .i64 k ∧ Below w.heap.size w wx ∧ Hid (∀ j, j < k → (v.at j).natAbs ≤ 48)) (fun i _ => 6 - (intOf i).toNat)
  case atStart => exact ⟨0, by omega, rfl, (Below.refl _ _).alloc (Nat.le_refl _) _, fun j hj => by omega⟩
  case round =>
    obtain ⟨k, hk, rfl, hB, HK⟩ := hrel
    by_cases hlt : k < 6
    · have hix := index_six v k hlt
      by_cases hs : (v.at k).natAbs ≤ 48
      · have HK2 : Hid (∀ j, j < k + 1 → (v.at j).natAbs ≤ 48) := fun j hj => by
          rcases Nat.lt_or_ge j k with h | h
          · exact HK.out j h
          · rw [show j = k by omega]; exact hs
        generalize v.at k = x at *
        go_wp2
        go_roundw
        case rel => exact ⟨k + 1, by omega, by go_num, hB, HK2⟩
        case measure => simp [intOf]; omega
      · have HR : Hid (v.ok = false) := by
          show _ = _
          rw [Bool.eq_false_iff]
          exact fun e => hs ((Vc.ok_iff v).1 e k hlt)
        generalize v.at k = x at *
        go_wp2
        all_goals
          go_ret
          rw [HR.out]
          exact ⟨rfl, hB⟩
    · have HR : Hid (v.ok = true) := (Vc.ok_iff v).2 fun j hj => HK.out j (by omega)
      go_wp2
      go_ret
      rw [HR.out]
      exact ⟨rfl, hB⟩
set_option maxRecDepth 100000 in
set_option maxHeartbeats 1000000 in
theorem interval_any (w : World) (v : Vc) :
    Calls Tryd.prog 20 #[.agg #[.int .i64 v.a, .int .i64 v.b, .int .i64 v.c, .int .i64 v.d, .int .i64 v.e, .int .i64 v.f]] w fun e w' => e = .returned (.bool v.ok) ∧ Below w.heap.size w w' := by
  have H := Lib.hid fun (w1 : World) => within_any w1 v
  generalize v.ok = q at *
  go_enter Tryd.func20, Tryd.ntmps20
  go_wp2_with (go_at_call 32; refine (H.out _).mono ?_; rintro e w' ⟨rfl, hb⟩)
  go_ret
  exact ⟨rfl, ((Below.refl w.heap.size w).alloc (Nat.le_refl _) _).trans (hb.mono (by simp))⟩

end Go.Proofs.YtipaapplingbnaaDoor
