/- Walks: matrix.forward, matrix.Rank. -/
import Derived.Test.YtipaapplingbnaaDoorCk
namespace Go.Proofs.YtipaapplingbnaaDoor
open Go.RowKit Go.Deep

set_option maxRecDepth 100000 in
set_option maxHeartbeats 1000000 in
theorem forward_any (w : World) : Calls Tryd.prog 37 #[] w fun e w' => e = .returned (.slice (some ⟨w.heap.size, 0, none⟩) 6 6) ∧ Below w.heap.size w w' ∧ RdI w' w'.heap.size (some ⟨w.heap.size, 0, none⟩) (ofN [0, 1, 2, 3, 4, 5]) := by
  go_enter Tryd.func37, Tryd.ntmps37
  go_wp2_with fail
  go_ret
  refine ⟨rfl, (Below.refl _ _).alloc (Nat.le_refl _) _, ?_⟩
  have := shows_new w #[.int .i64 0, .int .i64 1, .int .i64 2, .int .i64 3, .int .i64 4, .int .i64 5] 3 6 1 rfl
  exact this.wider (by simp)

set_option maxRecDepth 100000 in
set_option maxHeartbeats 1000000 in
theorem field_is (a c d : Value) (A : Option Addr) (n cap : Nat) (w : World) : (Instr.field 83 (.agg #[a, .slice A n cap, c, d]) 1).run Tryd.prog w = .ok (.slice A n cap) w := by rfl
set_option maxRecDepth 100000 in
set_option maxHeartbeats 1000000 in
theorem rank_bad (w : World) (Ar : Option Addr) (cr : Nat) (rows : List Vc) (rr : RdV w w.heap.size Ar rows) (hr6 : rows.length ≤ 6) (hok : ∀ v ∈ rows, v.ok = true) (hv : volOk rows = false) :
    Calls Tryd.prog 25 #[.slice Ar rows.length cr] w fun e w' => e = .returned (.tuple #[.int .i64 0, .int .i64 1]) ∧ Below w.heap.size w w' := by
  have HV := Lib.hid (mvalid_any w Ar cr rows rr hr6 hok)
  rw [hv] at HV
  clear rr hok hv
  go_enter Tryd.func25, Tryd.ntmps25
  go_wp2_with (go_at_call 35; refine HV.out.mono ?_; rintro e w1 ⟨rfl, b1⟩)
  go_ret2
  exact ⟨rfl, b1⟩
set_option maxRecDepth 100000 in
set_option maxHeartbeats 1000000 in
theorem rank_good (w : World) (Ar : Option Addr) (cr : Nat) (rows : List Vc) (rr : RdV w w.heap.size Ar rows) (hr6 : rows.length ≤ 6) (hok : ∀ v ∈ rows, v.ok = true) (hv : volOk rows = true) :
    Calls Tryd.prog 25 #[.slice Ar rows.length cr] w fun e w' => Below w.heap.size w w' ∧ ∃ n : Nat, e = .returned (.tuple #[.int .i64 n, .int .i64 0]) ∧ (n = rows.length ↔ Indep 6 (rows.map Vc.at)) := by
  have HV := Lib.hid (mvalid_any w Ar cr rows rr hr6 hok)
  rw [hv] at HV
  have HF := Lib.hid fun (w1 : World) (hb : Below w.heap.size w w1) (Ao : Option Addr) (ro : RdI w1 w1.heap.size Ao (ofN [0, 1, 2, 3, 4, 5])) => framed_any w1 Ar Ao cr 6 rows (rr.up hb) ro hr6 hok
  clear rr hok hv
  have hfi := field_is
  go_enter Tryd.func25, Tryd.ntmps25
  go_wp2_with (first
    | (go_at_call 35; refine HV.out.mono ?_; rintro e w1 ⟨rfl, b1⟩; replace b1 := Lib.hid b1)
    | (go_at_call 37; refine (forward_any _).mono ?_; rintro e w2 ⟨rfl, b2, r2⟩; replace b2 := Lib.hid b2; replace r2 := Lib.hid r2)
    | (go_at_call 36; refine (HF.out _ (below_on b1.out b2.out) _ r2.out).mono ?_; rintro e w3 ⟨b3, Ai, Aj, ci, cj, n, nj, m, rfl, hn⟩; replace b3 := Lib.hid b3; replace hn := Lib.hid hn))
  go_ret2
  exact ⟨below_on (below_on b1.out b2.out) b3.out, n, rfl, hn.out⟩

end Go.Proofs.YtipaapplingbnaaDoor
