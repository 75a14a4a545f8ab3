/- Walks: Counts. -/
import Derived.Test.YtipaapplingbnaaDoorCu
namespace Go.Proofs.YtipaapplingbnaaDoor
open Go.RowKit Go.Deep

def CntEnds (w : World) (l : List Cm) (v : Vc) (e : Ending) (w' : World) : Prop :=
  Below w.heap.size w w' ∧ ∃ A c, e = .returned (.tuple #[.slice A (cntV l v).length c, .int .i64 (cntK l v)]) ∧ RdI w' w'.heap.size A (cntV l v) ∧ (cntV l v).length ≤ c
set_option maxRecDepth 100000 in
set_option maxHeartbeats 2000000 in
theorem counts_bad (w : World) (A : Option Addr) (c : Nat) (l : List Cm) (v : Vc) (hr : RdN w w.heap.size A l) (hs : ∀ x ∈ l, x.nm.length ≤ 9223372036854775807) (hll : l.length ≤ 9223372036854775807) (h : ¬ (ValidL l ∧ v.ok = true)) :
    Calls Tryd.prog 10 #[.slice A l.length c, .agg #[.int .i64 v.a, .int .i64 v.b, .int .i64 v.c, .int .i64 v.d, .int .i64 v.e, .int .i64 v.f]] w (CntEnds w l v) := by
  have hal := (Below.refl w.heap.size w).alloc (Nat.le_refl _) (.cells v.cells 25)
  have HV := Lib.hid (valid_any (w.alloc (.cells v.cells 25)) A c l (hr.up hal) hs hll)
  have HBL := Lib.hid (Blk.new w 25 v.cells)
  have HAL := Lib.hid hal
  have HIV := Lib.hid fun w1 => interval_any w1 v
  obtain ⟨e1, e2⟩ := cnt_arg h
  have HE1 := Lib.hid e1
  have HE2 := Lib.hid e2
  rcases hv : validB l with _ | _
  · rw [hv] at HV
    clear hr hs hal e1 e2 h hv
    go_enter Tryd.func10, Tryd.ntmps10
    go_wp2_with (go_at_call 12; refine HV.out.mono ?_; rintro e w1 ⟨rfl, b1⟩; replace b1 := Lib.hid b1)
    go_ret2
    unfold CntEnds
    rw [HE1.out, HE2.out]
    exact ⟨HAL.out.trans (b1.out.mono HAL.out.size), none, 0, rfl, RdI.nil _ _ _, Nat.le_refl _⟩
  · have hvo : v.ok = false := by rw [Bool.eq_false_iff]; exact fun e => h ⟨validB_iff.1 hv, e⟩
    rw [hv] at HV
    rw [hvo] at HIV
    clear hr hs hal e1 e2 h hv hvo
    go_enter Tryd.func10, Tryd.ntmps10
    go_wp2_with (first
      | (go_at_call 12; refine HV.out.mono ?_; rintro e w1 ⟨rfl, b1⟩; have K1 := HBL.out.below b1 HBL.out.lt; have p0 := K1.cell 0; have p1 := K1.cell 1; have p2 := K1.cell 2; have p3 := K1.cell 3; have p4 := K1.cell 4; have p5 := K1.cell 5; simp at p0 p1 p2 p3 p4 p5; replace b1 := Lib.hid b1; replace K1 := Lib.hid K1)
      | (go_at_call 20; refine (HIV.out _).mono ?_; rintro e w2 ⟨rfl, b2⟩; replace b2 := Lib.hid b2))
    go_ret2
    unfold CntEnds
    rw [HE1.out, HE2.out]
    exact ⟨below_on (HAL.out.trans (b1.out.mono HAL.out.size)) b2.out, none, 0, rfl, RdI.nil _ _ _, Nat.le_refl _⟩

end Go.Proofs.YtipaapplingbnaaDoor
