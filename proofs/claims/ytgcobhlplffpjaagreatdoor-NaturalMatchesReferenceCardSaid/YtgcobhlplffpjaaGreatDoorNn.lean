/- Walks: guarded's deferred closure. -/
import Derived.Test.YtgcobhlplffpjaaGreatDoorNm
import Derived.Defers
import Derived.Recover
import Derived.Laws.Pointers
namespace Go.Proofs.YtgcobhlplffpjaaGreatDoor
open Go.RowKit Go.Deep

theorem catch_idle (p q : Addr) (w : World) :
    CallsD Tryz.prog 63 #[.pointer (some p), .pointer (some q)] .returning w fun e u' w' => e = .returned (.tuple #[]) ∧ u' = .returning ∧ w' = w := by
  refine callsD_of_wpS Tryz.func63 rfl fun c₀ cs hu => ?_
  apply wpS_seq
  apply wpS_region
  simp [wpOpsS, go_sem, recoverD, hu, Tryz.ntmps63, Exit.thenS]
  apply wpS_seq
  apply wpS_region
  simp [wpOpsS, go_sem, Exit.thenS]
  refine wpS_cond (t := false) (by simp [Act.eval, Array.replicate]) ?_
  simp only [Bool.false_eq_true, if_false]
  refine wpS_of_wp (wp_skip ?_)
  cases c₀
  simp_all [bodyPostS, results, Tryz.results63]

theorem catch_failed (p q : Addr) (v : Value) (x k : Int) (older : List PanicEntry) (w : World) (hc : w.cell? p = some v) (hz : w.frozen? p = false) (hd : w.cell? q = some (.int .i64 x)) (hy : w.frozen? q = false) (hne : p.block ≠ q.block) :
    CallsD Tryz.prog 63 #[.pointer (some p), .pointer (some q)] (.panicking ({ v := .iface 72 (.agg #[.int .i64 k]), recovered := false } :: older)) w fun e u' w' =>
      e = .returned (.tuple #[]) ∧ u' = .panicking ({ v := .iface 72 (.agg #[.int .i64 k]), recovered := true } :: older) ∧ w' = ((w.setCell p (.slice none 0 0)).setCell q (.int .i64 k)).drew := by
  refine callsD_of_wpS Tryz.func63 rfl fun c₀ cs hu => ?_
  apply wpS_seq
  apply wpS_region
  simp [wpOpsS, go_sem, recoverD, hu, Tryz.ntmps63, Exit.thenS]
  apply wpS_seq
  apply wpS_region
  simp [wpOpsS, go_sem, Exit.thenS]
  refine wpS_cond (t := true) (by simp [Act.eval, Array.replicate]) ?_
  simp only [if_true]
  refine wpS_of_wp ?_
  have hta : ∀ w' : World, (Instr.typeAssert (.iface 72 (.agg #[.int .i64 k])) 20 72 false).run Tryz.prog w' = .ok (.agg #[.int .i64 k]) w' := fun w' => by kernel_rfl
  have hfd : ∀ w' : World, (Instr.field 72 (.agg #[.int .i64 k]) 0).run Tryz.prog w' = .ok (.int .i64 k) w' := fun w' => by kernel_rfl
  have hd1 : (w.setCell p (.slice none 0 0)).cell? q = some (.int .i64 x) := by rw [World.cell?_of_block (w := w) (blk_setCell_other _ _ _ _ (fun e => hne e.symm))]; exact hd
  have hy1 : (w.setCell p (.slice none 0 0)).frozen? q = false := by rw [World.frozen?_of_block (w := w) (blk_setCell_other _ _ _ _ (fun e => hne e.symm))]; exact hy
  go_region
  all_goals simp [bodyPostS, results, Tryz.results63]

end Go.Proofs.YtgcobhlplffpjaaGreatDoor
