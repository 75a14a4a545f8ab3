/- Walks: errors.Is at the errors of this package. -/
import Derived.Test.YtppcdppplbpklaaDoorWi
import Derived.LaidEql
namespace Go.Proofs.YtppcdppplbpklaaDoor
open Go.RowKit Go.Extern.Stop Go.Stop Go.Extern

theorem eqIn_iface_int {P : Program} (w : World) (d : Nat) {ti tn : TypeId} {ms : Array (String × TypeId)} {i : TypeInfo} {k : IntKind} (a b : Int)
    (hi : P.underlying ti = some (.interface ms)) (hn : P.underlying tn = some (.int k)) (hinfo : P.info? tn = some i) (hcomp : i.comparable = true) :
    (Op.equalIn (d + 2) ti (.iface tn (.int k a)) (.iface tn (.int k b))).run P w = .ok (a == b) w := by
  simp [Op.equalIn, run_underlying hi, run_underlying hn, typeInfo, hinfo, hcomp]
theorem eq_iface_int {P : Program} (w : World) {ti tn : TypeId} {ms : Array (String × TypeId)} {i : TypeInfo} {k : IntKind} (a b : Int)
    (hi : P.underlying ti = some (.interface ms)) (hn : P.underlying tn = some (.int k)) (hinfo : P.info? tn = some i) (hcomp : i.comparable = true) :
    (binOp .eql ti (.iface tn (.int k a)) (.iface tn (.int k b))).run P w = .ok (.bool (a == b)) w := by
  simp only [binOp]
  simp [Op.equal, Op.maxDepth, eqIn_iface_int w 9998 a b hi hn hinfo hcomp]
theorem errno_comp : (Tryd.prog.info? 28).map (·.comparable) = some true := by kernel_rfl
theorem eq_errno (w : World) (a b : Int) : (binOp .eql 53 (.iface 28 (.int .i64 a)) (.iface 28 (.int .i64 b))).run Tryd.prog w = .ok (.bool (a == b)) w := by
  cases hq : Tryd.prog.info? 28 with
  | none => have := errno_comp; rw [hq] at this; cases this
  | some i =>
    have hc : i.comparable = true := by have := errno_comp; rw [hq] at this; simpa using this
    exact eq_iface_int w a b Tryd.underlying53 Tryd.underlying28 hq hc
theorem eq_fault_errno (w : World) (v : Value) (b : Int) : (binOp .eql 53 (.iface 78 v) (.iface 28 (.int .i64 b))).run Tryd.prog w = .ok (.bool false) w := by kernel_rfl
theorem is_no_Is (v : Value) (xT : TypeId) (w : World) : (Instr.typeAssert (.iface 78 v) xT 97 true).run Tryd.prog w = .ok (.tuple #[.nilIface, .bool false]) w := run_typeAssert_lacksB Tryd.underlying97 (by kernel_rfl) (by kernel_rfl) v xT w
theorem is_no_IsE (v : Value) (xT : TypeId) (w : World) : (Instr.typeAssert (.iface 28 v) xT 97 true).run Tryd.prog w = .ok (.tuple #[.nilIface, .bool false]) w := run_typeAssert_lacksB Tryd.underlying97 (by kernel_rfl) (by kernel_rfl) v xT w
theorem is_no_UnwrapE (v : Value) (xT : TypeId) (w : World) : (Instr.typeAssert (.iface 28 v) xT 100 true).run Tryd.prog w = .ok (.tuple #[.nilIface, .bool false]) w := run_typeAssert_lacksB Tryd.underlying100 (by kernel_rfl) (by kernel_rfl) v xT w
theorem is_no_UnwrapsE (v : Value) (xT : TypeId) (w : World) : (Instr.typeAssert (.iface 28 v) xT 102 true).run Tryd.prog w = .ok (.tuple #[.nilIface, .bool false]) w := run_typeAssert_lacksB Tryd.underlying102 (by kernel_rfl) (by kernel_rfl) v xT w
theorem rl_comparable (w : World) : (ReflectliteType.method (fun t => do Rtype.noPackHeld "Comparable" t; (fun a : TypeInfo => Value.bool a.comparable) <$> typeInfo t) #[.agg #[.pointer (some ⟨2, 28, none⟩)]]).run Tryd.prog w = .ok (.bool true) w := by kernel_rfl

set_option maxRecDepth 100000 in
theorem eq_nil_errno (w : World) (v : Value) : (binOp .eql 53 .nilIface (.iface 28 v)).run Tryd.prog w = .ok (.bool false) w := by kernel_rfl
theorem is_nil (x : Value) (w : World) : Calls Tryd.prog 32 #[.nilIface, .iface 28 x] w fun e w' => e = .returned (.bool false) ∧ w = w' := by
  have f0 := eq_nil_errno
  go_enter Tryd.func32, Tryd.ntmps32
  go_wp2
  go_ret
  exact ⟨rfl, rfl⟩

set_option maxRecDepth 100000 in
set_option maxHeartbeats 2000000 in
theorem is_is (q e : Int) (bq : Bool) (hbq : (e == 12) = bq) (w : World) : Calls Tryd.prog 39 #[.iface 78 (.agg #[.int .i64 q, .int .i64 e]), .iface 28 (.int .i64 12), .bool true] w fun ev w' => ev = .returned (.bool bq) ∧ Below w.heap.size w w' := by
  have f1 := eq_fault_errno
  have f2 := eq_errno
  have f3 := is_no_Is
  have f4 := is_no_IsE
  have f5 := is_no_UnwrapE
  have f6 := is_no_UnwrapsE
  have f7 := has_Unwrap
  cases bq
  all_goals
   (go_enter Tryd.func39, Tryd.ntmps39
    go_wp2
    refine wp_loop_rounds 2 ?_
    rw [rounds_succ]
    go_wp2
    rw [rounds_succ]
    go_wp2
    go_ret
    exact ⟨rfl, by go_grown⟩)
set_option maxRecDepth 100000 in
set_option maxHeartbeats 2000000 in
theorem is_fault (q e : Int) (bq : Bool) (hbq : (e == 12) = bq) (w : World) : Calls Tryd.prog 32 #[.iface 78 (.agg #[.int .i64 q, .int .i64 e]), .iface 28 (.int .i64 12)] w fun ev w' => ev = .returned (.bool bq) ∧ Below w.heap.size w w' := by
  have hto := @run_callFunc_extern Tryd.prog 38 _ ReflectliteType.typeOf Tryd.func38 (by kernel_rfl) (by kernel_rfl) (by kernel_rfl) (by kernel_rfl)
  have hco := @run_callFunc_extern Tryd.prog 73 _ (ReflectliteType.method (fun t => do Rtype.noPackHeld "Comparable" t; pure (.bool (← typeInfo t).comparable))) Tryd.func73 (by kernel_rfl) (by kernel_rfl) (by kernel_rfl) (by kernel_rfl)
  have f1 := rl_typeOfE
  have f2 := rl_comparable
  go_enter Tryd.func32, Tryd.ntmps32
  go_wp2_with (go_at_call 39; refine (is_is q e bq hbq _).mono ?_; rintro ev w2 ⟨rfl, hb⟩)
  go_ret
  exact ⟨rfl, hb⟩
end Go.Proofs.YtppcdppplbpklaaDoor
