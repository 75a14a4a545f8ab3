/- Walks: errors.As at the errors of this package, and the number of an error. -/
import Derived.Test.YtppcdppplbpklaaDoorWq
import Derived.Test.YtppcdppplbpklaaDoorRows
import Derived.LaidEql
import Derived.Stop.Asserts
import Derived.RowKitTokens
namespace Go.Proofs.YtppcdppplbpklaaDoor
open Go.RowKit Go.Extern.Stop Go.Stop Go.Extern

theorem as_nil (t : Value) (w : World) : Calls Tryd.prog 35 #[.nilIface, t] w fun e w' => e = .returned (.bool false) ∧ w = w' := by
  go_enter Tryd.func35, Tryd.ntmps35
  go_wp2
  go_ret
  exact ⟨rfl, rfl⟩

theorem rl_valueOf (t : Addr) (w : World) : (ReflectliteValue.unpack (.iface 69 (.pointer (some t)))).run Tryd.prog w
    = .ok (.agg #[.pointer (some ⟨2, 69, none⟩), .pointer (some ⟨w.heap.size, 0, none⟩), .int .u64 150]) (w.alloc (.cells #[.pointer (some t)] 69)) := by kernel_rfl
theorem rl_type (a : Addr) (w : World) : (ReflectliteValue.methodAny (ReflectliteValue.valueError "reflectlite.Value.Type" 0) (fun t _ _ _ => ReflectliteType.toType t) #[.agg #[.pointer (some ⟨2, 69, none⟩), .pointer (some a), .int .u64 150]]).run Tryd.prog w
    = .ok (.iface 95 (.agg #[.pointer (some ⟨2, 69, none⟩)])) w := by kernel_rfl
theorem rl_kindP (w : World) : ((ReflectliteType.abiMethod fun t => (fun a : Nat => Value.int IntKind.u8 (a : Int)) <$> Rtype.kind t) #[.pointer (some ⟨2, 69, none⟩)]).run Tryd.prog w = .ok (.int .u8 22) w := by kernel_rfl
theorem rl_kindE (w : World) : ((ReflectliteType.abiMethod fun t => (fun a : Nat => Value.int IntKind.u8 (a : Int)) <$> Rtype.kind t) #[.pointer (some ⟨2, 28, none⟩)]).run Tryd.prog w = .ok (.int .u8 2) w := by kernel_rfl
theorem rlm (z : Sem Value) (f : TypeId → Addr → Nat → Nat → Sem Value) (v : Value) :
    ReflectliteValue.method z f #[v] = (do match ← ReflectliteValue.parts v with | none => z | some (t, a, fl) => f t a fl (fl % 32)) := rfl
theorem rl_parts (a : Addr) (w : World) : (ReflectliteValue.parts (.agg #[.pointer (some ⟨2, 69, none⟩), .pointer (some a), .int .u64 150])).run Tryd.prog w = .ok (some (69, a, 150)) w := by kernel_rfl
theorem rl_isNil (a p : Addr) (W : World) (ha : W.cell? a = some (.pointer (some p))) :
    (ReflectliteValue.method (ReflectliteValue.valueError "reflectlite.Value.IsNil" 0) ReflectliteValue.isNil #[.agg #[.pointer (some ⟨2, 69, none⟩), .pointer (some a), .int .u64 150]]).run Tryd.prog W = .ok (.bool false) W := by
  rw [rlm]
  simp only [Sem.run_bind, rl_parts, Result.andThen]
  simp [ReflectliteValue.isNil, loadVar, isAgg, underlying, Tryd.underlying69, ha, Result.andThen]
theorem rl_elem (w : World) : (ReflectliteType.method ReflectliteType.elem #[.agg #[.pointer (some ⟨2, 69, none⟩)]]).run Tryd.prog w = .ok (.iface 95 (.agg #[.pointer (some ⟨2, 28, none⟩)])) w := by kernel_rfl
theorem rl_implements (w : World) : (ReflectliteType.relation "Implements" ReflectliteType.implements_ #[.agg #[.pointer (some ⟨2, 28, none⟩)], .iface 95 (.agg #[.pointer (some ⟨2, 53, none⟩)])]).run Tryd.prog w = .ok (.bool true) w := by kernel_rfl
theorem rl_typeOfF (v : Value) (w : World) : (ReflectliteType.typeOf #[.iface 78 v]).run Tryd.prog w = .ok (.iface 95 (.agg #[.pointer (some ⟨2, 78, none⟩)])) w := by kernel_rfl
theorem rl_typeOfE (v : Value) (w : World) : (ReflectliteType.typeOf #[.iface 28 v]).run Tryd.prog w = .ok (.iface 95 (.agg #[.pointer (some ⟨2, 28, none⟩)])) w := by kernel_rfl
theorem rl_assignF (w : World) : (ReflectliteType.relation "AssignableTo" ReflectliteType.assignableTo #[.agg #[.pointer (some ⟨2, 78, none⟩)], .iface 95 (.agg #[.pointer (some ⟨2, 28, none⟩)])]).run Tryd.prog w = .ok (.bool false) w := by kernel_rfl
theorem rl_assignE (w : World) : (ReflectliteType.relation "AssignableTo" ReflectliteType.assignableTo #[.agg #[.pointer (some ⟨2, 28, none⟩)], .iface 95 (.agg #[.pointer (some ⟨2, 28, none⟩)])]).run Tryd.prog w = .ok (.bool true) w := by kernel_rfl
theorem rl_valueOfE (e : Int) (w : World) : (ReflectliteValue.unpack (.iface 28 (.int .i64 e))).run Tryd.prog w
    = .ok (.agg #[.pointer (some ⟨2, 28, none⟩), .pointer (some ⟨w.heap.size, 0, none⟩), .int .u64 130]) (w.alloc (.cells #[.int .i64 e] 28)) := by kernel_rfl
theorem rl_elemOf (w : World) : (Rtype.elem? 69).run Tryd.prog w = .ok (some 28) w := by kernel_rfl
theorem rl_mk (p : Addr) (w : World) : (ReflectliteValue.mk 28 p ReflectliteValue.flagAddr).run Tryd.prog w = .ok (.agg #[.pointer (some ⟨2, 28, none⟩), .pointer (some p), .int .u64 386]) w := by kernel_rfl
theorem rl_elemV (a p : Addr) (W : World) (ha : W.cell? a = some (.pointer (some p))) :
    (ReflectliteValue.method (ReflectliteValue.valueError "reflectlite.Value.Elem" 0) ReflectliteValue.elem #[.agg #[.pointer (some ⟨2, 69, none⟩), .pointer (some a), .int .u64 150]]).run Tryd.prog W
      = .ok (.agg #[.pointer (some ⟨2, 28, none⟩), .pointer (some p), .int .u64 386]) W := by
  rw [rlm]
  simp only [Sem.run_bind, rl_parts, Result.andThen]
  simp [ReflectliteValue.elem, loadVar, isAgg, underlying, Tryd.underlying69, ha, Result.andThen, rl_elemOf, rl_mk]
theorem rls (v x : Value) : ReflectliteValue.set #[v, x] = (do
    let (some (dst, a, fl), some (src, b, _)) := (← ReflectliteValue.parts v, ← ReflectliteValue.parts x)
      | unsupported (.noEntry "extern/(internal/reflectlite.Value).Set.zeroValue")
    if fl / ReflectliteValue.flagAddr % 2 == 0 then unsupported (.noEntry "extern/(internal/reflectlite.Value).Set.unaddressable")
    let val ← loadVar src b
    if ← Rtype.directlyAssignable dst src then storeVar dst a val
    else if ← Rtype.implements dst src then
      if (← Rtype.kind src) == 20 then
        match val with
        | .nilIface => unsupported (.noEntry "extern/reflectlite: a nil value of one interface type handed on as a value of another")
        | _ => storeVar dst a val
      else storeVar dst a (.iface src val)
    else panicString ("reflectlite.Set: value of type " ++ (← Rtype.spelt src) ++ " is not assignable to type " ++ (← Rtype.spelt dst))
    pure (.tuple #[])) := rfl
theorem rl_partsA (a : Addr) (w : World) : (ReflectliteValue.parts (.agg #[.pointer (some ⟨2, 28, none⟩), .pointer (some a), .int .u64 386])).run Tryd.prog w = .ok (some (28, a, 386)) w := by kernel_rfl
theorem rl_partsB (a : Addr) (w : World) : (ReflectliteValue.parts (.agg #[.pointer (some ⟨2, 28, none⟩), .pointer (some a), .int .u64 130])).run Tryd.prog w = .ok (some (28, a, 130)) w := by kernel_rfl
theorem rl_direct (w : World) : (Rtype.directlyAssignable 28 28).run Tryd.prog w = .ok true w := by kernel_rfl
theorem rl_size (w : World) : (sizeOf 28).run Tryd.prog w = .ok 1 w := by kernel_rfl
theorem rl_set (ta b : Addr) (e : Int) (old : Value) (W : World) (hb : W.cell? b = some (.int .i64 e)) (ht : W.cell? ta = some old) (hf : W.frozen? ta = false) :
    (ReflectliteValue.set #[.agg #[.pointer (some ⟨2, 28, none⟩), .pointer (some ta), .int .u64 386], .agg #[.pointer (some ⟨2, 28, none⟩), .pointer (some b), .int .u64 130]]).run Tryd.prog W
      = .ok (.tuple #[]) (W.setCell ta (.int .i64 e)) := by
  rw [rls]
  simp only [Sem.run_bind, rl_partsA, rl_partsB, Result.andThen]
  simp [ReflectliteValue.flagAddr, loadVar, isAgg, underlying, Tryd.underlying28, hb, Result.andThen, rl_direct, storeVar, Value.cells, storeCells, Addr.add]
  rw [run_store Tryd.prog W ta _ _ (by rfl)]
  simp [ht, hf]

theorem no_As (v : Value) (xT : TypeId) (w : World) : (Instr.typeAssert (.iface 78 v) xT 107 true).run Tryd.prog w = .ok (.tuple #[.nilIface, .bool false]) w := run_typeAssert_lacksB Tryd.underlying107 (by kernel_rfl) (by kernel_rfl) v xT w
theorem has_Unwrap (v : Value) (xT : TypeId) (w : World) : (Instr.typeAssert (.iface 78 v) xT 100 true).run Tryd.prog w = .ok (.tuple #[.iface 78 v, .bool true]) w := run_typeAssert_hasB Tryd.underlying100 (by kernel_rfl) v xT w

/-- errors.errorType holds the handle of the type error. -/
def ErrT (w : World) : Prop := w.cell? ⟨1, 0, none⟩ = some (.iface 95 (.agg #[.pointer (some ⟨2, 53, none⟩)]))

set_option maxRecDepth 100000 in
set_option maxHeartbeats 4000000 in
theorem as_fault (q e : Int) (t : Nat) (old : Value) (w : World) (hg : ErrT w) (hB : Blk w t 28 #[old]) :
    Calls Tryd.prog 35 #[.iface 78 (.agg #[.int .i64 q, .int .i64 e]), .iface 69 (.pointer (some ⟨t, 0, none⟩))] w fun ev w' => ev = .returned (.bool true) ∧ Blk w' t 28 #[.int .i64 e] ∧ w.grownBy w' (some t) := by
  have hvo := @run_callFunc_extern Tryd.prog 42 _ (fun args => ReflectliteValue.unpack (args.getD 0 (.tuple #[]))) Tryd.func42 (by kernel_rfl) (by kernel_rfl) (by kernel_rfl) (by kernel_rfl)
  have hty := @run_callFunc_extern Tryd.prog 43 _ (ReflectliteValue.methodAny (ReflectliteValue.valueError "reflectlite.Value.Type" 0) (fun t _ _ _ => ReflectliteType.toType t)) Tryd.func43 (by kernel_rfl) (by kernel_rfl) (by kernel_rfl) (by kernel_rfl)
  have hin := @run_callFunc_extern Tryd.prog 44 _ (ReflectliteValue.method (ReflectliteValue.valueError "reflectlite.Value.IsNil" 0) ReflectliteValue.isNil) Tryd.func44 (by kernel_rfl) (by kernel_rfl) (by kernel_rfl) (by kernel_rfl)
  have hki := @run_callFunc_extern Tryd.prog 62 _ (ReflectliteType.abiMethod fun t => do pure (.int .u8 (← Rtype.kind t))) Tryd.func62 (by kernel_rfl) (by kernel_rfl) (by kernel_rfl) (by kernel_rfl)
  have hel := @run_callFunc_extern Tryd.prog 74 _ (ReflectliteType.method ReflectliteType.elem) Tryd.func74 (by kernel_rfl) (by kernel_rfl) (by kernel_rfl) (by kernel_rfl)
  have him := @run_callFunc_extern Tryd.prog 75 _ (ReflectliteType.relation "Implements" ReflectliteType.implements_) Tryd.func75 (by kernel_rfl) (by kernel_rfl) (by kernel_rfl) (by kernel_rfl)
  have hto := @run_callFunc_extern Tryd.prog 38 _ ReflectliteType.typeOf Tryd.func38 (by kernel_rfl) (by kernel_rfl) (by kernel_rfl) (by kernel_rfl)
  have has := @run_callFunc_extern Tryd.prog 72 _ (ReflectliteType.relation "AssignableTo" ReflectliteType.assignableTo) Tryd.func72 (by kernel_rfl) (by kernel_rfl) (by kernel_rfl) (by kernel_rfl)
  have hev := @run_callFunc_extern Tryd.prog 46 _ (ReflectliteValue.method (ReflectliteValue.valueError "reflectlite.Value.Elem" 0) ReflectliteValue.elem) Tryd.func46 (by kernel_rfl) (by kernel_rfl) (by kernel_rfl) (by kernel_rfl)
  have hst := @run_callFunc_extern Tryd.prog 47 _ ReflectliteValue.set Tryd.func47 (by kernel_rfl) (by kernel_rfl) (by kernel_rfl) (by kernel_rfl)
  have f1 := rl_valueOf
  have f2 := rl_type
  have f3 := rl_kindP
  have f4 := rl_kindE
  have f5 := rl_elem
  have f6 := rl_implements
  have f7 := rl_typeOfF
  have f8 := rl_typeOfE
  have f9 := rl_assignF
  have f10 := rl_assignE
  have f11 := rl_valueOfE
  have f12 := no_As
  have f13 := has_Unwrap
  have htl := hB.lt
  have hgl : 1 < w.heap.size := World.block_lt_of_cell? w _ hg
  obtain ⟨W2, hW2⟩ : ∃ W2, (w.alloc (.cells #[.pointer (some ⟨t, 0, none⟩)] 69)).alloc (.cells #[.pointer (some ⟨2, 69, none⟩), .pointer (some ⟨w.heap.size, 0, none⟩), .int .u64 150] 87) = W2 := ⟨_, rfl⟩
  obtain ⟨W4, hW4⟩ : ∃ W4, (W2.alloc (.cells #[.pointer (some ⟨2, 69, none⟩), .pointer (some ⟨w.heap.size, 0, none⟩), .int .u64 150] 87)).alloc (.cells #[.int .i64 q, .int .i64 e] 78) = W4 := ⟨_, rfl⟩
  have a2 : Blk W2 w.heap.size 69 #[.pointer (some ⟨t, 0, none⟩)] := hW2 ▸ (Blk.new _ _ _).alloc _
  have a4 : Blk W4 w.heap.size 69 #[.pointer (some ⟨t, 0, none⟩)] := hW4 ▸ (a2.alloc _).alloc _
  have b4 : Blk W4 t 28 #[old] := hW4 ▸ ((hW2 ▸ (hB.alloc _).alloc _ : Blk W2 t 28 #[old]).alloc _).alloc _
  have s2 : W2.heap.size = w.heap.size + 2 := by rw [← hW2]; simp
  have s4 : W4.heap.size = w.heap.size + 4 := by rw [← hW4]; simp; omega
  have g4 : w.grownBy W4 (some t) := by
    have h : Below w.heap.size w W4 := by rw [← hW4, ← hW2]; go_grown
    exact grown_below h _
  have hg2 : W2.cell? ⟨1, 0, none⟩ = some (.iface 95 (.agg #[.pointer (some ⟨2, 53, none⟩)])) := by
    rw [← hW2, World.cell?_alloc_lt _ _ ⟨1, 0, none⟩ (by simp; omega), World.cell?_alloc_lt _ _ ⟨1, 0, none⟩ hgl]; exact hg
  have n8 := rl_isNil ⟨w.heap.size, 0, none⟩ ⟨t, 0, none⟩ W2 (by simpa using a2.cell 0)
  have el := rl_elemV ⟨w.heap.size, 0, none⟩ ⟨t, 0, none⟩ W4 (by simpa using a4.cell 0)
  have st := rl_set ⟨t, 0, none⟩ ⟨W4.heap.size, 0, none⟩ e old (W4.alloc (.cells #[.int .i64 e] 28)) (by simp) (by simpa using (b4.alloc _).cell 0) ((b4.alloc _).frozen 0)
  have HFin := Lib.hid (show Blk ((W4.alloc (.cells #[.int .i64 e] 28)).setCell ⟨t, 0, none⟩ (.int .i64 e)) t 28 #[.int .i64 e] ∧ w.grownBy ((W4.alloc (.cells #[.int .i64 e] 28)).setCell ⟨t, 0, none⟩ (.int .i64 e)) (some t) from
    ⟨by simpa using (b4.alloc _).set_ 0 (.int .i64 e), grown_set (grown_step g4 (World.grownBy_alloc _ _ (some t)) (.inl rfl)) _ _⟩)
  clear hg hB a2 a4 b4 g4
  replace s2 := Lib.hid s2
  replace s4 := Lib.hid s4
  rw [← hW4, ← hW2] at el st HFin
  rw [← hW2] at n8 hg2
  simp only [World.size_alloc] at st
  clear hW4 hW2
  go_enter Tryd.func35, Tryd.ntmps35
  go_wp2
  refine wp_loop_rounds 2 ?_
  rw [rounds_succ]
  go_wp2
  rw [rounds_succ]
  go_wp2
  go_ret
  exact ⟨rfl, HFin.out⟩
theorem ErrT.below {w w' : World} (h : ErrT w) (hb : Below w.heap.size w w') : ErrT w' := (hb.cell (p := ⟨1, 0, none⟩) (World.block_lt_of_cell? w _ h)).trans h

set_option maxHeartbeats 1000000 in
theorem number_nil (w : World) : Calls Tryd.prog 27 #[.nilIface] w fun e w' => e = .returned (.int .i64 0) ∧ Below w.heap.size w w' := by
  go_enter Tryd.func27, Tryd.ntmps27
  go_wp2
  go_ret
  exact ⟨rfl, by go_grown⟩

set_option maxHeartbeats 1000000 in
theorem number_fault (q e : Int) (w : World) (hg : ErrT w) : Calls Tryd.prog 27 #[.iface 78 (.agg #[.int .i64 q, .int .i64 e])] w fun ev w' => ev = .returned (.int .i64 e) ∧ Below w.heap.size w w' := by
  have hA := as_fault q e w.heap.size (.int .i64 0) (w.alloc (.cells #[.int .i64 0] 28)) (hg.below (by go_grown)) (Blk.new _ _ _)
  have HA := Lib.hid hA; clear hA
  go_enter Tryd.func27, Tryd.ntmps27
  go_wp2_with (go_at_call 35; refine HA.out.mono ?_; rintro ev w2 ⟨rfl, hB2, hg2⟩; have c0 := hB2.cell 0; simp at c0)
  go_ret
  exact ⟨rfl, ((Below.refl _ _).alloc (Nat.le_refl _) _).grown hg2 (by simp) (fun k hk => by injection hk; omega)⟩
end Go.Proofs.YtppcdppplbpklaaDoor
