/- Walk: Same (two lists of messages). -/
import Derived.Test.YtppcdppplbpklaaDoorWs
import Derived.Test.YtppcdppplbpklaaDoorLd
import Derived.Deep.MidRow
namespace Go.Proofs.YtppcdppplbpklaaDoor
open Go.RowKit

set_option maxRecDepth 100000 in
set_option maxHeartbeats 2000000 in
theorem neq_msgs (m n : Msg) (b : Bool) (hb : b = decide (m ≠ n)) (w : World) : (binOp .neq 25 (.agg m.cells) (.agg n.cells)).run Tryd.prog w = .ok (.bool b) w := by
  rcases msg_cases m n with rfl | ⟨hne, q0⟩ | ⟨hne, q0, q1⟩ | ⟨hne, q0, q1, q2⟩ | ⟨hne, q0, q1, q2, q3⟩ | ⟨hne, q0, q1, q2, q3, q4⟩ | ⟨hne, q0, q1, q2, q3, q4, q5⟩ | ⟨hne, q0, q1, q2, q3, q4, q5, q6⟩ | ⟨hne, q0, q1, q2, q3, q4, q5, q6, q7⟩ | ⟨hne, q0, q1, q2, q3, q4, q5, q6, q7, q8⟩ | ⟨hne, q0, q1, q2, q3, q4, q5, q6, q7, q8, q9⟩
  case inl =>
    obtain rfl : b = false := by rw [hb]; simp
    clear hb
    dsimp only [Msg.cells]
    go_simp
  all_goals
    obtain rfl : b = true := by rw [hb]; simpa using hne
    clear hb hne
    dsimp only [Msg.cells]
    go_simp


theorem load_msg (w : World) (a : Addr) (m : Msg) (h : ∀ j v, m.cells.toList[j]? = some v → w.cell? (a.add j) = some v) : (Instr.loadAt 25 (.pointer (some a))).run Tryd.prog w = .ok (.agg m.cells) w := by
  have hl : (loadCells a m.cells.toList.length).run Tryd.prog w = .ok m.cells.toList.toArray w := run_loadCells_list (P := Tryd.prog) w a m.cells.toList h
  have hi : (Tryd.prog.info? 25).map (·.size) = some m.cells.toList.length := msg_size
  have hu := Tryd.underlying25
  cases hq : Tryd.prog.info? 25 with
  | none => rw [hq] at hi; cases hi
  | some i =>
    have hs : i.size = m.cells.toList.length := by rw [hq] at hi; simpa using hi
    have hagg : (isAgg 25).run Tryd.prog w = .ok true w := by
      unfold isAgg
      rw [Sem.run_bind, run_underlying hu w]
      rfl
    have hlv : (loadVar 25 a).run Tryd.prog w = .ok (.agg m.cells) w := by
      rw [← hs] at hl
      simp [loadVar, hagg, sizeOf, typeInfo, hq, hl]
    simp only [Instr.loadAt, Instr.sureAddr, Sem.run_bind, Sem.run_pure, Result.andThen_ok, hlv]
theorem Shows.msg {w : World} {B n : Nat} {A : Option Addr} {ms : List Msg} (h : Shows w B 10 A n (mcells ms)) {k : Nat} (hk : k < n) : ∃ ad m, A = some ad ∧ ad.block < B ∧ ms[k]? = some m ∧ ∀ j v, m.cells.toList[j]? = some v → w.cell? ((ad.add (k * 10)).add j) = some v := by
  obtain ⟨ad, rfl, hb, hc⟩ := h.2 (by omega)
  have hl : k < ms.length := by have := h.1; rw [mcells_length] at this; omega
  refine ⟨ad, ms[k], rfl, hb, List.getElem?_eq_getElem hl, fun j v hv => ?_⟩
  rw [← mcells_at ms k hl] at hv
  rw [List.getElem?_take] at hv
  split at hv
  · rw [List.getElem?_drop] at hv
    rw [add_add', hc _ (by have := (List.getElem?_eq_some_iff.1 hv).1; exact this), hv]
  · cases hv
/-- An operation of a quiet region whose value is known in each world of the class. -/
theorem quiet_op {P : Program} {ops : Array Oper} {C : World → Prop} {Q : Act → Prop} {a : Act} {o : Oper} {rest : List Oper} (hgd : o.guard = none) (v : Value) (hC : ∀ w, C w → (execOp a.eval o).run P w = .ok (.value v) w)
    (h : wpQuiet P ops C Q rest (a.put o.dst v)) : wpQuiet P ops C Q (o :: rest) a := by
  unfold wpQuiet
  rw [if_pos (by simp [Region.wanted, hgd])]
  exact ⟨v, fun w hw => by unfold Oper.quietAt; rw [hC w hw]; exact ⟨rfl, rfl⟩, h⟩
theorem quiet_msg {ops : Array Oper} {C : World → Prop} {Q : Act → Prop} {a : Act} {o : Oper} {rest : List Oper} (hgd : o.guard = none) (x : Operand) (ho : o.op = .load 25 x) (ad : Addr) (m : Msg) (hx : a.eval x = .pointer (some ad))
    (hC : ∀ w, C w → (Instr.loadAt 25 (.pointer (some ad))).run Tryd.prog w = .ok (.agg m.cells) w)
    (h : wpQuiet Tryd.prog ops C Q rest (a.put o.dst (.agg m.cells))) : wpQuiet Tryd.prog ops C Q (o :: rest) a := by
  refine quiet_op hgd (.agg m.cells) (fun w hw => ?_) h
  unfold execOp
  simp only [ho, hx, Sem.run_bind, hC w hw, Result.andThen_ok, Sem.run_pure]

set_option maxRecDepth 100000 in
set_option maxHeartbeats 2000000 in
theorem same_any (w : World) (B C : Nat) (A D : Option Addr) (c d n k : Nat) (l m : List Msg) (hn : l.length = n) (hk : m.length = k) (hl : Shows w B 10 A n (mcells l)) (hm : Shows w C 10 D k (mcells m)) (h1 : n ≤ maxLen) (h2 : k ≤ maxLen) :
    Calls Tryd.prog 23 #[.slice A n c, .slice D k d] w fun e w' => e = .returned (.bool (decide (l = m))) ∧ ∃ n, w' = w.drewN n := by
  unfold maxLen at h1 h2
  have HLL := Lib.hid (And.intro hn hk)
  have HL := Lib.hid hl
  have HM := Lib.hid hm
  obtain ⟨b, hb⟩ : ∃ b, decide (l = m) = b := ⟨_, rfl⟩
  have HB := Lib.hid hb
  rw [hb]
  by_cases hnk : n = k
  · subst hnk
    clear hn hk hl hm hb
    go_enter Tryd.func23, Tryd.ntmps23
    go_wp2
    go_loopw [5] (fun i wr => ∃ j nn : Nat, j ≤ n ∧ i = .int .i64 j ∧ wr = w.drewN nn ∧ Hid (l.take j = m.take j)) (fun i _ => n - (intOf i).toNat)
    case atStart => exact ⟨0, 0, Nat.zero_le _, rfl, rfl, rfl⟩
    case round =>
      obtain ⟨j, nn, hj, rfl, rfl, HE⟩ := hrel
      by_cases hlt : j < n
      · have hltI : (j : Int) < (n : Int) := by omega
        have hj0 : (0 : Int) ≤ (j : Int) := by omega
        obtain ⟨ad, x, rfl, -, hx, hcx⟩ := HL.out.msg hlt
        obtain ⟨ae, y, rfl, -, hy, hcy⟩ := HM.out.msg hlt
        have ldx := fun q => load_msg (w.drewN q) _ x hcx
        have ldy := fun q => load_msg (w.drewN q) _ y hcy
        have HXY := Lib.hid (And.intro hx hy)
        clear hcx hcy hx hy
        by_cases hxy : x = y
        · have hne := neq_msgs x y false (by simp [hxy])
          have HE' := Lib.hid (show l.take (j + 1) = m.take (j + 1) by
            rw [List.take_add_one, List.take_add_one, HXY.out.1, HXY.out.2, HE.out, hxy])
          clear hxy
          go_wp2
          refine wp_region_quiet_lit (by kernel_rfl) (by kernel_rfl) ?_
          go_big_quiet_step (fail)
          go_big_quiet_step (fail)
          go_big_quiet_step (fail)
          refine quiet_msg rfl (.tmp 19) rfl _ x rfl (fun w' ⟨q, hq⟩ => by rw [hq, World.drewN_drewN]; exact ldx _) ?_
          simp only [Act.put, List.setIfInBounds_toArray, List.set_cons_zero, List.set_cons_succ]
          go_big_quiet_step (fail)
          go_big_quiet_step (fail)
          go_big_quiet_step (fail)
          refine quiet_msg rfl (.tmp 23) rfl _ y rfl (fun w' ⟨q, hq⟩ => by rw [hq, World.drewN_drewN]; exact ldy _) ?_
          simp only [Act.put, List.setIfInBounds_toArray, List.set_cons_zero, List.set_cons_succ]
          go_big_quiet_step (fail)
          refine wpQuiet_nil ?_
          intro _ hw'
          obtain ⟨nq, hw''⟩ := hw'
          subst hw''
          go_wp2
          go_roundw
          case rel => exact ⟨j + 1, _, by omega, by go_num, rfl, HE'⟩
          case measure => simp [intOf]; omega
        · have hne := neq_msgs x y true (by simp [hxy])
          have HB' := Lib.hid (show b = false by
            rw [← HB.out, decide_eq_false_iff_not]
            intro e
            rw [e] at HXY
            exact hxy (Option.some.inj (HXY.out.1.symm.trans HXY.out.2)))
          clear hxy
          go_wp2
          refine wp_region_quiet_lit (by kernel_rfl) (by kernel_rfl) ?_
          go_big_quiet_step (fail)
          go_big_quiet_step (fail)
          go_big_quiet_step (fail)
          refine quiet_msg rfl (.tmp 19) rfl _ x rfl (fun w' ⟨q, hq⟩ => by rw [hq, World.drewN_drewN]; exact ldx _) ?_
          simp only [Act.put, List.setIfInBounds_toArray, List.set_cons_zero, List.set_cons_succ]
          go_big_quiet_step (fail)
          go_big_quiet_step (fail)
          go_big_quiet_step (fail)
          refine quiet_msg rfl (.tmp 23) rfl _ y rfl (fun w' ⟨q, hq⟩ => by rw [hq, World.drewN_drewN]; exact ldy _) ?_
          simp only [Act.put, List.setIfInBounds_toArray, List.set_cons_zero, List.set_cons_succ]
          go_big_quiet_step (fail)
          refine wpQuiet_nil ?_
          intro _ hw'
          obtain ⟨nq, hw''⟩ := hw'
          subst hw''
          go_wp2
          go_ret
          exact ⟨by rw [HB'.out]; rfl, _, World.drewN_drewN _ _ _⟩
      · have hlt' : ¬ (j : Int) < (n : Int) := by omega
        have HB' := Lib.hid (show b = true by
          rw [← HB.out, decide_eq_true_eq]
          have := HE.out
          rwa [List.take_of_length_le (by rw [HLL.out.1]; omega), List.take_of_length_le (by rw [HLL.out.2]; omega)] at this)
        go_wp2
        go_ret
        exact ⟨by rw [HB'.out]; rfl, nn, rfl⟩
  · have hq : ((n : Int) != (k : Int)) = true := by rw [bne_iff_ne]; omega
    have HB' := Lib.hid (show b = false by
      rw [← HB.out, decide_eq_false_iff_not]
      intro e
      rw [e] at HLL
      exact hnk (HLL.out.1.symm.trans HLL.out.2))
    clear hnk hn hk hl hm hb
    go_enter Tryd.func23, Tryd.ntmps23
    go_wp2
    go_ret
    exact ⟨by rw [HB'.out]; rfl, 0, rfl⟩
end Go.Proofs.YtppcdppplbpklaaDoor
