/- Walk: the law WireMatchesReference answers true (for bytes that are not too many). -/
import Derived.Test.YtppcdppplbpklaaDoorYj
import Derived.Test.YtppcdppplbpklaaDoorWt
import Derived.Test.YtppcdppplbpklaaDoorLa
namespace Go.Proofs.YtppcdppplbpklaaDoor
open Go.RowKit

section
variable {P : Program} {ops : Array Oper} {C : World → Prop} {Q : Act → Prop} {a : Act} {o : Oper} {rest : List Oper}
theorem quiet_val (hw : Region.wanted o (yielded ops a.tmps) = true) (v : Value) (hC : ∀ w, C w → (execOp a.eval o).run P w = .ok (.value v) w) (h : wpQuiet P ops C Q rest (a.put o.dst v)) : wpQuiet P ops C Q (o :: rest) a := by
  unfold wpQuiet
  rw [if_pos hw]
  exact ⟨v, fun w hw => by unfold Oper.quietAt; rw [hC w hw]; exact ⟨rfl, rfl⟩, h⟩
theorem quiet_call (hw : Region.wanted o (yielded ops a.tmps) = true) (v : Value) (f : FuncId) (args : Array Value) (he : ∀ w, (execOp a.eval o).run P w = .ok (.enter f args) w)
    (hC : ∀ w, C w → Calls P f args w fun e w'' => e = .returned v ∧ C w'') (h : wpQuiet P ops C Q rest (a.put o.dst v)) : wpQuiet P ops C Q (o :: rest) a := by
  unfold wpQuiet
  rw [if_pos hw]
  exact ⟨v, fun w hw => by unfold Oper.quietAt; rw [he w]; exact ⟨rfl, hC w hw⟩, h⟩
end
theorem quiet_ld {ops : Array Oper} {C : World → Prop} {Q : Act → Prop} {a : Act} {o : Oper} {rest : List Oper} (hw : Region.wanted o (yielded ops a.tmps) = true) (x : Operand) (ho : o.op = .load 25 x) (ad : Addr) (m : Msg) (hx : a.eval x = .pointer (some ad))
    (hC : ∀ w, C w → (Instr.loadAt 25 (.pointer (some ad))).run Tryd.prog w = .ok (.agg m.cells) w)
    (h : wpQuiet Tryd.prog ops C Q rest (a.put o.dst (.agg m.cells))) : wpQuiet Tryd.prog ops C Q (o :: rest) a := by
  refine quiet_val hw (.agg m.cells) (fun w hw => ?_) h
  unfold execOp
  simp only [ho, hx, Sem.run_bind, hC w hw, Result.andThen_ok, Sem.run_pure]

def encF (m : Msg) : List UInt8 := if m.ok then m.frame else []
def encE (m : Msg) : Nat := if m.ok then 0 else 1
theorem encF_len (m : Msg) : (encF m).length ≤ 16 := by
  unfold encF
  split
  · rename_i h
    have := body_bounds m h
    rw [frame_length]
    omega
  · simp
theorem encode_uni (m : Msg) (w : World) (hN : Nibs w) :
    Calls Tryd.prog 12 #[.agg m.cells] w fun e w' => ∃ A cap, e = .returned (.tuple #[.slice A (encF m).length cap, .int .i64 (encE m : Nat)]) ∧ RdB w' w'.heap.size A (encF m) ∧ Below w.heap.size w w' := by
  cases hm : m.ok
  · refine (encode_bad m w hm).mono ?_
    rintro e w' ⟨rfl, hb⟩
    have h1 : encF m = [] := by simp [encF, hm]
    have h2 : encE m = 1 := by simp [encE, hm]
    rw [h1, h2]
    exact ⟨none, 0, rfl, fun h => absurd h (Nat.lt_irrefl 0), hb⟩
  · refine (encode_yes m w hm hN).mono ?_
    rintro e w' ⟨g, cap, rfl, _, r, hb⟩
    have h1 : encF m = m.frame := by simp [encF, hm]
    have h2 : encE m = 0 := by simp [encE, hm]
    rw [h1, h2]
    exact ⟨_, cap, rfl, r, hb⟩
theorem rencode_uni (m : Msg) (w : World) :
    Calls Tryd.prog 19 #[.agg m.cells] w fun e w' => ∃ A cap, e = .returned (.tuple #[.slice A (encF m).length cap, .int .i64 (encE m : Nat)]) ∧ RdB w' w'.heap.size A (encF m) ∧ Below w.heap.size w w' := by
  cases hm : m.ok
  · refine (rencode_bad m w hm).mono ?_
    rintro e w' ⟨rfl, hb⟩
    have h1 : encF m = [] := by simp [encF, hm]
    have h2 : encE m = 1 := by simp [encE, hm]
    rw [h1, h2]
    exact ⟨none, 0, rfl, fun h => absurd h (Nat.lt_irrefl 0), hb⟩
  · refine (rencode_yes m w hm).mono ?_
    rintro e w' ⟨v, rfl, o, hb⟩
    have h1 : encF m = m.frame := by simp [encF, hm]
    have h2 : encE m = 0 := by simp [encE, hm]
    rw [h1, h2]
    obtain ⟨A, c, rfl, _, r⟩ := o.sl_
    exact ⟨_, c, rfl, r, hb⟩

def decM (l : List UInt8) : Msg := (dec l).getD Msg.zero
def decK (l : List UInt8) : Nat := if (dec l).isSome then (bodyOf l).length + 5 else 0
def decE (l : List UInt8) : Nat := if (dec l).isSome then 0 else decErr l
theorem dec_uni {w : World} {l : List UInt8} {e : Ending} {w' : World} (h : DecodeEnd w l (dec l) e w') : e = .returned (.tuple #[.agg (decM l).cells, .int .i64 (decK l : Nat), .int .i64 (decE l : Nat)]) ∧ Below w.heap.size w w' := by
  unfold decM decK decE
  rcases hd : dec l with _ | m
  · rw [hd] at h
    exact h
  · rw [hd] at h
    exact h
def stM (l : List UInt8) : List Msg := if (strm l).2.2 = 12 then (strm l).1 else []
def stK (l : List UInt8) : Nat := if (strm l).2.2 = 12 then (strm l).2.1 else 0
def stE (l : List UInt8) : Nat := if (strm l).2.2 = 12 then 0 else (strm l).2.2
theorem stream_uni {w : World} {l : List UInt8} {e : Ending} {w' : World} (h : StreamEnd w l e w') : ∃ A c, e = .returned (.tuple #[.slice A (stM l).length c, .int .i64 (stK l : Nat), .int .i64 (stE l : Nat)]) ∧ Shows w' w'.heap.size 10 A (stM l).length (mcells (stM l)) ∧ Below w.heap.size w w' := by
  obtain ⟨hb, h1, h2⟩ := h
  unfold stM stK stE
  by_cases h12 : (strm l).2.2 = 12
  · obtain ⟨v, rfl, om⟩ := h1 h12
    obtain ⟨A, c, rfl, _, hs⟩ := om.slice_
    simp only [h12, if_true]
    exact ⟨A, c, rfl, hs, hb⟩
  · rw [h2 h12]
    simp only [h12, if_false]
    exact ⟨none, 0, rfl, Shows.nil_, hb⟩
theorem strm_len : ∀ (f : Nat) (l : List UInt8), (strmN f l).1.length ≤ l.length := by
  intro f
  induction f with
  | zero => intro l; simp [strmN]
  | succ f ih =>
    intro l
    rw [strmN]
    rcases hd : dec l with _ | m
    · simp
    · obtain ⟨-, h1, -, h2, -, -⟩ := dec_len hd
      have h3 := ih (l.drop m.frame.length)
      rw [List.length_drop] at h3
      simp only [List.length_cons]
      omega
theorem stM_len (l : List UInt8) : (stM l).length ≤ l.length := by
  unfold stM
  split
  · exact strm_len _ _
  · simp

set_option maxRecDepth 100000 in
set_option maxHeartbeats 8000000 in
theorem matches_any (m : Msg) (A : Option Addr) (c : Nat) (l : List UInt8) (w : World) (h : RdB w w.heap.size A l) (hlen : l.length ≤ 1000000000) (hc : l.length ≤ c) (hN : Nibs w) (hE : ErrT w) :
    Calls Tryd.prog 9 #[.agg m.cells, .slice A l.length c] w fun e w' => e = .returned (.bool true) ∧ Below w.heap.size w w' := by
  have HN := Lib.hid hN
  have HE := Lib.hid hE
  have HR := Lib.hid h
  have B1 := Blk.new w 25 m.cells
  have b0 := alloc_below w (.cells m.cells 25)
  obtain ⟨n, hn⟩ : ∃ n, l.length = n := ⟨_, rfl⟩
  rw [hn] at hlen hc ⊢
  have HL := Lib.hid hn
  clear hn hN hE h
  go_enter Tryd.func9, Tryd.ntmps9
  go_upto_region 1 with fail
  obtain ⟨W, hW⟩ : ∃ W, w.alloc (.cells m.cells 25) = W := ⟨_, rfl⟩
  rw [hW] at B1 b0 ⊢
  replace hW := Lib.hid hW
  obtain ⟨q, hq⟩ : ∃ q, m.ok = q := ⟨_, rfl⟩
  have hld : ∀ w', Below W.heap.size W w' → (Instr.loadAt 25 (.pointer (some ⟨w.heap.size, 0, none⟩))).run Tryd.prog w' = .ok (.agg m.cells) w' := fun w' hb => load_msg w' _ m (fun j v hv => by
    rw [show (⟨w.heap.size, 0, none⟩ : Addr).add j = ⟨w.heap.size, j, none⟩ from by unfold Addr.add; split <;> simp_all, (B1.on hb).cell j, ← Array.getElem?_toList]; exact hv)
  have hs1 : ∀ w', Below W.heap.size W w' → Calls Tryd.prog 16 #[.slice A n c] w' fun e w'' => e = .returned (.int .u32 (crcSum l : Nat)) ∧ Below W.heap.size W w'' := fun w' hb => by
    have := sum_any w' _ A c l (HR.out.below (below_on b0 hb)) (by rw [HL.out]; simp only [maxLen]; omega) (HN.out.below (below_on b0 hb))
    rw [HL.out] at this
    exact this.mono fun e w'' h => ⟨h.1, h.2 ▸ hb⟩
  have hs2 : ∀ w', Below W.heap.size W w' → Calls Tryd.prog 18 #[.slice A n c] w' fun e w'' => e = .returned (.int .u32 (crcSum l : Nat)) ∧ Below W.heap.size W w'' := fun w' hb => by
    have := rsum_any w' _ A c l (HR.out.below (below_on b0 hb)) (by rw [HL.out]; simp only [maxLen]; omega)
    rw [HL.out] at this
    exact this.mono fun e w'' h => ⟨h.1, h.2 ▸ hb⟩
  refine wp_region_quiet (C := fun w' => Below W.heap.size W w') (by kernel_rfl) (by kernel_rfl) (dN_below W 1) ?_
  refine quiet_call (by kernel_rfl) (.bool true) 11 #[] (fun _ => by go_simp; done) (fun w' hb => (head_any w' (HN.out.below (below_on b0 hb)) (HE.out.below (below_on b0 hb))).mono fun e w'' h => ⟨h.1, below_on hb h.2⟩) ?_
  simp only [Act.put, List.setIfInBounds_toArray, List.set_cons_zero, List.set_cons_succ]
  refine quiet_val (by kernel_rfl) (.bool true) (fun _ _ => by go_simp) ?_
  simp only [Act.put, List.setIfInBounds_toArray, List.set_cons_zero, List.set_cons_succ]
  refine quiet_ld (by kernel_rfl) (.tmp 2) rfl _ m rfl (fun w' hb => hld w' hb) ?_
  simp only [Act.put, List.setIfInBounds_toArray, List.set_cons_zero, List.set_cons_succ]
  refine quiet_call (by kernel_rfl) (.bool q) 13 #[.agg m.cells] (fun _ => by go_simp; done) (fun w' hb => (valid_msg m q hq w').mono fun e w'' h => ⟨h.1, below_on hb h.2⟩) ?_
  simp only [Act.put, List.setIfInBounds_toArray, List.set_cons_zero, List.set_cons_succ]
  refine quiet_ld (by kernel_rfl) (.tmp 2) rfl _ m rfl (fun w' hb => hld w' hb) ?_
  simp only [Act.put, List.setIfInBounds_toArray, List.set_cons_zero, List.set_cons_succ]
  refine quiet_call (by kernel_rfl) (.bool q) 17 #[.agg m.cells] (fun _ => by go_simp; done) (fun w' hb => (rvalid_msg m q hq w').mono fun e w'' h => ⟨h.1, below_on hb h.2⟩) ?_
  simp only [Act.put, List.setIfInBounds_toArray, List.set_cons_zero, List.set_cons_succ]
  refine quiet_val (by kernel_rfl) (.bool true) (fun _ _ => by cases q <;> go_simp) ?_
  simp only [Act.put, List.setIfInBounds_toArray, List.set_cons_zero, List.set_cons_succ]
  refine quiet_val (by kernel_rfl) (.bool true) (fun _ _ => by go_simp) ?_
  simp only [Act.put, List.setIfInBounds_toArray, List.set_cons_zero, List.set_cons_succ]
  refine quiet_val (by kernel_rfl) (.bool true) (fun _ _ => by go_simp) ?_
  simp only [Act.put, List.setIfInBounds_toArray, List.set_cons_zero, List.set_cons_succ]
  refine quiet_val (by kernel_rfl) (.slice A n c) (fun _ _ => by go_simp) ?_
  simp only [Act.put, List.setIfInBounds_toArray, List.set_cons_zero, List.set_cons_succ]
  refine quiet_call (by kernel_rfl) (.int .u32 (crcSum l : Nat)) 16 #[.slice A n c] (fun _ => by go_simp; done) (fun w' hb => hs1 w' hb) ?_
  simp only [Act.put, List.setIfInBounds_toArray, List.set_cons_zero, List.set_cons_succ]
  refine quiet_val (by kernel_rfl) (.slice A n c) (fun _ _ => by go_simp) ?_
  simp only [Act.put, List.setIfInBounds_toArray, List.set_cons_zero, List.set_cons_succ]
  refine quiet_call (by kernel_rfl) (.int .u32 (crcSum l : Nat)) 18 #[.slice A n c] (fun _ => by go_simp; done) (fun w' hb => hs2 w' hb) ?_
  simp only [Act.put, List.setIfInBounds_toArray, List.set_cons_zero, List.set_cons_succ]
  refine quiet_val (by kernel_rfl) (.bool true) (fun _ _ => by go_simp) ?_
  simp only [Act.put, List.setIfInBounds_toArray, List.set_cons_zero, List.set_cons_succ]
  refine quiet_val (by kernel_rfl) (.bool true) (fun _ _ => by go_simp) ?_
  simp only [Act.put, List.setIfInBounds_toArray, List.set_cons_zero, List.set_cons_succ]
  refine quiet_val (by kernel_rfl) (.bool true) (fun _ _ => by go_simp) ?_
  simp only [Act.put, List.setIfInBounds_toArray, List.set_cons_zero, List.set_cons_succ]
  refine wpQuiet_nil ?_
  intro w1 hb1
  have B2 := Lib.hid (B1.on hb1)
  have b2 := below_on b0 hb1
  clear hld hs1 hs2 hq hb1 B1 b0 hW
  generalize crcSum l = cs at *
  -- Encode
  have HLE := Lib.hid (encF_len m)
  go_wp2_with (refine wpList_get rfl 25 (.tmp 2) rfl _ rfl _ _ _ B2.out Tryd.underlying25 rfl msg_size ?_)
  refine (encode_uni m _ (HN.out.below b2)).mono ?_
  rintro e w3 ⟨A3, c3, rfl, r3, b3⟩
  have B3 := Lib.hid (B2.out.on b3)
  replace b2 := below_on b2 b3
  clear b3 B2
  go_wp2_with (refine wpList_get rfl 25 (.tmp 2) rfl _ rfl _ _ _ B3.out Tryd.underlying25 rfl msg_size ?_)
  refine (rencode_uni m _).mono ?_
  rintro e w4 ⟨A4, c4, rfl, r4, b3⟩
  replace r3 := r3.on b3
  replace b2 := below_on b2 b3
  clear b3 B3
  have hby := fun kk => bytes_any (w4.drewN kk) _ _ A3 A4 c3 c4 (encF m) (encF m) r3 r4 (by have := HLE.out; simp only [maxLen]; omega) (by have := HLE.out; simp only [maxLen]; omega)
  rw [show eqB (encF m) (encF m) = true from by simp [eqB]] at hby
  have HBY := Lib.hid hby
  clear hby r3 r4
  go_wp2_with (go_at_call 15; refine (HBY.out 0).mono ?_; rintro e w5 ⟨rfl, n5, rfl⟩)
  replace b2 := below_dN b2 n5
  clear HBY HLE
  -- Decode
  have r5 := (HR.out.below b2).wider b2.size
  have hd1 := fun (w' : World) (hb : Below (w4.drewN n5).heap.size (w4.drewN n5) w') => (decode_all w' A c l (r5.on hb) (by rw [HL.out]; simp only [maxLen]; omega) (by rw [HL.out]; exact hc) (HN.out.below (below_on b2 hb)) (HE.out.below (below_on b2 hb))).mono fun e w'' h => dec_uni h
  have hd2 := fun (w' : World) (hb : Below (w4.drewN n5).heap.size (w4.drewN n5) w') => (rdecode_any w' A c l (r5.on hb) (by rw [HL.out]; simp only [maxLen]; omega) (by rw [HL.out]; exact hc)).mono fun e w'' h => dec_uni h
  have hs1 := fun (w' : World) (hb : Below (w4.drewN n5).heap.size (w4.drewN n5) w') => (stream_any w' A c l (r5.on hb) (by rw [HL.out]; exact hlen) (by rw [HL.out]; exact hc) (HN.out.below (below_on b2 hb)) (HE.out.below (below_on b2 hb))).mono fun e w'' h => stream_uni h
  have hs2 := fun (w' : World) (hb : Below (w4.drewN n5).heap.size (w4.drewN n5) w') => (rstream_any w' A c l (r5.on hb) (by rw [HL.out]; exact hlen) (by rw [HL.out]; exact hc)).mono fun e w'' h => stream_uni h
  have hml := stM_len l
  rw [HL.out] at hd1 hd2 hs1 hs2 hml
  have hD1 := Lib.hid hd1
  have hD2 := Lib.hid hd2
  have hS1 := Lib.hid hs1
  have hS2 := Lib.hid hs2
  clear hd1 hd2 hs1 hs2 r5
  generalize decM l = M at *
  generalize decK l = K at *
  generalize decE l = E at *
  have HB2 := Lib.hid b2
  clear b2
  generalize hW5 : w4.drewN n5 = W5 at *
  replace hW5 := Lib.hid hW5
  refine (hD1.out _ (Below.refl _ _)).mono ?_
  rintro e w6 ⟨rfl, b6⟩
  go_wp2_with (refine wpList_put rfl 25 (.tmp 10) (.tmp 55) rfl _ _ rfl rfl _ _ (Blk.new _ _ _) msg_size rfl (cells_one M) ?_; intro w7 B7 q7 s7; have b7 := below_on b6 (put_below q7); clear q7 s7 b6)
  refine (hD2.out _ b7).mono ?_
  rintro e w8 ⟨rfl, b8⟩
  have B8 := B7.on b8
  replace b8 := below_on b7 b8
  clear b7 B7
  go_wp2_with (refine wpList_put rfl 25 (.tmp 12) (.tmp 61) rfl _ _ rfl rfl _ _ (Blk.new _ _ _) msg_size rfl (cells_one M) ?_; intro w9 B9 q9 s9; have b9 := below_on b8 (put_below q9); have B10 := B8.on (put_below q9); clear q9 s9 b8 B8; obtain ⟨x0, x1, x2, x3, x4, x5, x6, x7, x8, x9⟩ := msg_cells B10; obtain ⟨y0, y1, y2, y3, y4, y5, y6, y7, y8, y9⟩ := msg_cells B9; clear B9 B10)
  clear x0 x1 x2 x3 x4 x5 x6 x7 x8 x9 y0 y1 y2 y3 y4 y5 y6 y7 y8 y9
  -- Stream
  refine (hS1.out _ b9).mono ?_
  rintro e w10 ⟨E1, d1, rfl, s1, b10⟩
  replace b10 := below_on b9 b10
  clear b9
  go_wp2_with fail
  refine (hS2.out _ b10).mono ?_
  rintro e w11 ⟨E2, d2, rfl, s2, b11⟩
  have t1 := (s1.below b11).wider b11.size
  replace b11 := below_on b10 b11
  clear b10 s1
  have hsm := same_any w11 _ _ E1 E2 d1 d2 _ _ (stM l) (stM l) rfl rfl t1 s2 (by simp only [maxLen]; omega) (by simp only [maxLen]; omega)
  rw [decide_eq_true (show stM l = stM l from rfl)] at hsm
  have HSM := Lib.hid hsm
  clear hsm t1 s2 hml
  go_wp2_with (go_at_call 23; refine HSM.out.mono ?_; rintro e w12 ⟨rfl, n12, rfl⟩)
  go_ret
  exact ⟨rfl, below_dN (below_on HB2.out b11) _⟩
end Go.Proofs.YtppcdppplbpklaaDoor
