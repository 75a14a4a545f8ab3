/- Words for lists of messages in memory, the messages of a stream, and the walk of Stream. -/
import Derived.Test.YtppcdppplbpklaaDoorWj
import Derived.Test.YtppcdppplbpklaaDoorWm
import Derived.Test.YtppcdppplbpklaaDoorWo
import Derived.Test.YtppcdppplbpklaaDoorWr
import Derived.Deep.MidRow
namespace Go.Proofs.YtppcdppplbpklaaDoor
open Go.RowKit

def mcells (l : List Msg) : List Value := l.flatMap fun m => m.cells.toList
theorem mcells_append (l m : List Msg) : mcells (l ++ m) = mcells l ++ mcells m := by simp [mcells]
theorem cells_len (m : Msg) : m.cells.toList.length = 10 := rfl
theorem mcells_length (l : List Msg) : (mcells l).length = l.length * 10 := by
  induction l with
  | nil => rfl
  | cons m l ih => rw [mcells, List.flatMap_cons, List.length_append, cells_len]; change 10 + (mcells l).length = _; rw [ih, List.length_cons]; omega
theorem mcells_one (l : List Msg) : ∀ u ∈ mcells l, u.oneCell' = true := by
  intro u hu
  obtain ⟨m, _, h⟩ := List.mem_flatMap.1 hu
  simp only [Msg.cells] at h
  simp at h
  rcases h with rfl | rfl | rfl | rfl | rfl | rfl | rfl | rfl | rfl | rfl <;> rfl
theorem mcells_at (l : List Msg) (k : Nat) (h : k < l.length) : ((mcells l).drop (k * 10)).take 10 = l[k].cells.toList := by
  induction l generalizing k with
  | nil => simp at h
  | cons m l ih =>
    cases k with
    | zero => rw [mcells, List.flatMap_cons, Nat.zero_mul, List.drop_zero, List.take_append_of_le_length (by rw [cells_len]; omega), List.take_of_length_le (by rw [cells_len]; omega)]; rfl
    | succ k =>
      rw [mcells, List.flatMap_cons, show (k + 1) * 10 = m.cells.toList.length + k * 10 from by rw [cells_len]; omega, List.drop_length_add_append]
      exact ih k (by simpa using h)

theorem msg_info : (Tryd.prog.info? 25).map (fun i => (i.zero, i.size, i.bytes)) = some (some (.agg Msg.zero.cells), 10, 80) := by kernel_rfl

/-- A row of messages of the call's own. -/
def OwnM (w : World) (base : Nat) (v : Value) (l : List Msg) : Prop := w.ownsRow base 25 10 v l.length (mcells l)

/-- Append onto a row of messages of the call's own. -/
theorem wpList_appm (w : World) {ops : Array Oper} {rest : List Oper} {o : Oper} {a : Act} {Q : Exit → Act → World → Prop} (hgd : o.guard = none) (s x : Operand)
    (ho : o.op = .call { callee := .builtin .append, args := #[s, x], argTypes := #[44, 44] })
    (base : Nat) (v : Value) (l : List Msg) (hs : a.eval s = v) (hown : OwnM w base v l)
    (B : Nat) (A : Option Addr) (n c : Nat) (ms : List Msg) (hn : n = ms.length) (hx : a.eval x = .slice A n c) (hr : Shows w B 10 A n (mcells ms))
    (hbytes : (l.length + n) * 80 ≤ 140737488355328) (hbase : base ≤ w.heap.size)
    (h : ∀ v' w', OwnM w' base v' (l ++ ms) → w.grownBy w' v.ownBlock → (v'.ownBlock = v.ownBlock ∨ v'.ownBlock = some w.heap.size) → wpList Tryd.prog ops Q rest (a.put o.dst v') w') :
    wpList Tryd.prog ops Q (o :: rest) a w := by
  subst hn
  obtain ⟨i0, hi, hz0, hz1, hz2⟩ := info_parts msg_info
  refine wpList_plain hgd fun _ hK => wp_app w s x _ ho base _ i0 _ 10 80 Tryd.underlying44 hi hz0 hz1 hz2 rfl (by omega) v l.length (mcells l) hs hown B A ms.length c (mcells ms) hx hr (mcells_one ms) (by simp only [maxLen]; omega) hbytes hbase fun v' w' h2 h3 h4 => hK _ _ (h v' w' ?_ h3 h4)
  unfold OwnM
  rw [List.length_append, mcells_append]
  exact h2
theorem OwnM.block {w : World} {base : Nat} {v : Value} {l : List Msg} (h : OwnM w base v l) : ∀ g, v.ownBlock = some g → base ≤ g := fun g hg => (World.ownsRow.lt h g hg).1
theorem OwnM.alloc {w : World} {base : Nat} {v : Value} {l : List Msg} (h : OwnM w base v l) (o : Obj) : OwnM (w.alloc o) base v l := World.ownsRow.alloc h o
theorem OwnM.kept {w w' : World} {base : Nat} {v : Value} {l : List Msg} {r : Option Nat} (h : OwnM w base v l) (hg : w.grownBy w' r) (hne : v.ownBlock = none ∨ v.ownBlock ≠ r) : OwnM w' base v l := World.ownsRow.kept h hg hne
theorem OwnM.below {w w' : World} {base : Nat} {v : Value} {l : List Msg} (h : OwnM w base v l) (hb : Below w.heap.size w w') : OwnM w' base v l :=
  OwnM.kept (r := some w.heap.size) h (grown_below hb _) (by
    rcases hv : v.ownBlock with _ | g
    · exact Or.inl rfl
    · right; intro e; injection e with e; have := (World.ownsRow.lt h g hv).2; omega)
theorem OwnM.nil (w : World) (base : Nat) : OwnM w base (.slice none 0 0) [] := ⟨rfl, Or.inl ⟨rfl, rfl⟩⟩
theorem OwnM.slice_ {w : World} {base : Nat} {v : Value} {l : List Msg} (h : OwnM w base v l) : ∃ A c, v = .slice A l.length c ∧ l.length ≤ c ∧ Shows w w.heap.size 10 A l.length (mcells l) := by
  rcases h.2 with ⟨rfl, h0⟩ | ⟨g, cap, cur, rfl, hb, hg, hcap, _⟩
  · have e : l = [] := List.eq_nil_of_length_eq_zero h0
    subst e
    exact ⟨none, 0, rfl, Nat.le_refl _, Shows.of_own h⟩
  · exact ⟨_, cap, rfl, hcap, Shows.of_own h⟩

/-- The messages of a stream, the bytes they take, and the error behind them. -/
def strmN : Nat → List UInt8 → List Msg × Nat × Nat
  | 0, _ => ([], 0, 12)
  | f + 1, l => match dec l with
    | some m => let r := strmN f (l.drop m.frame.length); (m :: r.1, m.frame.length + r.2.1, r.2.2)
    | none => ([], 0, decErr l)
def strm (l : List UInt8) : List Msg × Nat × Nat := strmN (l.length + 1) l
theorem dec_len {l : List UInt8} {m : Msg} (h : dec l = some m) : m.ok = true ∧ 9 ≤ m.frame.length ∧ m.frame.length ≤ 16 ∧ m.frame.length ≤ l.length ∧ (bodyOf l).length + 5 = m.frame.length ∧ l.take m.frame.length = m.frame := by
  obtain ⟨h1, h2, h3, h4⟩ := dec_some l m h
  have h5 := frame_length m
  have h6 := body_bounds m h1
  exact ⟨h1, by omega, by omega, by omega, by rw [h2]; omega, by rw [h5]; exact h4⟩
theorem strmN_fuel : ∀ (f g : Nat) (l : List UInt8), l.length < f → l.length < g → strmN f l = strmN g l := by
  intro f
  induction f with
  | zero => intro g l h; omega
  | succ f ih =>
    intro g l h h'
    cases g with
    | zero => omega
    | succ g =>
      rw [strmN, strmN]
      rcases hd : dec l with _ | m
      · rfl
      · obtain ⟨-, h1, -, h2, -, -⟩ := dec_len hd
        have hl : (l.drop m.frame.length).length = l.length - m.frame.length := List.length_drop
        simp only [ih g (l.drop m.frame.length) (by omega) (by omega)]
theorem strm_some {l : List UInt8} {m : Msg} (h : dec l = some m) : strm l = (m :: (strm (l.drop m.frame.length)).1, m.frame.length + (strm (l.drop m.frame.length)).2.1, (strm (l.drop m.frame.length)).2.2) := by
  obtain ⟨-, h1, -, h2, -, -⟩ := dec_len h
  have hl : (l.drop m.frame.length).length = l.length - m.frame.length := List.length_drop
  unfold strm
  rw [strmN, h]
  simp only [strmN_fuel l.length ((l.drop m.frame.length).length + 1) (l.drop m.frame.length) (by omega) (by omega)]
theorem strm_none {l : List UInt8} (h : dec l = none) : strm l = ([], 0, decErr l) := by
  unfold strm
  rw [strmN, h]
/-- What Stream returns. -/
def StreamEnd (w : World) (l : List UInt8) (e : Ending) (w' : World) : Prop :=
  Below w.heap.size w w' ∧ ((strm l).2.2 = 12 → ∃ v, e = .returned (.tuple #[v, .int .i64 ((strm l).2.1 : Nat), .int .i64 0]) ∧ OwnM w' w.heap.size v (strm l).1) ∧
    ((strm l).2.2 ≠ 12 → e = .returned (.tuple #[.slice none 0 0, .int .i64 0, .int .i64 ((strm l).2.2 : Nat)]))

/-- Behind the messages ms, p bytes of l are read. -/
def StAt (l : List UInt8) (p : Nat) (ms : List Msg) : Prop := p ≤ l.length ∧ ms.length ≤ p ∧ strm l = (ms ++ (strm (l.drop p)).1, p + (strm (l.drop p)).2.1, (strm (l.drop p)).2.2)
theorem StAt.zero (l : List UInt8) : StAt l 0 [] := ⟨Nat.zero_le _, Nat.le_refl _, by simp⟩
theorem StAt.step {l : List UInt8} {p : Nat} {ms : List Msg} {m : Msg} (h : StAt l p ms) (hd : dec (l.drop p) = some m) : StAt l (p + m.frame.length) (ms ++ [m]) ∧ 9 ≤ m.frame.length ∧ m.frame.length ≤ 16 ∧ p + m.frame.length ≤ l.length ∧ (bodyOf (l.drop p)).length + 5 = m.frame.length := by
  obtain ⟨h1, h2, h3⟩ := h
  obtain ⟨-, g1, g2, g3, g4, -⟩ := dec_len hd
  rw [List.length_drop] at g3
  refine ⟨⟨by omega, by rw [List.length_append]; simp; omega, ?_⟩, g1, g2, by omega, g4⟩
  rw [h3, strm_some hd, List.drop_drop]
  simp [Nat.add_assoc]
theorem StAt.end_ {l : List UInt8} {p : Nat} {ms : List Msg} (h : StAt l p ms) (hd : dec (l.drop p) = none) : strm l = (ms, p, decErr (l.drop p)) := by
  obtain ⟨h1, h2, h3⟩ := h
  rw [h3, strm_none hd]
  simp
theorem RdB.drop_ {w : World} {B : Nat} {A : Option Addr} {l : List UInt8} (h : RdB w B A l) {k cap : Nat} (hk : k ≤ l.length) (hc : l.length ≤ cap) : RdB w B (if cap = k then A else A.map (·.add k)) (l.drop k) := by
  have := h.shows.cut hk hc
  rw [Nat.mul_one] at this
  have e : (bcells l).drop k = bcells (l.drop k) := by simp [bcells, List.map_drop]
  rw [e] at this
  have hl : l.length - k = (l.drop k).length := List.length_drop.symm
  rw [hl] at this
  exact this.bytes

theorem is_faultV (q e : Int) (bq : Bool) (hbq : (e == 12) = bq) (w : World) : Calls Tryd.prog 32 #[faultV q e, .iface 28 (.int .i64 12)] w fun ev w' => ev = .returned (.bool bq) ∧ Below w.heap.size w w' := is_fault q e bq hbq w
theorem fold_msg (m : Msg) : Array.foldl (fun (cs : Array Value) (x : Value × Nat) => cs.setIfInBounds x.snd x.fst) #[.int .i64 0, .int .i64 0, .int .i64 0, .int .i64 0, .int .i64 0, .int .i64 0, .int .i64 0, .int .i64 0, .int .i64 0, .int .i64 0] m.cells.zipIdx 0 10 = m.cells := by
  cases m
  kernel_rfl
theorem shows_msg (m : Msg) (w : World) : Shows (w.alloc (.cells m.cells 25)) (w.heap.size + 1) 10 (some ⟨w.heap.size, 0, none⟩) 1 (mcells [m]) := by
  have := shows_new w m.cells 25 1 10 rfl
  simpa [mcells] using this
theorem slice_from (A : Option Addr) (n c p : Nat) (h : p ≤ n) (w : World) : (Instr.slice 26 (.slice A n c) (some (.int .i64 (p : Int))) none none).run Tryd.prog w = .ok (.slice (if c = p then A else A.map (·.add p)) (n - p) (c - p)) w := by
  obtain ⟨i0, hi, hz0, hz1, hz2⟩ := info_parts u8_info
  rw [run_slice_l (P := Tryd.prog) (w := w) 26 A n c (by kernel_rfl) .i64 (p : Int) (by omega) (by omega)]
  have he : Tryd.prog.elem 26 = 5 := by kernel_rfl
  rw [he]
  simp [sizeOf, typeInfo, hi, hz1, sliced, Result.andThen]

set_option maxRecDepth 100000 in
set_option maxHeartbeats 4000000 in
theorem stream_any (w : World) (A : Option Addr) (c : Nat) (l : List UInt8) (h : RdB w w.heap.size A l) (hlen : l.length ≤ 1000000000) (hc : l.length ≤ c) (hn : Nibs w) (hg : ErrT w) :
    Calls Tryd.prog 21 #[.slice A l.length c] w fun e w' => StreamEnd w l e w' := by
  have HN := Lib.hid hn
  have HE := Lib.hid hg
  have HR := Lib.hid h
  obtain ⟨n, hn'⟩ : ∃ n, l.length = n := ⟨_, rfl⟩
  rw [hn'] at hlen hc ⊢
  have HL := Lib.hid hn'
  clear hn hg h hn'
  go_enter Tryd.func21, Tryd.ntmps21
  go_wp2
  go_loopw [5, 6] (fun v i wx => ∃ (p : Nat) (ms : List Msg), i = .int .i64 p ∧ StAt l p ms ∧ Below w.heap.size w wx ∧ OwnM wx w.heap.size v ms) (fun _ i _ => n - (intOf i).toNat)
  case atStart => exact ⟨0, [], rfl, StAt.zero l, Below.refl _ _, OwnM.nil _ _⟩
  case round =>
    obtain ⟨p, ms, rfl, hst, b0, om⟩ := hrel
    have hp : p ≤ n := by rw [← HL.out]; exact hst.1
    have hms : ms.length ≤ p := hst.2.1
    have hdl : (l.drop p).length = n - p := by rw [List.length_drop, HL.out]
    have rp := ((HR.out.below b0).wider b0.size).drop_ (k := p) (cap := c) (by rw [HL.out]; exact hp) (by rw [HL.out]; exact hc)
    have HD := decode_any wr _ (c - p) (l.drop p) rp (by rw [hdl]; simp only [maxLen]; omega) (by rw [hdl]; omega) (HN.out.below b0)
    rw [hdl] at HD
    have hsl := slice_from A n c p hp
    generalize (if c = p then A else A.map (·.add p)) = AA at *
    have HDD := Lib.hid HD
    have hpc : (p : Int) ≤ (c : Int) := by omega
    have hpn : (p : Int) ≤ (n : Int) := by omega
    clear HD rp hdl
    go_wp2_with fail
    clear hsl
    rcases hd : dec (l.drop p) with _ | m
    · have HD' := Lib.hid hd
      have HEN := Lib.hid (hst.end_ hd)
      refine HDD.out.mono ?_
      intro e w6 he
      rw [HD'.out] at he
      obtain ⟨⟨q, rfl⟩, b1⟩ := he
      have b2 := b0.trans (b1.mono b0.size)
      have om2 := om.below b1
      clear hd hst b0 b1 om
      by_cases he : decErr (l.drop p) = 12
      · unfold faultV
        have hI := is_fault q (decErr (l.drop p)) true (by rw [he]; rfl)
        have HI := Lib.hid hI
        have HEE := Lib.hid he
        generalize decErr (l.drop p) = er at *
        clear he hI
        go_wp2_with (first
          | (refine wpList_put rfl 25 (.tmp 7) (.tmp 15) rfl _ _ rfl rfl _ _ (Blk.new _ _ _) msg_size rfl (cells_one _) ?_; intro w7 B7 q7 s7; replace s7 := Lib.hid s7)
          | (go_at_call 32; refine (HI.out _).mono ?_; rintro ev w8 ⟨rfl, hb8⟩))
        go_ret3
        have b7 := (below_on b2 (put_below q7)).trans (hb8.mono (below_on b2 (put_below q7)).size)
        refine ⟨b7, fun _ => ⟨u5, by rw [HEN.out]; rfl, ?_⟩, fun h => absurd (by rw [HEN.out]; exact HEE.out) h⟩
        rw [HEN.out]
        exact (om2.below (put_below q7)).below hb8
      · unfold faultV
        have hI := is_fault q (decErr (l.drop p)) false (by rw [beq_eq_false_iff_ne]; omega)
        have hN := fun w' hw' => number_any (.iface 78 (.agg #[.int .i64 q, .int .i64 (decErr (l.drop p) : Nat)])) (decErr (l.drop p)) (Or.inr ⟨q, rfl⟩) w' hw'
        have HI := Lib.hid hI
        have HNN := Lib.hid hN
        have HEE := Lib.hid he
        generalize decErr (l.drop p) = er at *
        clear he hI hN
        go_wp2_with (first
          | (refine wpList_put rfl 25 (.tmp 7) (.tmp 15) rfl _ _ rfl rfl _ _ (Blk.new _ _ _) msg_size rfl (cells_one _) ?_; intro w7 B7 q7 s7; replace s7 := Lib.hid s7)
          | (go_at_call 32; refine (HI.out _).mono ?_; rintro ev w8 ⟨rfl, hb8⟩))
        have b7 := (below_on b2 (put_below q7)).trans (hb8.mono (below_on b2 (put_below q7)).size)
        refine (HNN.out _ (HE.out.below b7)).mono ?_
        rintro e w9 ⟨rfl, hb9⟩
        have b9 := below_on b7 hb9
        go_wp2_with fail
        go_ret3
        exact ⟨b9, fun h => absurd (by rw [HEN.out] at h; exact h) HEE.out, fun _ => by rw [HEN.out]; rfl⟩
    · have HD' := Lib.hid hd
      obtain ⟨hst2, h9, h16, hpl, hbl⟩ := hst.step hd
      rw [HL.out] at hpl
      have HST := Lib.hid hst2
      refine HDD.out.mono ?_
      intro e w6 he
      rw [HD'.out] at he
      obtain ⟨rfl, b1⟩ := he
      rw [hbl]
      have b2 := b0.trans (b1.mono b0.size)
      have om2 := om.below b1
      have hbase : w.heap.size ≤ w6.heap.size := b2.size
      clear hd hst b0 b1 om hst2 hbl
      generalize hk : m.frame.length = k at *
      replace hk := Lib.hid hk
      go_wp2_with (refine wpList_put rfl 25 (.tmp 7) (.tmp 15) rfl _ _ rfl rfl _ _ (Blk.new _ _ _) msg_size rfl (cells_one m) ?_; intro w7 B7 q7 s7; replace s7 := Lib.hid s7)
      have b7 := below_on b2 (put_below q7)
      have om7 := om2.below (put_below q7)
      have hbase7 : w.heap.size ≤ w7.heap.size := b7.size
      clear q7 s7 b2 om2
      refine (is_nil _ _).mono ?_
      rintro ev w8 ⟨rfl, rfl⟩
      have tok := trivial
      have hkn : (0 : Int) ≤ (k : Int) := by omega
      have hm10 : m.cells.size = 10 := rfl
      go_wp2_with (first
        | (have _t := tok; refine wpList_get rfl 25 (.tmp 7) rfl _ rfl _ _ _ B7 Tryd.underlying25 rfl msg_size ?_; clear tok)
        | (at_builtin; go_must (rw [fold_msg]); go_must (refine wpList_appm _ rfl (.tmp 27) (.tmp 29) rfl w.heap.size u5 ms rfl (om7.alloc _) _ _ 1 1 [m] rfl rfl (shows_msg m w7) (by omega) (by simp; omega) ?_); intro v9 w9 om9 hg9 ha9))
      refine ⟨⟨p + k, ms ++ [m], by go_num, HST.out, (b7.alloc b7.size _).grown hg9 (b7.alloc b7.size _).size (fun g hg => by have := om7.block g hg; omega), om9⟩, by simp [intOf]; omega⟩
end Go.Proofs.YtppcdppplbpklaaDoor
