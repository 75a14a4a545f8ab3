/- Walks: the examples with known results. -/
import Derived.Test.YtppcdppplbpklaaDoorWj
import Derived.Test.YtppcdppplbpklaaDoorWk
import Derived.Lib.SlBytesConst
namespace Go.Proofs.YtppcdppplbpklaaDoor
open Go.RowKit

def m1 : Msg := ⟨1, 1, 2, 3, 300, 0, 0, 0, 0, 0⟩
def m2 : Msg := ⟨2, 2, 1, 3, 300, 5, 3, 1, -1, 7⟩
def F1 : List UInt8 := [5, 1, 10, 3, 172, 2, 93, 40, 213, 84]
def F2 : List UInt8 := [8, 2, 17, 3, 172, 2, 5, 3, 7, 244, 149, 234, 136]
theorem m1_frame : m1.frame = F1 := by decide +kernel
theorem m2_frame : m2.frame = F2 := by decide +kernel
theorem m1_ok : m1.ok = true := by decide +kernel
theorem m2_ok : m2.ok = true := by decide +kernel
deriving instance DecidableEq for Msg
theorem F2_dec : dec F2 = some m2 := by decide +kernel
theorem three_dec : dec [3] = none ∧ decErr [3] = 8 := by decide +kernel
theorem twelve_dec : dec [12] = none ∧ decErr [12] = 8 := by decide +kernel
theorem four_dec : dec [4] = none ∧ decErr [4] = 12 := by decide +kernel
theorem sum_nine : crcSum [49, 50, 51, 52, 53, 54, 55, 56, 57] = 3421780262 := by decide +kernel
theorem sum_none : crcSum [] = 0 := by decide +kernel
theorem eq_six : eqB (F1.take 6) [5, 1, 10, 3, 172, 2] = true := by decide +kernel
theorem eq_nine : eqB (F2.take 9) [8, 2, 17, 3, 172, 2, 5, 3, 7] = true := by decide +kernel

/-- Encode of a valid message: the frame lies in a new block. -/
theorem encode_lit (m : Msg) (F : List UInt8) (hF : m.frame = F) (n : Nat) (hn : F.length = n) (h0 : 0 < n) (w : World) (hm : m.ok = true) (hN : Nibs w) :
    Calls Tryd.prog 12 #[.agg m.cells] w fun e w' => ∃ g cap, e = .returned (.tuple #[.slice (some ⟨g, 0, none⟩) n cap, .int .i64 0]) ∧ n ≤ cap ∧ RdB w' w'.heap.size (some ⟨g, 0, none⟩) F ∧ Below w.heap.size w w' := by
  refine (encode_ok m w hm hN).mono ?_
  rintro e w' ⟨v, rfl, ho, hb⟩
  rw [hF] at ho
  rcases ho.2 with ⟨_, h⟩ | ⟨g, cap, cur, rfl, _, _, hcap, _⟩
  · omega
  · refine ⟨g, cap, by rw [hn], by omega, (Shows.of_own ho).bytes, hb⟩

theorem lit_rd (w : World) (l : List UInt8) (cs : Array Value) (h : cs.toList = bcells l) : RdB (w.alloc (.cells cs 5)) (w.alloc (.cells cs 5)).heap.size (some ⟨w.heap.size, 0, none⟩) l := by
  rw [World.size_alloc]
  have hl : cs.size = l.length * 1 := by rw [Nat.mul_one, ← bcells_length l, ← h, Array.length_toList]
  have := shows_new w cs 5 l.length 1 hl
  rw [h] at this
  exact this.bytes
theorem lit_rdm (w : World) (l : List UInt8) (cs : Array Value) (fr : Nat × Nat) (h : cs.toList = bcells l) : RdB (w.alloc (.cells cs 5 fr)) (w.alloc (.cells cs 5 fr)).heap.size (some ⟨w.heap.size, 0, none⟩) l := by
  intro hl
  refine ⟨_, rfl, by simp, fun j hj => ?_⟩
  have e : (⟨w.heap.size, 0, none⟩ : Addr).add j = ⟨w.heap.size, j, none⟩ := by unfold Addr.add; split <;> simp_all
  rw [e, cell_of_row _ _ j cs 5 fr (heap_alloc_new w _), ← Array.getElem?_toList, h]
  simp [bcells, List.getElem?_eq_getElem hj]
theorem RdB.below {w w' : World} {B : Nat} {A : Option Addr} {l : List UInt8} (h : RdB w B A l) (hb : Below B w w') : RdB w' B A l := (h.shows.below hb).bytes
theorem RdB.wider {w : World} {B B' : Nat} {A : Option Addr} {l : List UInt8} (h : RdB w B A l) (hB : B ≤ B') : RdB w B' A l := (h.shows.wider hB).bytes
theorem RdB.take_ {w : World} {B : Nat} {A : Option Addr} {l : List UInt8} (h : RdB w B A l) (k : Nat) : RdB w B A (l.take k) := by
  intro hl
  rw [List.length_take] at hl
  obtain ⟨ad, e, hb, hc⟩ := h (by omega)
  refine ⟨ad, e, hb, fun j hj => ?_⟩
  rw [List.length_take] at hj
  rw [hc j (by omega), List.getD_eq_getElem?_getD, List.getD_eq_getElem?_getD, List.getElem?_take, if_pos (by omega)]

theorem put_below {w w' : World} {o : Obj} (q : (w.alloc o).grownBy w' (some w.heap.size)) : Below w.heap.size w w' :=
  ((Below.refl _ _).alloc (Nat.le_refl _) _).grown q (by simp) (fun k hk => by injection hk; omega)
theorem alloc_below (w : World) (o : Obj) : Below w.heap.size w (w.alloc o) := (Below.refl _ _).alloc (Nat.le_refl _) _
theorem RdB.on {w w' : World} {A : Option Addr} {l : List UInt8} (h : RdB w w.heap.size A l) (b : Below w.heap.size w w') : RdB w' w'.heap.size A l := (h.below b).wider b.size
theorem Blk.on {w w' : World} {g : Nat} {t : TypeId} {cs : Array Value} (h : Blk w g t cs) (b : Below w.heap.size w w') : Blk w' g t cs := h.below b h.lt
theorem below_on {w w1 w2 : World} (h : Below w.heap.size w w1) (b : Below w1.heap.size w1 w2) : Below w.heap.size w w2 := h.trans (b.mono h.size)
theorem decode_no (w : World) (A : Option Addr) (c : Nat) (l : List UInt8) (e0 : Nat) (hd : dec l = none ∧ decErr l = e0) (h : RdB w w.heap.size A l) (hlen : l.length ≤ maxLen) (hc : l.length ≤ c) (hn : Nibs w) (hg : ErrT w) :
    Calls Tryd.prog 14 #[.slice A l.length c] w fun e w' => e = .returned (.tuple #[.agg Msg.zero.cells, .int .i64 0, .int .i64 e0]) ∧ Below w.heap.size w w' := by
  refine (decode_all w A c l h hlen hc hn hg).mono ?_
  intro e w' he
  rw [hd.1] at he
  rw [← hd.2]
  exact he
theorem decode_yes (w : World) (A : Option Addr) (c : Nat) (l : List UInt8) (m : Msg) (k : Int) (hk : (((bodyOf l).length + 5 : Nat) : Int) = k) (hd : dec l = some m) (h : RdB w w.heap.size A l) (hlen : l.length ≤ maxLen) (hc : l.length ≤ c) (hn : Nibs w) (hg : ErrT w) :
    Calls Tryd.prog 14 #[.slice A l.length c] w fun e w' => e = .returned (.tuple #[.agg m.cells, .int .i64 k, .int .i64 0]) ∧ Below w.heap.size w w' := by
  subst hk
  refine (decode_all w A c l h hlen hc hn hg).mono ?_
  intro e w' he
  rw [hd] at he
  exact he

theorem m2_cells {w : World} {g : Nat} (B : Blk w g 25 m2.cells) : w.cell? ⟨g, 0, none⟩ = some (.int .i64 2) ∧ w.cell? ⟨g, 1, none⟩ = some (.int .i64 2) ∧ w.cell? ⟨g, 2, none⟩ = some (.int .i64 1) ∧ w.cell? ⟨g, 3, none⟩ = some (.int .i64 3) ∧
    w.cell? ⟨g, 4, none⟩ = some (.int .i64 300) ∧ w.cell? ⟨g, 5, none⟩ = some (.int .i64 5) ∧ w.cell? ⟨g, 6, none⟩ = some (.int .i64 3) ∧ w.cell? ⟨g, 7, none⟩ = some (.int .i64 1) ∧ w.cell? ⟨g, 8, none⟩ = some (.int .i64 (-1)) ∧ w.cell? ⟨g, 9, none⟩ = some (.int .i64 7) :=
  ⟨B.cell 0, B.cell 1, B.cell 2, B.cell 3, B.cell 4, B.cell 5, B.cell 6, B.cell 7, B.cell 8, B.cell 9⟩
theorem dN_below (w : World) (n : Nat) : Below w.heap.size w (w.drewN n) := below_dN (Below.refl _ _) n

set_option maxRecDepth 100000 in
set_option maxHeartbeats 2000000 in
theorem head_any (w : World) (hN : Nibs w) (hE : ErrT w) :
    Calls Tryd.prog 11 #[] w fun e w' => e = .returned (.bool true) ∧ Below w.heap.size w w' := by
  have HN := Lib.hid hN
  have HE := Lib.hid hE
  clear hN hE
  go_enter Tryd.func11, Tryd.ntmps11
  go_wp2_with fail
  refine (encode_lit m1 F1 m1_frame 10 rfl (by omega) _ m1_ok HN.out).mono ?_
  rintro e w1 ⟨g1, cap1, rfl, hc1, r1, b1⟩
  go_wp2_with (first
    | (refine wpList_put rfl 25 (.tmp 3) (.tmp 25) rfl _ _ rfl rfl _ _ (Blk.new _ _ _) msg_size rfl (cells_one m2) ?_; intro w2 B2 q2 s2; replace s2 := Lib.hid s2)
    | (refine wpList_get rfl 25 (.tmp 3) rfl _ rfl _ _ _ B2 Tryd.underlying25 rfl msg_size ?_))
  have r1 := r1.on (put_below q2)
  have b1 := below_on b1 (put_below q2)
  clear q2 s2
  refine (encode_lit m2 F2 m2_frame 13 rfl (by omega) _ m2_ok (HN.out.below b1)).mono ?_
  rintro e w3 ⟨g2, cap2, rfl, hc2, r2, b3⟩
  replace r1 := r1.on b3
  replace B2 := B2.on b3
  replace b1 := below_on b1 b3
  clear b3
  go_wp2_with fail
  refine (decode_yes _ _ cap2 F2 m2 13 (by decide +kernel) F2_dec r2 (by simp [F2, maxLen]) hc2 (HN.out.below b1) (HE.out.below b1)).mono ?_
  rintro e w4 ⟨rfl, b4⟩
  replace r1 := r1.on b4
  replace r2 := r2.on b4
  replace B2 := B2.on b4
  replace b1 := below_on b1 b4
  clear b4
  go_wp2_with (first
    | (refine wpList_put rfl 25 (.tmp 6) (.tmp 34) rfl _ _ rfl rfl _ _ (Blk.new _ _ _) msg_size rfl (cells_one m2) ?_; intro w5 B6 q5 s5; replace s5 := Lib.hid s5))
  replace r1 := r1.on (put_below q5)
  replace r2 := r2.on (put_below q5)
  replace B2 := B2.on (put_below q5)
  replace b1 := below_on b1 (put_below q5)
  clear q5 s5
  replace r1 := r1.on (alloc_below w5 (.cells #[.int .u8 3] 5))
  replace r2 := r2.on (alloc_below w5 (.cells #[.int .u8 3] 5))
  replace B2 := B2.on (alloc_below w5 (.cells #[.int .u8 3] 5))
  replace B6 := B6.on (alloc_below w5 (.cells #[.int .u8 3] 5))
  replace b1 := below_on b1 (alloc_below w5 (.cells #[.int .u8 3] 5))
  have r3 := (lit_rd w5 [3] #[.int .u8 3] rfl)
  refine (decode_no _ _ 1 [3] 8 three_dec r3 (by simp [maxLen]) (by simp) (HN.out.below b1) (HE.out.below b1)).mono ?_
  rintro e w6 ⟨rfl, b4⟩
  clear r3
  replace r1 := r1.on b4
  replace r2 := r2.on b4
  replace B2 := B2.on b4
  replace B6 := B6.on b4
  replace b1 := below_on b1 b4
  clear b4
  go_wp2_with (first
    | (refine wpList_put rfl 25 (.tmp 9) (.tmp 40) rfl _ _ rfl rfl _ _ (Blk.new _ _ _) msg_size rfl (cells_one Msg.zero) ?_; intro w7 Bx q5 s5; replace s5 := Lib.hid s5))
  replace r1 := r1.on (put_below q5)
  replace r2 := r2.on (put_below q5)
  replace B2 := B2.on (put_below q5)
  replace B6 := B6.on (put_below q5)
  replace b1 := below_on b1 (put_below q5)
  clear q5 s5 Bx
  replace r1 := r1.on (alloc_below w7 (.cells #[.int .u8 12] 5))
  replace r2 := r2.on (alloc_below w7 (.cells #[.int .u8 12] 5))
  replace B2 := B2.on (alloc_below w7 (.cells #[.int .u8 12] 5))
  replace B6 := B6.on (alloc_below w7 (.cells #[.int .u8 12] 5))
  replace b1 := below_on b1 (alloc_below w7 (.cells #[.int .u8 12] 5))
  have r3 := (lit_rd w7 [12] #[.int .u8 12] rfl)
  refine (decode_no _ _ 1 [12] 8 twelve_dec r3 (by simp [maxLen]) (by simp) (HN.out.below b1) (HE.out.below b1)).mono ?_
  rintro e w8 ⟨rfl, b4⟩
  clear r3
  replace r1 := r1.on b4
  replace r2 := r2.on b4
  replace B2 := B2.on b4
  replace B6 := B6.on b4
  replace b1 := below_on b1 b4
  clear b4
  go_wp2_with (first
    | (refine wpList_put rfl 25 (.tmp 12) (.tmp 46) rfl _ _ rfl rfl _ _ (Blk.new _ _ _) msg_size rfl (cells_one Msg.zero) ?_; intro w9 Bx q5 s5; replace s5 := Lib.hid s5))
  replace r1 := r1.on (put_below q5)
  replace r2 := r2.on (put_below q5)
  replace B2 := B2.on (put_below q5)
  replace B6 := B6.on (put_below q5)
  replace b1 := below_on b1 (put_below q5)
  clear q5 s5 Bx
  replace r1 := r1.on (alloc_below w9 (.cells #[.int .u8 4] 5))
  replace r2 := r2.on (alloc_below w9 (.cells #[.int .u8 4] 5))
  replace B2 := B2.on (alloc_below w9 (.cells #[.int .u8 4] 5))
  replace B6 := B6.on (alloc_below w9 (.cells #[.int .u8 4] 5))
  replace b1 := below_on b1 (alloc_below w9 (.cells #[.int .u8 4] 5))
  have r3 := (lit_rd w9 [4] #[.int .u8 4] rfl)
  refine (decode_no _ _ 1 [4] 12 four_dec r3 (by simp [maxLen]) (by simp) (HN.out.below b1) (HE.out.below b1)).mono ?_
  rintro e w10 ⟨rfl, b4⟩
  clear r3
  replace r1 := r1.on b4
  replace r2 := r2.on b4
  replace B2 := B2.on b4
  replace B6 := B6.on b4
  replace b1 := below_on b1 b4
  clear b4
  go_wp2_with (first
    | (refine wpList_put rfl 25 (.tmp 15) (.tmp 52) rfl _ _ rfl rfl _ _ (Blk.new _ _ _) msg_size rfl (cells_one Msg.zero) ?_; intro w11 Bx q5 s5; replace s5 := Lib.hid s5))
  replace r1 := r1.on (put_below q5)
  replace r2 := r2.on (put_below q5)
  replace B2 := B2.on (put_below q5)
  replace B6 := B6.on (put_below q5)
  replace b1 := below_on b1 (put_below q5)
  clear q5 s5 Bx
  replace r1 := r1.on (alloc_below w11 (.cells #[.int .u8 5, .int .u8 1, .int .u8 10, .int .u8 3, .int .u8 172, .int .u8 2] 5))
  replace r2 := r2.on (alloc_below w11 (.cells #[.int .u8 5, .int .u8 1, .int .u8 10, .int .u8 3, .int .u8 172, .int .u8 2] 5))
  replace B2 := B2.on (alloc_below w11 (.cells #[.int .u8 5, .int .u8 1, .int .u8 10, .int .u8 3, .int .u8 172, .int .u8 2] 5))
  replace B6 := B6.on (alloc_below w11 (.cells #[.int .u8 5, .int .u8 1, .int .u8 10, .int .u8 3, .int .u8 172, .int .u8 2] 5))
  replace b1 := below_on b1 (alloc_below w11 (.cells #[.int .u8 5, .int .u8 1, .int .u8 10, .int .u8 3, .int .u8 172, .int .u8 2] 5))
  have r3 := lit_rd w11 [5, 1, 10, 3, 172, 2] #[.int .u8 5, .int .u8 1, .int .u8 10, .int .u8 3, .int .u8 172, .int .u8 2] rfl
  refine (bytes_any _ _ _ _ _ cap1 6 (F1.take 6) [5, 1, 10, 3, 172, 2] (r1.take_ 6) r3 (by simp [F1, maxLen]) (by simp [maxLen])).mono ?_
  rintro e w12 ⟨rfl, n12, hw12⟩
  rw [eq_six]
  have b4 : Below (w11.alloc (.cells #[.int .u8 5, .int .u8 1, .int .u8 10, .int .u8 3, .int .u8 172, .int .u8 2] 5)).heap.size (w11.alloc (.cells #[.int .u8 5, .int .u8 1, .int .u8 10, .int .u8 3, .int .u8 172, .int .u8 2] 5)) w12 := by rw [hw12]; exact dN_below _ _
  clear r3 hw12
  replace r1 := r1.on b4
  replace r2 := r2.on b4
  replace B2 := B2.on b4
  replace B6 := B6.on b4
  replace b1 := below_on b1 b4
  clear b4
  go_wp2_with fail
  replace r1 := r1.on (alloc_below w12 (.cells #[.int .u8 8, .int .u8 2, .int .u8 17, .int .u8 3, .int .u8 172, .int .u8 2, .int .u8 5, .int .u8 3, .int .u8 7] 5))
  replace r2 := r2.on (alloc_below w12 (.cells #[.int .u8 8, .int .u8 2, .int .u8 17, .int .u8 3, .int .u8 172, .int .u8 2, .int .u8 5, .int .u8 3, .int .u8 7] 5))
  replace B2 := B2.on (alloc_below w12 (.cells #[.int .u8 8, .int .u8 2, .int .u8 17, .int .u8 3, .int .u8 172, .int .u8 2, .int .u8 5, .int .u8 3, .int .u8 7] 5))
  replace B6 := B6.on (alloc_below w12 (.cells #[.int .u8 8, .int .u8 2, .int .u8 17, .int .u8 3, .int .u8 172, .int .u8 2, .int .u8 5, .int .u8 3, .int .u8 7] 5))
  replace b1 := below_on b1 (alloc_below w12 (.cells #[.int .u8 8, .int .u8 2, .int .u8 17, .int .u8 3, .int .u8 172, .int .u8 2, .int .u8 5, .int .u8 3, .int .u8 7] 5))
  have r3 := lit_rd w12 [8, 2, 17, 3, 172, 2, 5, 3, 7] #[.int .u8 8, .int .u8 2, .int .u8 17, .int .u8 3, .int .u8 172, .int .u8 2, .int .u8 5, .int .u8 3, .int .u8 7] rfl
  refine (bytes_any _ _ _ _ _ cap2 9 (F2.take 9) [8, 2, 17, 3, 172, 2, 5, 3, 7] (r2.take_ 9) r3 (by simp [F2, maxLen]) (by simp [maxLen])).mono ?_
  rintro e w13 ⟨rfl, n13, hw13⟩
  rw [eq_nine]
  have b4 : Below (w12.alloc (.cells #[.int .u8 8, .int .u8 2, .int .u8 17, .int .u8 3, .int .u8 172, .int .u8 2, .int .u8 5, .int .u8 3, .int .u8 7] 5)).heap.size (w12.alloc (.cells #[.int .u8 8, .int .u8 2, .int .u8 17, .int .u8 3, .int .u8 172, .int .u8 2, .int .u8 5, .int .u8 3, .int .u8 7] 5)) w13 := by rw [hw13]; exact dN_below _ _
  clear r3 hw13
  replace r1 := r1.on b4
  replace r2 := r2.on b4
  replace B2 := B2.on b4
  replace B6 := B6.on b4
  replace b1 := below_on b1 b4
  clear b4 r1 r2
  obtain ⟨p0, p1, p2, p3, p4, p5, p6, p7, p8, p9⟩ := m2_cells B2
  obtain ⟨u0, u1, u2, u3, u4, u5, u6, u7, u8, u9⟩ := m2_cells B6
  have HB := Lib.hid B2
  clear B2 B6
  have kc := fun (w : World) (C : Array Value) (n c : Nat) => Lib.run_convert_bytes_const (P := Tryd.prog) w 26 5 C n c Tryd.underlying26 Tryd.underlying5
  go_wp2_with fail
  have r3 := lit_rdm w13 [49, 50, 51, 52, 53, 54, 55, 56, 57] #[.int .u8 49, .int .u8 50, .int .u8 51, .int .u8 52, .int .u8 53, .int .u8 54, .int .u8 55, .int .u8 56, .int .u8 57] (9, 10) rfl
  have b5 := below_on b1 (alloc_below w13 (.cells #[.int .u8 49, .int .u8 50, .int .u8 51, .int .u8 52, .int .u8 53, .int .u8 54, .int .u8 55, .int .u8 56, .int .u8 57] 5 (9, 10)))
  refine (sum_any _ _ _ 9 [49, 50, 51, 52, 53, 54, 55, 56, 57] r3 (by simp [maxLen]) (HN.out.below b5)).mono ?_
  rintro e w14 ⟨rfl, rfl⟩
  rw [sum_nine]
  go_wp2_with fail
  refine (sum_any _ 0 none 0 [] (fun h => by simp at h) (by simp [maxLen]) (HN.out.below b5)).mono ?_
  rintro e w15 ⟨rfl, rfl⟩
  rw [sum_none]
  have hB3 := HB.out.on (alloc_below w13 (.cells #[.int .u8 49, .int .u8 50, .int .u8 51, .int .u8 52, .int .u8 53, .int .u8 54, .int .u8 55, .int .u8 56, .int .u8 57] 5 (9, 10)))
  obtain ⟨v0, v1, v2, v3, v4, v5, v6, v7, v8, v9⟩ := m2_cells hB3
  go_wp2_with fail
  refine (valid_any 2 2 1 3 300 5 3 1 (-1) 7 _).mono ?_
  rintro e w16 ⟨rfl, b6⟩
  rw [show validB 2 2 1 3 300 5 3 1 (-1) 7 = true from m2_ok]
  go_wp2_with fail
  go_ret
  exact ⟨rfl, below_on b5 b6⟩
end Go.Proofs.YtppcdppplbpklaaDoor
