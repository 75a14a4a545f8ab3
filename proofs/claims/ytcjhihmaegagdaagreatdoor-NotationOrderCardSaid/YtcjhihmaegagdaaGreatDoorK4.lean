/- Texts of the Notation chapter, together: Ed, Fa. -/
import Derived.Test.YtcjhihmaegagdaaGreatDoorK3
import Derived.Test.YtcjhihmaegagdaaGreatDoorG9
set_option maxRecDepth 100000
set_option maxHeartbeats 8000000
set_option linter.unusedSimpArgs false
set_option linter.unusedVariables false
set_option linter.unusedSectionVars false
set_option linter.unnecessarySimpa false
namespace Go.Proofs.YtcjhihmaegagdaaGreatDoor
open Go.RowKit Go.Deep
def tok0 : Tok := ⟨0, 0, 0, []⟩
def tokAt (at_ : Bool) (t : Tok) : Tok := if at_ then t else { t with pos := 0 }
theorem Tok.all_one (t : Tok) : t.cells.all (·.oneCell') = true := by simp [Value.oneCell']
theorem size_T : (Tryz.prog.info? 40).map (·.size) = some 4 := by kernel_rfl
theorem isrow_T : ∃ d : TypeDesc, Tryz.prog.underlying 40 = some d ∧ d.isRow = true := by
 have h : (Tryz.prog.underlying 40).map (·.isRow) = some true := by kernel_rfl
 cases hq : Tryz.prog.underlying 40 with
 | none => rw [hq] at h; cases h
 | some d => exact ⟨d, rfl, by rw [hq] at h; simpa using h⟩
theorem rdt_load {w wx : World} {B : Nat} {A : Option Addr} {l : List Tok} (h : RdT w B A l) (hB : B ≤ w.heap.size) (hb : Below w.heap.size w wx) {i : Nat} (hi : i < l.length) :
  ∃ ad, A = some ad ∧ ∀ w', Below wx.heap.size wx w' → (Instr.loadAt 40 (.pointer (some (ad.add (i * 4))))).run Tryz.prog w' = .ok (.agg (l.getD i tok0).cells) w' := by
 obtain ⟨ad, rfl, h1, h2⟩ := Shows.rec Tok.cs 4 Tok.cs_len h rfl hi
 obtain ⟨d, hu, hd⟩ := isrow_T
 refine ⟨ad, rfl, fun w' hb' => load_rec 40 d hu (by cases d <;> first | rfl | cases hd) w' _ _ size_T fun j v hv => ?_⟩
 have hj : j < 4 := (List.getElem?_eq_some_iff.1 hv).1
 have hblk : ((ad.add (i * 4)).add j).block < B := by rw [add_block, add_block]; exact h1
 rw [hb'.cell (Nat.lt_of_lt_of_le hblk (Nat.le_trans hB hb.size)), hb.cell (Nat.lt_of_lt_of_le hblk hB), h2 j hj, ← hv, getD_at hi]
 rfl
theorem map_getD (at_ : Bool) (l : List Tok) (j : Nat) : (l.map (tokAt at_)).getD j tok0 = tokAt at_ (l.getD j tok0) := by
 rw [List.getD_eq_getElem?_getD, List.getD_eq_getElem?_getD, List.getElem?_map]
 cases l[j]? with
 | some x => rfl
 | none => cases at_ <;> rfl
theorem eq_str (x y : List UInt8) : ((⟨x.toArray⟩ : ByteArray).toList == (⟨y.toArray⟩ : ByteArray).toList) = decide (x = y) := by
 rw [ByteArray.toList_eq, ByteArray.toList_eq]
 by_cases h : x = y <;> simp [h]
theorem neq_tok (x y : Tok) (w : World) : (binOp .neq 40 (.agg x.cells) (.agg y.cells)).run Tryz.prog w = .ok (.bool (!decide (x = y))) w := by
 have hs := eq_str x.text y.text
 have hl : (x = y) ↔ (x.kind = y.kind ∧ x.pos = y.pos ∧ x.n = y.n ∧ x.text = y.text) := by
  cases x; cases y; simp
 simp only [decide_eq_decide.2 hl]
 clear hl
 dsimp only [Tok.cells]
 by_cases h0 : x.kind = y.kind
 case neg =>
  have q0 : ((x.kind : Int) == (y.kind : Int)) = false := by rw [beq_eq_false_iff_ne]; omega
  simp only [h0, false_and, and_false, decide_false, Bool.not_false]
  go_simp
 have q0 : ((x.kind : Int) == (y.kind : Int)) = true := by rw [beq_iff_eq]; omega
 by_cases h1 : x.pos = y.pos
 case neg =>
  have q1 : ((x.pos : Int) == (y.pos : Int)) = false := by rw [beq_eq_false_iff_ne]; omega
  simp only [h1, false_and, and_false, decide_false, Bool.not_false]
  go_simp
 have q1 : ((x.pos : Int) == (y.pos : Int)) = true := by rw [beq_iff_eq]; omega
 by_cases h2 : x.n = y.n
 case neg =>
  have q2 : ((x.n : Int) == (y.n : Int)) = false := by rw [beq_eq_false_iff_ne]; omega
  simp only [h2, false_and, and_false, decide_false, Bool.not_false]
  go_simp
 have q2 : ((x.n : Int) == (y.n : Int)) = true := by rw [beq_iff_eq]; omega
 by_cases h3 : x.text = y.text
 case neg =>
  simp only [h3, decide_false] at hs
  simp only [h0, h1, h2, h3, true_and, decide_false, Bool.not_false]
  go_simp
 simp only [h3, decide_true] at hs
 simp only [h0, h1, h2, h3, true_and, decide_true, Bool.not_true]
 go_simp
theorem tokens_any (w : World) (B C : Nat) (A D : Option Addr) (c d : Nat) (l m : List Tok) (at_ : Bool) (hl : RdT w B A l) (hB : B ≤ w.heap.size) (hm : RdT w C D m) (hC : C ≤ w.heap.size) (hn1 : l.length ≤ 4611686018427387904) (hn2 : m.length ≤ 4611686018427387904) :
  Calls Tryz.prog 14 #[.slice A l.length c, .slice D m.length d, .bool at_] w fun e w' => e = .returned (.bool (decide (l.map (tokAt at_) = m.map (tokAt at_)))) ∧ Below w.heap.size w w' := by
 have HL := hid hl
 have HM := hid hm
 have HBB := hid hB
 have HCC := hid hC
 obtain ⟨r, hr⟩ : ∃ r, r = decide (l.map (tokAt at_) = m.map (tokAt at_)) := ⟨_, rfl⟩
 rw [← hr]
 have HR := hid hr
 clear hl hm hB hC hr
 by_cases hlen : l.length = m.length
 case neg =>
  have HF : Hid (r = false) := hid (by rw [HR.out, decide_eq_false_iff_not]; intro e; exact hlen (by simpa using congrArg List.length e))
  have hq : ((l.length : Int) != (m.length : Int)) = true := by rw [bne_iff_ne]; omega
  clear hlen
  go_enter Tryz.func14, Tryz.ntmps14
  go_wp2
  go_ret
  exact ⟨by rw [HF.out]; rfl, Below.refl _ _⟩
 rw [← hlen]
 obtain ⟨n, hn⟩ : ∃ n, n = l.length := ⟨_, rfl⟩
 rw [← hn] at hn1 ⊢
 have HN := hid hn
 have HLEN := hid hlen
 clear hlen hn hn2
 go_enter Tryz.func14, Tryz.ntmps14
 go_wp2
 go_loopw [7] (fun i wx => ∃ j : Nat, j ≤ n ∧ i = .int .i64 j ∧ Hid (Below w.heap.size w wx) ∧ Hid (∀ t, t < j → tokAt at_ (l.getD t tok0) = tokAt at_ (m.getD t tok0))) (fun i _ => n - (intOf i).toNat)
 case atStart => exact ⟨0, Nat.zero_le _, rfl, hid (Below.refl _ _), hid fun t ht => by omega⟩
 case round =>
  obtain ⟨j, hj, rfl, HW, HT⟩ := hrel
  by_cases hlt : j < n
  ·
   obtain ⟨ad, rfl, lx⟩ := rdt_load HL.out HBB.out HW.out (i := j) (by rw [← HN.out]; exact hlt)
   obtain ⟨ae, rfl, ly⟩ := rdt_load HM.out HCC.out HW.out (i := j) (by rw [← HLEN.out, ← HN.out]; exact hlt)
   obtain ⟨x, hx⟩ : ∃ x, x = l.getD j tok0 := ⟨_, rfl⟩
   obtain ⟨y, hy⟩ : ∃ y, y = m.getD j tok0 := ⟨_, rfl⟩
   rw [← hx] at lx
   rw [← hy] at ly
   have HXY := hid (And.intro hx hy)
   have LY := hid ly
   have r1 : IntKind.i64.wrap ((j : Int) + 1) = ((j + 1 : Nat) : Int) := by rw [IntKind.wrap_i64]; omega
   have lx0 := lx _ (Below.refl _ _)
   clear hx hy lx ly
   go_upto_region 7 with (first | (refine wpList_lda rfl 40 (.tmp 23) rfl _ x.cells rfl lx0 ?_; try simp only [Act.put, sS]) | (refine wpList_put rfl 40 (.tmp 8) (.tmp 24) rfl wr.heap.size x.cells rfl rfl 40 tok0.cells (Blk.new wr _ _) size_T rfl x.all_one ?_; intro w4 b4 g4 z4; replace b4 := hid b4; replace g4 := hid g4; replace z4 := hid z4; try simp only [Act.put, sS]))
   have B4 : Hid (Below wr.heap.size wr w4) := hid (((Below.refl _ _).alloc (Nat.le_refl _) _).grown g4.out (by simp) (fun b e => by injection e with e; omega))
   have W4 := hid (below_on HW.out B4.out)
   have lx1 := LY.out _ B4.out
   obtain ⟨s4, hs4⟩ : ∃ s4, s4 = w4.heap.size := ⟨_, rfl⟩
   clear g4 z4 lx0
   go_upto_region 8 with (first | (refine wpList_lda rfl 40 (.tmp 27) rfl _ y.cells rfl lx1 ?_; try simp only [Act.put, sS]) | (refine wpList_put rfl 40 (.tmp 9) (.tmp 28) rfl w4.heap.size y.cells rfl rfl 40 tok0.cells (Blk.new w4 _ _) size_T rfl y.all_one ?_; intro w5 b5 g5 z5; replace b5 := hid b5; replace g5 := hid g5; replace z5 := hid z5; try simp only [Act.put, sS]))
   have B5 : Hid (Below w4.heap.size w4 w5) := hid (((Below.refl _ _).alloc (Nat.le_refl _) _).grown g5.out (by simp) (fun b e => by injection e with e; omega))
   have W5 := hid (below_on W4.out B5.out)
   have XB := hid (b4.out.below B5.out b4.out.lt)
   have YB := b5
   have D5 : Hid (wr.heap.size ≠ w4.heap.size) := hid (by have := b4.out.lt; omega)
   have E5 : Hid (wr.heap.size < w5.heap.size ∧ w4.heap.size < w5.heap.size ∧ w.heap.size ≤ wr.heap.size ∧ w.heap.size ≤ w4.heap.size) := hid ⟨XB.out.lt, YB.out.lt, HW.out.size, W4.out.size⟩
   clear g5 z5 lx1 b4 B4 B5 b5 LY hs4 s4
   generalize wr.heap.size = gx at *
   generalize w4.heap.size = gy at *
   cases at_
   case true =>
    have nv := neq_tok (x) (y)
    by_cases hxy : x = y
    ·
     have HT' : Hid (∀ t, t < j + 1 → tokAt true (l.getD t tok0) = tokAt true (m.getD t tok0)) := hid fun t ht => by
      rcases Nat.lt_or_ge t j with h' | h'
      ·
       exact HT.out t h'
      obtain rfl : t = j := by omega
      rw [← HXY.out.1, ← HXY.out.2]
      exact hxy
     have h1 : decide (x = y) = true := by rw [decide_eq_true_eq]; exact hxy
     simp only [h1, Bool.not_true, Bool.not_false] at nv
     clear hxy h1
     go_wp2_with (first | (refine wpList_get rfl 40 (.tmp 8) rfl _ rfl 40 (x).cells _ XB.out Tryz.underlying40 rfl size_T ?_; try simp only [Act.put, sS]) | (refine wpList_get rfl 40 (.tmp 9) rfl _ rfl 40 (y).cells _ YB.out Tryz.underlying40 rfl size_T ?_; try simp only [Act.put, sS]))
     go_roundw
     case rel => exact ⟨j + 1, by omega, by go_num, W5, HT'⟩
     case measure => simp [intOf]; omega
    have HF : Hid (r = false) := hid (by
     rw [HR.out, decide_eq_false_iff_not]
     intro e
     refine hxy ?_
     have := congrArg (fun z => z.getD j tok0) e
     simp only [map_getD] at this
     rw [← HXY.out.1, ← HXY.out.2] at this
     exact this)
    have h1 : decide (x = y) = false := by rw [decide_eq_false_iff_not]; exact hxy
    simp only [h1, Bool.not_true, Bool.not_false] at nv
    clear hxy h1
    go_wp2_with (first | (refine wpList_get rfl 40 (.tmp 8) rfl _ rfl 40 (x).cells _ XB.out Tryz.underlying40 rfl size_T ?_; try simp only [Act.put, sS]) | (refine wpList_get rfl 40 (.tmp 9) rfl _ rfl 40 (y).cells _ YB.out Tryz.underlying40 rfl size_T ?_; try simp only [Act.put, sS]))
    go_ret
    exact ⟨by rw [HF.out]; rfl, W5.out⟩
   case false =>
    have cx := XB.out.cell 1
    have fx := XB.out.frozen 1
    go_upto_region 10 with (fail)
    have X6 := hid (XB.out.set_ 1 (.int .i64 0))
    have Y6 := hid (YB.out.far (p := ⟨gx, 1, none⟩) (fun e => D5.out e.symm) (.int .i64 0))
    have W6 := hid (W5.out.setCell (p := ⟨gx, 1, none⟩) E5.out.2.2.1 (.int .i64 0))
    clear cx fx
    generalize w5.setCell ⟨gx, 1, none⟩ (.int .i64 0) = w6 at X6 Y6 W6 ⊢
    have cy := Y6.out.cell 1
    have fy := Y6.out.frozen 1
    go_upto_region 11 with (fail)
    have Y7 := hid (Y6.out.set_ 1 (.int .i64 0))
    have X7 := hid (X6.out.far (p := ⟨gy, 1, none⟩) D5.out (.int .i64 0))
    have W7 := hid (W6.out.setCell (p := ⟨gy, 1, none⟩) E5.out.2.2.2 (.int .i64 0))
    clear cy fy XB YB
    generalize w6.setCell ⟨gy, 1, none⟩ (.int .i64 0) = w7 at X7 Y7 W7 ⊢
    have XB : Hid (Blk w7 gx 40 ({ x with pos := 0 } : Tok).cells) := X7
    have YB : Hid (Blk w7 gy 40 ({ y with pos := 0 } : Tok).cells) := Y7
    clear X7 Y7 X6 Y6
    have nv := neq_tok (({ x with pos := 0 } : Tok)) (({ y with pos := 0 } : Tok))
    by_cases hxy : ({ x with pos := 0 } : Tok) = ({ y with pos := 0 } : Tok)
    ·
     have HT' : Hid (∀ t, t < j + 1 → tokAt false (l.getD t tok0) = tokAt false (m.getD t tok0)) := hid fun t ht => by
      rcases Nat.lt_or_ge t j with h' | h'
      ·
       exact HT.out t h'
      obtain rfl : t = j := by omega
      rw [← HXY.out.1, ← HXY.out.2]
      exact hxy
     have h1 : decide (({ x with pos := 0 } : Tok) = ({ y with pos := 0 } : Tok)) = true := by rw [decide_eq_true_eq]; exact hxy
     simp only [h1, Bool.not_true, Bool.not_false] at nv
     clear hxy h1
     go_wp2_with (first | (refine wpList_get rfl 40 (.tmp 8) rfl _ rfl 40 (({ x with pos := 0 } : Tok)).cells _ XB.out Tryz.underlying40 rfl size_T ?_; try simp only [Act.put, sS]) | (refine wpList_get rfl 40 (.tmp 9) rfl _ rfl 40 (({ y with pos := 0 } : Tok)).cells _ YB.out Tryz.underlying40 rfl size_T ?_; try simp only [Act.put, sS]))
     go_roundw
     case rel => exact ⟨j + 1, by omega, by go_num, W7, HT'⟩
     case measure => simp [intOf]; omega
    have HF : Hid (r = false) := hid (by
     rw [HR.out, decide_eq_false_iff_not]
     intro e
     refine hxy ?_
     have := congrArg (fun z => z.getD j tok0) e
     simp only [map_getD] at this
     rw [← HXY.out.1, ← HXY.out.2] at this
     exact this)
    have h1 : decide (({ x with pos := 0 } : Tok) = ({ y with pos := 0 } : Tok)) = false := by rw [decide_eq_false_iff_not]; exact hxy
    simp only [h1, Bool.not_true, Bool.not_false] at nv
    clear hxy h1
    go_wp2_with (first | (refine wpList_get rfl 40 (.tmp 8) rfl _ rfl 40 (({ x with pos := 0 } : Tok)).cells _ XB.out Tryz.underlying40 rfl size_T ?_; try simp only [Act.put, sS]) | (refine wpList_get rfl 40 (.tmp 9) rfl _ rfl 40 (({ y with pos := 0 } : Tok)).cells _ YB.out Tryz.underlying40 rfl size_T ?_; try simp only [Act.put, sS]))
    go_ret
    exact ⟨by rw [HF.out]; rfl, W7.out⟩
  obtain rfl : j = n := by omega
  have HF : Hid (r = true) := hid (by
   rw [HR.out, decide_eq_true_eq]
   refine get_ext tok0 (by simpa using HLEN.out) fun t ht => ?_
   rw [map_getD, map_getD]
   exact HT.out t (by rw [HN.out]; simpa using ht))
  go_wp2
  go_ret
  exact ⟨by rw [HF.out]; rfl, HW.out⟩
end Go.Proofs.YtcjhihmaegagdaaGreatDoor
namespace Go.Proofs.YtcjhihmaegagdaaGreatDoor
open Go.RowKit Go.Deep
theorem str_add (a b : List UInt8) : (Value.string (({ data := a.toArray } : ByteArray) ++ { data := b.toArray })) = str (a ++ b) := by
 have : (({ data := a.toArray } : ByteArray) ++ { data := b.toArray }) = ⟨(a ++ b).toArray⟩ := by
  apply ByteArray.ext
  simp [ByteArray.data_append]
 rw [this]
theorem byte_eq (x : UInt8) (n : Nat) (hn : n < 256) : ((x.toNat : Int) == (n : Int)) = (x == UInt8.ofNat n) := by
 by_cases h : x = UInt8.ofNat n
 ·
  subst h
  have : (UInt8.ofNat n).toNat = n := by rw [UInt8.toNat_ofNat']; omega
  rw [this]; simp
 have h1 : ((x.toNat : Int) == (n : Int)) = false := by
  rw [beq_eq_false_iff_ne]
  intro e
  apply h
  have e2 : x.toNat = n := by omega
  rw [← e2, UInt8.ofNat_toNat]
 rw [h1]
 simpa using h
theorem blank_any (w : World) (x : UInt8) : Calls Tryz.prog 28 #[.int .u8 (x.toNat : Int)] w fun e w' => e = .returned (.bool (isBlank x)) ∧ w' = w := by
 have h1 := byte_eq x 32 (by decide)
 have h2 := byte_eq x 9 (by decide)
 have h3 := byte_eq x 10 (by decide)
 unfold isBlank
 rw [show UInt8.ofNat 32 = 32 from rfl] at h1
 rw [show UInt8.ofNat 9 = 9 from rfl] at h2
 rw [show UInt8.ofNat 10 = 10 from rfl] at h3
 generalize (x == 32) = b1 at *
 generalize (x == 9) = b2 at *
 generalize (x == 10) = b3 at *
 generalize (x.toNat : Int) = n at *
 have h1' : (n == 32) = b1 := h1
 have h2' : (n == 9) = b2 := h2
 have h3' : (n == 10) = b3 := h3
 clear h1 h2 h3
 cases b1 <;> cases b2 <;> cases b3 <;> (go_enter Tryz.func28, Tryz.ntmps28; go_wp2; go_ret; exact ⟨rfl, rfl⟩)
theorem join_any (w : World) (B : Nat) (A : Option Addr) (c : Nat) (l : List Tok) (x : UInt8) (hl : RdT w B A l) (hB : B ≤ w.heap.size) (hn : l.length ≤ 4611686018427387904) (hj : (joinL l x).length ≤ 1000000) :
  Calls Tryz.prog 21 #[.slice A l.length c, str [x]] w fun e w' => e = .returned (str (joinL l x)) ∧ Below w.heap.size w w' := by
 have HL := hid hl
 have HBB := hid hB
 have HJ := hid hj
 obtain ⟨n, hnl⟩ : ∃ n, n = l.length := ⟨_, rfl⟩
 rw [← hnl] at hn ⊢
 have HN := hid hnl
 clear hl hB hnl hj
 go_enter Tryz.func21, Tryz.ntmps21
 go_wp2
 go_loopw [5, 6] (fun s i wx => ∃ (j : Nat) (t : List UInt8), j ≤ n ∧ i = .int .i64 j ∧ s = str t ∧ Hid (t = joinL (l.take j) x) ∧ wx = w) (fun _ i _ => n - (intOf i).toNat)
 case atStart => exact ⟨0, [], Nat.zero_le _, rfl, rfl, hid rfl, by simp⟩
 case round =>
  obtain ⟨j, t, hj, rfl, rfl, HT, rfl⟩ := hrel
  by_cases hlt : j < n
  ·
   obtain ⟨ad, rfl, -, hat⟩ := HL.out.at (i := j) (by rw [← HN.out]; exact hlt)
   have e1 := join_step l x j (by rw [← HN.out]; exact hlt)
   obtain ⟨u, hu⟩ : ∃ u, u = l[j]'(by rw [← HN.out]; exact hlt) := ⟨_, rfl⟩
   rw [← hu] at hat e1
   have htx : (t ++ (u.text ++ [x])).length ≤ 1000000 := by
    rw [HT.out, ← e1]
    exact Nat.le_trans (join_take_le _ _ _) HJ.out
   have HT' : Hid (t ++ (u.text ++ [x]) = joinL (l.take (j + 1)) x) := hid (by rw [e1, HT.out])
   rw [List.length_append, List.length_append] at htx
   have hs1 : ¬ 9223372036854775807 < u.text.length + 1 := by simp only [List.length_cons, List.length_nil] at htx; omega
   have hs2 : ¬ 9223372036854775807 < t.length + (u.text.length + 1) := by simp only [List.length_cons, List.length_nil] at htx; omega
   have c3 := hat.d
   clear e1 HT hu hat htx
   obtain ⟨ut, hut⟩ : ∃ ut, ut = u.text := ⟨_, rfl⟩
   rw [← hut] at c3 hs1 hs2 HT'
   clear hut
   go_wp2
   go_roundw
   case rel => exact ⟨j + 1, t ++ (ut ++ [x]), by omega, by go_num, (by rw [← str_add]; congr 1), HT', by simp⟩
   case measure => simp [intOf]; omega
  obtain rfl : j = n := by omega
  have HF : Hid (t = joinL l x) := hid (by rw [HT.out, HN.out, List.take_length])
  go_wp2
  go_ret
  exact ⟨by rw [HF.out]; rfl, Below.refl _ _⟩
theorem gap_any (w : World) (s : List UInt8) (a b : Nat) (hs : s.length ≤ 4611686018427387904) (hab : a ≤ b) (hb : b ≤ s.length) (hg : gapA (sseg s a b) = true) :
  Calls Tryz.prog 20 #[str s, .int .i64 (a : Int), .int .i64 (b : Int)] w fun e w' => e = .returned (.bool true) ∧ w' = w := by
 have hsz : (⟨s.toArray⟩ : ByteArray).size = s.length := by simp [ByteArray.size]
 have HB := hid hb
 go_enter Tryz.func20, Tryz.ntmps20
 go_wp2
 go_loopw [7] (fun i wx => ∃ j : Nat, j ≤ b + 1 ∧ i = .int .i64 j ∧ Hid (gapA (sseg s j b) = true) ∧ wx = w) (fun i _ => b + 1 - (intOf i).toNat)
 case atStart => exact ⟨a, by omega, rfl, hid hg, by simp⟩
 case round =>
  obtain ⟨j, hj, rfl, HG, rfl⟩ := hrel
  by_cases hlt : j < b
  ·
   obtain ⟨x, hx⟩ : ∃ x, x = s[j]'(by omega) := ⟨_, rfl⟩
   have hst := gap_step s j b hlt hb HG.out
   rw [← hx] at hst
   have hz : (⟨s.toArray⟩ : ByteArray)[j]'(by rw [hsz]; omega) = x := by rw [hx]; rfl
   have HST := hid hst
   clear hst hx
   by_cases h35 : x = 35
   ·
    subst h35
    have HD : Hid (gapA ((sseg s j b).dropWhile (· != 10)) = true) := hid (by
     rcases HST.out with ⟨-, h⟩ | ⟨h, -⟩
     ·
      exact h
     exact absurd rfl h)
    clear HST HG
    go_wp2
    go_loopw [7] (fun i wx => ∃ k : Nat, j ≤ k ∧ k ≤ b ∧ i = .int .i64 k ∧ Hid (gapA ((sseg s k b).dropWhile (· != 10)) = true) ∧ wx = wr) (fun i _ => b - (intOf i).toNat)
    case atStart => exact ⟨j, Nat.le_refl _, by omega, rfl, HD, by simp⟩
    case round =>
     clear HD hz
     obtain ⟨k, hjk, hkb, rfl, HE, rfl⟩ := hrel
     by_cases hkt : k < b
     ·
      obtain ⟨y, hy⟩ : ∃ y, y = s[k]'(by omega) := ⟨_, rfl⟩
      have hin := gap_in s k b hkt hb HE.out
      have hout := gap_out s k b hkt hb HE.out
      rw [← hy] at hin hout
      have HIN := hid hin
      have HOUT := hid hout
      have hz : (⟨s.toArray⟩ : ByteArray)[k]'(by rw [hsz]; omega) = y := by rw [hy]; rfl
      clear hy hin hout HE
      by_cases h10 : y = 10
      ·
       subst h10
       have HG' := hid (HOUT.out rfl)
       clear HIN HOUT
       go_wp2
       go_roundw
       case rel => exact ⟨k + 1, by omega, by go_num, HG', by simp⟩
       case measure => simp [intOf]; omega
      have HG' := hid (HIN.out h10)
      have hy10 : ((y.toNat : Int) != 10) = true := by
       rw [bne_iff_ne]; intro e; apply h10
       have e2 : y.toNat = 10 := by omega
       rw [← UInt8.ofNat_toNat (x := y), e2]; rfl
      clear HIN HOUT h10
      go_wp2
      go_roundw
      case rel => exact ⟨k + 1, by omega, by omega, by go_num, HG', by simp⟩
      case measure => simp [intOf]; omega
     obtain rfl : k = b := by omega
     have HG' : Hid (gapA (sseg s (k + 1) k) = true) := hid (by rw [sseg_nil _ _ _ (by omega)]; rfl)
     go_wp2
     go_roundw
     case rel => exact ⟨k + 1, by omega, by go_num, HG', by simp⟩
     case measure => simp [intOf]; omega
   have HD : Hid (isBlank x = true ∧ gapA (sseg s (j + 1) b) = true) := hid (by
    rcases HST.out with ⟨h, -⟩ | ⟨-, h⟩
    ·
     exact absurd h h35
    exact h)
   have hx35 : ((x.toNat : Int) == 35) = false := by
    rw [beq_eq_false_iff_ne]; intro e; apply h35
    have e2 : x.toNat = 35 := by omega
    rw [← UInt8.ofNat_toNat (x := x), e2]; rfl
   have HBL := hid (fun W => blank_any W x)
   rw [HD.out.1] at HBL
   clear HST HG h35
   go_wp2_with (go_at_call 28; refine (HBL.out _).mono ?_; rintro e w1 ⟨rfl, rfl⟩)
   go_roundw
   case rel => exact ⟨j + 1, by omega, by go_num, hid HD.out.2, by simp⟩
   case measure => simp [intOf]; omega
  have hnl : ¬ (j : Int) < (b : Int) := by omega
  go_wp2
  go_ret
  exact ⟨rfl, rfl⟩
end Go.Proofs.YtcjhihmaegagdaaGreatDoor
