/- Walk: the law WireInverse answers true. -/
import Derived.Test.YtppcdppplbpklaaDoorWl
import Derived.Test.YtppcdppplbpklaaDoorWm
namespace Go.Proofs.YtppcdppplbpklaaDoor
open Go.RowKit

theorem msg_cells {w : World} {g : Nat} {m : Msg} (B : Blk w g 25 m.cells) : w.cell? ⟨g, 0, none⟩ = some (.int .i64 m.k) ∧ w.cell? ⟨g, 1, none⟩ = some (.int .i64 m.f) ∧ w.cell? ⟨g, 2, none⟩ = some (.int .i64 m.t) ∧ w.cell? ⟨g, 3, none⟩ = some (.int .i64 m.s) ∧
    w.cell? ⟨g, 4, none⟩ = some (.int .i64 m.b) ∧ w.cell? ⟨g, 5, none⟩ = some (.int .i64 m.v) ∧ w.cell? ⟨g, 6, none⟩ = some (.int .i64 m.ts) ∧ w.cell? ⟨g, 7, none⟩ = some (.int .i64 m.tc) ∧ w.cell? ⟨g, 8, none⟩ = some (.int .i64 m.tn) ∧ w.cell? ⟨g, 9, none⟩ = some (.int .i64 m.td) :=
  ⟨B.cell 0, B.cell 1, B.cell 2, B.cell 3, B.cell 4, B.cell 5, B.cell 6, B.cell 7, B.cell 8, B.cell 9⟩
theorem valid_msg (m : Msg) (q : Bool) (h : m.ok = q) (w : World) : Calls Tryd.prog 13 #[.agg m.cells] w fun e w' => e = .returned (.bool q) ∧ Below w.heap.size w w' := by
  subst h
  exact valid_any m.k m.f m.t m.s m.b m.v m.ts m.tc m.tn m.td w
/-- Encode of a valid message: the frame lies in a new block. -/
theorem encode_yes (m : Msg) (w : World) (hm : m.ok = true) (hN : Nibs w) :
    Calls Tryd.prog 12 #[.agg m.cells] w fun e w' => ∃ g cap, e = .returned (.tuple #[.slice (some ⟨g, 0, none⟩) m.frame.length cap, .int .i64 0]) ∧ m.frame.length ≤ cap ∧ RdB w' w'.heap.size (some ⟨g, 0, none⟩) m.frame ∧ Below w.heap.size w w' :=
  encode_lit m m.frame rfl m.frame.length rfl (by rw [frame_length]; omega) w hm hN
theorem empty_own (w : World) (base : Nat) (h : base ≤ w.heap.size) : OwnB (w.alloc (.cells #[] 5)) base (.slice (some ⟨w.heap.size, 0, none⟩) 0 0) [] :=
  World.ownsRow_made (e := 5) (size := 1) w #[] 0 h (by simp) rfl

theorem decErr_ne (l : List UInt8) : decErr l ≠ 0 := by
  unfold decErr
  split
  · omega
  · assumption

def InvCut (w : World) (A2 : Option Addr) (b : List UInt8) (wx : World) : Prop := Below w.heap.size w wx ∧ RdB wx wx.heap.size A2 b

set_option maxRecDepth 100000 in
set_option maxHeartbeats 2000000 in
theorem inverse_any (m : Msg) (A1 A2 : Option Addr) (c1 c2 : Nat) (more b : List UInt8) (w : World) (h1 : RdB w w.heap.size A1 more) (h2 : RdB w w.heap.size A2 b)
    (l1 : more.length ≤ 140737488351232) (l2 : b.length ≤ 140737488351232) (hc2 : b.length ≤ c2) (hN : Nibs w) (hE : ErrT w) :
    Calls Tryd.prog 3 #[.agg m.cells, .slice A1 more.length c1, .slice A2 b.length c2] w fun e w' => e = .returned (.bool true) ∧ Below w.heap.size w w' := by
  have HN := Lib.hid hN
  have HE := Lib.hid hE
  clear hN hE
  have B3 := Blk.new w 25 m.cells
  have b0 := alloc_below w (.cells m.cells 25)
  have r1 := h1.on b0
  have r2 := h2.on b0
  have hhd := head_any _ (HN.out.below b0) (HE.out.below b0)
  clear h1 h2
  go_enter Tryd.func3, Tryd.ntmps3
  go_wp2_with fail
  refine hhd.mono ?_
  clear hhd
  rintro e w1 ⟨rfl, b1⟩
  replace r1 := r1.on b1
  replace r2 := r2.on b1
  replace B3 := B3.on b1
  replace b0 := below_on b0 b1
  clear b1
  by_cases hm : m.ok = true
  · go_wp2_with (refine wpList_get rfl 25 (.tmp 3) rfl _ rfl _ _ _ B3 Tryd.underlying25 rfl msg_size ?_)
    refine (encode_yes m _ hm (HN.out.below b0)).mono ?_
    rintro e w2 ⟨g, cap, rfl, hcap, r3, b1⟩
    replace r1 := r1.on b1
    replace r2 := r2.on b1
    replace B3 := B3.on b1
    replace b0 := below_on b0 b1
    clear b1
    go_wp2_with (refine wpList_get rfl 25 (.tmp 3) rfl _ rfl _ _ _ B3 Tryd.underlying25 rfl msg_size ?_)
    refine (valid_msg m true hm _).mono ?_
    rintro e w3 ⟨rfl, b1⟩
    replace r1 := r1.on b1
    replace r2 := r2.on b1
    replace r3 := r3.on b1
    replace B3 := B3.on b1
    replace b0 := below_on b0 b1
    clear b1
    go_upto_if 30 with fail
    go_cut [] (fun wx => InvCut w A2 b wx)
    case first =>
      have hdec := dec_frame m more hm
      have hfl := frame_length m
      have hbb := body_bounds m hm
      have hl : (m.frame ++ more).length = m.frame.length + more.length := List.length_append
      have hle : m.frame.length ≤ 16 := by omega
      have hrk : (((bodyOf (m.frame ++ more)).length + 5 : Nat) : Int) = ((m.frame.length : Nat) : Int) := by rw [hdec.2]; omega
      replace hfl := Lib.hid hfl
      have HD := Lib.hid hdec.1
      have HRK := Lib.hid hrk
      have HL := Lib.hid hl
      clear hdec hrk hl hbb
      have s1 := (r1.below (alloc_below w3 (.cells #[] 5))).shows
      have s3 := (r3.below (alloc_below w3 (.cells #[] 5))).shows
      have hown := empty_own w3 (w3.heap.size) (Nat.le_refl _)
      go_wp2_with (first
        | (at_builtin; refine wpList_appb _ rfl (.tmp 32) (.tmp 33) rfl w3.heap.size _ _ _ rfl hown _ _ _ _ _ rfl s3 (bcells_one _) (by simp; omega) (by simp) ?_; intro v4 w4 ho4 hg4 ha4; have s4 := s1.grown hg4 (by simp) (fun k hk => hown.block k hk))
        | (at_builtin; refine wpList_appb _ rfl (.tmp 34) (.tmp 35) rfl w3.heap.size _ _ _ rfl ho4 _ _ _ _ _ rfl s4 (bcells_one _) (by simp; omega) (by have := hg4.size; simp at this; omega) ?_; intro v5 w5 ho5 hg5 ha5))
      have o5 : OwnB w5 w3.heap.size v5 (m.frame ++ more) := OwnB.snoc (l := m.frame) (by simpa [bcells] using ho5) rfl rfl
      have b5 : Below w3.heap.size w3 w5 := ((alloc_below w3 _).grown hg4 (by simp) (fun k hk => hown.block k hk)).grown hg5 (by have := hg4.size; simp at this; omega) (fun k hk => (World.ownsRow.lt ho4 k hk).1)
      obtain ⟨g5, cap5, hv5, hgb, hgl⟩ := World.ownsRow.form o5 (show 0 < (m.frame ++ more).length by rw [HL.out, hfl.out]; omega)
      have r5 : RdB w5 w5.heap.size (some ⟨g5, 0, none⟩) (m.frame ++ more) := by rw [hv5] at o5; exact (Shows.of_own o5).bytes
      have hcap5 : (m.frame ++ more).length ≤ cap5 := by
        rcases o5.2 with ⟨_, h⟩ | ⟨_, cap', _, hv, _, _, hcap, _⟩
        · rw [HL.out, hfl.out] at h; omega
        · rw [hv5] at hv; injection hv with _ _ h; omega
      have HDY := Lib.hid (decode_yes w5 (some ⟨g5, 0, none⟩) cap5 (m.frame ++ more) m _ HRK.out HD.out r5 (by rw [HL.out]; simp only [maxLen]; omega) hcap5 (HN.out.below (below_on b0 b5)) (HE.out.below (below_on b0 b5)))
      rw [hv5]
      replace r2 := r2.on b5
      replace r3 := r3.on b5
      replace B3 := B3.on b5
      replace b0 := below_on b0 b5
      clear b5 hv5 o5 hg5 ha5 ho5 hg4 ha4 ho4 s4 s1 s3 hown r5 hcap5
      go_wp2_with fail
      refine HDY.out.mono ?_
      rintro e w6 ⟨rfl, b1⟩
      replace r2 := r2.on b1
      replace B3 := B3.on b1
      replace b0 := below_on b0 b1
      clear b1 r3 HDY
      go_wp2_with (first
        | (refine wpList_put rfl 25 (.tmp 10) (.tmp 38) rfl _ _ rfl rfl _ _ (Blk.new _ _ _) msg_size rfl (cells_one m) ?_; intro w7 B10 q7 s7; replace s7 := Lib.hid s7; have B37 := B3.on (put_below q7); have p3 := msg_cells B37; have p10 := msg_cells B10; obtain ⟨x0, x1, x2, x3, x4, x5, x6, x7, x8, x9⟩ := p3; obtain ⟨y0, y1, y2, y3, y4, y5, y6, y7, y8, y9⟩ := p10))
      go_meet
      case rel => exact ⟨below_on b0 (put_below q7), r2.on (put_below q7)⟩
    clear b0 r1 r2 B3 r3 hm hcap
    obtain ⟨b0, r2⟩ := hcut
    go_wp2_with fail
    have HD := Lib.hid (decode_all _ A2 c2 b r2 (by simp only [maxLen]; omega) hc2 (HN.out.below b0) (HE.out.below b0))
    rcases hd : dec b with _ | x
    · have HD' := Lib.hid hd
      refine HD.out.mono ?_
      intro e w6 he
      rw [HD'.out] at he
      obtain ⟨rfl, b1⟩ := he
      have e0 : decErr b ≠ 0 := decErr_ne b
      have q1 : ((decErr b : Int) != 0) = true := by rw [bne_iff_ne]; omega
      have q2 : ((decErr b : Int) == 0) = false := beq_eq_false_iff_ne.2 (by omega)
      clear hd e0 HD HD'
      replace b0 := below_on b0 b1
      clear b1 r2
      go_wp2_with (first
        | (refine wpList_put rfl 25 (.tmp 13) (.tmp 57) rfl _ _ rfl rfl _ _ (Blk.new _ _ _) msg_size rfl (cells_one Msg.zero) ?_; intro w7 B10 q7 s7; replace s7 := Lib.hid s7; have p10 := msg_cells B10; obtain ⟨y0, y1, y2, y3, y4, y5, y6, y7, y8, y9⟩ := p10; dsimp only [Msg.zero] at y0 y1 y2 y3 y4 y5 y6 y7 y8 y9))
      go_ret
      exact ⟨rfl, below_on b0 (put_below q7)⟩
    · obtain ⟨hxok, hxb, hxl, hxt⟩ := dec_some b x hd
      have HD' := Lib.hid hd
      refine HD.out.mono ?_
      intro e w6 he
      rw [HD'.out] at he
      obtain ⟨rfl, b1⟩ := he
      have hlen : (bodyOf b).length + 5 = x.frame.length := by rw [hxb, frame_length]
      have hfl : x.frame.length ≤ b.length := by rw [frame_length]; exact hxl
      have heq := Lib.hid (show eqB x.frame (b.take x.frame.length) = true by rw [frame_length, hxt]; simp [eqB])
      have htl := Lib.hid (show (b.take x.frame.length).length = x.frame.length by rw [List.length_take]; omega)
      rw [hlen]
      clear hd HD HD' hxb hxl hxt hlen
      replace r2 := r2.on b1
      replace b0 := below_on b0 b1
      clear b1
      go_wp2_with (first
        | (refine wpList_put rfl 25 (.tmp 13) (.tmp 57) rfl _ _ rfl rfl _ _ (Blk.new _ _ _) msg_size rfl (cells_one x) ?_; intro w7 B10 q7 s7; replace s7 := Lib.hid s7)
        | (refine wpList_get rfl 25 (.tmp 13) rfl _ rfl _ _ _ B10 Tryd.underlying25 rfl msg_size ?_))
      replace r2 := r2.on (put_below q7)
      replace b0 := below_on b0 (put_below q7)
      clear q7 s7
      refine (encode_yes x _ hxok (HN.out.below b0)).mono ?_
      rintro e w8 ⟨g, cap, rfl, hcap, r3, b1⟩
      replace r2 := r2.on b1
      replace B10 := B10.on b1
      replace b0 := below_on b0 b1
      clear b1
      obtain ⟨y0, y1, y2, y3, y4, y5, y6, y7, y8, y9⟩ := msg_cells B10
      have HB := Lib.hid B10; clear B10
      go_wp2_with fail
      refine (valid_msg x true hxok _).mono ?_
      rintro e w9 ⟨rfl, b1⟩
      replace r2 := r2.on b1
      replace r3 := r3.on b1
      replace b0 := below_on b0 b1
      clear b1 y0 y1 y2 y3 y4 y5 y6 y7 y8 y9
      have hfc : x.frame.length ≤ c2 := by omega
      have hby := bytes_any w9 _ _ _ _ cap c2 x.frame (b.take x.frame.length) r3 (r2.take_ _) (by simp only [maxLen]; omega) (by rw [htl.out]; simp only [maxLen]; omega)
      rw [htl.out, heq.out] at hby
      have HBy := Lib.hid hby; clear hby
      go_wp2_with fail
      refine HBy.out.mono ?_
      rintro e w10 ⟨rfl, n, rfl⟩
      go_wp2_with fail
      go_ret
      exact ⟨rfl, below_on b0 (dN_below _ _)⟩
  · have hm' : m.ok = false := by simpa using hm
    go_wp2_with (refine wpList_get rfl 25 (.tmp 3) rfl _ rfl _ _ _ B3 Tryd.underlying25 rfl msg_size ?_)
    refine (encode_bad m _ hm').mono ?_
    rintro e w2 ⟨rfl, b1⟩
    replace r2 := r2.on b1
    replace B3 := B3.on b1
    replace b0 := below_on b0 b1
    clear b1
    go_wp2_with (refine wpList_get rfl 25 (.tmp 3) rfl _ rfl _ _ _ B3 Tryd.underlying25 rfl msg_size ?_)
    refine (valid_msg m false hm' _).mono ?_
    rintro e w3 ⟨rfl, b1⟩
    replace r2 := r2.on b1
    replace b0 := below_on b0 b1
    clear b1 B3 r1 hm hm'
    go_wp2_with fail
    have HD := Lib.hid (decode_all _ A2 c2 b r2 (by simp only [maxLen]; omega) hc2 (HN.out.below b0) (HE.out.below b0))
    rcases hd : dec b with _ | x
    · have HD' := Lib.hid hd
      refine HD.out.mono ?_
      intro e w6 he
      rw [HD'.out] at he
      obtain ⟨rfl, b1⟩ := he
      have e0 : decErr b ≠ 0 := decErr_ne b
      have q1 : ((decErr b : Int) != 0) = true := by rw [bne_iff_ne]; omega
      have q2 : ((decErr b : Int) == 0) = false := beq_eq_false_iff_ne.2 (by omega)
      clear hd e0 HD HD'
      replace b0 := below_on b0 b1
      clear b1 r2
      go_wp2_with (first
        | (refine wpList_put rfl 25 (.tmp 13) (.tmp 57) rfl _ _ rfl rfl _ _ (Blk.new _ _ _) msg_size rfl (cells_one Msg.zero) ?_; intro w7 B10 q7 s7; replace s7 := Lib.hid s7; have p10 := msg_cells B10; obtain ⟨y0, y1, y2, y3, y4, y5, y6, y7, y8, y9⟩ := p10; dsimp only [Msg.zero] at y0 y1 y2 y3 y4 y5 y6 y7 y8 y9))
      go_ret
      exact ⟨rfl, below_on b0 (put_below q7)⟩
    · obtain ⟨hxok, hxb, hxl, hxt⟩ := dec_some b x hd
      have HD' := Lib.hid hd
      refine HD.out.mono ?_
      intro e w6 he
      rw [HD'.out] at he
      obtain ⟨rfl, b1⟩ := he
      have hlen : (bodyOf b).length + 5 = x.frame.length := by rw [hxb, frame_length]
      have hfl : x.frame.length ≤ b.length := by rw [frame_length]; exact hxl
      have heq := Lib.hid (show eqB x.frame (b.take x.frame.length) = true by rw [frame_length, hxt]; simp [eqB])
      have htl := Lib.hid (show (b.take x.frame.length).length = x.frame.length by rw [List.length_take]; omega)
      rw [hlen]
      clear hd HD HD' hxb hxl hxt hlen
      replace r2 := r2.on b1
      replace b0 := below_on b0 b1
      clear b1
      go_wp2_with (first
        | (refine wpList_put rfl 25 (.tmp 13) (.tmp 57) rfl _ _ rfl rfl _ _ (Blk.new _ _ _) msg_size rfl (cells_one x) ?_; intro w7 B10 q7 s7; replace s7 := Lib.hid s7)
        | (refine wpList_get rfl 25 (.tmp 13) rfl _ rfl _ _ _ B10 Tryd.underlying25 rfl msg_size ?_))
      replace r2 := r2.on (put_below q7)
      replace b0 := below_on b0 (put_below q7)
      clear q7 s7
      refine (encode_yes x _ hxok (HN.out.below b0)).mono ?_
      rintro e w8 ⟨g, cap, rfl, hcap, r3, b1⟩
      replace r2 := r2.on b1
      replace B10 := B10.on b1
      replace b0 := below_on b0 b1
      clear b1
      obtain ⟨y0, y1, y2, y3, y4, y5, y6, y7, y8, y9⟩ := msg_cells B10
      have HB := Lib.hid B10; clear B10
      go_wp2_with fail
      refine (valid_msg x true hxok _).mono ?_
      rintro e w9 ⟨rfl, b1⟩
      replace r2 := r2.on b1
      replace r3 := r3.on b1
      replace b0 := below_on b0 b1
      clear b1 y0 y1 y2 y3 y4 y5 y6 y7 y8 y9
      have hfc : x.frame.length ≤ c2 := by omega
      have hby := bytes_any w9 _ _ _ _ cap c2 x.frame (b.take x.frame.length) r3 (r2.take_ _) (by simp only [maxLen]; omega) (by rw [htl.out]; simp only [maxLen]; omega)
      rw [htl.out, heq.out] at hby
      have HBy := Lib.hid hby; clear hby
      go_wp2_with fail
      refine HBy.out.mono ?_
      rintro e w10 ⟨rfl, n, rfl⟩
      go_wp2_with fail
      go_ret
      exact ⟨rfl, below_on b0 (dN_below _ _)⟩
end Go.Proofs.YtppcdppplbpklaaDoor
