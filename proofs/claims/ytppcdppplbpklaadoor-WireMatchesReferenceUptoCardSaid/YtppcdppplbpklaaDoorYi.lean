/- Walks: the reference's Encode and Decode. -/
import Derived.Test.YtppcdppplbpklaaDoorYh
import Derived.Test.YtppcdppplbpklaaDoorWj
import Derived.Test.YtppcdppplbpklaaDoorWm
namespace Go.Proofs.YtppcdppplbpklaaDoor
open Go.RowKit

set_option maxRecDepth 100000 in
set_option maxHeartbeats 2000000 in
theorem rencode_yes (m : Msg) (w : World) (hm : m.ok = true) :
    Calls Tryd.prog 19 #[.agg m.cells] w fun e w' => ∃ v, e = .returned (.tuple #[v, .int .i64 0]) ∧ OwnB w' w.heap.size v m.frame ∧ Below w.heap.size w w' := by
  have B1 := Blk.new w 25 m.cells
  have b0 := alloc_below w (.cells m.cells 25)
  have hbb := body_bounds m hm
  have HF := Lib.hid (show frameOf m.body = m.frame from rfl)
  obtain ⟨L, hL⟩ : ∃ L, m.body = L := ⟨_, rfl⟩
  have hbd := rbody_any m
  rw [hL] at hbb HF hbd
  have HOK := Lib.hid hm
  clear hL hm
  go_enter Tryd.func19, Tryd.ntmps19
  go_wp2_with (refine wpList_get rfl 25 (.tmp 1) rfl _ rfl _ _ _ B1 Tryd.underlying25 rfl msg_size ?_)
  refine (rvalid_msg m true HOK.out _).mono ?_
  rintro e w2 ⟨rfl, b1⟩
  replace B1 := B1.on b1
  replace b0 := below_on b0 b1
  clear b1
  go_wp2_with (refine wpList_get rfl 25 (.tmp 1) rfl _ rfl _ _ _ B1 Tryd.underlying25 rfl msg_size ?_)
  refine (hbd _ HOK.out).mono ?_
  rintro e w3 ⟨v3, rfl, o3, b1⟩
  replace b0 := below_on b0 b1
  clear b1 hbd
  obtain ⟨A3, c3, rfl, hc3, r3⟩ := o3.sl_
  go_wp2_with fail
  refine (rframe_any _ A3 c3 L r3 (by omega)).mono ?_
  rintro e w4 ⟨v4, rfl, o4, b1⟩
  have hs := b0.size
  replace b0 := b0.trans (b1.mono b0.size)
  go_wp2_with fail
  go_ret2
  exact ⟨v4, rfl, by rw [← HF.out]; exact o4.lower hs, b0⟩

set_option maxRecDepth 100000 in
set_option maxHeartbeats 1000000 in
theorem rencode_bad (m : Msg) (w : World) (hm : m.ok = false) :
    Calls Tryd.prog 19 #[.agg m.cells] w fun e w' => e = .returned (.tuple #[.slice none 0 0, .int .i64 1]) ∧ Below w.heap.size w w' := by
  have B1 := Blk.new w 25 m.cells
  have b0 := alloc_below w (.cells m.cells 25)
  have HOK := Lib.hid hm
  clear hm
  go_enter Tryd.func19, Tryd.ntmps19
  go_wp2_with (refine wpList_get rfl 25 (.tmp 1) rfl _ rfl _ _ _ B1 Tryd.underlying25 rfl msg_size ?_)
  refine (rvalid_msg m false HOK.out _).mono ?_
  rintro e w2 ⟨rfl, b1⟩
  replace b0 := below_on b0 b1
  clear b1 B1
  go_wp2_with fail
  go_ret2
  exact ⟨rfl, b0⟩

theorem frameOf_len (b : List UInt8) : (frameOf b).length = b.length + 5 := by
  unfold frameOf withSum
  rw [List.length_append, List.length_cons]
  rfl
/-- The four bytes of the checksum are as they should be, or the checksum is another one. -/
theorem sum_bytes (l : List UInt8) (n : Nat) (hn : (l.getD 0 0).toNat = n) (h5 : n + 5 ≤ l.length) :
    (∀ j, j < 4 → (l.getD (n + 1 + j) 0).toNat = ((frameOf (bodyOf l)).getD (n + 1 + j) 0).toNat) ↔ beOf ((l.drop (n + 1)).take 4) = crcSum (l.take (n + 1)) := by
  have h1 : l.take (n + 1) = UInt8.ofNat n :: bodyOf l := by
    have e : l = l.getD 0 0 :: l.drop 1 := by
      match l, (show 0 < l.length by omega) with
      | a :: r, _ => rfl
    have e2 : UInt8.ofNat n = l.getD 0 0 := by rw [← hn, ofNat_toNat]
    rw [e2, e, List.take_succ_cons]
    rw [← hn]
    rfl
  have hbl : (bodyOf l).length = n := by
    have := congrArg List.length h1
    rw [List.length_take, List.length_cons] at this
    omega
  have hf : frameOf (bodyOf l) = l.take (n + 1) ++ be32 (crcSum (l.take (n + 1))) := by
    unfold frameOf withSum
    rw [hbl, ← h1]
  have hl1 : (l.take (n + 1)).length = n + 1 := by rw [List.length_take]; omega
  have g1 : ∀ j, (frameOf (bodyOf l)).getD (n + 1 + j) 0 = (be32 (crcSum (l.take (n + 1)))).getD j 0 := fun j => by
    rw [hf, List.getD_eq_getElem?_getD, List.getElem?_append_right (by omega), hl1, Nat.add_sub_cancel_left, ← List.getD_eq_getElem?_getD]
  have g2 : ∀ j, j < 4 → l.getD (n + 1 + j) 0 = ((l.drop (n + 1)).take 4).getD j 0 := fun j hj => by
    simp only [List.getD_eq_getElem?_getD]
    rw [List.getElem?_take, if_pos hj, List.getElem?_drop]
  have hT : ((l.drop (n + 1)).take 4).length = 4 := by rw [List.length_take, List.length_drop]; omega
  constructor
  · intro h
    have e : (l.drop (n + 1)).take 4 = be32 (crcSum (l.take (n + 1))) := getD_ext hT (fun j hj => by
      rw [hT] at hj
      rw [← g2 j hj, h j hj, g1])
    rw [e]
    exact be_val _ (crcSum_lt _)
  · intro h j hj
    rw [g1, ← h, be_back _ hT, g2 j hj]

theorem slice_cut (A : Option Addr) (n0 c n : Nat) (h : n + 1 ≤ n0) (hc : n0 ≤ c) (w : World) : (Instr.slice 26 (.slice A n0 c) (some (.int .i64 1)) (some (.int .i64 ((n : Int) + 1))) none).run Tryd.prog w = .ok (.slice (if c = 1 then A else A.map (·.add 1)) n (c - 1)) w := by
  obtain ⟨i0, hi, hz0, hz1, hz2⟩ := info_parts u8_info
  rw [run_slice_lh (P := Tryd.prog) (w := w) 26 A n0 c (by kernel_rfl) .i64 .i64 1 ((n : Int) + 1) (by omega) (by omega) (by omega)]
  have he : Tryd.prog.elem 26 = 5 := by kernel_rfl
  rw [he]
  simp [sizeOf, typeInfo, hi, hz1, sliced, Result.andThen]
theorem RdB.body {w : World} {B : Nat} {A : Option Addr} {l : List UInt8} (h : RdB w B A l) (n : Nat) (hn : (l.getD 0 0).toNat = n) (c : Nat) (h5 : n + 5 ≤ l.length) (hc : l.length ≤ c) : RdB w B (if c = 1 then A else A.map (·.add 1)) (bodyOf l) := by
  have := h.shows.cut (k := 1) (by omega) hc
  rw [Nat.mul_one] at this
  have e : (bcells l).drop 1 = bcells (l.drop 1) := by simp [bcells]
  rw [e] at this
  have hl : l.length - 1 = (l.drop 1).length := List.length_drop.symm
  rw [hl] at this
  have h2 := this.bytes.take_ n
  unfold bodyOf
  rw [hn]
  exact h2

def DcInv (wx w0 : World) (l F : List UInt8) (n : Nat) (i : Value) : Prop :=
  ∃ j nn : Nat, j ≤ 4 ∧ i = .int .i64 ((n + 1 + j : Nat) : Int) ∧ wx = w0.drewN nn ∧ Hid (∀ q, q < j → (l.getD (n + 1 + q) 0).toNat = (F.getD (n + 1 + q) 0).toNat)

set_option maxRecDepth 100000 in
set_option maxHeartbeats 4000000 in
theorem rdecode_any (w : World) (A : Option Addr) (c : Nat) (l : List UInt8) (h : RdB w w.heap.size A l) (hlen : l.length ≤ maxLen) (hc : l.length ≤ c) :
    Calls Tryd.prog 20 #[.slice A l.length c] w fun e w' => DecodeEnd w l (dec l) e w' := by
  unfold maxLen at hlen
  have B2 := Blk.new w 25 Msg.zero.cells
  have b0 := alloc_below w (.cells Msg.zero.cells 25)
  have hHR := h.on b0
  have HB := Lib.hid (And.intro B2 (And.intro b0 hHR))
  have HW := Lib.hid h
  clear B2 b0 hHR h
  obtain ⟨n0, hn0⟩ : ∃ n0, l.length = n0 := ⟨_, rfl⟩
  by_cases hz : n0 = 0
  · have HD := Lib.hid (show dec l = none ∧ decErr l = 12 by
      have e : l = [] := List.eq_nil_of_length_eq_zero (by omega)
      rw [e]; exact (by decide +kernel))
    rw [hn0]
    clear hn0
    have q0 : ((n0 : Int) == 0) = true := beq_iff_eq.2 (by omega)
    clear hz
    go_enter Tryd.func20, Tryd.ntmps20
    go_wp2_with (refine wpList_put rfl 25 (.tmp 2) (.tmp 13) rfl _ _ rfl rfl _ _ HB.out.1 msg_size rfl (cells_one Msg.zero) ?_; intro w9 B9 q9 s9; replace s9 := Lib.hid s9)
    refine bodyPost_ret (results_cell_tmp2 rfl _ _ _ _ _ _ rfl B9 Tryd.underlying25 rfl msg_size) rfl ?_
    rw [HD.out.1]
    exact ⟨by rw [HD.out.2]; rfl, HB.out.2.1.grown q9 HB.out.2.1.size (fun k hk => by injection hk; omega)⟩
  have q0 : ((n0 : Int) == 0) = false := beq_eq_false_iff_ne.2 (by omega)
  obtain ⟨ad, rfl, had', hcw⟩ := HW.out (by omega)
  have HCW := Lib.hid hcw
  clear hcw
  obtain ⟨ad2, had2, -, hcell⟩ := HB.out.2.2 (by omega)
  obtain rfl := Option.some.inj had2
  clear had2
  have c0 := hcell 0 (by omega)
  obtain ⟨n, hn⟩ : ∃ n, (l.getD 0 0).toNat = n := ⟨_, rfl⟩
  have hn256 : n < 256 := by rw [← hn]; exact (l.getD 0 0).toNat_lt
  rw [hn] at c0
  change World.cell? _ ad = _ at c0
  dsimp only [Msg.cells, Msg.zero] at c0
  have hpos : 0 < n0 := by omega
  by_cases hr : n < 4 ∨ 11 < n
  · have HD := Lib.hid (show dec l = none ∧ decErr l = 8 by
      have e : frameErr l = 8 := by unfold frameErr; rw [hn, if_neg (by omega), if_pos hr]
      unfold dec decErr
      rw [e]
      exact ⟨rfl, rfl⟩)
    rw [hn0]
    clear hn0 hcell hn hz
    have hx : (n : Int) < 4 ∨ (¬ (n : Int) < 4 ∧ (11 : Int) < (n : Int)) := by omega
    clear hr
    rcases hx with hx | ⟨hx, hy⟩
    all_goals
      go_enter Tryd.func20, Tryd.ntmps20
      go_wp2_with (refine wpList_put rfl 25 (.tmp 2) (.tmp 24) rfl _ _ rfl rfl _ _ HB.out.1 msg_size rfl (cells_one Msg.zero) ?_; intro w9 B9 q9 s9; replace s9 := Lib.hid s9)
      refine bodyPost_ret (results_cell_tmp2 rfl _ _ _ _ _ _ rfl B9 Tryd.underlying25 rfl msg_size) rfl ?_
      rw [HD.out.1]
      exact ⟨by rw [HD.out.2]; rfl, HB.out.2.1.grown q9 HB.out.2.1.size (fun k hk => by injection hk; omega)⟩
  have hr1 : ¬ (n : Int) < 4 := by omega
  have hr2 : ¬ (11 : Int) < (n : Int) := by omega
  by_cases hs : n0 < n + 5
  · have HD := Lib.hid (show dec l = none ∧ decErr l = 12 by
      have e : frameErr l = 12 := by unfold frameErr; rw [hn, if_neg (by omega), if_neg hr, if_pos (by omega)]
      unfold dec decErr
      rw [e]
      exact ⟨rfl, rfl⟩)
    rw [hn0]
    clear hn0 hcell hn hz hr
    have hsI : (n0 : Int) < (n : Int) + 5 := by omega
    go_enter Tryd.func20, Tryd.ntmps20
    go_wp2_with (refine wpList_put rfl 25 (.tmp 2) (.tmp 30) rfl _ _ rfl rfl _ _ HB.out.1 msg_size rfl (cells_one Msg.zero) ?_; intro w9 B9 q9 s9; replace s9 := Lib.hid s9)
    refine bodyPost_ret (results_cell_tmp2 rfl _ _ _ _ _ _ rfl B9 Tryd.underlying25 rfl msg_size) rfl ?_
    rw [HD.out.1]
    exact ⟨by rw [HD.out.2]; rfl, HB.out.2.1.grown q9 HB.out.2.1.size (fun k hk => by injection hk; omega)⟩
  have hsI : ¬ (n0 : Int) < (n : Int) + 5 := by omega
  have HSB := Lib.hid (sum_bytes l n hn (by omega))
  have hbl : (bodyOf l).length = n := by unfold bodyOf; rw [hn, List.length_take, List.length_drop]; omega
  have hfe := Lib.hid (show frameErr l = if beOf ((l.drop (n + 1)).take 4) ≠ crcSum (l.take (n + 1)) then 13 else 0 by
    unfold frameErr; rw [hn, if_neg (by omega), if_neg hr, if_neg (by omega)])
  have rb := HB.out.2.2.body n hn c (by omega) hc
  have hFL := frameOf_len (bodyOf l)
  rw [hbl] at hFL
  have hsl := slice_cut (some ad) n0 c n (by omega) (by omega)
  rw [hn0]
  generalize (if c = 1 then (some ad : Option Addr) else (some ad : Option Addr).map (·.add 1)) = AA at *
  have HRB := Lib.hid rb
  have HBL := Lib.hid hbl
  have HN0 := Lib.hid hn0
  have HHN := Lib.hid hn
  clear hcell hz hr rb hbl hn0 hn
  have hn4 : 4 ≤ n := by omega
  have hn11 : n ≤ 11 := by omega
  have hfr := rframe_any _ AA (c - 1) (bodyOf l) HRB.out (by rw [HBL.out]; omega)
  rw [HBL.out] at hfr
  have HFR := Lib.hid hfr
  clear hfr
  go_enter Tryd.func20, Tryd.ntmps20
  go_wp2_with fail
  refine HFR.out.mono ?_
  rintro e w4 ⟨v4, rfl, o4, b4⟩
  obtain ⟨A4, c4, rfl, hc4, r4⟩ := o4.sl_
  have B4 := HB.out.1.on b4
  have b04 := below_on HB.out.2.1 b4
  have hcl : ∀ j, j < l.length → w4.cell? (ad.add j) = some (.int .u8 ((l.getD j 0).toNat : Int)) := fun j hj => (b04.cell (p := ad.add j) (by rw [add_block]; exact had')).trans (HCW.out j hj)
  have HCL := Lib.hid hcl
  have HRM := Lib.hid (HRB.out.on b4)
  have HSL := Lib.hid hsl
  clear hcl b4 o4 c0 hsl
  generalize hF : frameOf (bodyOf l) = F at *
  replace hF := Lib.hid hF
  have hFL' := Lib.hid hFL
  rw [hFL]
  obtain ⟨ae, rfl, -, hd⟩ := r4 (by omega)
  have HDF := Lib.hid hd
  have HBB := Lib.hid (And.intro B4 b04)
  clear hd r4 hFL B4 b04 hc4
  go_wp2_with fail
  go_loopw [7] (fun i wx => DcInv wx w4 l F n i) (fun i _ => n + 5 - (intOf i).toNat)
  case atStart => exact ⟨0, 0, by omega, by go_num, rfl, fun q hq => by omega⟩
  case round =>
    obtain ⟨j, nn, hj, rfl, rfl, HE⟩ := hrel
    obtain ⟨p, hp⟩ : ∃ p, n + 1 + j = p := ⟨_, rfl⟩
    rw [hp]
    by_cases hj4 : j < 4
    · have hpI : (p : Int) < (n : Int) + 5 := by omega
      have hpN : (p : Int) < (n0 : Int) := by omega
      have hp0 : (0 : Int) ≤ (p : Int) := by omega
      have hx := HCL.out p (by have := HN0.out; omega)
      have hy := HDF.out p (by rw [hFL'.out]; omega)
      have HP := Lib.hid hp
      by_cases hxy : (l.getD p 0).toNat = (F.getD p 0).toNat
      · have HE' := Lib.hid (show ∀ q, q < j + 1 → (l.getD (n + 1 + q) 0).toNat = (F.getD (n + 1 + q) 0).toNat by
          intro q hq
          rcases Nat.lt_or_ge q j with h | h
          · exact HE.out q h
          · obtain rfl : q = j := by omega
            rw [hp]; exact hxy)
        rw [← hxy] at hy
        clear hxy hp
        generalize (l.getD p 0).toNat = x at *
        have hne : ((x : Int) != (x : Int)) = false := by simp
        go_wp2
        go_quiet (fail)
        go_wp2
        go_roundw
        case rel => exact ⟨j + 1, _, by omega, by have := HP.out; go_num, rfl, HE'⟩
        case measure => simp [intOf]; omega
      · have hbad : ¬ beOf ((l.drop (n + 1)).take 4) = crcSum (l.take (n + 1)) := fun h => hxy (by
          have := HSB.out.2 h j hj4
          rw [hp] at this
          exact this)
        have HD := Lib.hid (show dec l = none ∧ decErr l = 13 by
          have e : frameErr l = 13 := by rw [hfe.out, if_pos hbad]
          unfold dec decErr
          rw [e]
          exact ⟨rfl, rfl⟩)
        have hne : (((l.getD p 0).toNat : Int) != ((F.getD p 0).toNat : Int)) = true := by rw [bne_iff_ne]; omega
        clear hxy hbad hp
        generalize (l.getD p 0).toNat = x at *
        generalize (F.getD p 0).toNat = y at *
        go_wp2
        go_quiet (fail)
        have HZ := Lib.hid (And.intro (HBB.out.1.drewN (nn + nq)) (below_dN HBB.out.2 (nn + nq)))
        go_wp2_with (refine wpList_put rfl 25 (.tmp 2) (.tmp 53) rfl _ _ rfl rfl _ _ HZ.out.1 msg_size rfl (cells_one Msg.zero) ?_; intro w9 B9 q9 s9; replace s9 := Lib.hid s9)
        refine bodyPost_ret (results_cell_tmp2 rfl _ _ _ _ _ _ rfl B9 Tryd.underlying25 rfl msg_size) rfl ?_
        rw [HD.out.1]
        exact ⟨by rw [HD.out.2]; rfl, HZ.out.2.grown q9 HZ.out.2.size (fun k hk => by injection hk; omega)⟩
    · obtain rfl : j = 4 := by omega
      have hpI : ¬ (p : Int) < (n : Int) + 5 := by omega
      have hgood : beOf ((l.drop (n + 1)).take 4) = crcSum (l.take (n + 1)) := HSB.out.1 (fun q hq => HE.out q hq)
      have hfe0 : frameErr l = 0 := by rw [hfe.out, if_neg (fun h => h hgood)]
      have HD := Lib.hid (show dec l = parse (bodyOf l) ∧ decErr l = 8 by
        unfold dec decErr
        rw [hfe0]
        exact ⟨rfl, rfl⟩)
      have hrm := rmessage_any (w4.drewN nn) AA (c - 1) (bodyOf l) HRM.out (by rw [HBL.out]; omega) (by rw [HBL.out]; omega)
      rw [HBL.out] at hrm
      have HRMM := Lib.hid hrm
      have HZ := Lib.hid (And.intro (HBB.out.1.drewN nn) (below_dN HBB.out.2 nn))
      have hsl := HSL.out
      clear hgood hfe0 hrm hp
      rcases hpa : parse (bodyOf l) with _ | m
      · have HPA := Lib.hid hpa
        clear hpa
        go_wp2_with fail
        refine HRMM.out.mono ?_
        intro e w6 he
        rw [HPA.out] at he
        obtain ⟨rfl, b6⟩ := he
        have HZ6 := Lib.hid (And.intro (HZ.out.1.on b6) (below_on HZ.out.2 b6))
        clear b6 hsl
        go_wp2_with (first
          | (refine wpList_put rfl 25 (.tmp 8) (.tmp 60) rfl _ _ rfl rfl _ _ (Blk.new _ _ _) msg_size rfl (cells_one Msg.zero) ?_; intro w7 B7 q7 s7; have HZ7 := Lib.hid (And.intro (HZ6.out.1.on (put_below q7)) (below_on HZ6.out.2 (put_below q7))); clear q7 s7)
          | (refine wpList_put rfl 25 (.tmp 2) (.tmp 64) rfl _ _ rfl rfl _ _ HZ7.out.1 msg_size rfl (cells_one Msg.zero) ?_; intro w9 B9 q9 s9; replace s9 := Lib.hid s9))
        refine bodyPost_ret (results_cell_tmp2 rfl _ _ _ _ _ _ rfl B9 Tryd.underlying25 rfl msg_size) rfl ?_
        rw [HD.out.1, HPA.out]
        exact ⟨by rw [HD.out.2]; rfl, HZ7.out.2.grown q9 HZ7.out.2.size (fun k hk => by injection hk; omega)⟩
      · have HPA := Lib.hid hpa
        clear hpa
        go_wp2_with fail
        refine HRMM.out.mono ?_
        intro e w6 he
        rw [HPA.out] at he
        obtain ⟨rfl, b6⟩ := he
        have HZ6 := Lib.hid (And.intro (HZ.out.1.on b6) (below_on HZ.out.2 b6))
        clear b6 hsl
        go_wp2_with (first
          | (refine wpList_put rfl 25 (.tmp 8) (.tmp 60) rfl _ _ rfl rfl _ _ (Blk.new _ _ _) msg_size rfl (cells_one m) ?_; intro w7 B7 q7 s7; have HZ7 := Lib.hid (And.intro (HZ6.out.1.on (put_below q7)) (below_on HZ6.out.2 (put_below q7))); clear q7 s7)
          | (refine wpList_get rfl 25 (.tmp 8) rfl _ rfl _ _ _ B7 Tryd.underlying25 rfl msg_size ?_)
          | (refine wpList_put rfl 25 (.tmp 2) (.tmp 65) rfl _ _ rfl rfl _ _ HZ7.out.1 msg_size rfl (cells_one m) ?_; intro w9 B9 q9 s9; replace s9 := Lib.hid s9))
        refine bodyPost_ret (results_cell_tmp2 rfl _ _ _ _ _ _ rfl B9 Tryd.underlying25 rfl msg_size) rfl ?_
        rw [HD.out.1, HPA.out]
        exact ⟨by rw [HBL.out]; rfl, HZ7.out.2.grown q9 HZ7.out.2.size (fun k hk => by injection hk; omega)⟩
end Go.Proofs.YtppcdppplbpklaaDoor
