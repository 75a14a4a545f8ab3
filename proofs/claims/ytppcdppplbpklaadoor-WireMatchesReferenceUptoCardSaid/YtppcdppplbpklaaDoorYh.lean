/- Walks: the reference's Message. -/
import Derived.Test.YtppcdppplbpklaaDoorYg
import Derived.Test.YtppcdppplbpklaaDoorYc
import Derived.Test.YtppcdppplbpklaaDoorWf
namespace Go.Proofs.YtppcdppplbpklaaDoor
open Go.RowKit

theorem numG_le : ∀ {f j acc : Nat} {l : List UInt8} {v i : Nat}, numG f j acc l = some (v, i) → i ≤ j + f := by
  intro f
  induction f with
  | zero => intro j acc l v i h; cases h
  | succ f ih =>
    intro j acc l v i h
    cases l with
    | nil => cases h
    | cons x r =>
      rw [numG] at h
      split at h
      · split at h
        · cases h
        · simp only [Option.some.injEq, Prod.mk.injEq] at h
          omega
      · have := ih h
        omega

theorem set4_far (w : World) (g i0 i1 i2 i3 : Nat) (v0 v1 v2 v3 : Value) (q : Addr) (h : ¬ q.block = g) :
    ((((w.setCell ⟨g, i0, none⟩ v0).setCell ⟨g, i1, none⟩ v1).setCell ⟨g, i2, none⟩ v2).setCell ⟨g, i3, none⟩ v3).drew.cell? q = w.cell? q := by
  have n : ∀ i, ¬ (⟨g, i, none⟩ : Addr) = q := fun i e => h (by rw [← e])
  simp [World.cell?_setCell_other, n]
theorem fin_ok_ {m : Msg} (h : m.ok = true) : fin m = some m := by simp only [fin, h, if_true]
theorem fin_no_ {m : Msg} (h : m.ok = false) : fin m = none := by simp only [fin, h, Bool.false_eq_true, if_false]
theorem rvalid_msg (m : Msg) (q : Bool) (h : m.ok = q) (w : World) : Calls Tryd.prog 17 #[.agg m.cells] w fun e w' => e = .returned (.bool q) ∧ Below w.heap.size w w' := by
  subst h
  have := rvalid_any m.k m.f m.t m.s m.b m.v m.ts m.tc m.tn m.td w
  rw [rvalid_eq] at this
  exact this

def RmEnd (w : World) : Option Msg → Ending → World → Prop
  | some m, e, w' => e = .returned (.tuple #[.agg m.cells, .bool true]) ∧ Below w.heap.size w w'
  | none, e, w' => e = .returned (.tuple #[.agg Msg.zero.cells, .bool false]) ∧ Below w.heap.size w w'
/-- Where the walk stands: the result's block, still empty, and the message's. -/
structure RSt (w : World) (m : Msg) (wx : World) : Prop where
  res : Blk wx w.heap.size 25 Msg.zero.cells
  blk : Blk wx (w.heap.size + 1) 25 m.cells
  bel : Below w.heap.size w wx
theorem RSt.set {w : World} {m : Msg} {wx : World} (h : RSt w m wx) (i : Nat) (u : Value) (m' : Msg) (hm : m.cells.setIfInBounds i u = m'.cells) : RSt w m' (wx.setCell ⟨w.heap.size + 1, i, none⟩ u) :=
  ⟨h.res.far (by show ¬ w.heap.size = w.heap.size + 1; omega) u, hm ▸ h.blk.set_ i u, h.bel.setCell (show w.heap.size ≤ w.heap.size + 1 by omega) _⟩
theorem RSt.drew {w : World} {m : Msg} {wx : World} (h : RSt w m wx) : RSt w m wx.drew := ⟨h.res, h.blk, h.bel.drew⟩
theorem RSt.on {w : World} {m : Msg} {wx wy : World} (h : RSt w m wx) (b : Below wx.heap.size wx wy) : RSt w m wy := ⟨h.res.on b, h.blk.on b, h.bel.trans (b.mono h.bel.size)⟩
theorem RSt.cells_ {w : World} {m : Msg} {wx : World} (h : RSt w m wx) :
    wx.cell? ⟨w.heap.size + 1, 0, none⟩ = some (.int .i64 m.k) ∧ wx.cell? ⟨w.heap.size + 1, 1, none⟩ = some (.int .i64 m.f) ∧ wx.cell? ⟨w.heap.size + 1, 2, none⟩ = some (.int .i64 m.t) ∧
    wx.cell? ⟨w.heap.size + 1, 3, none⟩ = some (.int .i64 m.s) ∧ wx.cell? ⟨w.heap.size + 1, 4, none⟩ = some (.int .i64 m.b) ∧ wx.cell? ⟨w.heap.size + 1, 5, none⟩ = some (.int .i64 m.v) ∧
    wx.cell? ⟨w.heap.size + 1, 6, none⟩ = some (.int .i64 m.ts) ∧ wx.cell? ⟨w.heap.size + 1, 7, none⟩ = some (.int .i64 m.tc) ∧ wx.cell? ⟨w.heap.size + 1, 8, none⟩ = some (.int .i64 m.tn) ∧ wx.cell? ⟨w.heap.size + 1, 9, none⟩ = some (.int .i64 m.td) :=
  ⟨h.blk.cell 0, h.blk.cell 1, h.blk.cell 2, h.blk.cell 3, h.blk.cell 4, h.blk.cell 5, h.blk.cell 6, h.blk.cell 7, h.blk.cell 8, h.blk.cell 9⟩
theorem RSt.end_ {w : World} {m : Msg} {wx w5 : World} (h : RSt w m wx) (q : wx.grownBy w5 (some w.heap.size)) : Below w.heap.size w w5 := h.bel.grown q h.bel.size (fun k hk => by injection hk; omega)

set_option maxRecDepth 100000 in
set_option maxHeartbeats 4000000 in
theorem rmessage_any (w : World) (A : Option Addr) (c : Nat) (l : List UInt8) (h : RdB w w.heap.size A l) (hl4 : 4 ≤ l.length) (hlen : l.length ≤ 1000) :
    Calls Tryd.prog 31 #[.slice A l.length c] w fun e w' => RmEnd w (parse l) e w' := by
  obtain ⟨ad, rfl, had, hc⟩ := h (by omega)
  have d0 := hc 0 (by omega)
  have d1 := hc 1 (by omega)
  have d2 := hc 2 (by omega)
  have HC := Lib.hid hc
  have HR := Lib.hid h
  clear hc h
  have x0 : byteAt l 0 < 256 := (l.getD 0 0).toNat_lt
  have x1 : byteAt l 1 < 256 := (l.getD 1 0).toNat_lt
  have x2 : byteAt l 2 < 256 := (l.getD 2 0).toNat_lt
  change w.cell? (ad.add 0) = some (.int .u8 (byteAt l 0 : Nat)) at d0
  change w.cell? (ad.add 1) = some (.int .u8 (byteAt l 1 : Nat)) at d1
  change w.cell? (ad.add 2) = some (.int .u8 (byteAt l 2 : Nat)) at d2
  have HP : Hid (∃ y0 y1 y2 tgt, byteAt l 0 = y0 ∧ byteAt l 1 = y1 ∧ byteAt l 2 = y2 ∧ parse l = tgt) := ⟨_, _, _, _, rfl, rfl, rfl, rfl⟩
  obtain ⟨y0, y1, y2, tgt, H0, H1, H2, HT⟩ := HP.out
  rw [H0] at d0 x0
  rw [H1] at d1 x1
  rw [H2] at d2 x2
  rw [HT]
  replace H0 := Lib.hid H0
  replace H1 := Lib.hid H1
  replace H2 := Lib.hid H2
  replace HT := Lib.hid HT
  clear HP
  have hl4I : ¬ (l.length : Int) < 4 := by omega
  go_enter Tryd.func31, Tryd.ntmps31
  go_upto_region 3 with fail
  have hM := Blk.new w 25 Msg.zero.cells
  have hbel := alloc_below w (.cells Msg.zero.cells 25)
  have d0' := (World.cell?_alloc_lt w (.cells Msg.zero.cells 25) (ad.add 0) (by rw [add_block]; exact had)).trans d0
  have d1' := (World.cell?_alloc_lt w (.cells Msg.zero.cells 25) (ad.add 1) (by rw [add_block]; exact had)).trans d1
  have d2' := (World.cell?_alloc_lt w (.cells Msg.zero.cells 25) (ad.add 2) (by rw [add_block]; exact had)).trans d2
  have hsz : (w.alloc (.cells Msg.zero.cells 25)).heap.size = w.heap.size + 1 := by simp
  simp only [Msg.cells, Msg.zero] at hM hbel d0' d1' d2' hsz
  generalize w.alloc (.cells #[.int .i64 0, .int .i64 0, .int .i64 0, .int .i64 0, .int .i64 0, .int .i64 0, .int .i64 0, .int .i64 0, .int .i64 0, .int .i64 0] 25) = W at *
  replace hsz := Lib.hid hsz
  change W.cell? ad = _ at d0'
  change W.cell? ⟨ad.block, ad.off + 1, none⟩ = _ at d1'
  change W.cell? ⟨ad.block, ad.off + 2, none⟩ = _ at d2'
  go_cut [4] (fun s4 wx => s4 = .pointer (some ⟨w.heap.size + 1, 0, none⟩) ∧ RSt w (Msg.mk y0 (y1 / 8 : Nat) (y1 % 8 : Nat) y2 0 0 0 0 0 0) wx)
  case first =>
    have e0 : IntKind.i64.wrap (y0 : Int) = (y0 : Int) := IntWalk.i64_in _ (by omega)
    have e1 : IntKind.i64.wrap (y1 : Int) = (y1 : Int) := IntWalk.i64_in _ (by omega)
    have e4 : (y1 : Int).tdiv 8 = ((y1 / 8 : Nat) : Int) := by rw [Int.tdiv_eq_ediv_of_nonneg (by omega)]; omega
    have e5 : IntKind.i64.wrap ((y1 / 8 : Nat) : Int) = ((y1 / 8 : Nat) : Int) := IntWalk.i64_in _ (by omega)
    have e6 : (y1 : Int).tmod 8 = ((y1 % 8 : Nat) : Int) := by rw [Int.tmod_eq_emod_of_nonneg (by omega)]; omega
    have e3 : IntKind.i64.wrap (y2 : Int) = (y2 : Int) := IntWalk.i64_in _ (by omega)
    generalize y1 / 8 = ya at *
    generalize y1 % 8 = yb at *
    have l0 : 0 < l.length := by omega
    have l1 : (1 : Int) < (l.length : Int) := by omega
    have l2 : (2 : Int) < (l.length : Int) := by omega
    clear d0 d1 d2
    have n0 : ∀ i, ¬ (⟨W.heap.size, i, none⟩ : Addr) = ad := fun i e => by have := congrArg Addr.block e; simp at this; have := hsz.out; omega
    have n1 : ¬ W.heap.size = ad.block := by have := hsz.out; omega
    go_region_held3 (fun w' => w'.cell? ad = some (.int .u8 (y0 : Int)) ∧ w'.cell? ⟨ad.block, ad.off + 1, none⟩ = some (.int .u8 (y1 : Int)) ∧ w'.cell? ⟨ad.block, ad.off + 2, none⟩ = some (.int .u8 (y2 : Int)))
      (first | go_keep | (simp [World.cell?_setCell_other, n0, n1, d0', d1', d2']))
      (first | fail)
    go_wp2_with fail
    go_meet
    case rel =>
      have hN := Blk.new W 25 (Msg.mk y0 ya yb y2 0 0 0 0 0 0).cells
      rw [hsz.out] at hN
      exact ⟨by rw [hsz.out], ⟨(hM.alloc _).drew, hN.drew, (hbel.alloc hbel.size _).drew⟩⟩
  case rest =>
    clear hM hbel d0' d1' d2' d0 d1 d2 hsz
    obtain ⟨rfl, hst⟩ := hcut
    have hR3 := HR.out.below hst.bel
    have HST := Lib.hid hst; clear hst
    rcases hb : numG 3 0 0 (l.drop 3) with _ | ⟨b, j⟩
    · have HN := Lib.hid hb
      have HT' := Lib.hid (show tgt = none by rw [← HT.out, parse, hb])
      clear hb
      have hnum := Lib.hid (rnumber_any wc _ _ c l 3 hR3 hlen (by omega))
      clear hR3
      go_wp2_with fail
      refine hnum.out.mono ?_
      intro e w4 he
      rw [HN.out] at he
      obtain ⟨rfl, rfl⟩ := he
      go_wp2_with (refine wpList_put rfl 25 (.tmp 2) (.tmp 37) rfl _ _ rfl rfl _ _ HST.out.res msg_size rfl (cells_one Msg.zero) ?_; intro w5 B5 q5 s5; replace s5 := Lib.hid s5)
      refine bodyPost_ret (results_cell_tmp rfl _ _ _ _ _ _ rfl B5 Tryd.underlying25 rfl msg_size) rfl ?_
      rw [HT'.out]
      exact ⟨rfl, HST.out.bel.grown q5 HST.out.bel.size (fun k hk => by injection hk; omega)⟩
    · have HN := Lib.hid hb
      have HT' := Lib.hid (show tgt = if y0 = 2 then (match numG 3 0 0 (l.drop (3 + j)) with | none => none | some (v, i) => parseTail l b v (3 + j + i)) else parseTail l b 0 (3 + j) by rw [← HT.out, parse, hb, H0.out] <;> rfl)
      have hb' := hb
      clear hb
      have hnum := Lib.hid (rnumber_any wc _ _ c l 3 hR3 hlen (by omega))
      clear hR3
      obtain ⟨a0, a1, a2, a3, a4, a5, a6, a7, a8, a9⟩ := HST.out.cells_
      have hfr := HST.out.blk.frozen
      have hj3 : j ≤ 3 := by have := numG_le hb'; omega
      clear hb'
      go_upto_if 42 with (go_at_call 37; refine hnum.out.mono ?_; intro e w4 he; rw [HN.out] at he; obtain ⟨rfl, rfl⟩ := he)
      have hst5 := HST.out.set 4 (.int .i64 b) (Msg.mk y0 (y1 / 8 : Nat) (y1 % 8 : Nat) y2 b 0 0 0 0 0) rfl
      clear HST a0 a1 a2 a3 a4 a5 a6 a7 a8 a9 hfr hnum
      generalize wc.setCell ⟨w.heap.size + 1, 4, none⟩ (.int .i64 b) = w5 at *
      obtain ⟨a0, a1, a2, a3, a4, a5, a6, a7, a8, a9⟩ := hst5.cells_
      have hfr := hst5.blk.frozen
      have hR5 := HR.out.below hst5.bel
      have HST5 := Lib.hid hst5; clear hst5
      go_cut [6] (fun s6 wx => ∃ v p : Nat, s6 = .int .i64 (p : Int) ∧ p ≤ 9 ∧ RSt w (Msg.mk y0 (y1 / 8 : Nat) (y1 % 8 : Nat) y2 b v 0 0 0 0) wx ∧ Hid (parseTail l b v p = tgt))
      case first =>
        by_cases hk2 : y0 = 2
        · have q2 : ((y0 : Int) == 2) = true := beq_iff_eq.2 (by omega)
          have hnum2 := Lib.hid (rnumber_any w5 _ _ c l (3 + j) hR5 hlen (by omega))
          obtain ⟨p1, hp1⟩ : ∃ p1, 3 + j = p1 := ⟨_, rfl⟩
          rcases hb2 : numG 3 0 0 (l.drop (3 + j)) with _ | ⟨v, i⟩
          · have HN2 := Lib.hid hb2
            have HT2 := Lib.hid (show tgt = none by rw [HT'.out, if_pos hk2, hb2])
            clear hb2 hk2
            go_wp2_with (first
              | (go_at_call 37; refine hnum2.out.mono ?_; intro e w6 he; rw [HN2.out] at he; obtain ⟨rfl, rfl⟩ := he)
              | (refine wpList_put rfl 25 (.tmp 2) (.tmp 51) rfl _ _ rfl rfl _ _ HST5.out.res msg_size rfl (cells_one Msg.zero) ?_; intro w9 B9 q9 s9; replace s9 := Lib.hid s9))
            refine bodyPost_ret (results_cell_tmp rfl _ _ _ _ _ _ rfl B9 Tryd.underlying25 rfl msg_size) rfl ?_
            rw [HT2.out]
            exact ⟨rfl, HST5.out.end_ q9⟩
          · have HN2 := Lib.hid hb2
            have HT2 := Lib.hid (show parseTail l b v (3 + j + i) = tgt by rw [HT'.out, if_pos hk2, hb2])
            have hi3 : i ≤ 3 := by have := numG_le hb2; omega
            clear hb2 hk2
            go_wp2_with (go_at_call 37; refine hnum2.out.mono ?_; intro e w6 he; rw [HN2.out] at he; obtain ⟨rfl, rfl⟩ := he)
            go_meet
            case rel => exact ⟨v, 3 + j + i, by go_num, by omega, HST5.out.set 5 (.int .i64 v) _ rfl, HT2⟩
        · have q2 : ((y0 : Int) == 2) = false := beq_eq_false_iff_ne.2 (by omega)
          have HT2 := Lib.hid (show parseTail l b 0 (3 + j) = tgt by rw [HT'.out, if_neg hk2])
          clear hk2
          go_wp2_with fail
          go_meet
          case rel => exact ⟨0, 3 + j, by go_num, by omega, HST5.out, HT2⟩
      case rest =>
        clear a0 a1 a2 a3 a4 a5 a6 a7 a8 a9 hfr HST5 hR5
        obtain ⟨v, p, rfl, hp9, hst, HT2⟩ := hcut
        have HT3 := Lib.hid ((parseTail_eq l b v p y0 y1 y2 H0.out H1.out H2.out).symm.trans HT2.out)
        obtain ⟨a0, a1, a2, a3, a4, a5, a6, a7, a8, a9⟩ := hst.cells_
        have hfr := hst.blk.frozen
        have HS7 := Lib.hid hst; clear hst HT2 HT' HT HN
        by_cases hp2 : p + 2 = l.length
        · have q2 : ((p : Int) + 2 == (l.length : Int)) = true := beq_iff_eq.2 (by omega)
          have q3 : ((p : Int) + 2 != (l.length : Int)) = false := by simp; omega
          have HT4 := Lib.hid (show tgt = fin ⟨y0, (y1 / 8 : Nat), (y1 % 8 : Nat), y2, b, v, y2, (byteAt l p : Int) / 3, (byteAt l p : Int) % 3 - 1, byteAt l (p + 1)⟩ by rw [← HT3.out, if_neg (by omega), if_pos hp2])
          have z0 : byteAt l p < 256 := (l.getD p 0).toNat_lt
          have hz1 : byteAt l (p + 1) < 256 := (l.getD (p + 1) 0).toNat_lt
          have c0 := HC.out p (by omega)
          have c1 := HC.out (p + 1) (by omega)
          change w.cell? (ad.add p) = some (.int .u8 (byteAt l p : Nat)) at c0
          change w.cell? (ad.add (p + 1)) = some (.int .u8 (byteAt l (p + 1) : Nat)) at c1
          replace c0 := (HS7.out.bel.cell (p := ad.add p) (by rw [add_block]; exact had)).trans c0
          replace c1 := (HS7.out.bel.cell (p := ad.add (p + 1)) (by rw [add_block]; exact had)).trans c1
          have lp : (p : Int) < (l.length : Int) := by omega
          have lp1 : (p : Int) + 1 < (l.length : Int) := by omega
          clear HT3 hp2
          generalize byteAt l p = x0' at *
          generalize byteAt l (p + 1) = z1 at *
          have HXa := Lib.hid (show (x0' : Int) / 3 = ((x0' / 3 : Nat) : Int) by omega)
          have HXb := Lib.hid (show (x0' : Int) % 3 = ((x0' % 3 : Nat) : Int) by omega)
          rw [HXa.out, HXb.out] at HT4
          have e1 : IntKind.i64.wrap (x0' : Int) = (x0' : Int) := IntWalk.i64_in _ (by omega)
          have e2 : (x0' : Int).tdiv 3 = ((x0' / 3 : Nat) : Int) := by rw [Int.tdiv_eq_ediv_of_nonneg (by omega)]; omega
          have e3 : IntKind.i64.wrap ((x0' / 3 : Nat) : Int) = ((x0' / 3 : Nat) : Int) := IntWalk.i64_in _ (by omega)
          have e4 : (x0' : Int).tmod 3 = ((x0' % 3 : Nat) : Int) := by rw [Int.tmod_eq_emod_of_nonneg (by omega)]; omega
          have e5 : IntKind.i64.wrap (((x0' % 3 : Nat) : Int) - 1) = ((x0' % 3 : Nat) : Int) - 1 := IntWalk.i64_in _ (by omega)
          have e6 : IntKind.i64.wrap (z1 : Int) = (z1 : Int) := IntWalk.i64_in _ (by omega)
          have e7 : IntKind.i64.wrap ((p : Int) + 1) = (p : Int) + 1 := IntWalk.i64_in _ (by omega)
          clear HXa HXb
          generalize x0' / 3 = za at *
          generalize x0' % 3 = zb at *
          have e8 : ((p : Int) + 1).toNat = p + 1 := by omega
          have e9 : (0 : Int) ≤ (p : Int) + 1 := by omega
          have e10 : (0 : Int) ≤ (p : Int) := by omega
          go_upto_region 14 with fail
          go_cut [] (fun wx => RSt w (Msg.mk y0 (y1 / 8 : Nat) (y1 % 8 : Nat) y2 b v y2 ((za : Nat) : Int) ((zb : Nat) - 1 : Int) z1) wx)
          case first =>
            have ea : ad.add (p + 1) = ⟨ad.block, ad.off + (p + 1), none⟩ := by unfold Addr.add; simp
            rw [ea] at c1
            clear ea
            have n1 : ¬ w.heap.size + 1 = ad.block := by omega
            have n0 : ∀ i j, ¬ (⟨w.heap.size + 1, i, none⟩ : Addr) = ad.add j := fun i j e => by have := congrArg Addr.block e; rw [add_block] at this; simp at this; omega
            have k0 : ∀ v0 v1 v2 v3 : Value, ((((wc.setCell ⟨w.heap.size + 1, 6, none⟩ v0).setCell ⟨w.heap.size + 1, 7, none⟩ v1).setCell ⟨w.heap.size + 1, 8, none⟩ v2).setCell ⟨w.heap.size + 1, 9, none⟩ v3).drew.cell? (ad.add p) = some (.int .u8 (x0' : Int)) := fun v0 v1 v2 v3 => (set4_far wc (w.heap.size + 1) 6 7 8 9 v0 v1 v2 v3 _ (by rw [add_block]; omega)).trans c0
            have k1 : ∀ v0 v1 v2 v3 : Value, ((((wc.setCell ⟨w.heap.size + 1, 6, none⟩ v0).setCell ⟨w.heap.size + 1, 7, none⟩ v1).setCell ⟨w.heap.size + 1, 8, none⟩ v2).setCell ⟨w.heap.size + 1, 9, none⟩ v3).drew.cell? ⟨ad.block, ad.off + (p + 1), none⟩ = some (.int .u8 (z1 : Int)) := fun v0 v1 v2 v3 => (set4_far wc (w.heap.size + 1) 6 7 8 9 v0 v1 v2 v3 _ (by show ¬ ad.block = w.heap.size + 1; omega)).trans c1
            have k3 : ∀ v0 v1 v2 v3 : Value, ((((wc.setCell ⟨w.heap.size + 1, 6, none⟩ v0).setCell ⟨w.heap.size + 1, 7, none⟩ v1).setCell ⟨w.heap.size + 1, 8, none⟩ v2).setCell ⟨w.heap.size + 1, 9, none⟩ v3).drew.cell? ⟨w.heap.size + 1, 3, none⟩ = some (.int .i64 y2) := fun v0 v1 v2 v3 => by simp [World.cell?_setCell_other, a3]
            go_region_held3 (fun w' => w'.cell? (ad.add p) = some (.int .u8 (x0' : Int)) ∧ w'.cell? ⟨ad.block, ad.off + (p + 1), none⟩ = some (.int .u8 (z1 : Int)) ∧ w'.cell? ⟨w.heap.size + 1, 3, none⟩ = some (.int .i64 y2))
              (first | go_keep | (exact ⟨k0 _ _ _ _, k1 _ _ _ _, k3 _ _ _ _⟩))
              (first | fail)
            go_wp2_with fail
            go_meet
            case rel => exact ((((HS7.out.set 6 (.int .i64 y2) (Msg.mk y0 (y1 / 8 : Nat) (y1 % 8 : Nat) y2 b v y2 0 0 0) rfl).set 7 (.int .i64 za) (Msg.mk y0 (y1 / 8 : Nat) (y1 % 8 : Nat) y2 b v y2 za 0 0) rfl).set 8 (.int .i64 ((zb : Int) - 1)) (Msg.mk y0 (y1 / 8 : Nat) (y1 % 8 : Nat) y2 b v y2 za ((zb : Nat) - 1 : Int) 0) rfl).set 9 (.int .i64 z1) (Msg.mk y0 (y1 / 8 : Nat) (y1 % 8 : Nat) y2 b v y2 za ((zb : Nat) - 1 : Int) z1) rfl).drew
          case rest =>
            clear a0 a1 a2 a3 a4 a5 a6 a7 a8 a9 hfr c0 c1 HS7 e1 e2 e3 e4 e5 e6 e7 e8 e9 e10 q2
            obtain ⟨a0, a1, a2, a3, a4, a5, a6, a7, a8, a9⟩ := hcut.cells_
            dsimp only at a0 a1 a2 a3 a4 a5 a6 a7 a8 a9
            have HS9 := Lib.hid hcut
            clear hcut
            by_cases hok : (Msg.mk y0 (y1 / 8 : Nat) (y1 % 8 : Nat) y2 b v y2 ((za : Nat) : Int) ((zb : Nat) - 1 : Int) z1).ok = true
            · have HTT := Lib.hid (show tgt = some (Msg.mk y0 (y1 / 8 : Nat) (y1 % 8 : Nat) y2 b v y2 ((za : Nat) : Int) ((zb : Nat) - 1 : Int) z1) by rw [HT4.out]; exact fin_ok_ hok)
              go_wp2_with fail
              refine (rvalid_msg (Msg.mk y0 (y1 / 8 : Nat) (y1 % 8 : Nat) y2 b v y2 ((za : Nat) : Int) ((zb : Nat) - 1 : Int) z1) true hok _).mono ?_
              rintro e w8 ⟨rfl, hb8⟩
              have HS8 := Lib.hid (HS9.out.on hb8)
              clear hb8 a0 a1 a2 a3 a4 a5 a6 a7 a8 a9
              go_wp2_with (first
                | (refine wpList_get rfl 25 (.tmp 4) rfl _ rfl _ _ _ HS8.out.blk Tryd.underlying25 rfl msg_size ?_)
                | (refine wpList_put rfl 25 (.tmp 2) (.tmp 94) rfl _ _ rfl rfl _ _ HS8.out.res msg_size rfl (cells_one (Msg.mk y0 (y1 / 8 : Nat) (y1 % 8 : Nat) y2 b v y2 ((za : Nat) : Int) ((zb : Nat) - 1 : Int) z1)) ?_; intro w9 B9 q9 s9; replace s9 := Lib.hid s9))
              refine bodyPost_ret (results_cell_tmp rfl _ _ _ _ _ _ rfl B9 Tryd.underlying25 rfl msg_size) rfl ?_
              rw [HTT.out]
              exact ⟨rfl, HS8.out.end_ q9⟩
            · have hok' : (Msg.mk y0 (y1 / 8 : Nat) (y1 % 8 : Nat) y2 b v y2 ((za : Nat) : Int) ((zb : Nat) - 1 : Int) z1).ok = false := by simpa using hok
              have HTT := Lib.hid (show tgt = none by rw [HT4.out]; exact fin_no_ hok')
              go_wp2_with fail
              refine (rvalid_msg (Msg.mk y0 (y1 / 8 : Nat) (y1 % 8 : Nat) y2 b v y2 ((za : Nat) : Int) ((zb : Nat) - 1 : Int) z1) false hok' _).mono ?_
              rintro e w8 ⟨rfl, hb8⟩
              have HS8 := Lib.hid (HS9.out.on hb8)
              clear hb8 a0 a1 a2 a3 a4 a5 a6 a7 a8 a9
              go_wp2_with ((refine wpList_put rfl 25 (.tmp 2) (.tmp 93) rfl _ _ rfl rfl _ _ HS8.out.res msg_size rfl (cells_one Msg.zero) ?_; intro w9 B9 q9 s9; replace s9 := Lib.hid s9))
              refine bodyPost_ret (results_cell_tmp rfl _ _ _ _ _ _ rfl B9 Tryd.underlying25 rfl msg_size) rfl ?_
              rw [HTT.out]
              exact ⟨rfl, HS8.out.end_ q9⟩
        · have q2 : ((p : Int) + 2 == (l.length : Int)) = false := beq_eq_false_iff_ne.2 (by omega)
          by_cases hpl : p = l.length
          · have q3 : ((p : Int) != (l.length : Int)) = false := by simp; omega
            have HT4 := Lib.hid (show tgt = fin (Msg.mk y0 (y1 / 8 : Nat) (y1 % 8 : Nat) y2 b v 0 0 0 0) by rw [← HT3.out, if_pos hpl])
            clear hpl hp2 HT3 hfr
            dsimp only at a0 a1 a2 a3 a4 a5 a6 a7 a8 a9
            by_cases hok : (Msg.mk y0 (y1 / 8 : Nat) (y1 % 8 : Nat) y2 b v 0 0 0 0).ok = true
            · have HTT := Lib.hid (show tgt = some (Msg.mk y0 (y1 / 8 : Nat) (y1 % 8 : Nat) y2 b v 0 0 0 0) by rw [HT4.out]; exact fin_ok_ hok)
              go_wp2_with fail
              refine (rvalid_msg (Msg.mk y0 (y1 / 8 : Nat) (y1 % 8 : Nat) y2 b v 0 0 0 0) true hok _).mono ?_
              rintro e w8 ⟨rfl, hb8⟩
              have HS8 := Lib.hid (HS7.out.on hb8)
              clear hb8 a0 a1 a2 a3 a4 a5 a6 a7 a8 a9
              go_wp2_with (first
                | (refine wpList_get rfl 25 (.tmp 4) rfl _ rfl _ _ _ HS8.out.blk Tryd.underlying25 rfl msg_size ?_)
                | (refine wpList_put rfl 25 (.tmp 2) (.tmp 94) rfl _ _ rfl rfl _ _ HS8.out.res msg_size rfl (cells_one (Msg.mk y0 (y1 / 8 : Nat) (y1 % 8 : Nat) y2 b v 0 0 0 0)) ?_; intro w9 B9 q9 s9; replace s9 := Lib.hid s9))
              refine bodyPost_ret (results_cell_tmp rfl _ _ _ _ _ _ rfl B9 Tryd.underlying25 rfl msg_size) rfl ?_
              rw [HTT.out]
              exact ⟨rfl, HS8.out.end_ q9⟩
            · have hok' : (Msg.mk y0 (y1 / 8 : Nat) (y1 % 8 : Nat) y2 b v 0 0 0 0).ok = false := by simpa using hok
              have HTT := Lib.hid (show tgt = none by rw [HT4.out]; exact fin_no_ hok')
              go_wp2_with fail
              refine (rvalid_msg (Msg.mk y0 (y1 / 8 : Nat) (y1 % 8 : Nat) y2 b v 0 0 0 0) false hok' _).mono ?_
              rintro e w8 ⟨rfl, hb8⟩
              have HS8 := Lib.hid (HS7.out.on hb8)
              clear hb8 a0 a1 a2 a3 a4 a5 a6 a7 a8 a9
              go_wp2_with ((refine wpList_put rfl 25 (.tmp 2) (.tmp 93) rfl _ _ rfl rfl _ _ HS8.out.res msg_size rfl (cells_one Msg.zero) ?_; intro w9 B9 q9 s9; replace s9 := Lib.hid s9))
              refine bodyPost_ret (results_cell_tmp rfl _ _ _ _ _ _ rfl B9 Tryd.underlying25 rfl msg_size) rfl ?_
              rw [HTT.out]
              exact ⟨rfl, HS8.out.end_ q9⟩
          · have q3 : ((p : Int) != (l.length : Int)) = true := by rw [bne_iff_ne]; omega
            have HT4 := Lib.hid (show tgt = none by rw [← HT3.out, if_neg hpl, if_neg hp2])
            clear hpl hp2
            go_wp2_with (refine wpList_put rfl 25 (.tmp 2) (.tmp 93) rfl _ _ rfl rfl _ _ HS7.out.res msg_size rfl (cells_one Msg.zero) ?_; intro w9 B9 q9 s9; replace s9 := Lib.hid s9)
            refine bodyPost_ret (results_cell_tmp rfl _ _ _ _ _ _ rfl B9 Tryd.underlying25 rfl msg_size) rfl ?_
            rw [HT4.out]
            exact ⟨rfl, HS7.out.end_ q9⟩
end Go.Proofs.YtppcdppplbpklaaDoor
