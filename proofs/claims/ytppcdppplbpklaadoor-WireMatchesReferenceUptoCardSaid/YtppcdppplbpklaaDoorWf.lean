/- Walks: the message of a body. -/
import Derived.Test.YtppcdppplbpklaaDoorWe
import Derived.Test.YtppcdppplbpklaaDoorWd
import Derived.BigRegion
namespace Go.Proofs.YtppcdppplbpklaaDoor
open Go.RowKit

def byteAt (l : List UInt8) (i : Nat) : Nat := (l.getD i 0).toNat
/-- The message with these fields, if it is valid. -/
def fin (m : Msg) : Option Msg := if m.ok then some m else none
def parseTail (l : List UInt8) (b v p : Nat) : Option Msg :=
  if p = l.length then fin ⟨byteAt l 0, byteAt l 1 / 8, byteAt l 1 % 8, byteAt l 2, b, v, 0, 0, 0, 0⟩
  else if p + 2 = l.length then fin ⟨byteAt l 0, byteAt l 1 / 8, byteAt l 1 % 8, byteAt l 2, b, v, byteAt l 2, byteAt l p / 3, byteAt l p % 3 - 1, byteAt l (p + 1)⟩
  else none
/-- The message of a body. -/
def parse (l : List UInt8) : Option Msg :=
  match numG 3 0 0 (l.drop 3) with
  | none => none
  | some (b, j) =>
    if byteAt l 0 = 2 then match numG 3 0 0 (l.drop (3 + j)) with
      | none => none
      | some (v, i) => parseTail l b v (3 + j + i)
    else parseTail l b 0 (3 + j)

theorem parseTail_eq (l : List UInt8) (b v p y0 y1 y2 : Nat) (h0 : byteAt l 0 = y0) (h1 : byteAt l 1 = y1) (h2 : byteAt l 2 = y2) :
    parseTail l b v p = if p = l.length then fin ⟨y0, (y1 / 8 : Nat), (y1 % 8 : Nat), y2, b, v, 0, 0, 0, 0⟩
      else if p + 2 = l.length then fin ⟨y0, (y1 / 8 : Nat), (y1 % 8 : Nat), y2, b, v, y2, (byteAt l p : Int) / 3, (byteAt l p : Int) % 3 - 1, byteAt l (p + 1)⟩ else none := by
  subst h0 h1 h2
  unfold parseTail
  push_cast
  rfl

def MsgEnd (w : World) : Option Msg → Ending → World → Prop
  | some m, e, w' => e = .returned (.tuple #[.agg m.cells, .nilIface]) ∧ Below w.heap.size w w'
  | none, e, w' => (∃ (m : Msg) (q : Int), e = .returned (.tuple #[.agg m.cells, faultV q 8])) ∧ Below w.heap.size w w'

theorem Rdr.far {w : World} {B R : Nat} {A : Option Addr} {c : Nat} {l : List UInt8} {p : Nat} (h : Rdr w B R A c l p) {b i : Nat} {u : Value} (hb : b < R) (hB : B ≤ b) : Rdr (w.setCell ⟨b, i, none⟩ u) B R A c l p :=
  ⟨h.blk.far (by simp; omega) u, (h.rd.shows.setCell hB u).bytes, h.hB, h.le, h.len⟩

/-- Where the walk of message stands: the result so far at block M, the reader at block R. -/
structure MSt (w : World) (R : Nat) (ad : Addr) (c : Nat) (l : List UInt8) (m : Msg) (p : Nat) (wx : World) : Prop where
  blk : Blk wx w.heap.size 25 m.cells
  rdr : Rdr wx w.heap.size R (some ad) c l p
  bel : Below w.heap.size w wx
  lt : w.heap.size < R

theorem MSt.grown {w : World} {R : Nat} {ad : Addr} {c : Nat} {l : List UInt8} {m : Msg} {p p' : Nat} {wx wy : World} (h : MSt w R ad c l m p wx) (hR : Rdr wy w.heap.size R (some ad) c l p') (hg : wx.grownBy wy (some R)) : MSt w R ad c l m p' wy :=
  ⟨h.blk.grown hg (fun e => by have := h.lt; injection e; omega), hR, h.bel.grown hg h.bel.size (fun k hk => by injection hk; have := h.lt; omega), h.lt⟩
theorem MSt.cells_ {w : World} {R : Nat} {ad : Addr} {c : Nat} {l : List UInt8} {m : Msg} {p : Nat} {wx : World} (h : MSt w R ad c l m p wx) :
    wx.cell? ⟨w.heap.size, 0, none⟩ = some (.int .i64 m.k) ∧ wx.cell? ⟨w.heap.size, 1, none⟩ = some (.int .i64 m.f) ∧ wx.cell? ⟨w.heap.size, 2, none⟩ = some (.int .i64 m.t) ∧
    wx.cell? ⟨w.heap.size, 3, none⟩ = some (.int .i64 m.s) ∧ wx.cell? ⟨w.heap.size, 4, none⟩ = some (.int .i64 m.b) ∧ wx.cell? ⟨w.heap.size, 5, none⟩ = some (.int .i64 m.v) ∧
    wx.cell? ⟨w.heap.size, 6, none⟩ = some (.int .i64 m.ts) ∧ wx.cell? ⟨w.heap.size, 7, none⟩ = some (.int .i64 m.tc) ∧ wx.cell? ⟨w.heap.size, 8, none⟩ = some (.int .i64 m.tn) ∧ wx.cell? ⟨w.heap.size, 9, none⟩ = some (.int .i64 m.td) :=
  ⟨h.blk.cell 0, h.blk.cell 1, h.blk.cell 2, h.blk.cell 3, h.blk.cell 4, h.blk.cell 5, h.blk.cell 6, h.blk.cell 7, h.blk.cell 8, h.blk.cell 9⟩
theorem MSt.free {w : World} {R : Nat} {ad : Addr} {c : Nat} {l : List UInt8} {m : Msg} {p : Nat} {wx : World} (h : MSt w R ad c l m p wx) :
    ∀ i, wx.frozen? ⟨w.heap.size, i, none⟩ = false := h.blk.frozen
theorem MSt.set {w : World} {R : Nat} {ad : Addr} {c : Nat} {l : List UInt8} {m : Msg} {p : Nat} {wx : World} (h : MSt w R ad c l m p wx) (i : Nat) (u : Value) (m' : Msg) (hm : m.cells.setIfInBounds i u = m'.cells) :
    MSt w R ad c l m' p (wx.setCell ⟨w.heap.size, i, none⟩ u) :=
  ⟨hm ▸ h.blk.set_ i u, h.rdr.far h.lt (Nat.le_refl _), h.bel.setCell (Nat.le_refl _) _, h.lt⟩
/-- A store of the message as it stands. -/
theorem MSt.again {w : World} {R : Nat} {ad : Addr} {c : Nat} {l : List UInt8} {m : Msg} {p : Nat} {wx : World} (h : MSt w R ad c l m p wx) (m' : Msg) :
    MSt w R ad c l m' p ((((((((((wx.setCell ⟨w.heap.size, 0, none⟩ (.int .i64 m'.k)).setCell ⟨w.heap.size, 1, none⟩ (.int .i64 m'.f)).setCell ⟨w.heap.size, 2, none⟩ (.int .i64 m'.t)).setCell ⟨w.heap.size, 3, none⟩ (.int .i64 m'.s)).setCell ⟨w.heap.size, 4, none⟩ (.int .i64 m'.b)).setCell ⟨w.heap.size, 5, none⟩ (.int .i64 m'.v)).setCell ⟨w.heap.size, 6, none⟩ (.int .i64 m'.ts)).setCell ⟨w.heap.size, 7, none⟩ (.int .i64 m'.tc)).setCell ⟨w.heap.size, 8, none⟩ (.int .i64 m'.tn)).setCell ⟨w.heap.size, 9, none⟩ (.int .i64 m'.td)) :=
  ⟨Blk.set10 h.blk _ _ _ _ _ _ _ _ _ _, ((((((((((h.rdr.far h.lt (Nat.le_refl _)).far h.lt (Nat.le_refl _)).far h.lt (Nat.le_refl _)).far h.lt (Nat.le_refl _)).far h.lt (Nat.le_refl _)).far h.lt (Nat.le_refl _)).far h.lt (Nat.le_refl _)).far h.lt (Nat.le_refl _)).far h.lt (Nat.le_refl _)).far h.lt (Nat.le_refl _)), ((((((((((h.bel.setCell (Nat.le_refl _) _).setCell (Nat.le_refl _) _).setCell (Nat.le_refl _) _).setCell (Nat.le_refl _) _).setCell (Nat.le_refl _) _).setCell (Nat.le_refl _) _).setCell (Nat.le_refl _) _).setCell (Nat.le_refl _) _).setCell (Nat.le_refl _) _).setCell (Nat.le_refl _) _), h.lt⟩

set_option maxRecDepth 100000 in
set_option maxHeartbeats 1000000 in
theorem message_any (w : World) (A : Option Addr) (c : Nat) (l : List UInt8) (h : RdB w w.heap.size A l) (hl4 : 4 ≤ l.length) (hlen : l.length ≤ 1000) :
    Calls Tryd.prog 34 #[.slice A l.length c] w fun e w' => MsgEnd w (parse l) e w' := by
  obtain ⟨ad, rfl, had, hc⟩ := h (by omega)
  have d0 := hc 0 (by omega)
  have d1 := hc 1 (by omega)
  have d2 := hc 2 (by omega)
  have HS := Lib.hid h.shows
  clear hc h
  have x0 : byteAt l 0 < 256 := (l.getD 0 0).toNat_lt
  have x1 : byteAt l 1 < 256 := (l.getD 1 0).toNat_lt
  have x2 : byteAt l 2 < 256 := (l.getD 2 0).toNat_lt
  change w.cell? (ad.add 0) = some (.int .u8 (byteAt l 0 : Nat)) at d0
  change w.cell? (ad.add 1) = some (.int .u8 (byteAt l 1 : Nat)) at d1
  change w.cell? (ad.add 2) = some (.int .u8 (byteAt l 2 : Nat)) at d2
  have HP : Hid (∃ y0 y1 y2 tgt, byteAt l 0 = y0 ∧ byteAt l 1 = y1 ∧ byteAt l 2 = y2 ∧ parse l = tgt) := ⟨_, _, _, _, rfl, rfl, rfl, rfl⟩
  obtain ⟨y0, y1, y2, tgt, H0, H1, H2, HT⟩ := HP.out
  rw [H0] at d0 x0
  rw [H1] at d1 x1
  rw [H2] at d2 x2
  rw [HT]
  replace H0 := Lib.hid H0
  replace H1 := Lib.hid H1
  replace H2 := Lib.hid H2
  replace HT := Lib.hid HT
  clear HP
  go_enter Tryd.func34, Tryd.ntmps34
  go_upto_region 1 with fail
  have hM : Blk (w.alloc (.cells (Msg.mk 0 0 0 0 0 0 0 0 0 0).cells 25)) w.heap.size 25 (Msg.mk 0 0 0 0 0 0 0 0 0 0).cells := Blk.new _ _ _
  have hbel : Below w.heap.size w (w.alloc (.cells (Msg.mk 0 0 0 0 0 0 0 0 0 0).cells 25)) := (Below.refl _ _).alloc (Nat.le_refl _) _
  have d0' := (World.cell?_alloc_lt w (.cells (Msg.mk 0 0 0 0 0 0 0 0 0 0).cells 25) (ad.add 0) (by rw [add_block]; exact had)).trans d0
  have d1' := (World.cell?_alloc_lt w (.cells (Msg.mk 0 0 0 0 0 0 0 0 0 0).cells 25) (ad.add 1) (by rw [add_block]; exact had)).trans d1
  have d2' := (World.cell?_alloc_lt w (.cells (Msg.mk 0 0 0 0 0 0 0 0 0 0).cells 25) (ad.add 2) (by rw [add_block]; exact had)).trans d2
  have hsz : (w.alloc (.cells (Msg.mk 0 0 0 0 0 0 0 0 0 0).cells 25)).heap.size = w.heap.size + 1 := by simp
  simp only [Msg.cells] at hM hbel d0' d1' d2' hsz
  generalize w.alloc (.cells #[.int .i64 0, .int .i64 0, .int .i64 0, .int .i64 0, .int .i64 0, .int .i64 0, .int .i64 0, .int .i64 0, .int .i64 0, .int .i64 0] 25) = W at *
  replace hsz := Lib.hid hsz
  change W.cell? ad = _ at d0'
  change W.cell? ⟨ad.block, ad.off + 1, none⟩ = _ at d1'
  change W.cell? ⟨ad.block, ad.off + 2, none⟩ = _ at d2'
  go_cut [] (fun wx => Blk wx w.heap.size 25 (Msg.mk y0 (y1 / 8 : Nat) (y1 % 8 : Nat) y2 0 0 0 0 0 0).cells ∧ Below w.heap.size w wx)
  case first =>
    have e0 : IntKind.i64.wrap (y0 : Int) = (y0 : Int) := IntWalk.i64_in _ (by omega)
    have e1 : IntKind.i64.wrap ((y1 : Int) / 8) = (y1 : Int) / 8 := IntWalk.i64_in _ (by omega)
    have e2 : IntKind.i64.wrap ((y1 : Int) % 8) = (y1 : Int) % 8 := IntWalk.i64_in _ (by omega)
    have e3 : IntKind.i64.wrap (y2 : Int) = (y2 : Int) := IntWalk.i64_in _ (by omega)
    have e4 : bits .and .u8 (y1 : Int) 7 = ((y1 % 8 : Nat) : Int) := by
      have := u8_and_nat y1 7 x1 (by omega); rw [show y1 &&& 7 = y1 % 8 from Nat.and_two_pow_sub_one_eq_mod _ 3] at this; exact this
    have l0 : 0 < l.length := by omega
    have l1 : (1 : Int) < (l.length : Int) := by omega
    have l2 : (2 : Int) < (l.length : Int) := by omega
    clear d0 d1 d2
    have cs := fun i => hM.cell i
    have m0 := cs 0
    have m1 := cs 1
    have m2 := cs 2
    have m3 := cs 3
    have m4 := cs 4
    have m5 := cs 5
    have m6 := cs 6
    have m7 := cs 7
    have m8 := cs 8
    have m9 := cs 9
    have f0 := hM.frozen 0
    have f1 := hM.frozen 1
    have f2 := hM.frozen 2
    have f3 := hM.frozen 3
    have f4 := hM.frozen 4
    have f5 := hM.frozen 5
    have f6 := hM.frozen 6
    have f7 := hM.frozen 7
    have f8 := hM.frozen 8
    have f9 := hM.frozen 9
    clear cs
    simp at m0 m1 m2 m3 m4 m5 m6 m7 m8 m9
    have n0 : ∀ i, ¬ (⟨w.heap.size, i, none⟩ : Addr) = ad := fun i e => by have := congrArg Addr.block e; simp at this; omega
    have n1 : ¬ w.heap.size = ad.block := by omega
    go_region_held3 (fun w' => w'.cell? ad = some (.int .u8 (y0 : Int)) ∧ w'.cell? ⟨ad.block, ad.off + 1, none⟩ = some (.int .u8 (y1 : Int)) ∧ w'.cell? ⟨ad.block, ad.off + 2, none⟩ = some (.int .u8 (y2 : Int)))
      (first | go_keep | (simp [World.cell?_setCell_other, n0, n1, d0', d1', d2']))
      (first | fail)
    go_wp2_with fail
    go_meet
    case rel => exact ⟨(Blk.set10 hM _ _ _ _ _ _ _ _ _ _).drew, by go_grown⟩
  case rest =>
    clear hM hbel d0' d1' d2' d0 d1 d2
    obtain ⟨hM, hbel⟩ := hcut
    go_upto_region 3 with fail
    have hst : MSt w wc.heap.size ad c l (Msg.mk y0 (y1 / 8 : Nat) (y1 % 8 : Nat) y2 0 0 0 0 0 0) 3 (wc.alloc (.cells #[.slice (some ad) l.length c, .int .i64 3] 81)) :=
      ⟨hM.alloc _, ⟨Blk.new _ _ _, ((HS.out.below hbel).alloc hbel.size _).bytes, hbel.size, by omega, hlen⟩, hbel.alloc hbel.size _, hM.lt⟩
    clear hM hbel
    generalize wc.alloc (.cells #[.slice (some ad) l.length c, .int .i64 3] 81) = W3 at *
    generalize wc.heap.size = R at *
    have hlt := hst.lt
    have HST := Lib.hid hst; clear hst
    rcases hb : numG 3 0 0 (l.drop 3) with _ | ⟨b, j⟩
    · have HN := Lib.hid hb
      have HT' := Lib.hid (show tgt = none by rw [← HT.out, parse, hb])
      clear hb
      go_wp2_with (go_at_call 40; refine (rdigits_any _ _ R _ _ l 3 HST.out.rdr).mono ?_; rintro e w4 hd; rw [HN.out] at hd; obtain ⟨⟨q, rfl⟩, ⟨q', hR4⟩, hg4⟩ := hd; have hst4 := HST.out.grown hR4 hg4; obtain ⟨a0, a1, a2, a3, a4, a5, a6, a7, a8, a9⟩ := hst4.cells_; have hfr := hst4.free; replace hst4 := Lib.hid hst4; clear hR4 hg4; unfold faultV)
      have hfin := (hst4.out.set 4 (.int .i64 0) (Msg.mk y0 (y1 / 8 : Nat) (y1 % 8 : Nat) y2 0 0 0 0 0 0) rfl).again (Msg.mk y0 (y1 / 8 : Nat) (y1 % 8 : Nat) y2 0 0 0 0 0 0)
      refine bodyPost_ret (results_cell_tmp rfl _ _ _ _ _ _ rfl hfin.blk Tryd.underlying25 rfl (by kernel_rfl)) rfl ?_
      rw [HT'.out]
      exact ⟨⟨_, _, rfl⟩, hfin.bel⟩
    · have HN := Lib.hid hb
      have HT' := Lib.hid (show tgt = if y0 = 2 then (match numG 3 0 0 (l.drop (3 + j)) with | none => none | some (v, i) => parseTail l b v (3 + j + i)) else parseTail l b 0 (3 + j) by rw [← HT.out, parse, hb, H0.out])
      clear hb
      go_upto_if 43 with (go_at_call 40; refine (rdigits_any _ _ R _ _ l 3 HST.out.rdr).mono ?_; rintro e w4 hd; rw [HN.out] at hd; obtain ⟨rfl, hR4, hg4⟩ := hd; have hst4 := HST.out.grown hR4 hg4; obtain ⟨a0, a1, a2, a3, a4, a5, a6, a7, a8, a9⟩ := hst4.cells_; have hfr := hst4.free; replace hst4 := Lib.hid hst4; clear hR4 hg4)
      have hst5 := hst4.out.set 4 (.int .i64 b) (Msg.mk y0 (y1 / 8 : Nat) (y1 % 8 : Nat) y2 b 0 0 0 0 0) rfl
      clear hst4 a0 a1 a2 a3 a4 a5 a6 a7 a8 a9 hfr
      generalize w4.setCell ⟨w.heap.size, 4, none⟩ (.int .i64 b) = w5 at *
      obtain ⟨a0, a1, a2, a3, a4, a5, a6, a7, a8, a9⟩ := hst5.cells_
      have hfr := hst5.free
      have HST5 := Lib.hid hst5; clear hst5
      go_cut [3] (fun s3 wx => s3 = .nilIface ∧ ∃ v i : Nat, MSt w R ad c l (Msg.mk y0 (y1 / 8 : Nat) (y1 % 8 : Nat) y2 b v 0 0 0 0) (3 + j + i) wx ∧ Hid (parseTail l b v (3 + j + i) = tgt))
      case first =>
        by_cases hk2 : y0 = 2
        · have q2 : ((y0 : Int) == 2) = true := beq_iff_eq.2 (by omega)
          rcases hb2 : numG 3 0 0 (l.drop (3 + j)) with _ | ⟨v, i⟩
          · have HN2 := Lib.hid hb2
            have HT2 := Lib.hid (show tgt = none by rw [HT'.out, if_pos hk2, hb2])
            clear hb2 hk2
            go_wp2_with (go_at_call 40; refine (rdigits_any _ _ R _ _ l (3 + j) HST5.out.rdr).mono ?_; rintro e w6 hd; rw [HN2.out] at hd; obtain ⟨⟨q, rfl⟩, ⟨q', hR6⟩, hg6⟩ := hd; have hst6 := HST5.out.grown hR6 hg6; clear a0 a1 a2 a3 a4 a5 a6 a7 a8 a9 hfr; obtain ⟨a0, a1, a2, a3, a4, a5, a6, a7, a8, a9⟩ := hst6.cells_; have hfr := hst6.free; replace hst6 := Lib.hid hst6; clear hR6 hg6; unfold faultV)
            have hfin := (hst6.out.set 5 (.int .i64 0) (Msg.mk y0 (y1 / 8 : Nat) (y1 % 8 : Nat) y2 b 0 0 0 0 0) rfl).again (Msg.mk y0 (y1 / 8 : Nat) (y1 % 8 : Nat) y2 b 0 0 0 0 0)
            refine bodyPost_ret (results_cell_tmp rfl _ _ _ _ _ _ rfl hfin.blk Tryd.underlying25 rfl (by kernel_rfl)) rfl ?_
            rw [HT2.out]
            exact ⟨⟨_, _, rfl⟩, hfin.bel⟩
          · have HN2 := Lib.hid hb2
            have HT2 := Lib.hid (show parseTail l b v (3 + j + i) = tgt by rw [HT'.out, if_pos hk2, hb2])
            clear hb2 hk2
            go_wp2_with (go_at_call 40; refine (rdigits_any _ _ R _ _ l (3 + j) HST5.out.rdr).mono ?_; rintro e w6 hd; rw [HN2.out] at hd; obtain ⟨rfl, hR6, hg6⟩ := hd; have hst6 := HST5.out.grown hR6 hg6; clear a0 a1 a2 a3 a4 a5 a6 a7 a8 a9 hfr; obtain ⟨a0, a1, a2, a3, a4, a5, a6, a7, a8, a9⟩ := hst6.cells_; have hfr := hst6.free; replace hst6 := Lib.hid hst6; clear hR6 hg6)
            go_meet
            case rel => exact ⟨rfl, v, i, hst6.out.set 5 (.int .i64 v) _ rfl, HT2⟩
        · have q2 : ((y0 : Int) == 2) = false := beq_eq_false_iff_ne.2 (by omega)
          have HT2 := Lib.hid (show parseTail l b 0 (3 + j + 0) = tgt by rw [HT'.out, if_neg hk2]; rfl)
          clear hk2
          go_wp2_with fail
          go_meet
          case rel => exact ⟨rfl, 0, 0, HST5.out, HT2⟩
      case rest =>
        clear a0 a1 a2 a3 a4 a5 a6 a7 a8 a9 hfr
        obtain ⟨rfl, v, i, hst, HT2⟩ := hcut
        generalize 3 + j + i = p at *
        have HT3 := Lib.hid ((parseTail_eq l b v p y0 y1 y2 H0.out H1.out H2.out).symm.trans HT2.out)
        have hple := hst.rdr.le
        have rc := hst.rdr.blk.cell 1
        simp at rc
        obtain ⟨a0, a1, a2, a3, a4, a5, a6, a7, a8, a9⟩ := hst.cells_
        have hfr := hst.free
        have HS7 := Lib.hid hst; clear hst HT2 HT' HT
        go_upto_if 60 with fail
        obtain ⟨w7, rfl⟩ : ∃ w7, w7 = wc := ⟨_, rfl⟩
        go_cut [] (fun wx => ∃ (m' : Msg) (p' : Nat), MSt w R ad c l m' p' wx ∧ Hid (tgt = if p' < l.length then none else fin m'))
        case first =>
          by_cases hp : p < l.length
          · by_cases hp1 : p + 1 < l.length
            · have HT4 := Lib.hid (show tgt = if p + 2 < l.length then none else fin ⟨y0, (y1 / 8 : Nat), (y1 % 8 : Nat), y2, b, v, y2, (byteAt l p : Int) / 3, (byteAt l p : Int) % 3 - 1, byteAt l (p + 1)⟩ by
                rw [← HT3.out, if_neg (by omega)]
                by_cases h : p + 2 = l.length
                · rw [if_pos h, if_neg (by omega)]
                · rw [if_neg h, if_pos (by omega)])
              have n1 := next_some w7 _ R _ _ l p HS7.out.rdr hp
              have z0 : byteAt l p < 256 := (l.getD p 0).toNat_lt
              have z1 : byteAt l (p + 1) < 256 := (l.getD (p + 1) 0).toNat_lt
              clear HT3 rc
              have hx0' : byteAt l p = (l.getD p 0).toNat := rfl
              have hx1' : byteAt l (p + 1) = (l.getD (p + 1) 0).toNat := rfl
              rw [hx0'] at z0 HT4
              rw [hx1'] at z1 HT4
              clear hx0' hx1'
              generalize (l.getD p 0).toNat = x0' at *
              obtain ⟨x1', hx1⟩ : ∃ x, (l.getD (p + 1) 0).toNat = x := ⟨_, rfl⟩
              rw [hx1] at z1 HT4
              replace hx1 := Lib.hid hx1
              have N1 := Lib.hid n1
              clear n1
              go_wp2_with fail
              refine N1.out.mono ?_
              rintro e w8 ⟨rfl, hR8, hg8⟩
              have n2 := next_some w8 _ R _ _ l (p + 1) hR8 hp1
              rw [hx1.out] at n2
              have N2 := Lib.hid n2
              clear n2
              have hst8 := Lib.hid (HS7.out.grown hR8 hg8)
              clear hR8
              replace hg8 := Lib.hid hg8
              clear a0 a1 a2 a3 a4 a5 a6 a7 a8 a9 hfr N1
              go_wp2_with fail
              refine N2.out.mono ?_
              rintro e w9 ⟨rfl, hR9, hg9⟩
              have hst9 := hst8.out.grown hR9 hg9
              clear hR9 hg9 N2
              obtain ⟨a0, a1, a2, a3, a4, a5, a6, a7, a8, a9⟩ := hst9.cells_
              have hfr := hst9.free
              replace hst9 := Lib.hid hst9
              go_wp2_with fail
              go_meet
              case rel =>
                exact ⟨_, p + 2, (((hst9.out.set 6 (.int .i64 y2) (Msg.mk y0 (y1 / 8 : Nat) (y1 % 8 : Nat) y2 b v y2 0 0 0) rfl).set 7 (.int .i64 ((x0' : Int) / 3)) (Msg.mk y0 (y1 / 8 : Nat) (y1 % 8 : Nat) y2 b v y2 ((x0' : Int) / 3) 0 0) rfl).set 8 (.int .i64 ((x0' : Int) % 3 - 1)) (Msg.mk y0 (y1 / 8 : Nat) (y1 % 8 : Nat) y2 b v y2 ((x0' : Int) / 3) ((x0' : Int) % 3 - 1) 0) rfl).set 9 (.int .i64 x1') (Msg.mk y0 (y1 / 8 : Nat) (y1 % 8 : Nat) y2 b v y2 ((x0' : Int) / 3) ((x0' : Int) % 3 - 1) x1') rfl, HT4⟩
            · have HT4 := Lib.hid (show tgt = none by rw [← HT3.out, if_neg (by omega), if_neg (by omega)])
              have N1 := Lib.hid (next_some w7 _ R _ _ l p HS7.out.rdr hp)
              clear HT3 rc
              go_wp2_with fail
              refine N1.out.mono ?_
              rintro e w8 ⟨rfl, hR8, hg8⟩
              have N2 := Lib.hid (next_none w8 _ R _ _ l (p + 1) hR8 hp1)
              have hst8 := Lib.hid (HS7.out.grown hR8 hg8)
              clear hR8
              replace hg8 := Lib.hid hg8
              clear a0 a1 a2 a3 a4 a5 a6 a7 a8 a9 hfr N1
              go_wp2_with fail
              refine N2.out.mono ?_
              rintro e w9 ⟨rfl, hb9⟩
              have hst9 := hst8.out.grown (hst8.out.rdr.grown (hb9.mono (by have := hst8.out.rdr.blk.lt; omega))) (grown_below hb9 _)
              clear hb9 N2
              obtain ⟨a0, a1, a2, a3, a4, a5, a6, a7, a8, a9⟩ := hst9.cells_
              have hfr := hst9.free
              replace hst9 := Lib.hid hst9
              unfold faultV
              go_wp2_with fail
              have hfin := hst9.out.again (Msg.mk y0 (y1 / 8 : Nat) (y1 % 8 : Nat) y2 b v 0 0 0 0)
              refine bodyPost_ret (results_cell_tmp rfl _ _ _ _ _ _ rfl hfin.blk Tryd.underlying25 rfl (by kernel_rfl)) rfl ?_
              rw [HT4.out]
              exact ⟨⟨_, _, rfl⟩, hfin.bel⟩
          · have HT4 := Lib.hid (show tgt = if p < l.length then none else fin ⟨y0, (y1 / 8 : Nat), (y1 % 8 : Nat), y2, b, v, 0, 0, 0, 0⟩ by rw [← HT3.out, if_pos (by omega), if_neg hp])
            clear HT3
            go_wp2_with fail
            go_meet
            case rel => exact ⟨_, p, HS7.out, HT4⟩
        case rest =>
          clear a0 a1 a2 a3 a4 a5 a6 a7 a8 a9 hfr rc HT3 HS7
          obtain ⟨m', p', hst, HT2⟩ := hcut
          obtain ⟨k, f, t, s, b, v, ts, tc, tn, td⟩ := m'
          have rc := hst.rdr.blk.cell 1
          simp at rc
          obtain ⟨a0, a1, a2, a3, a4, a5, a6, a7, a8, a9⟩ := hst.cells_
          have hfr := hst.free
          have HS7 := Lib.hid hst; clear hst
          dsimp only at a0 a1 a2 a3 a4 a5 a6 a7 a8 a9
          go_upto_region 16 with fail
          obtain ⟨w8, rfl⟩ : ∃ w8, w8 = wc := ⟨_, rfl⟩
          go_cut [96] (fun s96 wx => ∃ q : Bool, s96 = .bool q ∧ MSt w R ad c l (Msg.mk k f t s b v ts tc tn td) p' wx ∧ Hid (tgt = if q then none else some (Msg.mk k f t s b v ts tc tn td)))
          case first =>
            by_cases hp : p' < l.length
            · have HT3 := Lib.hid (show tgt = none by rw [HT2.out, if_pos hp])
              go_wp2_with fail
              go_meet
              case rel => exact ⟨true, rfl, HS7.out, HT3⟩
            · have HT3 := Lib.hid (show tgt = fin (Msg.mk k f t s b v ts tc tn td) by rw [HT2.out, if_neg hp])
              have hsz := HS7.out.bel.size
              have hRl := HS7.out.rdr.blk.lt
              go_wp2_with (go_at_call 13; refine (valid_any _ _ _ _ _ _ _ _ _ _ _).mono ?_; rintro e w9 ⟨rfl, hb9⟩)
              go_meet
              case rel =>
                refine ⟨_, rfl, HS7.out.grown (HS7.out.rdr.grown (hb9.mono (by omega))) (grown_below hb9 _), ?_⟩
                show tgt = _
                rw [HT3.out]
                simp only [fin, Msg.ok]
                by_cases hv : validB k f t s b v ts tc tn td = true <;> simp [hv]
          case rest =>
            clear a0 a1 a2 a3 a4 a5 a6 a7 a8 a9 hfr rc HS7 HT2
            obtain ⟨q, rfl, hst, HT2⟩ := hcut
            have rc := hst.rdr.blk.cell 1
            simp at rc
            obtain ⟨a0, a1, a2, a3, a4, a5, a6, a7, a8, a9⟩ := hst.cells_
            have hfr := hst.free
            have HS7 := Lib.hid hst; clear hst
            dsimp only at a0 a1 a2 a3 a4 a5 a6 a7 a8 a9
            cases q
            · have HT3 := Lib.hid (show tgt = some (Msg.mk k f t s b v ts tc tn td) by rw [HT2.out]; rfl)
              go_wp2_with fail
              have hfin := HS7.out.again (Msg.mk k f t s b v ts tc tn td)
              refine bodyPost_ret (results_cell_tmp rfl _ _ _ _ _ _ rfl hfin.blk Tryd.underlying25 rfl (by kernel_rfl)) rfl ?_
              rw [HT3.out]
              exact ⟨rfl, hfin.bel⟩
            · have HT3 := Lib.hid (show tgt = none by rw [HT2.out]; rfl)
              go_wp2_with fail
              have hfin := HS7.out.again (Msg.mk k f t s b v ts tc tn td)
              have hq := hfin.cells_
              have hrq := hfin.rdr.blk.cell 1
              simp only [List.getElem?_toArray, List.getElem?_cons_succ, List.getElem?_cons_zero] at hrq
              replace hfin := Lib.hid hfin
              go_region_held3 (fun w' => w'.cell? ⟨w.heap.size, 0, none⟩ = some (.int .i64 k) ∧ w'.cell? ⟨w.heap.size, 1, none⟩ = some (.int .i64 f) ∧ w'.cell? ⟨w.heap.size, 2, none⟩ = some (.int .i64 t) ∧ w'.cell? ⟨w.heap.size, 3, none⟩ = some (.int .i64 s) ∧ w'.cell? ⟨w.heap.size, 4, none⟩ = some (.int .i64 b) ∧ w'.cell? ⟨w.heap.size, 5, none⟩ = some (.int .i64 v) ∧ w'.cell? ⟨w.heap.size, 6, none⟩ = some (.int .i64 ts) ∧ w'.cell? ⟨w.heap.size, 7, none⟩ = some (.int .i64 tc) ∧ w'.cell? ⟨w.heap.size, 8, none⟩ = some (.int .i64 tn) ∧ w'.cell? ⟨w.heap.size, 9, none⟩ = some (.int .i64 td) ∧ w'.cell? ⟨R, 1, none⟩ = some (.int .i64 p'))
                (first | go_keep | (exact ⟨hq.1, hq.2.1, hq.2.2.1, hq.2.2.2.1, hq.2.2.2.2.1, hq.2.2.2.2.2.1, hq.2.2.2.2.2.2.1, hq.2.2.2.2.2.2.2.1, hq.2.2.2.2.2.2.2.2.1, hq.2.2.2.2.2.2.2.2.2, hrq⟩))
                (first | fail)
              go_wp2_with fail
              refine bodyPost_ret (results_cell_tmp rfl _ _ _ _ _ _ rfl (Blk.drew hfin.out.blk) Tryd.underlying25 rfl (by kernel_rfl)) rfl ?_
              rw [HT3.out]
              exact ⟨⟨_, _, rfl⟩, hfin.out.bel.drew⟩
end Go.Proofs.YtppcdppplbpklaaDoor
