/- Walks: decode. -/
import Derived.Test.YtppcdppplbpklaaDoorWf
import Derived.Test.YtppcdppplbpklaaDoorWg
namespace Go.Proofs.YtppcdppplbpklaaDoor
open Go.RowKit

def Msg.zero : Msg := ⟨0, 0, 0, 0, 0, 0, 0, 0, 0, 0⟩
/-- The message of the frame with which the bytes begin. -/
def dec (l : List UInt8) : Option Msg := if frameErr l = 0 then parse (bodyOf l) else none
def decErr (l : List UInt8) : Nat := if frameErr l = 0 then 8 else frameErr l
def DecEnd (w : World) (l : List UInt8) : Option Msg → Ending → World → Prop
  | some m, e, w' => e = .returned (.tuple #[.agg m.cells, .int .i64 ((bodyOf l).length + 5 : Nat), .nilIface]) ∧ Below w.heap.size w w'
  | none, e, w' => (∃ q : Int, e = .returned (.tuple #[.agg Msg.zero.cells, .int .i64 0, faultV q (decErr l)])) ∧ Below w.heap.size w w'

theorem frameErr_zero {l : List UInt8} (h : frameErr l = 0) : 4 ≤ (l.getD 0 0).toNat ∧ (l.getD 0 0).toNat ≤ 11 ∧ (l.getD 0 0).toNat + 5 ≤ l.length ∧ (bodyOf l).length = (l.getD 0 0).toNat := by
  unfold frameErr at h
  split at h
  · cases h
  · split at h
    · cases h
    · split at h
      · cases h
      · refine ⟨by omega, by omega, by omega, ?_⟩
        unfold bodyOf
        rw [List.length_take, List.length_drop]
        omega

theorem cells_one (m : Msg) : m.cells.all (·.oneCell') = true := by simp [Msg.cells, Value.oneCell']
theorem msg_size : (Tryd.prog.info? 25).map (·.size) = some 10 := by kernel_rfl

set_option maxRecDepth 100000 in
set_option maxHeartbeats 1000000 in
theorem decode_any (w : World) (A : Option Addr) (c : Nat) (l : List UInt8) (h : RdB w w.heap.size A l) (hlen : l.length ≤ maxLen) (hc : l.length ≤ c) (hn : Nibs w) :
    Calls Tryd.prog 26 #[.slice A l.length c] w fun e w' => DecEnd w l (dec l) e w' := by
  have hW := Blk.new w 25 Msg.zero.cells
  have hbW : Below w.heap.size w (w.alloc (.cells Msg.zero.cells 25)) := (Below.refl _ _).alloc (Nat.le_refl _) _
  have hF := frame_any (w.alloc (.cells Msg.zero.cells 25)) w.heap.size A c l (h.shows.alloc (Nat.le_refl _) _).bytes hlen hc (hn.below hbW)
  have hsz : (w.alloc (.cells Msg.zero.cells 25)).heap.size = w.heap.size + 1 := by simp
  simp only [Msg.cells, Msg.zero] at hW hbW hF hsz
  unfold maxLen at hlen
  go_enter Tryd.func26, Tryd.ntmps26
  go_wp2_with fail
  generalize w.alloc (.cells #[.int .i64 0, .int .i64 0, .int .i64 0, .int .i64 0, .int .i64 0, .int .i64 0, .int .i64 0, .int .i64 0, .int .i64 0, .int .i64 0] 25) = W at *
  replace hsz := Lib.hid hsz
  refine hF.mono ?_
  clear hF
  rcases hfe : frameErr l with _ | k
  · have hz := frameErr_zero hfe
    have HD := Lib.hid (show dec l = parse (bodyOf l) by simp only [dec, hfe, if_true])
    have HE := Lib.hid (show decErr l = 8 by simp only [decErr, hfe, if_true])
    rintro e w2 ⟨rfl, A', c', rfl, hc', hrd⟩
    have hbl : (bodyOf l).length = (l.getD 0 0).toNat := hz.2.2.2
    have hM := message_any W A' c' (bodyOf l) (hrd.shows.wider (by have := hsz.out; omega)).bytes (by omega) (by omega)
    have hbn : (bodyOf l).length ≤ 11 := by omega
    clear hz hbl hfe hrd
    rcases hp : parse (bodyOf l) with _ | m
    · have HD' := Lib.hid (HD.out.trans hp)
      rw [hp] at hM
      have HM := Lib.hid hM
      clear hp HD hM
      go_wp2_with fail
      refine HM.out.mono ?_
      rintro e w3 ⟨⟨m, q, rfl⟩, hb3⟩
      have hW3 := hW.below hb3 (by have := hsz.out; omega)
      have hbel3 := hbW.trans (hb3.mono (by have := hsz.out; omega))
      have hs3 : w.heap.size < w3.heap.size := by have := hb3.size; have := hsz.out; omega
      obtain ⟨mk, mf, mt, ms, mb, mv, mts, mtc, mtn, mtd⟩ := m
      clear hb3 hW hbW HM
      unfold faultV
      go_wp2_with (first
        | (refine wpList_put rfl 25 (.tmp 7) (.tmp 20) rfl _ _ rfl rfl _ _ (Blk.new _ _ _) msg_size rfl (cells_one _) ?_; intro w4 hB4 hg4 hs4; replace hs4 := Lib.hid hs4)
        | (refine wpList_put rfl 25 (.tmp 2) (.tmp 24) rfl _ _ rfl rfl _ _ ((hW3.alloc _).grown hg4 (by simp; omega)) msg_size rfl (cells_one Msg.zero) ?_; intro w5 hB5 hg5 hs5; replace hs5 := Lib.hid hs5))
      refine bodyPost_ret (results_cell_tmp2 rfl _ _ _ _ _ _ rfl hB5 Tryd.underlying25 rfl msg_size) rfl ?_
      rw [HD'.out]
      exact ⟨⟨q, by rw [HE.out]; rfl⟩, ((hbel3.alloc hbel3.size _).grown hg4 (hbel3.alloc hbel3.size _).size (fun k hk => by injection hk; omega)).grown hg5 (by rw [hs4.out]; simp; omega) (fun k hk => by injection hk; omega)⟩
    · have HD' := Lib.hid (HD.out.trans hp)
      rw [hp] at hM
      have HM := Lib.hid hM
      clear hp HD hM
      go_wp2_with fail
      refine HM.out.mono ?_
      rintro e w3 ⟨rfl, hb3⟩
      have hW3 := hW.below hb3 (by have := hsz.out; omega)
      have hbel3 := hbW.trans (hb3.mono (by have := hsz.out; omega))
      have hs3 : w.heap.size < w3.heap.size := by have := hb3.size; have := hsz.out; omega
      clear hb3 hW hbW HM
      have hbn' : Hid ((bodyOf l).length + 5 = 1 + (bodyOf l).length + 4) := by show _ = _; omega
      go_wp2_with (first
        | (refine wpList_put rfl 25 (.tmp 7) (.tmp 20) rfl _ _ rfl rfl _ _ (Blk.new _ _ _) msg_size rfl (cells_one _) ?_; intro w4 hB4 hg4 hs4; replace hs4 := Lib.hid hs4)
        | (refine wpList_get rfl 25 (.tmp 7) rfl _ rfl _ _ _ hB4 Tryd.underlying25 rfl msg_size ?_)
        | (refine wpList_put rfl 25 (.tmp 2) (.tmp 26) rfl _ _ rfl rfl _ _ ((hW3.alloc _).grown hg4 (by simp; omega)) msg_size rfl (cells_one _) ?_; intro w5 hB5 hg5 hs5; replace hs5 := Lib.hid hs5))
      refine bodyPost_ret (results_cell_tmp2 rfl _ _ _ _ _ _ rfl hB5 Tryd.underlying25 rfl msg_size) rfl ?_
      rw [HD'.out]
      exact ⟨by rw [hbn'.out]; rfl, ((hbel3.alloc hbel3.size _).grown hg4 (hbel3.alloc hbel3.size _).size (fun k hk => by injection hk; omega)).grown hg5 (by rw [hs4.out]; simp; omega) (fun k hk => by injection hk; omega)⟩
  · have HD := Lib.hid (show dec l = none by simp only [dec, hfe, Nat.succ_ne_zero, if_false])
    have HE := Lib.hid (show decErr l = k + 1 by simp only [decErr, hfe, Nat.succ_ne_zero, if_false])
    rintro e w2 ⟨rfl, q, rfl⟩
    clear hfe
    have c0 := hW.cell 0
    have c1 := hW.cell 1
    have c2 := hW.cell 2
    have c3 := hW.cell 3
    have c4 := hW.cell 4
    have c5 := hW.cell 5
    have c6 := hW.cell 6
    have c7 := hW.cell 7
    have c8 := hW.cell 8
    have c9 := hW.cell 9
    have hfr := hW.frozen
    simp at c0 c1 c2 c3 c4 c5 c6 c7 c8 c9
    unfold faultV
    go_wp2_with fail
    refine bodyPost_ret (results_cell_tmp2 rfl _ _ _ _ _ _ rfl (Blk.set10 hW _ _ _ _ _ _ _ _ _ _) Tryd.underlying25 rfl (by kernel_rfl)) rfl ?_
    rw [HD.out]
    exact ⟨⟨q, by rw [HE.out]; rfl⟩, by go_grown⟩
end Go.Proofs.YtppcdppplbpklaaDoor
