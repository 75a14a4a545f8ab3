/- Walks: Decode. -/
import Derived.Test.YtppcdppplbpklaaDoorWh
import Derived.Test.YtppcdppplbpklaaDoorWi
namespace Go.Proofs.YtppcdppplbpklaaDoor
open Go.RowKit

def DecodeEnd (w : World) (l : List UInt8) : Option Msg → Ending → World → Prop
  | some m, e, w' => e = .returned (.tuple #[.agg m.cells, .int .i64 ((bodyOf l).length + 5 : Nat), .int .i64 0]) ∧ Below w.heap.size w w'
  | none, e, w' => e = .returned (.tuple #[.agg Msg.zero.cells, .int .i64 0, .int .i64 (decErr l)]) ∧ Below w.heap.size w w'

theorem fault_calls (q e : Int) (w : World) (hg : ErrT w) : Calls Tryd.prog 27 #[faultV q e] w fun ev w' => ev = .returned (.int .i64 e) ∧ Below w.heap.size w w' := number_fault q e w hg

/-- The last statement of Decode: from the message, the length and the error that decode has returned. -/
theorem number_any (ev : Value) (n : Int) (h : (ev = .nilIface ∧ n = 0) ∨ ∃ q, ev = faultV q n) (w : World) (hg : ErrT w) : Calls Tryd.prog 27 #[ev] w fun e w' => e = .returned (.int .i64 n) ∧ Below w.heap.size w w' := by
  rcases h with ⟨rfl, rfl⟩ | ⟨q, rfl⟩
  · exact number_nil w
  · exact number_fault q n w hg

set_option maxRecDepth 100000 in
set_option maxHeartbeats 2000000 in
theorem decode_all (w : World) (A : Option Addr) (c : Nat) (l : List UInt8) (h : RdB w w.heap.size A l) (hlen : l.length ≤ maxLen) (hc : l.length ≤ c) (hn : Nibs w) (hg : ErrT w) :
    Calls Tryd.prog 14 #[.slice A l.length c] w fun e w' => DecodeEnd w l (dec l) e w' := by
  have hW := Blk.new w 25 Msg.zero.cells
  have hbW : Below w.heap.size w (w.alloc (.cells Msg.zero.cells 25)) := (Below.refl _ _).alloc (Nat.le_refl _) _
  have hD := decode_any (w.alloc (.cells Msg.zero.cells 25)) A c l ((h.shows.alloc (Nat.le_refl _) _).wider (by simp)).bytes hlen hc (hn.below hbW)
  have hgW := hg.below hbW
  have hsz : (w.alloc (.cells Msg.zero.cells 25)).heap.size = w.heap.size + 1 := by simp
  simp only [Msg.cells, Msg.zero] at hW hbW hD hsz hgW
  have hD' : Calls Tryd.prog 26 #[.slice A l.length c] (w.alloc (.cells #[.int .i64 0, .int .i64 0, .int .i64 0, .int .i64 0, .int .i64 0, .int .i64 0, .int .i64 0, .int .i64 0, .int .i64 0, .int .i64 0] 25)) fun e w' =>
      ∃ (m : Msg) (k n : Int) (ev : Value), e = .returned (.tuple #[.agg m.cells, .int .i64 k, ev]) ∧ Below (w.alloc (.cells #[.int .i64 0, .int .i64 0, .int .i64 0, .int .i64 0, .int .i64 0, .int .i64 0, .int .i64 0, .int .i64 0, .int .i64 0, .int .i64 0] 25)).heap.size (w.alloc (.cells #[.int .i64 0, .int .i64 0, .int .i64 0, .int .i64 0, .int .i64 0, .int .i64 0, .int .i64 0, .int .i64 0, .int .i64 0, .int .i64 0] 25)) w' ∧
        ((ev = .nilIface ∧ n = 0) ∨ ∃ q, ev = faultV q n) ∧ Hid (∀ wf, Below w.heap.size w wf → DecodeEnd w l (dec l) (.returned (.tuple #[.agg m.cells, .int .i64 k, .int .i64 n])) wf) := by
    refine hD.mono ?_
    intro e w' he
    rcases hd : dec l with _ | m
    · rw [hd] at he
      obtain ⟨⟨q, rfl⟩, hb⟩ := he
      exact ⟨Msg.zero, 0, decErr l, _, rfl, hb, .inr ⟨q, rfl⟩, fun wf hf => ⟨rfl, hf⟩⟩
    · rw [hd] at he
      obtain ⟨rfl, hb⟩ := he
      exact ⟨m, _, 0, _, rfl, hb, .inl ⟨rfl, rfl⟩, fun wf hf => ⟨rfl, hf⟩⟩
  clear hD
  go_enter Tryd.func14, Tryd.ntmps14
  go_wp2_with fail
  generalize w.alloc (.cells #[.int .i64 0, .int .i64 0, .int .i64 0, .int .i64 0, .int .i64 0, .int .i64 0, .int .i64 0, .int .i64 0, .int .i64 0, .int .i64 0] 25) = W at *
  replace hsz := Lib.hid hsz
  refine hD'.mono ?_
  clear hD'
  rintro e w3 ⟨m, k, n, ev, rfl, hb3, hev, HFin⟩
  have hW3 := hW.below hb3 (by have := hsz.out; omega)
  have hbel3 := hbW.trans (hb3.mono (by have := hsz.out; omega))
  have hs3 : w.heap.size < w3.heap.size := by have := hb3.size; have := hsz.out; omega
  have hg3 := hg.below hbel3
  clear hb3 hW hbW hgW
  go_wp2_with (first
    | (refine wpList_put rfl 25 (.tmp 5) (.tmp 11) rfl _ _ rfl rfl _ _ (Blk.new _ _ _) msg_size rfl (cells_one _) ?_; intro w4 hB4 hg4 hs4; replace hs4 := Lib.hid hs4))
  have hM4 := (hW3.alloc (.cells Msg.zero.cells 25)).grown hg4 (by simp; omega)
  have hbel4 := (hbel3.alloc hbel3.size (.cells Msg.zero.cells 25)).grown hg4 (hbel3.alloc hbel3.size _).size (fun k hk => by injection hk; omega)
  have hs4' : w3.heap.size < w4.heap.size := by rw [hs4.out]; simp
  have hgE := hg.below hbel4
  clear hW3 hg4 hg3
  obtain ⟨mk, mf, mt, ms, mb, mv, mts, mtc, mtn, mtd⟩ := m
  have c0 := hB4.cell 0
  have c1 := hB4.cell 1
  have c2 := hB4.cell 2
  have c3 := hB4.cell 3
  have c4 := hB4.cell 4
  have c5 := hB4.cell 5
  have c6 := hB4.cell 6
  have c7 := hB4.cell 7
  have c8 := hB4.cell 8
  have c9 := hB4.cell 9
  simp [Msg.cells] at c0 c1 c2 c3 c4 c5 c6 c7 c8 c9
  dsimp only [Msg.cells]
  have n0 : ¬ w.heap.size = w3.heap.size := by omega
  go_region_held3 (fun w' => w'.cell? ⟨w3.heap.size, 0, none⟩ = some (.int .i64 mk) ∧ w'.cell? ⟨w3.heap.size, 1, none⟩ = some (.int .i64 mf) ∧ w'.cell? ⟨w3.heap.size, 2, none⟩ = some (.int .i64 mt) ∧ w'.cell? ⟨w3.heap.size, 3, none⟩ = some (.int .i64 ms) ∧ w'.cell? ⟨w3.heap.size, 4, none⟩ = some (.int .i64 mb) ∧ w'.cell? ⟨w3.heap.size, 5, none⟩ = some (.int .i64 mv) ∧ w'.cell? ⟨w3.heap.size, 6, none⟩ = some (.int .i64 mts) ∧ w'.cell? ⟨w3.heap.size, 7, none⟩ = some (.int .i64 mtc) ∧ w'.cell? ⟨w3.heap.size, 8, none⟩ = some (.int .i64 mtn) ∧ w'.cell? ⟨w3.heap.size, 9, none⟩ = some (.int .i64 mtd))
    (first
      | go_keep
      | (have hx := hB5.cell; exact ⟨hx 0, hx 1, hx 2, hx 3, hx 4, hx 5, hx 6, hx 7, hx 8, hx 9⟩))
    (first
      | (go_at_call 27; refine (number_any ev n hev _ (by exact hgE)).mono ?_; rintro e w5 ⟨rfl, hb5⟩; have hB5 := Blk.below (w := w4.drew) (Blk.drew hB4) hb5 hs4'; have hM5 := Blk.below (w := w4.drew) (Blk.drew hM4) hb5 hM4.lt; have hbel5 := (Below.drew hbel4).trans (hb5.mono hbel4.size); have z0 : w5.cell? ⟨w.heap.size, 0, none⟩ = some (.int .i64 0) := hM5.cell 0; have z1 : w5.cell? ⟨w.heap.size, 1, none⟩ = some (.int .i64 0) := hM5.cell 1; have z2 : w5.cell? ⟨w.heap.size, 2, none⟩ = some (.int .i64 0) := hM5.cell 2; have z3 : w5.cell? ⟨w.heap.size, 3, none⟩ = some (.int .i64 0) := hM5.cell 3; have z4 : w5.cell? ⟨w.heap.size, 4, none⟩ = some (.int .i64 0) := hM5.cell 4; have z5 : w5.cell? ⟨w.heap.size, 5, none⟩ = some (.int .i64 0) := hM5.cell 5; have z6 : w5.cell? ⟨w.heap.size, 6, none⟩ = some (.int .i64 0) := hM5.cell 6; have z7 : w5.cell? ⟨w.heap.size, 7, none⟩ = some (.int .i64 0) := hM5.cell 7; have z8 : w5.cell? ⟨w.heap.size, 8, none⟩ = some (.int .i64 0) := hM5.cell 8; have z9 : w5.cell? ⟨w.heap.size, 9, none⟩ = some (.int .i64 0) := hM5.cell 9; have zf := hM5.frozen))
  go_wp2_with fail
  refine bodyPost_ret (results_cell_tmp2 rfl _ _ _ _ _ _ rfl (Blk.set10 hM5 _ _ _ _ _ _ _ _ _ _) Tryd.underlying25 rfl msg_size) rfl ?_
  exact HFin.out _ (by go_grown)
end Go.Proofs.YtppcdppplbpklaaDoor
