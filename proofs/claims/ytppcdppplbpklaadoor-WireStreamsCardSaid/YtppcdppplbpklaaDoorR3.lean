/- More kinds of arguments opened once: a slice of messages. -/
import Derived.Test.YtppcdppplbpklaaDoorR1
import Derived.Test.YtppcdppplbpklaaDoorWs
import Derived.Deep.Slices
namespace Go.Proofs.YtppcdppplbpklaaDoor
open Go.ChangeShapes Go.WideShapes Go.ChangeAt Go.RowKit
set_option maxRecDepth 100000
section
variable {H : Type} {enc : TypeId × Value → H} {w : World} {base : Nat} {sp : Nat → Bool} {held : Bool}

theorem open_msgs {r : Reach} {b0 : Nat} {v : Value} {d : DataW H} {ps : List MemPlace} (hval : Value.okWide Tryd.prog w r b0 44 v) (hd : DataW.Trod enc Tryd.prog w 0 (fun _ => true) held 44 v d ps) :
    ∃ (ms : List Msg) (A : Option Addr) (n c : Nat), v = .slice A n c ∧ ms.length = n ∧ Shows w w.heap.size 10 A n (mcells ms) := by
  obtain ⟨a, len, cap, rfl⟩ := okWide_slice Tryd.underlying44 hval
  obtain ⟨fuel, hf⟩ := hd
  have hcM : Tryd.prog.cellsOf 25 = 10 := by kernel_rfl
  have hin : Inhabited Msg := ⟨⟨0, 0, 0, 0, 0, 0, 0, 0, 0, 0⟩⟩
  rcases Go.Deep.open_slice Tryd.underlying44 hf with ⟨hcs, hx⟩ | ⟨ad, len', cap', m, n, D, Pl, hcs, _, hl, hm, hmm, hx, hi⟩
  · simp [Value.cells] at hcs
    obtain ⟨rfl, rfl, rfl⟩ := hcs
    exact ⟨[], none, 0, 0, rfl, rfl, Shows.nil_⟩
  · simp [Value.cells] at hcs
    obtain ⟨rfl, rfl, rfl⟩ := hcs
    simp only [if_true] at hmm
    rw [hcM] at hi
    obtain ⟨M, hM⟩ := Go.Deep.choose_lt (α := Msg) (n := len) (p := fun i msg => ∀ j, j < 10 → w.cell? ((ad.add (i * 10)).add j) = msg.cells.toList[j]?) (fun i hil => by
      obtain ⟨cs', h1, h2⟩ := hi i (by omega)
      obtain ⟨_, _, h3⟩ := World.cells?_some h1
      obtain ⟨⟨msg, rfl⟩, _⟩ := open_msg_cells h2
      exact ⟨msg, h3⟩)
    refine ⟨(List.range len).map M, some ad, len, cap, rfl, by simp, by rw [mcells_length]; simp, fun hpos => ⟨ad, rfl, ?_, fun j hj => ?_⟩⟩
    · have h0 := hM 0 hpos 0 (by omega)
      have e : w.cell? ad = some (.int .i64 (M 0).k) := by
        rw [show (ad.add (0 * 10)).add 0 = ad from by simp [Addr.add]] at h0
        rw [h0]; rfl
      exact World.block_lt_of_cell? w _ e
    · rw [mcells_length, List.length_map, List.length_range] at hj
      have hq : j / 10 < len := by omega
      have h0 := hM (j / 10) hq (j % 10) (by omega)
      rw [add_add', show j / 10 * 10 + j % 10 = j from by omega] at h0
      rw [h0]
      have h1 := mcells_at ((List.range len).map M) (j / 10) (by simpa using hq)
      have h2 : ((List.range len).map M)[j / 10]'(by simpa using hq) = M (j / 10) := by simp
      rw [h2] at h1
      rw [← h1, List.getElem?_take, if_pos (by omega), List.getElem?_drop, show j / 10 * 10 + j % 10 = j from by omega]
end
end Go.Proofs.YtppcdppplbpklaaDoor
