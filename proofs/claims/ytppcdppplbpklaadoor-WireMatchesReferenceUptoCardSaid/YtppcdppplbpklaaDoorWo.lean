/- Words for a row of bytes of the call's own: what is read from it, and one byte written into it. -/
import Derived.Test.YtppcdppplbpklaaDoorWl
namespace Go.Proofs.YtppcdppplbpklaaDoor
open Go.RowKit

theorem OwnB.form_ {w : World} {base : Nat} {v : Value} {l : List UInt8} (h : OwnB w base v l) (hp : 0 < l.length) : ∃ g cap, v = .slice (some ⟨g, 0, none⟩) l.length cap ∧ base ≤ g ∧ g < w.heap.size ∧ l.length ≤ cap := by
  rcases h.2 with ⟨_, h0⟩ | ⟨g, cap, cur, rfl, hb, hg, hcap, _⟩
  · omega
  · exact ⟨g, cap, rfl, hb, (Array.getElem?_eq_some_iff.1 hg).1, hcap⟩
theorem OwnB.rd {w : World} {base : Nat} {A : Option Addr} {n c : Nat} {l : List UInt8} (h : OwnB w base (.slice A n c) l) : RdB w w.heap.size A l ∧ n = l.length := by
  have hn : n = l.length := by
    rcases h.2 with ⟨h0, h1⟩ | ⟨g, cap, cur, hv, _⟩
    · injection h0 with _ h0 _; omega
    · injection hv with _ hv _
  subst hn
  exact ⟨(Shows.of_own h).bytes, rfl⟩
theorem OwnB.cell {w : World} {base g n c : Nat} {l : List UInt8} (h : OwnB w base (.slice (some ⟨g, 0, none⟩) n c) l) (j : Nat) (hj : j < l.length) : w.cell? ⟨g, j, none⟩ = some (.int .u8 ((l.getD j 0).toNat : Int)) ∧ w.frozen? ⟨g, j, none⟩ = false := by
  constructor
  · obtain ⟨ad, e, -, hc⟩ := h.rd.1 (by omega)
    obtain rfl := Option.some.inj e
    have := hc j hj
    rwa [show (⟨g, 0, none⟩ : Addr).add j = ⟨g, j, none⟩ from by unfold Addr.add; split <;> simp_all] at this
  · rcases h.2 with ⟨_, h0⟩ | ⟨g', cap, cur, hv, hb, hg, _⟩
    · omega
    · injection hv with hv _ _
      injection hv with hv
      injection hv with hv _ _
      subst hv
      exact frozen_of_row w _ j cur _ hg
theorem OwnB.set {w : World} {base g n c : Nat} {l : List UInt8} (h : OwnB w base (.slice (some ⟨g, 0, none⟩) n c) l) (j : Nat) (y : UInt8) :
    OwnB (w.setCell ⟨g, j, none⟩ (.int .u8 (y.toNat : Int))) base (.slice (some ⟨g, 0, none⟩) n c) (l.set j y) := by
  unfold OwnB at *
  rw [List.length_set]
  refine ⟨by rw [bcells_length, List.length_set, Nat.mul_one], ?_⟩
  rcases h.2 with ⟨h0, h1⟩ | ⟨g', cap, cur, hv, hb, hg, hc1, hc2, hc3, ht⟩
  · cases h0
  · refine Or.inr ⟨g', cap, cur.setIfInBounds j (.int .u8 (y.toNat : Int)), hv, hb, ?_, hc1, hc2, by rw [Array.size_setIfInBounds]; exact hc3, ?_⟩
    · injection hv with hv _ _
      injection hv with hv
      injection hv with hv _ _
      subst hv
      exact heap_setCell_same w _ j cur _ _ hg
    · rw [Array.toList_setIfInBounds, List.take_set, ht]
      simp [bcells, List.map_set]
theorem set_below {B : Nat} {a w : World} (h : Below B a w) {g : Nat} (hg : B ≤ g) (j : Nat) (u : Value) : Below B a (w.setCell ⟨g, j, none⟩ u) := h.setCell hg u
end Go.Proofs.YtppcdppplbpklaaDoor
