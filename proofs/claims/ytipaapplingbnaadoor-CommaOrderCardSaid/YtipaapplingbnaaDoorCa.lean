/- Words for memory: integers, vectors of six, named commas. -/
import Derived.WalkKit
import Derived.WalkSpells
import Derived.WalkLawsBesides
import Derived.Handy
import Derived.Deep.OwnRows
import Derived.Lib.Hide
import Derived.Test.YtipaapplingbnaaDoorMb
namespace Go.Proofs.YtipaapplingbnaaDoor
open Go.RowKit

def intOf : Value → Int
  | .int _ x => x
  | _ => 0
/-- A vector of six. -/
structure Vc where
  a : Int
  b : Int
  c : Int
  d : Int
  e : Int
  f : Int
deriving DecidableEq
def Vc.at (v : Vc) : Nat → Int
  | 0 => v.a
  | 1 => v.b
  | 2 => v.c
  | 3 => v.d
  | 4 => v.e
  | 5 => v.f
  | _ => 0
abbrev Vc.cells (v : Vc) : Array Value := #[.int .i64 v.a, .int .i64 v.b, .int .i64 v.c, .int .i64 v.d, .int .i64 v.e, .int .i64 v.f]
theorem Vc.ext_at {v u : Vc} (h : ∀ j, j < 6 → v.at j = u.at j) : v = u := by
  cases v; cases u
  have h0 := h 0 (by omega); have h1 := h 1 (by omega); have h2 := h 2 (by omega); have h3 := h 3 (by omega); have h4 := h 4 (by omega); have h5 := h 5 (by omega)
  simp only [Vc.at] at h0 h1 h2 h3 h4 h5
  subst h0 h1 h2 h3 h4 h5
  rfl
theorem Vc.cell (v : Vc) (j : Nat) (hj : j < 6) : v.cells[j]? = some (.int .i64 (v.at j)) := by
  rcases (show j = 0 ∨ j = 1 ∨ j = 2 ∨ j = 3 ∨ j = 4 ∨ j = 5 by omega) with rfl | rfl | rfl | rfl | rfl | rfl <;> rfl
/-- All exponents are small. -/
def Vc.ok (v : Vc) : Bool := decide (v.a.natAbs ≤ 48) && decide (v.b.natAbs ≤ 48) && decide (v.c.natAbs ≤ 48) && decide (v.d.natAbs ≤ 48) && decide (v.e.natAbs ≤ 48) && decide (v.f.natAbs ≤ 48)
theorem Vc.ok_iff (v : Vc) : v.ok = true ↔ ∀ j, j < 6 → (v.at j).natAbs ≤ 48 := by
  unfold Vc.ok
  simp only [Bool.and_eq_true, decide_eq_true_eq]
  constructor
  · rintro ⟨⟨⟨⟨⟨h0, h1⟩, h2⟩, h3⟩, h4⟩, h5⟩ j hj
    rcases (show j = 0 ∨ j = 1 ∨ j = 2 ∨ j = 3 ∨ j = 4 ∨ j = 5 by omega) with rfl | rfl | rfl | rfl | rfl | rfl <;> assumption
  · intro h
    exact ⟨⟨⟨⟨⟨h 0 (by omega), h 1 (by omega)⟩, h 2 (by omega)⟩, h 3 (by omega)⟩, h 4 (by omega)⟩, h 5 (by omega)⟩
set_option maxRecDepth 100000 in
set_option maxHeartbeats 1000000 in
theorem index_vec (v : Vc) (k : Nat) (hk : k < 6) (w : World) : (Instr.index 25 (.agg #[.int .i64 v.a, .int .i64 v.b, .int .i64 v.c, .int .i64 v.d, .int .i64 v.e, .int .i64 v.f]) (.int .i64 (k : Int))).run Tryd.prog w = .ok (.int .i64 (v.at k)) w := by
  rcases (show k = 0 ∨ k = 1 ∨ k = 2 ∨ k = 3 ∨ k = 4 ∨ k = 5 by omega) with rfl | rfl | rfl | rfl | rfl | rfl <;> rfl
set_option maxRecDepth 100000 in
set_option maxHeartbeats 1000000 in
theorem index_six (v : Vc) (k : Nat) (hk : k < 6) (w : World) : (Instr.index 24 (.agg #[.int .i64 v.a, .int .i64 v.b, .int .i64 v.c, .int .i64 v.d, .int .i64 v.e, .int .i64 v.f]) (.int .i64 (k : Int))).run Tryd.prog w = .ok (.int .i64 (v.at k)) w := by
  rcases (show k = 0 ∨ k = 1 ∨ k = 2 ∨ k = 3 ∨ k = 4 ∨ k = 5 by omega) with rfl | rfl | rfl | rfl | rfl | rfl <;> rfl

end Go.Proofs.YtipaapplingbnaaDoor
