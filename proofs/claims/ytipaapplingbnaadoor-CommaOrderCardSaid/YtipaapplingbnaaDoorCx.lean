/- The == of vectors. -/
import Derived.Test.YtipaapplingbnaaDoorCv
import Derived.DeepKeys
namespace Go.Proofs.YtipaapplingbnaaDoor
open Go.RowKit Go.Deep
theorem eq_int (d : Nat) (a b : Int) (w : World) : (Op.equalIn (d + 1) 3 (.int .i64 a) (.int .i64 b)).run Tryd.prog w = .ok (a == b) w := by
  simp [Op.equalIn, run_underlying Tryd.underlying3]
theorem items_int (d : Nat) (xs ys : Array Value) (w : World) : ∀ (is : List Nat) (f g : Nat → Int), (∀ i ∈ is, xs[i]? = some (.int .i64 (f i)) ∧ ys[i]? = some (.int .i64 (g i))) →
    (Op.eqItems (d + 1) 3 1 xs ys is).run Tryd.prog w = .ok (decide (∀ i ∈ is, f i = g i)) w
  | [], f, g, h => by simp [Op.eqItems]
  | i :: is, f, g, h => by
    have hi := h i (by simp)
    have hp : Program.plainKey Tryd.prog 3 = true := by kernel_rfl
    have p1 := run_part_plain (P := Tryd.prog) w hp hi.1
    have p2 := run_part_plain (P := Tryd.prog) w hp hi.2
    simp only [Op.eqItems, Sem.run_bind, Nat.mul_one, p1, p2, Result.andThen_ok, eq_int]
    by_cases e : f i = g i
    · have e' : (f i == g i) = true := by simpa using e
      simp only [e', Bool.not_true, Bool.false_eq_true, if_false]
      rw [items_int d xs ys w is f g (fun j hj => h j (by simp [hj]))]
      simp [e]
    · have e' : (f i == g i) = false := by simpa using e
      simp [e', e]
set_option maxRecDepth 20000 in
theorem eq_vec (d : Nat) (x y : Vc) (w : World) : (Op.equalIn (d + 1 + 1) 25 (.agg #[.int .i64 x.a, .int .i64 x.b, .int .i64 x.c, .int .i64 x.d, .int .i64 x.e, .int .i64 x.f]) (.agg #[.int .i64 y.a, .int .i64 y.b, .int .i64 y.c, .int .i64 y.d, .int .i64 y.e, .int .i64 y.f])).run Tryd.prog w = .ok (decide (x = y)) w := by
  obtain ⟨i, hi⟩ := info_of_underlying Tryd.underlying3
  have hc : Program.cellsOf Tryd.prog 3 = 1 := by kernel_rfl
  rw [run_equalIn_array w (d + 1) _ _ Tryd.underlying25 hi, hc]
  rw [items_int d _ _ w (List.range 6) (fun i => [x.a, x.b, x.c, x.d, x.e, x.f].getD i 0) (fun i => [y.a, y.b, y.c, y.d, y.e, y.f].getD i 0)]
  · congr 1
    cases x; cases y
    simp [List.range, List.range.loop]
  · intro i hi
    have : i < 6 := by simpa using hi
    have : i = 0 ∨ i = 1 ∨ i = 2 ∨ i = 3 ∨ i = 4 ∨ i = 5 := by omega
    rcases this with rfl | rfl | rfl | rfl | rfl | rfl <;> exact ⟨rfl, rfl⟩
theorem neq_vec (x y : Vc) (w : World) : (binOp .neq 25 (.agg #[.int .i64 x.a, .int .i64 x.b, .int .i64 x.c, .int .i64 x.d, .int .i64 x.e, .int .i64 x.f]) (.agg #[.int .i64 y.a, .int .i64 y.b, .int .i64 y.c, .int .i64 y.d, .int .i64 y.e, .int .i64 y.f])).run Tryd.prog w = .ok (.bool (!decide (x = y))) w := by
  have h := eq_vec 9998 x y w
  simp only [binOp, Op.equal, Sem.run_bind]
  rw [show Op.maxDepth = 9998 + 1 + 1 from rfl, h]
  rfl
theorem eql_vec (x y : Vc) (w : World) : (binOp .eql 25 (.agg #[.int .i64 x.a, .int .i64 x.b, .int .i64 x.c, .int .i64 x.d, .int .i64 x.e, .int .i64 x.f]) (.agg #[.int .i64 y.a, .int .i64 y.b, .int .i64 y.c, .int .i64 y.d, .int .i64 y.e, .int .i64 y.f])).run Tryd.prog w = .ok (.bool (decide (x = y))) w := by
  have h := eq_vec 9998 x y w
  simp only [binOp, Op.equal, Sem.run_bind]
  rw [show Op.maxDepth = 9998 + 1 + 1 from rfl, h]
  rfl
end Go.Proofs.YtipaapplingbnaaDoor
