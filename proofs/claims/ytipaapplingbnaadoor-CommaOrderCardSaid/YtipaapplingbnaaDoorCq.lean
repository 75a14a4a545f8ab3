/- Words: masks of columns. -/
import Derived.Test.YtipaapplingbnaaDoorCp
namespace Go.Proofs.YtipaapplingbnaaDoor
open Go.RowKit Go.Deep

def colsTo (m j : Nat) : List Nat := (List.range j).filter fun c => m.testBit c
def colsFrom (m j : Nat) : List Nat := (List.range' j (6 - j)).filter fun c => m.testBit c
def cols (m : Nat) : List Nat := colsFrom m 0
theorem cols_facts : ∀ m : Fin 64, ∀ j : Fin 6, (m.val.testBit j.val = true → colsFrom m.val j.val = j.val :: colsFrom m.val (j.val + 1) ∧ colsTo m.val (j.val + 1) = colsTo m.val j.val ++ [j.val] ∧ cols (m.val - 2 ^ j.val) = colsTo m.val j.val ++ colsFrom m.val (j.val + 1) ∧ m.val - 2 ^ j.val < 64 ∧ bits .and .i64 ((m.val : Int) / 2 ^ j.val) 1 = 1 ∧ bits .andNot .i64 (m.val : Int) (2 ^ j.val) = ((m.val - 2 ^ j.val : Nat) : Int)) ∧
    (m.val.testBit j.val = false → colsFrom m.val j.val = colsFrom m.val (j.val + 1) ∧ colsTo m.val (j.val + 1) = colsTo m.val j.val ∧ bits .and .i64 ((m.val : Int) / 2 ^ j.val) 1 = 0) := by decide +kernel
theorem cols_ends : ∀ m : Fin 64, cols m.val = colsFrom m.val 0 ∧ colsFrom m.val 6 = [] ∧ colsTo m.val 0 = [] ∧ colsTo m.val 6 = cols m.val ∧ (∀ c ∈ cols m.val, c < 6) ∧ (cols m.val).length ≤ 6 := by decide +kernel

end Go.Proofs.YtipaapplingbnaaDoor
