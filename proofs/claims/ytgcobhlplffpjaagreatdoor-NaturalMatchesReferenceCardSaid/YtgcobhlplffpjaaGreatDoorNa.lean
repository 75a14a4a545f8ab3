/- Memory words: a slice of limbs read, a row of limbs written. -/
import Derived.WalkKit
import Derived.WalkSpells
import Derived.WalkLawsBesides
import Derived.Handy
import Derived.Below
import Derived.Deep.OwnRows
import Derived.Lib.Hide
import Derived.Test.YtgcobhlplffpjaaGreatDoorNp
import Derived.Test.YtgcobhlplffpjaaGreatDoorMa
import Derived.Test.YtgcobhlplffpjaaGreatDoorRows
namespace Go.Proofs.YtgcobhlplffpjaaGreatDoor
open Go.RowKit

/-- The slice at A reads as the limbs l, all below block B. -/
def RdW (w : World) (B : Nat) (A : Option Addr) (l : List Nat) : Prop :=
  0 < l.length → ∃ ad, A = some ad ∧ ad.block < B ∧ ∀ j, j < l.length → w.cell? (ad.add j) = some (.int .u32 ((l.getD j 0 : Nat) : Int))

theorem RdW.nil (w : World) (B : Nat) (A : Option Addr) : RdW w B A [] := fun h => absurd h (by simp)
theorem RdW.below {w w' : World} {B C : Nat} {A : Option Addr} {l : List Nat} (h : RdW w B A l) (hb : Below C w w') (hBC : B ≤ C) : RdW w' B A l := fun hl => by
  obtain ⟨ad, rfl, hlt, hc⟩ := h hl
  refine ⟨ad, rfl, hlt, fun j hj => ?_⟩
  rw [hb.cell (p := ad.add j) (by rw [add_block]; exact Nat.lt_of_lt_of_le hlt hBC)]
  exact hc j hj
theorem RdW.mono {w : World} {B C : Nat} {A : Option Addr} {l : List Nat} (h : RdW w B A l) (hBC : B ≤ C) : RdW w C A l := fun hl => by
  obtain ⟨ad, rfl, hlt, hc⟩ := h hl
  exact ⟨ad, rfl, Nat.lt_of_lt_of_le hlt hBC, hc⟩
theorem RdW.take {w : World} {B : Nat} {A : Option Addr} {l : List Nat} (h : RdW w B A l) (k : Nat) : RdW w B A (l.take k) := fun hl => by
  have hl' : 0 < l.length := by rw [List.length_take] at hl; omega
  obtain ⟨ad, rfl, hlt, hc⟩ := h hl'
  refine ⟨ad, rfl, hlt, fun j hj => ?_⟩
  rw [List.length_take] at hj
  rw [hc j (by omega)]
  have : (l.take k).getD j 0 = l.getD j 0 := by rw [List.getD_eq_getElem?_getD, List.getD_eq_getElem?_getD, List.getElem?_take, if_pos (by omega)]
  rw [this]

/-- Block g is a row of the limbs l. -/
def Arr (w : World) (g : Nat) (l : List Nat) : Prop := w.rowIs g 30 l.length (fun i => .int .u32 ((l.getD i 0 : Nat) : Int))

theorem Arr.rd {w : World} {g : Nat} {l : List Nat} (h : Arr w g l) {B : Nat} (hB : g < B) : RdW w B (some ⟨g, 0, none⟩) l := fun _ =>
  ⟨_, rfl, hB, fun j hj => by
    have := World.rowIs.cell h hj
    by_cases h0 : j = 0
    · subst h0; exact this
    · simpa [Addr.add, h0] using this⟩
theorem Arr.cell {w : World} {g : Nat} {l : List Nat} (h : Arr w g l) {i : Nat} (hi : i < l.length) : w.cell? ⟨g, i, none⟩ = some (.int .u32 ((l.getD i 0 : Nat) : Int)) := World.rowIs.cell h hi
theorem Arr.frozen {w : World} {g : Nat} {l : List Nat} (h : Arr w g l) (i : Nat) : w.frozen? ⟨g, i, none⟩ = false := World.rowIs.frozen h i
theorem Arr.lt {w : World} {g : Nat} {l : List Nat} (h : Arr w g l) : g < w.heap.size := World.rowIs.lt h
theorem getD_set (l : List Nat) (i j x : Nat) (hi : i < l.length) : (l.set i x).getD j 0 = if j = i then x else l.getD j 0 := by
  rw [List.getD_eq_getElem?_getD, List.getD_eq_getElem?_getD, List.getElem?_set]
  by_cases h : j = i
  · subst h; simp [hi]
  · rw [if_neg (fun e => h e.symm), if_neg h]
theorem Arr.set {w : World} {g : Nat} {l : List Nat} (h : Arr w g l) (i x : Nat) (hi : i < l.length) : Arr (w.setCell ⟨g, i, none⟩ (.int .u32 (x : Int))) g (l.set i x) := by
  unfold Arr
  rw [List.length_set]
  refine World.rowIs.congr (World.rowIs.set h i (.int .u32 (x : Int))) (fun j _ => ?_)
  rw [getD_set l i j x hi]
  split <;> rfl
theorem Arr.other {w : World} {g : Nat} {l : List Nat} (h : Arr w g l) {a : Addr} (ha : g ≠ a.block) (v : Value) : Arr (w.setCell a v) g l := World.rowIs.setOther h ha v
theorem Arr.alloc {w : World} {g : Nat} {l : List Nat} (h : Arr w g l) (o : Obj) : Arr (w.alloc o) g l := World.rowIs.alloc h o
theorem Arr.below {w w' : World} {g C : Nat} {l : List Nat} (h : Arr w g l) (hb : Below C w w') (hg : g < C) : Arr w' g l := World.rowIs.of_block h (hb.block g hg)
def zeros (n : Nat) : List Nat := List.replicate n 0
theorem zeros_length (n : Nat) : (zeros n).length = n := List.length_replicate
theorem Arr.made (w : World) (n : Nat) : Arr (w.alloc (.cells (madeCells #[.int .u32 0] n) 30)) w.heap.size (zeros n) := by
  unfold Arr
  rw [zeros_length]
  refine World.rowIs.congr (World.rowIs_made w (.int .u32 0) n 30) (fun j hj => ?_)
  simp [zeros, List.getD_eq_getElem?_getD, hj]
theorem info_u32 : (Tryz.prog.info? 30).map (fun i => (i.zero, i.size, i.bytes)) = some (some (.int .u32 0), 1, 4) := by kernel_rfl
theorem make_limbs (n : Nat) (hn : n ≤ 1000000) (w : World) : (Instr.makeSlice 23 (.int .i64 (n : Int)) (.int .i64 (n : Int))).run Tryz.prog w = .ok (.slice (some ⟨w.heap.size, 0, none⟩) n n) (w.alloc (.cells (madeCells #[.int .u32 0] n) 30)) :=
  run_make_row' 23 30 (.int .u32 0) 4 Tryz.underlying23 info_u32 rfl .i64 .i64 n (by omega) (by omega) w
theorem make_limbs' (m : Int) (n : Nat) (h : m = (n : Int)) (hn : n ≤ 1000000) (w : World) : (Instr.makeSlice 23 (.int .i64 m) (.int .i64 m)).run Tryz.prog w = .ok (.slice (some ⟨w.heap.size, 0, none⟩) n n) (w.alloc (.cells (madeCells #[.int .u32 0] n) 30)) := by
  subst h
  exact make_limbs n hn w

end Go.Proofs.YtgcobhlplffpjaaGreatDoor
