/- Texts of the Notation chapter, together: Vg, Vh, Vi, Vj, Vl, Vm, Vn. -/
import Derived.Test.YtcjhihmaegagdaaGreatDoorG2
import Derived.Test.YtcjhihmaegagdaaGreatDoorH2
import Derived.Test.YtcjhihmaegagdaaGreatDoorH3
import Derived.Deep.OwnRows
set_option maxRecDepth 100000
set_option maxHeartbeats 8000000
set_option linter.unusedSimpArgs false
set_option linter.unusedVariables false
set_option linter.unusedSectionVars false
set_option linter.unnecessarySimpa false
namespace Go.Proofs.YtcjhihmaegagdaaGreatDoor
section
variable {α β : Type}
theorem insB_map {lt : α → α → Bool} {lt' : β → β → Bool} (g : α → β) (h : ∀ a b, lt' (g a) (g b) = lt a b) (x : α) (l : List α) : insB lt' (g x) (l.map g) = (insB lt x l).map g := by
 induction l with
 | nil => rfl
 | cons y l ih =>
  simp only [List.map_cons, insB, h]
  split
  ·
   rfl
  rw [ih]; rfl
theorem sortS_map {lt : α → α → Bool} {lt' : β → β → Bool} (g : α → β) (h : ∀ a b, lt' (g a) (g b) = lt a b) (l : List α) : sortS lt' (l.map g) = (sortS lt l).map g := by
 induction l using snocInd with
 | nil => rfl
 | snoc l x ih => rw [List.map_append, List.map_singleton, sortS_snoc, ih, sortS_snoc, insB_map g h]
theorem Swo.pull {lt : α → α → Bool} (h : Swo lt) (g : β → α) : Swo (fun a b => lt (g a) (g b)) :=
 ⟨fun x => h.irr _, fun x y z => h.trans _ _ _, fun x y z => h.neg _ _ _⟩
end
theorem nteLt_swo : Swo nteLt := by
 refine ⟨fun x => by simp [nteLt], fun x y z h1 h2 => ?_, fun x y z h1 h2 => ?_⟩
 ·
  simp only [nteLt, Bool.or_eq_true, Bool.and_eq_true, decide_eq_true_eq] at *
  omega
 simp only [nteLt, Bool.or_eq_false_iff, Bool.and_eq_false_iff, decide_eq_false_iff_not] at *
 omega
theorem parLt_swo : Swo parLt := by
 refine ⟨fun x => by simp [parLt], fun x y z h1 h2 => ?_, fun x y z h1 h2 => ?_⟩
 ·
  simp only [parLt, Bool.or_eq_true, Bool.and_eq_true, decide_eq_true_eq] at *
  omega
 simp only [parLt, Bool.or_eq_false_iff, Bool.and_eq_false_iff, decide_eq_false_iff_not] at *
 omega
theorem orderS_perm (l : List Nte) : (orderS l).Perm (List.range l.length) := sortS_perm _
theorem orderS_length (l : List Nte) : (orderS l).length = l.length := by rw [(orderS_perm l).length_eq, List.length_range]
theorem orderS_lt (l : List Nte) {i : Nat} (h : i ∈ orderS l) : i < l.length := List.mem_range.1 ((orderS_perm l).mem_iff.1 h)
theorem orderS_mem (l : List Nte) {i : Nat} (h : i < l.length) : i ∈ orderS l := (orderS_perm l).mem_iff.2 (List.mem_range.2 h)
theorem orderS_nodup (l : List Nte) : (orderS l).Nodup := (orderS_perm l).nodup_iff.2 List.nodup_range
theorem placeS_lt (l : List Nte) {i : Nat} (h : i < l.length) : placeS l i < l.length := by
 unfold placeS
 rw [← orderS_length l]
 exact List.idxOf_lt_length_iff.2 (orderS_mem l h)
theorem placeS_at (l : List Nte) {k : Nat} (h : k < l.length) : placeS l ((orderS l).getD k 0) = k := by
 have hk : k < (orderS l).length := by rw [orderS_length]; exact h
 have e : (orderS l).getD k 0 = (orderS l)[k] := by simp [List.getD, hk]
 unfold placeS
 rw [e]
 exact List.Nodup.idxOf_getElem (orderS_nodup l) k hk
theorem placeS_inj (l : List Nte) {i : Nat} (h : i < l.length) : (orderS l).getD (placeS l i) 0 = i := by
 have hk : placeS l i < (orderS l).length := by rw [orderS_length]; exact placeS_lt l h
 have e : (orderS l).getD (placeS l i) 0 = (orderS l)[placeS l i] := by simp [List.getD, hk]
 rw [e]
 exact List.getElem_idxOf hk
theorem tiesS_succ (l : List Nte) (k : Nat) : tiesS l (k + 1) = tieS (tiesS l k) k := by
 unfold tiesS
 rw [List.range_succ, List.foldl_append]
 rfl
theorem tieS_length (l : List Nte) (k : Nat) : (tieS l k).length = l.length := by
 unfold tieS
 split
 ·
  rfl
 split
 ·
  split
  ·
   simp
  rfl
 rfl
theorem tiesS_length (l : List Nte) (k : Nat) : (tiesS l k).length = l.length := by
 induction k with
 | zero => rfl
 | succ k ih => rw [tiesS_succ, tieS_length, ih]
end Go.Proofs.YtcjhihmaegagdaaGreatDoor
namespace Go.Proofs.YtcjhihmaegagdaaGreatDoor
open Go.RowKit Go.Deep
theorem insertion_par_none (W : World) (A : Option Addr) (cap : Nat) (fv : Value) :
  Calls Tryz.prog 145 #[.slice A 0 cap, .int .i64 0, .int .i64 0, fv] W fun e w' => e = .returned (.tuple #[]) ∧ w' = W := by
 go_enter Tryz.func145, Tryz.ntmps145
 go_wp2
 go_loopw [8] (fun s wx => s = .int .i64 1 ∧ wx = W) (fun _ _ => 0)
 case atStart => exact ⟨rfl, rfl⟩
 case round =>
  obtain ⟨rfl, rfl⟩ := hrel
  go_wp2
  go_end0
  exact ⟨rfl, rfl⟩
theorem stable_par_none (W : World) (A : Option Addr) (cap : Nat) (fv : Value) :
  Calls Tryz.prog 112 #[.slice A 0 cap, .int .i64 0, fv] W fun e w' => e = .returned (.tuple #[]) ∧ w' = W := by
 have HI := hid (insertion_par_none W A cap fv)
 go_enter Tryz.func112, Tryz.ntmps112
 go_wp2
 go_loopw [7, 8] (fun s t wx => s = .int .i64 0 ∧ t = .int .i64 20 ∧ wx = W) (fun _ _ _ => 0)
 case atStart => exact ⟨rfl, rfl, rfl⟩
 case round =>
  obtain ⟨rfl, rfl, rfl⟩ := hrel
  go_wp2_with (go_at_call 145; refine HI.out.mono ?_; rintro e w1 ⟨rfl, rfl⟩)
  go_loopw [6] (fun s wx => s = .int .i64 20 ∧ wx = w1) (fun _ _ => 0)
  case atStart => exact ⟨rfl, rfl⟩
  case round =>
   obtain ⟨rfl, rfl⟩ := hrel
   go_wp2
   go_end0
   exact ⟨rfl, rfl⟩
theorem sortStable_par_none (W : World) (A : Option Addr) (cap : Nat) (fv : Value) :
  Calls Tryz.prog 71 #[.slice A 0 cap, fv] W fun e w' => e = .returned (.tuple #[]) ∧ w' = W := by
 have HS := hid (stable_par_none W A cap fv)
 go_enter Tryz.func71, Tryz.ntmps71
 go_wp2_with (go_at_call 112; refine HS.out.mono ?_; rintro e w1 ⟨rfl, rfl⟩)
 go_end0
 exact ⟨rfl, rfl⟩
end Go.Proofs.YtcjhihmaegagdaaGreatDoor
namespace Go.Proofs.YtcjhihmaegagdaaGreatDoor
open Go.RowKit Go.Deep
theorem range_block {w w' : World} {b s : Nat} {cs : List Value} (e : w'.heap[b]? = w.heap[b]?) (h : w.rangeAt b s cs) : w'.rangeAt b s cs := fun j v hv => (World.cell?_of_block (a := ⟨b, s + j, none⟩) e).trans (h j v hv)
theorem there_block {w w' : World} {b s n : Nat} (e : w'.heap[b]? = w.heap[b]?) (h : w.there b s n) : w'.there b s n := fun j hj => by
 exact ⟨by rw [World.cell?_of_block (a := ⟨b, s + j, none⟩) e]; exact (h j hj).1, by rw [World.frozen?_of_block (a := ⟨b, s + j, none⟩) e]; exact (h j hj).2⟩
structure NtRow (w : World) (g : Nat) (l : List Nte) : Prop where
 cell : NotesAt w g l
 fr : ∀ i, i < l.length → w.there g (i * 10) 10
 lt : g < w.heap.size
theorem NtRow.block {w w' : World} {g : Nat} {l : List Nte} (h : NtRow w g l) (e : w'.heap[g]? = w.heap[g]?) : NtRow w' g l :=
 ⟨fun i hi => range_block e (h.cell i hi), fun i hi => there_block e (h.fr i hi), by
  have h1 := Array.getElem?_eq_some_iff.2 ⟨h.lt, rfl⟩
  rw [← e] at h1
  exact (Array.getElem?_eq_some_iff.1 h1).1⟩
theorem getD_set {α : Type} (l : List α) (i j : Nat) (x d : α) (hj : j < l.length) : (l.set i x).getD j d = if i = j then x else l.getD j d := by
 simp only [List.getD, List.getElem?_set]
 by_cases e : i = j
 ·
  subst e; simp [hj]
 simp [e]
theorem NtRow.set {w : World} {g : Nat} {l : List Nte} (h : NtRow w g l) (i : Nat) (x : Nte) (hi : i < l.length) : NtRow (w.setCells g (i * 10) x.cs) g (l.set i x) := by
 refine ⟨fun j hj => ?_, fun j hj => World.there_setCells (h.fr j (by simpa using hj)) _ _ _, by rw [setCells_size]; exact h.lt⟩
 have hj' : j < l.length := by simpa using hj
 rw [getD_set l i j x nte0 hj']
 by_cases e : i = j
 ·
  subst e
  rw [if_pos rfl]
  exact World.rangeAt_setCells_same w g (i * 10) x.cs (h.fr i hi)
 rw [if_neg e]
 refine World.rangeAt_setCells_apart (h.cell j hj') _ _ _ ?_
 have h1 := Nte.cs_len (l.getD j nte0)
 have h2 := Nte.cs_len x
 right; omega
theorem NtRow.place {w : World} {g : Nat} {l : List Nte} (h : NtRow w g l) (i : Nat) (v : Vc) (hi : i < l.length) :
  NtRow (w.setCells g (i * 10 + 3) v.cells.toList) g (l.set i { (l.getD i nte0) with place := v }) := by
 refine ⟨fun j hj => ?_, fun j hj => World.there_setCells (h.fr j (by simpa using hj)) _ _ _, by rw [setCells_size]; exact h.lt⟩
 have hj' : j < l.length := by simpa using hj
 rw [getD_set l i j _ nte0 hj']
 have t3 : w.there g (i * 10 + 3) 6 := fun k hk => by
  have := h.fr i hi (3 + k) (by omega)
  rw [← Nat.add_assoc] at this
  exact this
 by_cases e : i = j
 ·
  subst e
  rw [if_pos rfl]
  intro k u hu
  have hk : k < 10 := by
   have := (List.getElem?_eq_some_iff.1 hu).1
   rw [Nte.cs_len] at this
   exact this
  by_cases hin : 3 ≤ k ∧ k < 9
  ·
   have := World.rangeAt_setCells_same w g (i * 10 + 3) v.cells.toList t3 (k - 3) u (by
    rw [← hu]
    rcases (show k = 3 ∨ k = 4 ∨ k = 5 ∨ k = 6 ∨ k = 7 ∨ k = 8 by omega) with rfl | rfl | rfl | rfl | rfl | rfl <;> rfl)
   rw [show i * 10 + 3 + (k - 3) = i * 10 + k by omega] at this
   exact this
  rw [World.cell?_setCells_out g v.cells.toList (i * 10 + 3) w ⟨g, i * 10 + k, none⟩ (fun _ _ => by
   show i * 10 + k < i * 10 + 3 ∨ i * 10 + 3 + 6 ≤ i * 10 + k
   omega)]
  refine h.cell i hj' k u ?_
  rw [← hu]
  rcases (show k = 0 ∨ k = 1 ∨ k = 2 ∨ k = 9 by omega) with rfl | rfl | rfl | rfl <;> rfl
 rw [if_neg e]
 refine World.rangeAt_setCells_apart (h.cell j hj') _ _ _ ?_
 have h1 := Nte.cs_len (l.getD j nte0)
 have h2 : v.cells.toList.length = 6 := rfl
 right; omega
end Go.Proofs.YtcjhihmaegagdaaGreatDoor
namespace Go.Proofs.YtcjhihmaegagdaaGreatDoor
open Go.RowKit Go.Deep
def icells (v : List Int) : List Value := v.map fun x => Value.int .i64 x
theorem icells_at (v : List Int) (j : Nat) (hj : j < v.length) : (icells v)[j]? = some (.int .i64 (v.getD j 0)) := by
 simp [icells, List.getD, hj]
def IRow (w : World) (g : Nat) (l : List Int) : Prop := Blk w g 3 (icells l).toArray
theorem IRow.cell {w : World} {g : Nat} {l : List Int} (h : IRow w g l) (k : Nat) (hk : k < l.length) : w.cell? ⟨g, k, none⟩ = some (.int .i64 (l.getD k 0)) := by
 rw [Blk.cell h, List.getElem?_toArray, icells_at l k hk]
theorem IRow.frozen {w : World} {g : Nat} {l : List Int} (h : IRow w g l) (i : Nat) : w.frozen? ⟨g, i, none⟩ = false := Blk.frozen h i
theorem IRow.put {w : World} {g : Nat} {l : List Int} (h : IRow w g l) (k : Nat) (x : Int) : IRow (w.setCell ⟨g, k, none⟩ (.int .i64 x)) g (l.set k x) := by
 have := Blk.set_ h k (.int .i64 x)
 simp only [List.setIfInBounds_toArray] at this
 unfold IRow
 rw [show icells (l.set k x) = (icells l).set k (.int .i64 x) by simp [icells, List.map_set]]
 exact this
theorem IRow.block {w w' : World} {g : Nat} {l : List Int} (h : IRow w g l) (e : w'.heap[g]? = w.heap[g]?) : IRow w' g l := e.trans h
theorem made_zero (N : Nat) (z : Array Value) (hz : ∀ i, i < z.size → z[i]! = .int .i64 0) (hs : 0 < z.size) : madeCells z N = (List.replicate N (Value.int .i64 0)).toArray := by
 refine Array.ext (by simp [size_madeCells]) fun i h1 h2 => ?_
 simp [madeCells]
 exact hz _ (Nat.mod_lt _ hs)
theorem int_info : (Tryz.prog.info? 3).map (fun i => (i.zero, i.size, i.bytes)) = some (some (.int .i64 0), 1, 8) := by kernel_rfl
theorem make_ints (n : Nat) (hn : n ≤ 1000000) (w : World) : (Instr.makeSlice 24 (.int .i64 (n : Int)) (.int .i64 (n : Int))).run Tryz.prog w = .ok (.slice (some ⟨w.heap.size, 0, none⟩) n n) (w.alloc (.cells (icells (List.replicate n 0)).toArray 3)) := by
 have := run_make_row' (P := Tryz.prog) 24 3 (.int .i64 0) 8 Tryz.underlying24 int_info rfl .i64 .i64 n (by omega) (by omega) w
 rw [made_zero _ _ (fun i h => by
  obtain rfl : i = 0 := by have : i < 1 := h; omega
  rfl) (by simp)] at this
 rw [this]
 simp [icells]
theorem make_notes (n : Nat) (hn : n ≤ 1000000) (w : World) : (Instr.makeSlice 22 (.int .i64 (n : Int)) (.int .i64 (n : Int))).run Tryz.prog w = .ok (.slice (some ⟨w.heap.size, 0, none⟩) n n) (w.alloc (.cells (madeCells nte0.cells (n * 10)) 55)) := by
 have hinf := info_N
 cases hq : Tryz.prog.info? 55 with
 | none => rw [hq] at hinf; cases hinf
 | some i =>
  rw [hq] at hinf
  simp only [Option.map_some, Option.some.injEq, Prod.mk.injEq] at hinf
  obtain ⟨hz, hs, hb⟩ := hinf
  have hr := run_make (P := Tryz.prog) w 22 55 i _ Tryz.underlying22 hq hz .i64 .i64 n n (by omega) (Int.le_refl _) (by rw [hb]; omega) (by omega)
  simp only [Int.toNat_natCast, hs] at hr
  exact hr
theorem made_notes (w : World) (n : Nat) : NtRow (w.alloc (.cells (madeCells nte0.cells (n * 10)) 55)) w.heap.size (List.replicate n nte0) := by
 have b := Blk.new w 55 (madeCells nte0.cells (n * 10))
 have hsz : (madeCells nte0.cells (n * 10)).size = n * 10 := size_madeCells _ _
 have at_ : ∀ i j, i < n → j < 10 → (madeCells nte0.cells (n * 10))[i * 10 + j]? = nte0.cells[j]? := fun i j hi hj => by
  have h1 : i * 10 + j < n * 10 := by omega
  rw [Array.getElem?_eq_getElem (by rw [hsz]; exact h1)]
  simp [madeCells]
  rcases (show j = 0 ∨ j = 1 ∨ j = 2 ∨ j = 3 ∨ j = 4 ∨ j = 5 ∨ j = 6 ∨ j = 7 ∨ j = 8 ∨ j = 9 by omega) with rfl | rfl | rfl | rfl | rfl | rfl | rfl | rfl | rfl | rfl <;> rfl
 refine ⟨fun i hi => ?_, fun i hi => ?_, by simp⟩
 ·
  have hi' : i < n := by simpa using hi
  rw [show (List.replicate n nte0).getD i nte0 = nte0 by simp [List.getD, List.getElem?_replicate, hi']]
  intro j v hv
  have hj : j < 10 := by
   have := (List.getElem?_eq_some_iff.1 hv).1
   rw [Nte.cs_len] at this
   exact this
  rw [b.cell, at_ i j hi' hj, ← hv]
  simp [Nte.cs]
 have hi' : i < n := by simpa using hi
 intro j hj
 refine ⟨?_, b.frozen _⟩
 rw [b.cell, Array.getElem?_eq_getElem (by rw [hsz]; omega)]
 rfl
end Go.Proofs.YtcjhihmaegagdaaGreatDoor
namespace Go.Proofs.YtcjhihmaegagdaaGreatDoor
open Go.RowKit Go.Deep
structure Two (a b : Nat) (w w' : World) : Prop where
 os : w'.os = w.os
 tape : w'.tape = w.tape
 output : w'.output = w.output
 size : w.heap.size ≤ w'.heap.size
 block : ∀ k, k ≠ a → k ≠ b → k < w.heap.size → w'.heap[k]? = w.heap[k]?
theorem Two.refl (a b : Nat) (w : World) : Two a b w w := ⟨rfl, rfl, rfl, Nat.le_refl _, fun _ _ _ _ => rfl⟩
theorem Two.left {a b : Nat} {u w w' : World} (h : Two a b u w) (o : Only a w w') : Two a b u w' :=
 ⟨o.os.trans h.os, o.tape.trans h.tape, o.output.trans h.output, Nat.le_trans h.size o.size, fun k h1 h2 hl => (o.block k h1 (Nat.lt_of_lt_of_le hl h.size)).trans (h.block k h1 h2 hl)⟩
theorem Two.right {a b : Nat} {u w w' : World} (h : Two a b u w) (o : Only b w w') : Two a b u w' :=
 ⟨o.os.trans h.os, o.tape.trans h.tape, o.output.trans h.output, Nat.le_trans h.size o.size, fun k h1 h2 hl => (o.block k h2 (Nat.lt_of_lt_of_le hl h.size)).trans (h.block k h1 h2 hl)⟩
theorem Two.below {a b B : Nat} {w w' : World} (h : Two a b w w') (ha : B ≤ a) (hb : B ≤ b) (hs : B ≤ w.heap.size) : Below B w w' := ⟨h.os, h.tape, h.output, h.size, fun k hk => h.block k (by omega) (by omega) (by omega)⟩
theorem Two.blk {a b x : Nat} {w w' : World} {t : TypeId} {cs : Array Value} (h : Two a b w w') (hb : Blk w x t cs) (h1 : x ≠ a) (h2 : x ≠ b) : Blk w' x t cs := (h.block x h1 h2 hb.lt).trans hb
def plTo (l : List Nte) (k : Nat) : List Int := (List.range l.length).map fun t => if placeS l t < k then (placeS l t : Int) else 0
def ntTo (l : List Nte) (k : Nat) : List Nte := (List.range l.length).map fun t => if t < k then l.getD ((orderS l).getD t 0) nte0 else nte0
theorem plTo_length (l : List Nte) (k : Nat) : (plTo l k).length = l.length := by simp [plTo]
theorem ntTo_length (l : List Nte) (k : Nat) : (ntTo l k).length = l.length := by simp [ntTo]
theorem plTo_zero (l : List Nte) : plTo l 0 = List.replicate l.length 0 := by
 refine List.ext_getElem? fun j => ?_
 by_cases h : j < l.length
 ·
  simp [plTo, h]
 simp [plTo, List.getElem?_replicate, h]
theorem ntTo_zero (l : List Nte) : ntTo l 0 = List.replicate l.length nte0 := by
 refine List.ext_getElem? fun j => ?_
 by_cases h : j < l.length
 ·
  simp [ntTo, h]
 simp [ntTo, List.getElem?_replicate, h]
theorem order_lt (l : List Nte) {k : Nat} (h : k < l.length) : (orderS l).getD k 0 < l.length := by
 have hk : k < (orderS l).length := by rw [orderS_length]; exact h
 have e : (orderS l).getD k 0 = (orderS l)[k] := by simp [List.getD, hk]
 rw [e]
 exact orderS_lt l (List.getElem_mem hk)
theorem plTo_set (l : List Nte) (k : Nat) (h : k < l.length) : (plTo l k).set ((orderS l).getD k 0) (k : Int) = plTo l (k + 1) := by
 refine List.ext_getElem? fun j => ?_
 rw [List.getElem?_set]
 by_cases hj : j < l.length
 ·
  by_cases e : (orderS l).getD k 0 = j
  ·
   rw [if_pos e]
   have hp : placeS l j = k := by rw [← e]; exact placeS_at l h
   have h2 : (orderS l).getD k 0 < (plTo l k).length := by rw [plTo_length, e]; exact hj
   rw [e] at h2
   rw [if_pos (by rw [e]; exact h2)]
   simp only [plTo, List.getElem?_map, List.getElem?_range hj, Option.map_some, hp]
   rw [if_pos (Nat.lt_succ_self k)]
  rw [if_neg e]
  have hp : placeS l j ≠ k := fun e2 => e (by rw [← e2]; exact placeS_inj l hj)
  simp only [plTo, List.getElem?_map, List.getElem?_range hj, Option.map_some]
  by_cases h2 : placeS l j < k
  ·
   rw [if_pos h2, if_pos (by omega)]
  rw [if_neg h2, if_neg (by omega)]
 have h1 : (plTo l k)[j]? = none := List.getElem?_eq_none (by rw [plTo_length]; omega)
 have h2 : (plTo l (k + 1))[j]? = none := List.getElem?_eq_none (by rw [plTo_length]; omega)
 have h3 : (orderS l).getD k 0 ≠ j := fun e => by have := order_lt l h; omega
 rw [if_neg h3, h1, h2]
theorem ntTo_set (l : List Nte) (k : Nat) (h : k < l.length) : (ntTo l k).set k (l.getD ((orderS l).getD k 0) nte0) = ntTo l (k + 1) := by
 refine List.ext_getElem? fun j => ?_
 rw [List.getElem?_set]
 by_cases hj : j < l.length
 ·
  by_cases e : k = j
  ·
   subst e
   rw [if_pos rfl, if_pos (by rw [ntTo_length]; exact h)]
   simp only [ntTo, List.getElem?_map, List.getElem?_range hj, Option.map_some]
   rw [if_pos (Nat.lt_succ_self k)]
  rw [if_neg e]
  simp only [ntTo, List.getElem?_map, List.getElem?_range hj, Option.map_some]
  by_cases h2 : j < k
  ·
   rw [if_pos h2, if_pos (by omega)]
  rw [if_neg h2, if_neg (by omega)]
 have h1 : (ntTo l k)[j]? = none := List.getElem?_eq_none (by rw [ntTo_length]; omega)
 have h2 : (ntTo l (k + 1))[j]? = none := List.getElem?_eq_none (by rw [ntTo_length]; omega)
 rw [if_neg (by omega), h1, h2]
theorem ntTo_full (l : List Nte) : ntTo l l.length = (orderS l).map fun i => l.getD i nte0 := by
 refine List.ext_getElem? fun j => ?_
 by_cases hj : j < l.length
 ·
  have hk : j < (orderS l).length := by rw [orderS_length]; exact hj
  simp only [ntTo, List.getElem?_map, List.getElem?_range hj, Option.map_some]
  rw [if_pos hj, List.getElem?_eq_getElem hk]
  simp [List.getD, hk]
 rw [List.getElem?_eq_none (by rw [ntTo_length]; omega), List.getElem?_eq_none (by rw [List.length_map, orderS_length]; omega)]
theorem plTo_full (l : List Nte) {t : Nat} (h : t < l.length) : (plTo l l.length).getD t 0 = (placeS l t : Int) := by
 have := placeS_lt l h
 simp [plTo, List.getD, h, this]
theorem NtRow.placed {w : World} {g : Nat} {l : List Nte} (h : NtRow w g l) (j : Nat) (hj : j < l.length) : w.rangeAt g (j * 10 + 3) (l.getD j nte0).place.cells.toList := fun i v hv => by
 have hi : i < 6 := (List.getElem?_eq_some_iff.1 hv).1
 have := h.cell j hj (3 + i) v (by
  rw [← hv]
  rcases (show i = 0 ∨ i = 1 ∨ i = 2 ∨ i = 3 ∨ i = 4 ∨ i = 5 by omega) with rfl | rfl | rfl | rfl | rfl | rfl <;> rfl)
 rw [← Nat.add_assoc] at this
 exact this
theorem NtRow.there3 {w : World} {g : Nat} {l : List Nte} (h : NtRow w g l) (j : Nat) (hj : j < l.length) : w.there g (j * 10 + 3) 6 := fun k hk => by
 have := h.fr j hj (3 + k) (by omega)
 rw [← Nat.add_assoc] at this
 exact this
theorem before_lt {l : List Nte} {x : Nte} {j : Nat} (h : beforeS l x = some j) : j < l.length := by
 rw [beforeS_eq, List.findIdx?_eq_some_iff_getElem] at h
 exact h.1
end Go.Proofs.YtcjhihmaegagdaaGreatDoor
namespace Go.Proofs.YtcjhihmaegagdaaGreatDoor
open Go.RowKit Go.Deep
structure RowAt {α : Type} (cf : α → List Value) (k : Nat) (d0 : α) (w : World) (q : Nat) (l : List α) : Prop where
 cell : ∀ i, i < l.length → w.rangeAt q (i * k) (cf (l.getD i d0))
 fr : ∀ i, i < l.length → w.there q (i * k) k
 lt : q < w.heap.size
section
variable {α : Type} {cf : α → List Value} {k : Nat} {d0 : α} {w w' : World} {q : Nat} {l : List α}
theorem RowAt.shows (h : RowAt cf k d0 w q l) (hk : ∀ x, (cf x).length = k) (hk0 : 0 < k) : Shows w w.heap.size k (some ⟨q, 0, none⟩) l.length (rcells cf l) := by
 refine ⟨rcells_length cf k hk l, fun _ => ⟨_, rfl, h.lt, fun j hj => ?_⟩⟩
 rw [rcells_length cf k hk] at hj
 have hi : j / k < l.length := (Nat.div_lt_iff_lt_mul hk0).2 hj
 have hr := Nat.mod_lt j hk0
 have e : j / k * k + j % k = j := by rw [Nat.mul_comm]; exact Nat.div_add_mod j k
 rw [Addr.add_mid, Nat.zero_add]
 have h1 := rcells_at cf k hk l (j / k) (j % k) hi hr
 rw [e] at h1
 rw [h1]
 have hlen : j % k < (cf l[j / k]).length := by rw [hk]; exact hr
 have := h.cell (j / k) hi (j % k) ((cf l[j / k])[j % k]) (by rw [getD_at hi]; exact List.getElem?_eq_getElem hlen)
 rw [e] at this
 rw [this]
 exact (List.getElem?_eq_getElem hlen).symm
theorem RowAt.block (h : RowAt cf k d0 w q l) (e : w'.heap[q]? = w.heap[q]?) : RowAt cf k d0 w' q l :=
 ⟨fun i hi => range_block e (h.cell i hi), fun i hi => there_block e (h.fr i hi), by
  have h1 := Array.getElem?_eq_some_iff.2 ⟨h.lt, rfl⟩
  rw [← e] at h1
  exact (Array.getElem?_eq_some_iff.1 h1).1⟩
theorem RowAt.set (h : RowAt cf k d0 w q l) (hk : ∀ x, (cf x).length = k) (i : Nat) (x : α) (hi : i < l.length) : RowAt cf k d0 (w.setCells q (i * k) (cf x)) q (l.set i x) := by
 refine ⟨fun j hj => ?_, fun j hj => World.there_setCells (h.fr j (by simpa using hj)) _ _ _, by rw [setCells_size]; exact h.lt⟩
 have hj' : j < l.length := by simpa using hj
 rw [getD_set l i j x d0 hj']
 have hf := h.fr i hi
 rw [← hk x] at hf
 by_cases e : i = j
 ·
  subst e
  rw [if_pos rfl]
  have := World.rangeAt_setCells_same w q (i * k) (cf x) (by rw [← hk x] at *; exact hf)
  rw [← hk x] at *
  exact this
 rw [if_neg e]
 refine World.rangeAt_setCells_apart (h.cell j hj') _ _ _ ?_
 rw [hk, hk]
 right
 rcases Nat.lt_or_gt_of_ne e with h1 | h1
 ·
  have : i * k + k ≤ j * k := by rw [← Nat.succ_mul]; exact Nat.mul_le_mul_right _ h1
  omega
 have : j * k + k ≤ i * k := by rw [← Nat.succ_mul]; exact Nat.mul_le_mul_right _ h1
 omega
theorem RowAt.of_cells {e : TypeId} {cur : Array Value} {cap : Nat} (hk : ∀ x, (cf x).length = k) (hg : w.heap[q]? = some (.cells cur e (0, 0))) (hc : l.length ≤ cap) (hs : cur.size = cap * k) (ht : cur.toList.take (l.length * k) = rcells cf l) : RowAt cf k d0 w q l := by
 have hB : Blk w q e cur := hg
 have hle : ∀ i j, i < l.length → j < k → i * k + j < l.length * k := fun i j hi hj => by
  have : i * k + k ≤ l.length * k := by rw [← Nat.succ_mul]; exact Nat.mul_le_mul_right _ hi
  omega
 have hle2 : l.length * k ≤ cap * k := Nat.mul_le_mul_right _ hc
 have hat : ∀ i j (hi : i < l.length), j < k → cur[i * k + j]? = (cf l[i])[j]? := fun i j hi hj => by
  rw [← rcells_at cf k hk l i j hi hj, ← ht, List.getElem?_take, if_pos (hle i j hi hj)]
  simp
 refine ⟨fun i hi j v hv => ?_, fun i hi j hj => ⟨?_, hB.frozen _⟩, hB.lt⟩
 ·
  have hj : j < k := by
   have := (List.getElem?_eq_some_iff.1 hv).1
   rw [hk] at this
   exact this
  rw [hB.cell, hat i j hi hj, ← hv, getD_at hi]
 rw [hB.cell, hat i j hi hj]
 have : j < (cf l[i]).length := by rw [hk]; exact hj
 rw [List.getElem?_eq_getElem this]
 rfl
end
def par0 : Par := ⟨0, 0, vc0, 0⟩
def PRow (w : World) (B : Nat) (v : Value) (l : List Par) : Prop := ∃ A c, v = .slice A l.length c ∧ l.length ≤ c ∧ ((A = none ∧ l = []) ∨ ∃ q, A = some ⟨q, 0, none⟩ ∧ B ≤ q ∧ RowAt Par.cs 9 par0 w q l)
theorem PRow.of_own {w : World} {B : Nat} {v : Value} {l : List Par} (h : OwnP w B v l) : PRow w B v l := by
 have h' := h
 rcases h'.2 with ⟨rfl, h0⟩ | ⟨g, cap, cur, rfl, hB, hg, hc, -, hs, ht⟩
 ·
  obtain rfl := List.eq_nil_of_length_eq_zero h0
  exact ⟨none, 0, rfl, Nat.le_refl _, Or.inl ⟨rfl, rfl⟩⟩
 exact ⟨_, cap, rfl, hc, Or.inr ⟨g, rfl, hB, RowAt.of_cells Par.cs_len hg hc hs ht⟩⟩
theorem PRow.rd {w : World} {B : Nat} {v : Value} {l : List Par} (h : PRow w B v l) : ∃ A c, v = .slice A l.length c ∧ l.length ≤ c ∧ RdP w w.heap.size A l := by
 obtain ⟨A, c, rfl, hc, ⟨rfl, rfl⟩ | ⟨q, rfl, -, hr⟩⟩ := h
 ·
  exact ⟨none, c, rfl, hc, RdP.nil _ _ _⟩
 exact ⟨_, c, rfl, hc, hr.shows Par.cs_len (by omega)⟩
theorem PRow.kept {w w' : World} {B : Nat} {v : Value} {l : List Par} {r : Option Nat} (h : PRow w B v l) (hg : w.grownBy w' r) (hne : v.ownBlock = none ∨ v.ownBlock ≠ r) : PRow w' B v l := by
 obtain ⟨A, c, rfl, hc, ⟨rfl, rfl⟩ | ⟨q, rfl, hB, hr⟩⟩ := h
 ·
  exact ⟨none, c, rfl, hc, Or.inl ⟨rfl, rfl⟩⟩
 exact ⟨_, c, rfl, hc, Or.inr ⟨q, rfl, hB, hr.block (hg.block q hr.lt (by
  rcases hne with hne | hne
  ·
   cases hne
  exact hne))⟩⟩
def CRow (w : World) (B : Nat) (v : Value) (l : List Int) : Prop := ∃ A c, v = .slice A l.length c ∧ l.length ≤ c ∧ ((A = none ∧ l = []) ∨ ∃ q, A = some ⟨q, 0, none⟩ ∧ B ≤ q ∧ RowAt Itg.cs 1 ⟨0⟩ w q (itg l))
theorem itg_length (l : List Int) : (itg l).length = l.length := by simp [itg]
theorem itg_getD (l : List Int) (i : Nat) : (itg l).getD i ⟨0⟩ = ⟨l.getD i 0⟩ := by
 simp only [itg, List.getD, List.getElem?_map]
 cases l[i]? <;> rfl
theorem CRow.of_own {w : World} {B : Nat} {v : Value} {l : List Int} (h : OwnC w B v (itg l)) : CRow w B v l := by
 have h' := h
 rcases h'.2 with ⟨rfl, h0⟩ | ⟨g, cap, cur, rfl, hB, hg, hc, -, hs, ht⟩
 ·
  rw [itg_length] at h0
  obtain rfl := List.eq_nil_of_length_eq_zero h0
  exact ⟨none, 0, rfl, Nat.le_refl _, Or.inl ⟨rfl, rfl⟩⟩
 rw [itg_length] at hc
 exact ⟨_, cap, by rw [itg_length], hc, Or.inr ⟨g, rfl, hB, RowAt.of_cells Itg.cs_len hg (by rw [itg_length]; exact hc) hs ht⟩⟩
theorem CRow.rd {w : World} {B : Nat} {v : Value} {l : List Int} (h : CRow w B v l) : ∃ A c, v = .slice A l.length c ∧ l.length ≤ c ∧ RdC w w.heap.size A (itg l) := by
 obtain ⟨A, c, rfl, hc, ⟨rfl, rfl⟩ | ⟨q, rfl, -, hr⟩⟩ := h
 ·
  exact ⟨none, c, rfl, hc, RdC.nil _ _ _⟩
 exact ⟨_, c, rfl, hc, hr.shows Itg.cs_len (by omega)⟩
theorem CRow.kept {w w' : World} {B : Nat} {v : Value} {l : List Int} {r : Option Nat} (h : CRow w B v l) (hg : w.grownBy w' r) (hne : v.ownBlock = none ∨ v.ownBlock ≠ r) : CRow w' B v l := by
 obtain ⟨A, c, rfl, hc, ⟨rfl, rfl⟩ | ⟨q, rfl, hB, hr⟩⟩ := h
 ·
  exact ⟨none, c, rfl, hc, Or.inl ⟨rfl, rfl⟩⟩
 exact ⟨_, c, rfl, hc, Or.inr ⟨q, rfl, hB, hr.block (hg.block q hr.lt (by
  rcases hne with hne | hne
  ·
   cases hne
  exact hne))⟩⟩
theorem only_grown {b : Nat} {w w' : World} (o : Only b w w') : w.grownBy w' (some b) := ⟨o.os, o.tape, o.output, o.size, fun k hk e => o.block k (fun e' => e (by rw [e'])) hk⟩
theorem seg_getD {α : Type} (l : List α) (d : α) : seg (fun t => l.getD t d) 0 l.length = l := seg_eq (by simp) fun t ht => by
 have : t < l.length := by omega
 simp [List.getD, this]
theorem sort_pairs (W : World) (B : Nat) (v : Value) (l : List Par) (h : PRow W B v l) (hn : l.length < 1099511627776) :
  Calls Tryz.prog 71 #[v, .func (.func 72) #[] #[]] W fun e w' => e = .returned (.tuple #[]) ∧ PRow w' B v (sortS parLt l) ∧ W.grownBy w' v.ownBlock := by
 have hlen : (sortS parLt l).length = l.length := sortS_length l
 obtain ⟨A, c, rfl, hc, ⟨rfl, rfl⟩ | ⟨q, rfl, hB, hr⟩⟩ := h
 ·
  refine (sortStable_par_none W none c _).mono ?_
  rintro e w' ⟨rfl, rfl⟩
  exact ⟨rfl, ⟨none, c, rfl, hc, Or.inl ⟨rfl, rfl⟩⟩, grown_refl _ _⟩
 have hC : CmpP W q (fun _ => True) parLt 72 #[] := fun w _ x y _ _ => cmp_par w x y
 refine (sortStable_par W W q l.length c _ #[] (fun _ => True) parLt (fun t => l.getD t par0) parLt_swo hC (fun args w => by go_simp) ⟨Only.refl _ _, hr.cell, hr.fr, fun _ _ => trivial, hr.lt⟩ hn).mono ?_
 rintro e w' ⟨rfl, f', hp, hput⟩
 refine ⟨rfl, ⟨_, c, by rw [hlen], by rw [hlen]; exact hc, Or.inr ⟨q, rfl, hB, ?_⟩⟩, only_grown hp.only⟩
 have hs := hput.seg
 rw [seg_getD] at hs
 have hat : ∀ i, i < l.length → (sortS parLt l).getD i par0 = f' i := fun i hi => by
  rw [← hs, List.getD_eq_getElem?_getD, seg_at _ _ _ _ (by omega), Nat.zero_add]
  rfl
 refine ⟨fun i hi => ?_, fun i hi => hp.fr i (by rw [← hlen]; exact hi), hp.lt⟩
 rw [hlen] at hi
 rw [hat i hi]
 exact hp.cell i hi
theorem sort_cads (W : World) (B : Nat) (v : Value) (l : List Int) (h : CRow W B v l) (hn : l.length < 1099511627776) :
  Calls Tryz.prog 73 #[v] W fun e w' => e = .returned (.tuple #[]) ∧ CRow w' B v (cadS l) ∧ W.grownBy w' v.ownBlock := by
 have hlen : (cadS l).length = l.length := (sortS_perm (lt := fun a b : Int => decide (a < b)) l).length_eq
 obtain ⟨A, c, rfl, hc, ⟨rfl, rfl⟩ | ⟨q, rfl, hB, hr⟩⟩ := h
 ·
  refine (Tryz.slices_Sort_int_none none c W).mono ?_
  rintro e w' ⟨rfl, rfl⟩
  exact ⟨rfl, ⟨none, c, rfl, hc, Or.inl ⟨rfl, rfl⟩⟩, grown_refl _ _⟩
 have hcell : ∀ t, t < l.length → W.cell? ⟨q, t, none⟩ = some (.int .i64 (l.getD t 0)) := fun t ht => by
  have := hr.cell t (by rw [itg_length]; exact ht) 0 (.int .i64 (l.getD t 0)) (by rw [itg_getD]; rfl)
  simpa using this
 have hfr : ∀ t, t < l.length → W.frozen? ⟨q, t, none⟩ = false := fun t ht => by
  have := (hr.fr t (by rw [itg_length]; exact ht) 0 (by omega)).2
  simpa using this
 refine (sort_ints W q c l ⟨hcell, hfr⟩ hr.lt (by omega)).mono ?_
 rintro e w' ⟨rfl, ho, hcad⟩
 refine ⟨rfl, ⟨_, c, by rw [hlen], by rw [hlen]; exact hc, Or.inr ⟨q, rfl, hB, ⟨fun i hi => ?_, fun i hi => ?_, Nat.lt_of_lt_of_le hr.lt ho.size⟩⟩⟩, only_grown ho⟩
 ·
  rw [itg_length] at hi
  intro j u hu
  rw [itg_getD] at hu
  have hj : j = 0 := by
   have := (List.getElem?_eq_some_iff.1 hu).1
   have h1 : (Itg.cs ⟨(cadS l).getD i 0⟩).length = 1 := rfl
   omega
  subst hj
  have hu' : u = .int .i64 ((cadS l).getD i 0) := by
   have h1 : (Itg.cs ⟨(cadS l).getD i 0⟩)[0]? = some (.int .i64 ((cadS l).getD i 0)) := rfl
   rw [h1] at hu
   injection hu with hu
   exact hu.symm
  rw [hu', Nat.add_zero, Nat.mul_one]
  exact hcad.cell i hi
 rw [itg_length] at hi
 intro j hj
 obtain rfl : j = 0 := by omega
 rw [Nat.add_zero, Nat.mul_one]
 exact ⟨by rw [hcad.cell i hi]; rfl, hcad.fr i hi⟩
def trnTo (l : List Nte) (ps : List Par) (i : Nat) : List Par := (List.range ps.length).map fun t => if t < i then turnS (placeS l) (ps.getD t par0) else ps.getD t par0
theorem trnTo_length (l : List Nte) (ps : List Par) (i : Nat) : (trnTo l ps i).length = ps.length := by simp [trnTo]
theorem trnTo_zero (l : List Nte) (ps : List Par) : trnTo l ps 0 = ps := by
 refine List.ext_getElem? fun j => ?_
 by_cases h : j < ps.length
 ·
  simp [trnTo, h]
 simp [trnTo, h]
theorem trnTo_at (l : List Nte) (ps : List Par) (i : Nat) (h : i < ps.length) : (trnTo l ps i).getD i par0 = ps.getD i par0 := by
 simp [trnTo, List.getD, h]
theorem trnTo_set (l : List Nte) (ps : List Par) (i : Nat) (h : i < ps.length) : (trnTo l ps i).set i (turnS (placeS l) (ps.getD i par0)) = trnTo l ps (i + 1) := by
 refine List.ext_getElem? fun j => ?_
 rw [List.getElem?_set]
 by_cases hj : j < ps.length
 ·
  by_cases e : i = j
  ·
   subst e
   rw [if_pos rfl, if_pos (by rw [trnTo_length]; exact h)]
   simp [trnTo, hj]
  rw [if_neg e]
  simp only [trnTo, List.getElem?_map, List.getElem?_range hj, Option.map_some]
  by_cases h2 : j < i
  ·
   rw [if_pos h2, if_pos (by omega)]
  rw [if_neg h2, if_neg (by omega)]
 have h1 : (trnTo l ps i)[j]? = none := List.getElem?_eq_none (by rw [trnTo_length]; omega)
 have h2 : (trnTo l ps (i + 1))[j]? = none := List.getElem?_eq_none (by rw [trnTo_length]; omega)
 rw [if_neg (by omega), h1, h2]
theorem trnTo_full (l : List Nte) (ps : List Par) : trnTo l ps ps.length = ps.map (turnS (placeS l)) := by
 refine List.ext_getElem? fun j => ?_
 by_cases h : j < ps.length
 ·
  simp [trnTo, h]
 simp [trnTo, h]
def ShN (w : World) (B : Nat) (v : Value) (l : List Nte) : Prop := ∃ A c, v = .slice A l.length c ∧ l.length ≤ c ∧ RdN w w.heap.size A l ∧ ∀ ad, A = some ad → B ≤ ad.block
def ShP (w : World) (B : Nat) (v : Value) (l : List Par) : Prop := ∃ A c, v = .slice A l.length c ∧ l.length ≤ c ∧ RdP w w.heap.size A l ∧ ∀ ad, A = some ad → B ≤ ad.block
def ShC (w : World) (B : Nat) (v : Value) (l : List Int) : Prop := ∃ A c, v = .slice A l.length c ∧ l.length ≤ c ∧ RdC w w.heap.size A (itg l) ∧ ∀ ad, A = some ad → B ≤ ad.block
theorem NtRow.sh {w : World} {B g n c : Nat} {l : List Nte} (h : NtRow w g l) (hn : n = l.length) (hc : n ≤ c) (hB : B ≤ g) : ShN w B (.slice (some ⟨g, 0, none⟩) n c) l := by
 subst hn
 exact ⟨_, c, rfl, hc, RowAt.shows (d0 := nte0) ⟨h.cell, h.fr, h.lt⟩ Nte.cs_len (by omega), fun ad e => by injection e with e; subst e; exact hB⟩
theorem PRow.sh {w : World} {B : Nat} {v : Value} {l : List Par} (h : PRow w B v l) : ShP w B v l := by
 obtain ⟨A, c, rfl, hc, ⟨rfl, rfl⟩ | ⟨q, rfl, hB, hr⟩⟩ := h
 ·
  exact ⟨none, c, rfl, hc, RdP.nil _ _ _, fun ad e => by cases e⟩
 exact ⟨_, c, rfl, hc, hr.shows Par.cs_len (by omega), fun ad e => by injection e with e; subst e; exact hB⟩
theorem CRow.sh {w : World} {B : Nat} {v : Value} {l : List Int} (h : CRow w B v l) : ShC w B v l := by
 obtain ⟨A, c, rfl, hc, ⟨rfl, rfl⟩ | ⟨q, rfl, hB, hr⟩⟩ := h
 ·
  exact ⟨none, c, rfl, hc, RdC.nil _ _ _, fun ad e => by cases e⟩
 exact ⟨_, c, rfl, hc, hr.shows Itg.cs_len (by omega), fun ad e => by injection e with e; subst e; exact hB⟩
theorem Shows.kept {w w' : World} {B Bh size n : Nat} {A : Option Addr} {xs : List Value} (h : Shows w Bh size A n xs) (hb : Bh ≤ w.heap.size) (hl : ∀ ad, A = some ad → B ≤ ad.block) {r : Option Nat} (hg : w.grownBy w' r) (hr : ∀ y, r = some y → y < B) : Shows w' Bh size A n xs := by
 refine ⟨h.1, fun hn => ?_⟩
 obtain ⟨ad, e, h1, h2⟩ := h.2 hn
 have h3 := hl ad e
 exact ⟨ad, e, h1, fun j hj => by
  rw [World.cell?_of_block (hg.block (ad.add j).block (by rw [add_block]; omega) (fun e => by rw [add_block] at e; have := hr _ e.symm; omega))]
  exact h2 j hj⟩
end Go.Proofs.YtcjhihmaegagdaaGreatDoor
namespace Go.Proofs.YtcjhihmaegagdaaGreatDoor
open Go.RowKit Go.Deep
theorem PRow.up {w w' : World} {B : Nat} {v : Value} {l : List Par} (h : PRow w B v l) (b : Below w.heap.size w w') : PRow w' B v l := by
 obtain ⟨A, c, rfl, hc, ⟨rfl, rfl⟩ | ⟨q, rfl, hB, hr⟩⟩ := h
 ·
  exact ⟨none, c, rfl, hc, Or.inl ⟨rfl, rfl⟩⟩
 exact ⟨_, c, rfl, hc, Or.inr ⟨q, rfl, hB, hr.block (b.block q hr.lt)⟩⟩
theorem CRow.up {w w' : World} {B : Nat} {v : Value} {l : List Int} (h : CRow w B v l) (b : Below w.heap.size w w') : CRow w' B v l := by
 obtain ⟨A, c, rfl, hc, ⟨rfl, rfl⟩ | ⟨q, rfl, hB, hr⟩⟩ := h
 ·
  exact ⟨none, c, rfl, hc, Or.inl ⟨rfl, rfl⟩⟩
 exact ⟨_, c, rfl, hc, Or.inr ⟨q, rfl, hB, hr.block (b.block q hr.lt)⟩⟩
def OwnLt (B b : Nat) (v : Value) : Prop := ∀ x, v.ownBlock = some x → B ≤ x ∧ x < b
theorem PRow.ownLt {w : World} {B : Nat} {v : Value} {l : List Par} (h : PRow w B v l) : OwnLt B w.heap.size v := by
 obtain ⟨A, c, rfl, hc, ⟨rfl, rfl⟩ | ⟨q, rfl, hB, hr⟩⟩ := h
 ·
  intro x hx; cases hx
 intro x hx
 injection hx with hx
 subst hx
 exact ⟨hB, hr.lt⟩
theorem CRow.ownLt {w : World} {B : Nat} {v : Value} {l : List Int} (h : CRow w B v l) : OwnLt B w.heap.size v := by
 obtain ⟨A, c, rfl, hc, ⟨rfl, rfl⟩ | ⟨q, rfl, hB, hr⟩⟩ := h
 ·
  intro x hx; cases hx
 intro x hx
 injection hx with hx
 subst hx
 exact ⟨hB, hr.lt⟩
theorem own_pq {w : World} {B : Nat} {vp vq : Value} {ps : List Par} {cs : List Itg} (hp : OwnP w B vp ps) (hq : OwnC w B vq cs) : vp.ownBlock = none ∨ vq.ownBlock = none ∨ vq.ownBlock ≠ vp.ownBlock := by
 rcases hp.2 with ⟨rfl, -⟩ | ⟨g, cap, cur, rfl, hB, hg, -⟩
 ·
  exact Or.inl rfl
 right; right
 intro e
 exact own_apart hq (b := g) hg (by decide) e
structure Ar3 (B b nb pb : Nat) (V : Int) (vn vp vq : Value) (l : List Nte) (ps : List Par) (cs : List Int) (w : World) : Prop where
 sc : Blk w b 26 #[.int .i64 V, vn, vp, vq]
 res : Blk w (b + 1) 26 #[.int .i64 0, .slice none 0 0, .slice none 0 0, .slice none 0 0]
 nt : NtRow w nb (notesS l)
 pl : IRow w pb (plTo l l.length)
 pr : PRow w B vp ps
 cr : CRow w B vq cs
structure Ap3 (B b nb pb : Nat) (vp vq : Value) : Prop where
 hnb : b + 1 < nb
 hpb : b + 1 < pb
 hne : nb ≠ pb
 hB : B ≤ b
 hp : OwnLt B b vp
 hq : OwnLt B b vq
 hpq : vp.ownBlock = none ∨ vq.ownBlock = none ∨ vq.ownBlock ≠ vp.ownBlock
section
variable {B b nb pb : Nat} {V : Int} {vn vp vq : Value} {l : List Nte} {ps : List Par} {cs : List Int} {w w' : World}
theorem Ar3.below (h : Ar3 B b nb pb V vn vp vq l ps cs w) (k : Below w.heap.size w w') : Ar3 B b nb pb V vn vp vq l ps cs w' :=
 ⟨h.sc.below k h.sc.lt, h.res.below k h.res.lt, h.nt.block (k.block nb h.nt.lt), h.pl.block (k.block pb (Blk.lt h.pl)), h.pr.up k, h.cr.up k⟩
theorem grown_blk {r : Option Nat} {x : Nat} {t : TypeId} {cs : Array Value} (hg : w.grownBy w' r) (h : Blk w x t cs) (hne : ∀ y, r = some y → y ≠ x) : Blk w' x t cs := (hg.block x h.lt (fun e => hne x e.symm rfl)).trans h
theorem Ar3.grown (h : Ar3 B b nb pb V vn vp vq l ps cs w) (a : Ap3 B b nb pb vp vq) {r : Option Nat} (hg : w.grownBy w' r) (hr : ∀ y, r = some y → y < b) {ps' : List Par} {cs' : List Int} (hp : PRow w' B vp ps') (hq : CRow w' B vq cs') :
  Ar3 B b nb pb V vn vp vq l ps' cs' w' := by
 have a1 := a.hnb
 have a2 := a.hpb
 exact ⟨grown_blk hg h.sc (fun y hy e => by have := hr y hy; omega), grown_blk hg h.res (fun y hy e => by have := hr y hy; omega),
  h.nt.block (hg.block nb h.nt.lt (fun e => by have := hr _ e.symm; omega)), h.pl.block (hg.block pb (Blk.lt h.pl) (fun e => by have := hr _ e.symm; omega)), hp, hq⟩
theorem Ar3.sortp (h : Ar3 B b nb pb V vn vp vq l ps cs w) (a : Ap3 B b nb pb vp vq) {ps' : List Par} (hp : PRow w' B vp ps') (hg : w.grownBy w' vp.ownBlock) : Ar3 B b nb pb V vn vp vq l ps' cs w' := by
 refine h.grown a hg (fun y hy => (a.hp y hy).2) hp ?_
 rcases a.hpq with e | e | e
 ·
  exact h.cr.kept (r := none) ⟨hg.os, hg.tape, hg.output, hg.size, fun k hk _ => hg.block k hk (by rw [e]; simp)⟩ (by
   rcases e2 : vq.ownBlock with _ | x
   ·
    exact Or.inl rfl
   right; simp)
 ·
  exact h.cr.kept hg (Or.inl e)
 exact h.cr.kept hg (Or.inr e)
theorem Ar3.sortc (h : Ar3 B b nb pb V vn vp vq l ps cs w) (a : Ap3 B b nb pb vp vq) {cs' : List Int} (hq : CRow w' B vq cs') (hg : w.grownBy w' vq.ownBlock) : Ar3 B b nb pb V vn vp vq l ps cs' w' := by
 refine h.grown a hg (fun y hy => (a.hq y hy).2) ?_ hq
 rcases a.hpq with e | e | e
 ·
  exact h.pr.kept hg (Or.inl e)
 ·
  exact h.pr.kept (r := none) ⟨hg.os, hg.tape, hg.output, hg.size, fun k hk _ => hg.block k hk (by rw [e]; simp)⟩ (by
   rcases e2 : vp.ownBlock with _ | x
   ·
    exact Or.inl rfl
   right; simp)
 exact h.pr.kept hg (Or.inr fun e' => e e'.symm)
theorem Ar3.put {q m c : Nat} (h : Ar3 B b nb pb V vn (.slice (some ⟨q, 0, none⟩) m c) vq l ps cs w) (a : Ap3 B b nb pb (.slice (some ⟨q, 0, none⟩) m c) vq) (i : Nat) (x : Par) (hi : i < ps.length) :
  Ar3 B b nb pb V vn (.slice (some ⟨q, 0, none⟩) m c) vq l (ps.set i x) cs (w.setCells q (i * 9) x.cs) := by
 refine h.sortp a ?_ (only_grown (Only.setCells x.cs (i * 9) w (Only.refl q w)))
 obtain ⟨A, c', e, hc, ⟨rfl, rfl⟩ | ⟨q', rfl, hB, hr⟩⟩ := h.pr
 ·
  cases e
 injection e with e1 e2 e3
 injection e1 with e1
 injection e1 with e1
 subst e1 e2 e3
 exact ⟨_, c, by rw [List.length_set], by rw [List.length_set]; exact hc, Or.inr ⟨q, rfl, hB, hr.set Par.cs_len i x hi⟩⟩
theorem Ar3.row {q m c : Nat} (h : Ar3 B b nb pb V vn (.slice (some ⟨q, 0, none⟩) m c) vq l ps cs w) : RowAt Par.cs 9 par0 w q ps := by
 obtain ⟨A, c', e, hc, ⟨rfl, rfl⟩ | ⟨q', rfl, hB, hr⟩⟩ := h.pr
 ·
  cases e
 injection e with e1 e2 e3
 injection e1 with e1
 injection e1 with e1
 subst e1 e2 e3
 exact hr
theorem Ar3.addr {A : Option Addr} {m c : Nat} (h : Ar3 B b nb pb V vn (.slice A m c) vq l ps cs w) (hm : 0 < ps.length) : ∃ q, A = some ⟨q, 0, none⟩ := by
 obtain ⟨A', c', e, hc, ⟨rfl, rfl⟩ | ⟨q', rfl, hB, hr⟩⟩ := h.pr
 ·
  simp at hm
 injection e with e1 e2 e3
 exact ⟨q', e1⟩
theorem Ar3.len {A : Option Addr} {m c : Nat} (h : Ar3 B b nb pb V vn (.slice A m c) vq l ps cs w) : m = ps.length := by
 obtain ⟨A', c', e, -⟩ := h.pr
 injection e
theorem Ar3.store1 (h : Ar3 B b nb pb V vn vp vq l ps cs w) (a : Ap3 B b nb pb vp vq) (u : Value) : Ar3 B b nb pb V u vp vq l ps cs (w.setCell ⟨b, 1, none⟩ u) := by
 have s1 := h.sc.set_ 1 u
 simp at s1
 have a1 := a.hnb
 have a2 := a.hpb
 have hg := only_grown ((Only.refl b w).setCell 1 u)
 refine ⟨s1, h.res.far (p := ⟨b, 1, none⟩) (by show b + 1 ≠ b; omega) u, h.nt.block (hg.block nb h.nt.lt (fun e => by injection e with e; omega)), h.pl.block (hg.block pb (Blk.lt h.pl) (fun e => by injection e with e; omega)), h.pr.kept hg ?_, h.cr.kept hg ?_⟩
 ·
  right; intro e
  have := a.hp b e
  omega
 right; intro e
 have := a.hq b e
 omega
end
structure PVar (w : World) (g : Nat) (x : Par) : Prop where
 ca : w.cell? ⟨g, 0, none⟩ = some (.int .i64 x.a)
 cb : w.cell? ⟨g, 1, none⟩ = some (.int .i64 x.b)
 cw : w.rangeAt g 2 x.wish.cells.toList
 ck : w.cell? ⟨g, 8, none⟩ = some (.int .i64 x.bound)
 fr : w.there g 0 9
theorem PVar.of_blk {w : World} {g : Nat} {x : Par} (h : Blk w g 57 x.cells) : PVar w g x := by
 refine ⟨h.cell 0, h.cell 1, fun j v hv => ?_, h.cell 8, fun j hj => ⟨?_, h.frozen _⟩⟩
 ·
  have hj : j < 6 := (List.getElem?_eq_some_iff.1 hv).1
  rw [h.cell, ← hv]
  rcases (show j = 0 ∨ j = 1 ∨ j = 2 ∨ j = 3 ∨ j = 4 ∨ j = 5 by omega) with rfl | rfl | rfl | rfl | rfl | rfl <;> rfl
 rw [h.cell]
 rcases (show j = 0 ∨ j = 1 ∨ j = 2 ∨ j = 3 ∨ j = 4 ∨ j = 5 ∨ j = 6 ∨ j = 7 ∨ j = 8 by omega) with rfl | rfl | rfl | rfl | rfl | rfl | rfl | rfl | rfl <;> rfl
section
variable {w w' : World} {g : Nat} {x : Par}
theorem PVar.whole (h : PVar w g x) : w.rangeAt g 0 x.cs := fun j v hv => by
 have hj : j < 9 := (List.getElem?_eq_some_iff.1 hv).1
 rw [Nat.zero_add, ← hv]
 rcases (show j = 0 ∨ j = 1 ∨ j = 2 ∨ j = 3 ∨ j = 4 ∨ j = 5 ∨ j = 6 ∨ j = 7 ∨ j = 8 by omega) with rfl | rfl | rfl | rfl | rfl | rfl | rfl | rfl | rfl
 ·
  exact h.ca
 ·
  exact h.cb
 ·
  exact h.cw 0 _ rfl
 ·
  exact h.cw 1 _ rfl
 ·
  exact h.cw 2 _ rfl
 ·
  exact h.cw 3 _ rfl
 ·
  exact h.cw 4 _ rfl
 ·
  exact h.cw 5 _ rfl
 exact h.ck
theorem PVar.block (h : PVar w g x) (e : w'.heap[g]? = w.heap[g]?) : PVar w' g x :=
 ⟨(World.cell?_of_block (a := ⟨g, 0, none⟩) e).trans h.ca, (World.cell?_of_block (a := ⟨g, 1, none⟩) e).trans h.cb, range_block e h.cw, (World.cell?_of_block (a := ⟨g, 8, none⟩) e).trans h.ck, there_block e h.fr⟩
theorem PVar.drw (h : PVar w g x) : PVar w.drew g x := ⟨h.ca, h.cb, h.cw, h.ck, h.fr⟩
theorem PVar.f0 (h : PVar w g x) : w.frozen? ⟨g, 0, none⟩ = false := (h.fr 0 (by omega)).2
theorem PVar.f1 (h : PVar w g x) : w.frozen? ⟨g, 1, none⟩ = false := (h.fr 1 (by omega)).2
theorem PVar.th2 (h : PVar w g x) : w.there g 2 6 := fun j hj => by
 have := h.fr (2 + j) (by omega)
 rw [Nat.zero_add] at this
 exact this
theorem ne_off {g i j : Nat} (h : i ≠ j) : (⟨g, i, none⟩ : Addr) ≠ ⟨g, j, none⟩ := fun e => by injection e with _ e; exact h e
theorem oth (w : World) (g i j : Nat) (u : Value) (h : i ≠ j) : (w.setCell ⟨g, i, none⟩ u).cell? ⟨g, j, none⟩ = w.cell? ⟨g, j, none⟩ := World.cell?_setCell_other w ⟨g, i, none⟩ ⟨g, j, none⟩ u (ne_off h)
theorem PVar.setA (h : PVar w g x) (v : Int) : PVar (w.setCell ⟨g, 0, none⟩ (.int .i64 v)) g { x with a := v } :=
 ⟨World.cell?_setCell_same' w _ _ (by rw [h.ca]; rfl), (oth w g 0 1 _ (by omega)).trans h.cb, fun j u hu => (oth w g 0 (2 + j) _ (by omega)).trans (h.cw j u hu), (oth w g 0 8 _ (by omega)).trans h.ck,
  World.there_setCells h.fr g 0 [.int .i64 v]⟩
theorem PVar.setB (h : PVar w g x) (v : Int) : PVar (w.setCell ⟨g, 1, none⟩ (.int .i64 v)) g { x with b := v } :=
 ⟨(oth w g 1 0 _ (by omega)).trans h.ca, World.cell?_setCell_same' w _ _ (by rw [h.cb]; rfl), fun j u hu => (oth w g 1 (2 + j) _ (by omega)).trans (h.cw j u hu), (oth w g 1 8 _ (by omega)).trans h.ck,
  World.there_setCells h.fr g 1 [.int .i64 v]⟩
theorem PVar.setW (h : PVar w g x) (v : Vc) : PVar (w.setCells g 2 v.cells.toList) g { x with wish := v } :=
 ⟨(World.cell?_setCells_out g v.cells.toList 2 w ⟨g, 0, none⟩ (fun _ _ => Or.inl (by show 0 < 2; omega))).trans h.ca, (World.cell?_setCells_out g v.cells.toList 2 w ⟨g, 1, none⟩ (fun _ _ => Or.inl (by show 1 < 2; omega))).trans h.cb,
  World.rangeAt_setCells_same w g 2 v.cells.toList h.th2, (World.cell?_setCells_out g v.cells.toList 2 w ⟨g, 8, none⟩ (fun _ _ => Or.inr (by show 2 + 6 ≤ 8; omega))).trans h.ck,
  World.there_setCells h.fr _ _ _⟩
end
end Go.Proofs.YtcjhihmaegagdaaGreatDoor
