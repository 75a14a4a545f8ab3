/- Words: lists of integers, rows of flags; the columns that are still there. -/
import Derived.Test.YtipaapplingbnaaDoorCe
import Derived.Test.YtipaapplingbnaaDoorDw
import Derived.Deep.Draws
namespace Go.Proofs.YtipaapplingbnaaDoor
open Go.RowKit

def icells (v : List Int) : List Value := v.map fun x => Value.int .i64 x
theorem icells_length (v : List Int) : (icells v).length = v.length := by simp [icells]
theorem icells_append (l m : List Int) : icells (l ++ m) = icells l ++ icells m := by simp [icells]
theorem icells_at (v : List Int) (j : Nat) (hj : j < v.length) : (icells v)[j]? = some (.int .i64 (v.getD j 0)) := by
  simp [icells, List.getElem?_eq_getElem hj]
theorem icells_one (l : List Int) : ∀ u ∈ icells l, u.oneCell' = true := by
  intro u hu
  obtain ⟨x, -, rfl⟩ := List.mem_map.1 hu
  rfl
/-- The slice at A shows the integers l. -/
def RdI (w : World) (B : Nat) (A : Option Addr) (l : List Int) : Prop := Shows w B 1 A l.length (icells l)
theorem RdI.nil (w : World) (B : Nat) (A : Option Addr) : RdI w B A [] := Shows.nil_
theorem RdI.up {w w' : World} {A : Option Addr} {l : List Int} (h : RdI w w.heap.size A l) (hb : Below w.heap.size w w') : RdI w' w'.heap.size A l := (h.below hb).wider hb.size
theorem RdI.at {w : World} {B : Nat} {A : Option Addr} {l : List Int} (h : RdI w B A l) {i : Nat} (hi : i < l.length) : ∃ ad, A = some ad ∧ ad.block < B ∧ w.cell? (ad.add i) = some (.int .i64 (l.getD i 0)) := by
  obtain ⟨ad, rfl, hb, hc⟩ := h.2 (by omega)
  exact ⟨ad, rfl, hb, by rw [hc i (by rw [icells_length]; exact hi), icells_at l i hi]⟩
/-- Numbers of rows or columns as integers. -/
def ofN (l : List Nat) : List Int := l.map fun (n : Nat) => (n : Int)
theorem ofN_length (l : List Nat) : (ofN l).length = l.length := by simp [ofN]
theorem ofN_at (l : List Nat) (i : Nat) (h : i < l.length) : (ofN l).getD i 0 = ((l.getD i 0 : Nat) : Int) := by
  simp [ofN, List.getD_eq_getElem?_getD, h]

/-- Block g is a row of the flags u. -/
def Flags (w : World) (g : Nat) (u : List Bool) : Prop := w.rowIs g 4 u.length (fun i => .bool (u.getD i false))
theorem Flags.cell {w : World} {g : Nat} {u : List Bool} (h : Flags w g u) {i : Nat} (hi : i < u.length) : w.cell? ⟨g, i, none⟩ = some (.bool (u.getD i false)) := World.rowIs.cell h hi
theorem Flags.frozen {w : World} {g : Nat} {u : List Bool} (h : Flags w g u) (i : Nat) : w.frozen? ⟨g, i, none⟩ = false := World.rowIs.frozen h i
theorem Flags.lt {w : World} {g : Nat} {u : List Bool} (h : Flags w g u) : g < w.heap.size := World.rowIs.lt h
theorem getD_setB (l : List Bool) (i j : Nat) (x : Bool) (hi : i < l.length) : (l.set i x).getD j false = if j = i then x else l.getD j false := by
  rw [List.getD_eq_getElem?_getD, List.getD_eq_getElem?_getD, List.getElem?_set]
  by_cases h : j = i
  · subst h; simp [hi]
  · rw [if_neg (fun e => h e.symm), if_neg h]
theorem Flags.set {w : World} {g : Nat} {u : List Bool} (h : Flags w g u) (i : Nat) (x : Bool) (hi : i < u.length) : Flags (w.setCell ⟨g, i, none⟩ (.bool x)) g (u.set i x) := by
  unfold Flags
  rw [List.length_set]
  refine World.rowIs.congr (World.rowIs.set h i (.bool x)) (fun j _ => ?_)
  rw [getD_setB u i j x hi]
  split <;> rfl
theorem Flags.below {w w' : World} {g C : Nat} {u : List Bool} (h : Flags w g u) (hb : Below C w w') (hg : g < C) : Flags w' g u := World.rowIs.of_block h (hb.block g hg)
theorem Flags.made (w : World) (n : Nat) : Flags (w.alloc (.cells (madeCells #[.bool false] n) 4)) w.heap.size (List.replicate n false) := by
  unfold Flags
  rw [List.length_replicate]
  refine World.rowIs.congr (World.rowIs_made w (.bool false) n 4) (fun j hj => ?_)
  simp [List.getD_eq_getElem?_getD, hj]
theorem info_bool : (Tryd.prog.info? 4).map (fun i => (i.zero, i.size, i.bytes)) = some (some (.bool false), 1, 1) := by kernel_rfl
theorem make_flags (n : Nat) (hn : n ≤ 1000000) (w : World) : (Instr.makeSlice 116 (.int .i64 (n : Int)) (.int .i64 (n : Int))).run Tryd.prog w = .ok (.slice (some ⟨w.heap.size, 0, none⟩) n n) (w.alloc (.cells (madeCells #[.bool false] n) 4)) :=
  run_make_row' 116 4 (.bool false) 1 Tryd.underlying116 info_bool rfl .i64 .i64 n (by omega) (by omega) w

/-- Nothing but block g has changed. -/
structure Only (g : Nat) (w w' : World) : Prop where
  os : w'.os = w.os
  tape : w'.tape = w.tape
  output : w'.output = w.output
  size : w.heap.size ≤ w'.heap.size
  block : ∀ k, k ≠ g → k < w.heap.size → w'.heap[k]? = w.heap[k]?
theorem Only.refl (g : Nat) (w : World) : Only g w w := ⟨rfl, rfl, rfl, Nat.le_refl _, fun _ _ _ => rfl⟩
theorem Only.trans {g : Nat} {a b c : World} (h : Only g a b) (k : Only g b c) : Only g a c :=
  ⟨k.os.trans h.os, k.tape.trans h.tape, k.output.trans h.output, Nat.le_trans h.size k.size, fun i hi hl => (k.block i hi (Nat.lt_of_lt_of_le hl h.size)).trans (h.block i hi hl)⟩
theorem Only.setCell {g : Nat} {a w : World} (h : Only g a w) (i : Nat) (v : Value) : Only g a (w.setCell ⟨g, i, none⟩ v) :=
  ⟨h.os, h.tape, h.output, by rw [show (w.setCell ⟨g, i, none⟩ v).heap.size = w.heap.size from by simp]; exact h.size, fun k hk hl => (heap_setCell_other w ⟨g, i, none⟩ k v hk).trans (h.block k hk hl)⟩
theorem Only.below {g B : Nat} {w w' : World} (h : Only g w w') (hB : B ≤ g) (hs : B ≤ w.heap.size) : Below B w w' := ⟨h.os, h.tape, h.output, h.size, fun k hk => h.block k (by omega) (by omega)⟩
theorem Only.cell {g : Nat} {w w' : World} (h : Only g w w') {p : Addr} (hp : p.block ≠ g) (hl : p.block < w.heap.size) : w'.cell? p = w.cell? p := World.cell?_of_block (h.block p.block hp hl)
theorem Only.drew {g : Nat} {a w : World} (h : Only g a w) : Only g a w.drew := ⟨h.os, h.tape, h.output, h.size, h.block⟩
theorem Only.of_below {g : Nat} {w w' : World} (h : Below w.heap.size w w') : Only g w w' := ⟨h.os, h.tape, h.output, h.size, fun k _ hl => h.block k hl⟩

/-- The columns that are not used. -/
def avail : List Nat → List Bool → List Nat
  | j :: js, b :: u => if b then avail js u else j :: avail js u
  | _, _ => []
theorem avail_new (js : List Nat) : avail js (List.replicate js.length false) = js := by
  induction js with
  | nil => rfl
  | cons j js ih => simp [avail, List.replicate_succ, ih]
theorem avail_split (js : List Nat) (u : List Bool) (k : Nat) (h : u.length = js.length) : avail js u = avail (js.take k) (u.take k) ++ avail (js.drop k) (u.drop k) := by
  induction js generalizing u k with
  | nil => simp [avail]
  | cons j js ih =>
    cases u with
    | nil => cases h
    | cons b u =>
      cases k with
      | zero => simp [avail]
      | succ k =>
        have := ih u k (by simpa using h)
        simp only [List.take_succ_cons, List.drop_succ_cons, avail]
        cases b
        · simp [this]
        · simp [this]
theorem avail_here (js : List Nat) (u : List Bool) (k : Nat) (h : u.length = js.length) (hk : k < js.length) : avail (js.drop k) (u.drop k) = if u.getD k false then avail (js.drop (k + 1)) (u.drop (k + 1)) else js.getD k 0 :: avail (js.drop (k + 1)) (u.drop (k + 1)) := by
  rw [List.drop_eq_getElem_cons hk, List.drop_eq_getElem_cons (show k < u.length by omega), avail]
  simp [List.getD_eq_getElem?_getD, List.getElem?_eq_getElem hk, List.getElem?_eq_getElem (show k < u.length by omega)]
theorem avail_next (js : List Nat) (u : List Bool) (k : Nat) (h : u.length = js.length) (hk : k < js.length) : avail (js.take (k + 1)) (u.take (k + 1)) = if u.getD k false then avail (js.take k) (u.take k) else avail (js.take k) (u.take k) ++ [js.getD k 0] := by
  rw [avail_split (js.take (k + 1)) (u.take (k + 1)) k (by simp; omega)]
  rw [List.take_take, List.take_take, Nat.min_eq_left (by omega), avail_here _ _ k (by simp; omega) (by simp; omega)]
  have e1 : (js.take (k + 1)).drop (k + 1) = [] := List.drop_of_length_le (by simp; omega)
  have e3 : (u.take (k + 1)).getD k false = u.getD k false := by simp [List.getD_eq_getElem?_getD]
  have e4 : (js.take (k + 1)).getD k 0 = js.getD k 0 := by simp [List.getD_eq_getElem?_getD]
  rw [e1, e3, e4]
  cases u.getD k false <;> simp [avail]
/-- The flag of an unused column is set. -/
theorem avail_set (js : List Nat) (u : List Bool) (k : Nat) (h : u.length = js.length) (hk : k < js.length) : avail js (u.set k true) = avail (js.take k) (u.take k) ++ avail (js.drop (k + 1)) (u.drop (k + 1)) := by
  rw [avail_split js (u.set k true) k (by simp [h]), avail_here js (u.set k true) k (by simp [h]) hk, getD_setB u k k true (by omega), if_pos rfl, if_pos rfl, List.take_set_of_le (Nat.le_refl _), List.drop_set_of_lt (by omega)]
theorem avail_sub (js : List Nat) (u : List Bool) : ∀ c ∈ avail js u, c ∈ js := by
  induction js generalizing u with
  | nil => intro c hc; simp [avail] at hc
  | cons j js ih =>
    cases u with
    | nil => intro c hc; simp [avail] at hc
    | cons b u =>
      intro c hc
      unfold avail at hc
      split at hc
      · exact List.mem_cons_of_mem _ (ih u c hc)
      · rcases List.mem_cons.1 hc with rfl | hc
        · exact List.mem_cons_self ..
        · exact List.mem_cons_of_mem _ (ih u c hc)
theorem set_back (u : List Bool) (k : Nat) (hk : k < u.length) (h : u.getD k false = false) : (u.set k true).set k false = u := by
  rw [List.set_set]
  refine List.ext_getElem (by simp) fun i h1 h2 => ?_
  rw [List.getElem_set]
  split
  · rename_i e
    subst e
    simpa [List.getD_eq_getElem?_getD, List.getElem?_eq_getElem hk] using h.symm
  · rfl

end Go.Proofs.YtipaapplingbnaaDoor
