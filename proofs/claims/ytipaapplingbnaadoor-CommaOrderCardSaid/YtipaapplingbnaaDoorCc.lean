/- Words for memory: lists of named commas, rows of vectors. -/
import Derived.Test.YtipaapplingbnaaDoorCa
import Derived.Test.YtipaapplingbnaaDoorMr
import Derived.Test.YtipaapplingbnaaDoorDx
namespace Go.Proofs.YtipaapplingbnaaDoor
open Go.RowKit

abbrev str (l : List UInt8) : Value := .string ⟨l.toArray⟩
/-- A named comma. -/
structure Cm where
  nm : List UInt8
  v : Vc
abbrev Cm.cells (c : Cm) : Array Value := #[str c.nm, .int .i64 c.v.a, .int .i64 c.v.b, .int .i64 c.v.c, .int .i64 c.v.d, .int .i64 c.v.e, .int .i64 c.v.f]
def Cm.cs (c : Cm) : List Value := c.cells.toList
theorem Cm.cs_len (c : Cm) : c.cs.length = 7 := rfl
def Vc.cs (v : Vc) : List Value := v.cells.toList
theorem Vc.cs_len (v : Vc) : v.cs.length = 6 := rfl
theorem Vc.cs_one (v : Vc) : ∀ u ∈ v.cs, u.oneCell' = true := by
  intro u hu
  simp [Vc.cs] at hu
  rcases hu with rfl | rfl | rfl | rfl | rfl | rfl <;> rfl
theorem Cm.cs_one (c : Cm) : ∀ u ∈ c.cs, u.oneCell' = true := by
  intro u hu
  simp [Cm.cs] at hu
  rcases hu with rfl | rfl | rfl | rfl | rfl | rfl | rfl <;> rfl
/-- The slice at A shows the named commas l. -/
def RdN (w : World) (B : Nat) (A : Option Addr) (l : List Cm) : Prop := Shows w B 7 A l.length (rcells Cm.cs l)
theorem RdN.nil (w : World) (B : Nat) (A : Option Addr) : RdN w B A [] := Shows.nil_
theorem RdN.up {w w' : World} {A : Option Addr} {l : List Cm} (h : RdN w w.heap.size A l) (hb : Below w.heap.size w w') : RdN w' w'.heap.size A l := (h.below hb).wider hb.size
theorem size_named : (Tryd.prog.info? 50).map (·.size) = some 7 := by kernel_rfl
theorem size_vec : (Tryd.prog.info? 25).map (·.size) = some 6 := by kernel_rfl
theorem vec_info : (Tryd.prog.info? 25).map (fun i => (i.zero, i.size, i.bytes)) = some (some (.agg #[.int .i64 0, .int .i64 0, .int .i64 0, .int .i64 0, .int .i64 0, .int .i64 0]), 6, 48) := by kernel_rfl
theorem add_off (p : Addr) (j : Nat) : p.add (j + 1) = ⟨p.block, p.off + (j + 1), none⟩ := by simp [Addr.add]
/-- The cells of a named comma at a place, as the walk spells them. -/
structure CmAt (w : World) (p : Addr) (x : Cm) : Prop where
  n : w.cell? p = some (str x.nm)
  a : w.cell? ⟨p.block, p.off + 1, none⟩ = some (.int .i64 x.v.a)
  b : w.cell? ⟨p.block, p.off + 2, none⟩ = some (.int .i64 x.v.b)
  c : w.cell? ⟨p.block, p.off + 3, none⟩ = some (.int .i64 x.v.c)
  d : w.cell? ⟨p.block, p.off + 4, none⟩ = some (.int .i64 x.v.d)
  e : w.cell? ⟨p.block, p.off + 5, none⟩ = some (.int .i64 x.v.e)
  f : w.cell? ⟨p.block, p.off + 6, none⟩ = some (.int .i64 x.v.f)
theorem RdN.at {w : World} {B : Nat} {A : Option Addr} {l : List Cm} (h : RdN w B A l) {i : Nat} (hi : i < l.length) : ∃ ad, A = some ad ∧ ad.block < B ∧ CmAt w (ad.add (i * 7)) l[i] := by
  obtain ⟨ad, rfl, hb, hc⟩ := Shows.rec Cm.cs 7 Cm.cs_len h rfl hi
  have h0 := hc 0 (by omega)
  rw [show (ad.add (i * 7)).add 0 = ad.add (i * 7) from by simp [Addr.add]] at h0
  have hj : ∀ j, j < 6 → w.cell? ⟨(ad.add (i * 7)).block, (ad.add (i * 7)).off + (j + 1), none⟩ = l[i].cs[j + 1]? := fun j hj => by rw [← add_off]; exact hc (j + 1) (by omega)
  exact ⟨ad, rfl, hb, h0, hj 0 (by omega), hj 1 (by omega), hj 2 (by omega), hj 3 (by omega), hj 4 (by omega), hj 5 (by omega)⟩
/-- The slice at A shows the vectors l. -/
def RdV (w : World) (B : Nat) (A : Option Addr) (l : List Vc) : Prop := Shows w B 6 A l.length (rcells Vc.cs l)
theorem RdV.up {w w' : World} {A : Option Addr} {l : List Vc} (h : RdV w w.heap.size A l) (hb : Below w.heap.size w w') : RdV w' w'.heap.size A l := (h.below hb).wider hb.size
structure VcAt (w : World) (p : Addr) (v : Vc) : Prop where
  a : w.cell? p = some (.int .i64 v.a)
  b : w.cell? ⟨p.block, p.off + 1, none⟩ = some (.int .i64 v.b)
  c : w.cell? ⟨p.block, p.off + 2, none⟩ = some (.int .i64 v.c)
  d : w.cell? ⟨p.block, p.off + 3, none⟩ = some (.int .i64 v.d)
  e : w.cell? ⟨p.block, p.off + 4, none⟩ = some (.int .i64 v.e)
  f : w.cell? ⟨p.block, p.off + 5, none⟩ = some (.int .i64 v.f)
theorem RdV.at {w : World} {B : Nat} {A : Option Addr} {l : List Vc} (h : RdV w B A l) {i : Nat} (hi : i < l.length) : ∃ ad, A = some ad ∧ ad.block < B ∧
    VcAt w (ad.add (i * 6)) l[i] ∧ ∀ j, j < 6 → w.cell? ((ad.add (i * 6)).add j) = some (.int .i64 (l[i].at j)) := by
  obtain ⟨ad, rfl, hb, hc⟩ := Shows.rec Vc.cs 6 Vc.cs_len h rfl hi
  have h0 := hc 0 (by omega)
  rw [show (ad.add (i * 6)).add 0 = ad.add (i * 6) from by simp [Addr.add]] at h0
  have hj : ∀ j, j < 5 → w.cell? ⟨(ad.add (i * 6)).block, (ad.add (i * 6)).off + (j + 1), none⟩ = l[i].cs[j + 1]? := fun j hj => by rw [← add_off]; exact hc (j + 1) (by omega)
  refine ⟨ad, rfl, hb, ⟨h0, hj 0 (by omega), hj 1 (by omega), hj 2 (by omega), hj 3 (by omega), hj 4 (by omega)⟩, fun j hj => ?_⟩
  rw [hc j hj]
  have := l[i].cell j hj
  rwa [← Array.getElem?_toList] at this
/-- A row of vectors of the call's own. -/
def OwnV (w : World) (base : Nat) (v : Value) (l : List Vc) : Prop := w.ownsRow base 25 6 v l.length (rcells Vc.cs l)
theorem OwnV.start (w : World) (base : Nat) : OwnV w base (.slice none 0 0) [] := ⟨rfl, Or.inl ⟨rfl, rfl⟩⟩
theorem OwnV.form {w : World} {base : Nat} {v : Value} {l : List Vc} (h : OwnV w base v l) : ∃ A c, v = .slice A l.length c ∧ l.length ≤ c ∧ RdV w w.heap.size A l := by
  have h' := h
  rcases h'.2 with ⟨rfl, h0⟩ | ⟨g, cap, cur, rfl, -, -, hc, -⟩
  · obtain rfl := List.eq_nil_of_length_eq_zero h0
    exact ⟨none, 0, rfl, Nat.le_refl _, Shows.nil_⟩
  · exact ⟨_, cap, rfl, hc, Shows.of_own h⟩
theorem OwnV.block {w : World} {base : Nat} {v : Value} {l : List Vc} (h : OwnV w base v l) : ∀ g, v.ownBlock = some g → base ≤ g := fun g hg => (World.ownsRow.lt h g hg).1
theorem OwnV.kept {w w' : World} {base : Nat} {v : Value} {l : List Vc} {r : Option Nat} (h : OwnV w base v l) (hg : w.grownBy w' r) (hne : v.ownBlock = none ∨ v.ownBlock ≠ r) : OwnV w' base v l := World.ownsRow.kept h hg hne
theorem OwnV.on {w w' : World} {base : Nat} {v : Value} {l : List Vc} (h : OwnV w base v l) (hb : Below w.heap.size w w') : OwnV w' base v l :=
  OwnV.kept (r := some w.heap.size) h (grown_below hb _) (by
    rcases hv : v.ownBlock with _ | g
    · exact Or.inl rfl
    · right; intro e; injection e with e; have := (World.ownsRow.lt h g hv).2; omega)
theorem shows_vec (w : World) (v : Vc) : Shows (w.alloc (.cells #[.int .i64 v.a, .int .i64 v.b, .int .i64 v.c, .int .i64 v.d, .int .i64 v.e, .int .i64 v.f] 25)) (w.heap.size + 1) 6 (some ⟨w.heap.size, 0, none⟩) 1 v.cs := shows_new w v.cells 25 1 6 rfl
/-- Append one vector onto a row of the call's own. -/
theorem wpList_appv (w : World) {ops : Array Oper} {rest : List Oper} {o : Oper} {a : Act} {Q : Exit → Act → World → Prop} (hgd : o.guard = none) (s x : Operand)
    (ho : o.op = .call { callee := .builtin .append, args := #[s, x], argTypes := #[38, 38] })
    (base : Nat) (v : Value) (l : List Vc) (hs : a.eval s = v) (hown : OwnV w base v l)
    (B : Nat) (A : Option Addr) (c : Nat) (u : Vc) (hx : a.eval x = .slice A 1 c) (hr : Shows w B 6 A 1 u.cs)
    (hbytes : (l.length + 1) * 48 ≤ 140737488355328) (hbase : base ≤ w.heap.size)
    (h : ∀ v' w', OwnV w' base v' (l ++ [u]) → w.grownBy w' v.ownBlock → (v'.ownBlock = v.ownBlock ∨ v'.ownBlock = some w.heap.size) → wpList Tryd.prog ops Q rest (a.put o.dst v') w') :
    wpList Tryd.prog ops Q (o :: rest) a w := by
  obtain ⟨i0, hi, hz0, hz1, hz2⟩ := info_parts vec_info
  refine wpList_plain hgd fun _ hK => wp_app w s x _ ho base _ i0 _ 6 48 Tryd.underlying38 hi hz0 hz1 hz2 rfl (by omega) v l.length (rcells Vc.cs l) hs hown B A 1 c u.cs hx hr u.cs_one (by simp only [maxLen]; omega) hbytes hbase fun v' w' h2 h3 h4 => hK _ _ (h v' w' ?_ h3 h4)
  unfold OwnV
  rw [List.length_append, rcells_append, rcells_single]
  exact h2

end Go.Proofs.YtipaapplingbnaaDoor
