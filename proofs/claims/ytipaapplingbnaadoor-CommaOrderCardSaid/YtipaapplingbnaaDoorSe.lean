/- Words for the walk of Parse. -/
import Derived.Test.YtipaapplingbnaaDoorSc
import Derived.Test.YtipaapplingbnaaDoorCz
import Derived.Test.YtipaapplingbnaaDoorCw
namespace Go.Proofs.YtipaapplingbnaaDoor
open Go.RowKit Go.Deep Go.Shelf Go.Maps Go.WideMaps

noncomputable def parseV (l : List Cm) (s : List UInt8) : List Int := if validB l then (parseC (nms l) s).getD [] else []
noncomputable def parseE (l : List Cm) (s : List UInt8) : Int := if validB l then (if (parseC (nms l) s).isSome then 0 else 8) else 1
def ParseEnds (w : World) (l : List Cm) (s : List UInt8) (e : Ending) (w' : World) : Prop :=
  Below w.heap.size w w' ∧ ∃ A c, e = .returned (.tuple #[.slice A (parseV l s).length c, .int .i64 (parseE l s)]) ∧ RdI w' w'.heap.size A (parseV l s)

/-- Where Parse's variables lie. -/
structure PSt (w : World) (l : List Cm) (g0 gm b6 b7 : Nat) (out : List Int) (W : World) : Prop where
  below : Below w.heap.size w W
  k4 : Blk W w.heap.size 23 #[.slice none 0 0]
  k5 : Blk W (w.heap.size + 1) 27 #[.int .i64 0]
  row : IRow W g0 out
  map : NamesAt W gm (nms l) l.length
  k6 : Blk W b6 23 #[.slice (some ⟨g0, 0, none⟩) l.length l.length]
  k7 : Blk W b7 59 #[.map (some gm)]
  q0 : w.heap.size ≤ g0
  q6 : w.heap.size ≤ b6
  n46 : b6 ≠ w.heap.size
def PRel (w : World) (l : List Cm) (s6 s7 : Value) (W : World) : Prop :=
  ∃ g0 gm b6 b7, s6 = .pointer (some ⟨b6, 0, none⟩) ∧ s7 = .pointer (some ⟨b7, 0, none⟩) ∧ Hid (PSt w l g0 gm b6 b7 (List.replicate l.length 0) W)
theorem World.size_drew (w : World) : w.drew.heap.size = w.heap.size := rfl
theorem blk_new {w : World} {g : Nat} {t : TypeId} {cs : Array Value} (h : g = w.heap.size) : Blk (w.alloc (.cells cs t)) g t cs := by rw [h]; exact Blk.new w t cs
theorem blk_new1 {w : World} {o : Obj} {g : Nat} {t : TypeId} {cs : Array Value} (h : g = w.heap.size + 1) : Blk ((w.alloc o).alloc (.cells cs t)) g t cs := blk_new (by rw [World.size_alloc]; exact h)
theorem blk_new2 {w : World} {o u : Obj} {g : Nat} {t : TypeId} {cs : Array Value} (h : g = w.heap.size + 2) : Blk (((w.alloc o).alloc u).alloc (.cells cs t)) g t cs := blk_new (by rw [World.size_alloc, World.size_alloc]; exact h)
theorem blk_newS {w : World} {p : Addr} {v : Value} {g : Nat} {t : TypeId} {cs : Array Value} (h : g = w.heap.size) : Blk ((w.setCell p v).alloc (.cells cs t)) g t cs := blk_new (by rw [World.size_setCell]; exact h)
theorem blk_newS1 {w : World} {p : Addr} {v : Value} {o : Obj} {g : Nat} {t : TypeId} {cs : Array Value} (h : g = w.heap.size + 1) : Blk (((w.setCell p v).alloc o).alloc (.cells cs t)) g t cs := blk_new1 (by rw [World.size_setCell]; exact h)
theorem blk_newSS {w : World} {p q : Addr} {v u : Value} {g : Nat} {t : TypeId} {cs : Array Value} (h : g = w.heap.size) : Blk (((w.setCell p v).setCell q u).alloc (.cells cs t)) g t cs := blk_newS (by rw [World.size_setCell]; exact h)
theorem Blk.farb {w : World} {g b : Nat} {t : TypeId} {cs : Array Value} (h : Blk w g t cs) (hp : g ≠ b) (u : Value) : Blk (w.setCell ⟨b, 0, none⟩ u) g t cs := h.far (p := ⟨b, 0, none⟩) hp u
theorem blk_upd {w : World} {g : Nat} {t : TypeId} {a b : Value} (h : Blk w g t #[a]) : Blk (w.setCell ⟨g, 0, none⟩ b) g t #[b] := by
  have := h.set_ 0 b
  simpa using this
theorem NamesAt.alloc {w : World} {g : Nat} {ns : List (List UInt8)} {k : Nat} (h : NamesAt w g ns k) (o : Obj) : NamesAt (w.alloc o) g ns k := h.up ((Below.refl _ _).alloc (Nat.le_refl _) _)
theorem NamesAt.put {w : World} {g b : Nat} {t : TypeId} {cs : Array Value} {ns : List (List UInt8)} {k : Nat} (h : NamesAt w g ns k) (hb : Blk w b t cs) (v : Value) : NamesAt (w.setCell ⟨b, 0, none⟩ v) g ns k := by
  refine World.ownsMap.kept (row := some b) h (grownBy_setCell' w b v) ?_
  intro e
  obtain ⟨es, clk, h1, -⟩ := h
  have h2 : w.heap[g]? = some (.cells cs t (0, 0)) := by injection e with e; exact e ▸ hb
  rw [h1] at h2
  cases h2
theorem NamesAt.lt {w : World} {g : Nat} {ns : List (List UInt8)} {k : Nat} (h : NamesAt w g ns k) : g < w.heap.size := by
  obtain ⟨es, clk, h1, -⟩ := h
  exact (Array.getElem?_eq_some_iff.1 h1).1
theorem NamesAt.kept {w w' : World} {g : Nat} {ns : List (List UInt8)} {k : Nat} {row : Option Nat} (h : NamesAt w g ns k) (hg : w.grownBy w' row) (hr : row ≠ some g) : NamesAt w' g ns k :=
  World.ownsMap.kept h hg (fun e => hr e.symm)
theorem NamesAt.ne_row {w : World} {g b : Nat} {t : TypeId} {cs : Array Value} {ns : List (List UInt8)} {k : Nat} (h : NamesAt w g ns k) (hb : Blk w b t cs) : b ≠ g := by
  rintro rfl
  obtain ⟨es, clk, h1, -⟩ := h
  have h2 := h1.symm.trans hb
  cases h2
theorem grown_set (w : World) (b i : Nat) (v : Value) : w.grownBy (w.setCell ⟨b, i, none⟩ v) (some b) :=
  ⟨rfl, rfl, rfl, by simp [World.setCell], fun k _ hk => Below.heap_setCell _ _ _ _ (fun e => hk (by simp [e]))⟩
theorem NamesAt.set {w : World} {g b : Nat} {ns : List (List UInt8)} {k : Nat} (h : NamesAt w g ns k) (hb : b ≠ g) (v : Value) : NamesAt (w.setCell ⟨b, 0, none⟩ v) g ns k :=
  h.kept (row := some b) (grown_set w b 0 v) (fun e => hb (by injection e))
theorem below_al {w W : World} (h : Below w.heap.size w W) (o : Obj) : Below w.heap.size w (W.alloc o) := h.alloc h.size o
theorem below_st {w W : World} (h : Below w.heap.size w W) (p : Addr) (v : Value) (hp : w.heap.size ≤ p.block) : Below w.heap.size w (W.setCell p v) := h.setCell hp v
theorem below_stb {w W : World} (h : Below w.heap.size w W) (b : Nat) (v : Value) (hp : w.heap.size ≤ b) : Below w.heap.size w (W.setCell ⟨b, 0, none⟩ v) := h.setCell (p := ⟨b, 0, none⟩) hp v
theorem below_dr {w W : World} (h : Below w.heap.size w W) : Below w.heap.size w W.drew := h.drew
theorem PRel.of {w W : World} {l : List Cm} {g0 gm b6 b7 : Nat} (k6 : Blk W b6 23 #[.slice (some ⟨g0, 0, none⟩) l.length l.length]) (k7 : Blk W b7 59 #[.map (some gm)])
    (row : IRow W g0 (List.replicate l.length 0)) (map : NamesAt W gm (nms l) l.length) (k4 : Blk W w.heap.size 23 #[.slice none 0 0]) (k5 : Blk W (w.heap.size + 1) 27 #[.int .i64 0]) (below : Below w.heap.size w W)
    (q0 : w.heap.size ≤ g0) (q6 : w.heap.size ≤ b6) (n46 : b6 ≠ w.heap.size) : PRel w l (.pointer (some ⟨b6, 0, none⟩)) (.pointer (some ⟨b7, 0, none⟩)) W :=
  ⟨g0, gm, b6, b7, rfl, rfl, Lib.hid ⟨below, k4, k5, row, map, k6, k7, q0, q6, n46⟩⟩
theorem below_grownBy {w w' : World} (h : Below w.heap.size w w') : w.grownBy w' none := ⟨h.os, h.tape, h.output, h.size, fun k hk _ => h.block k hk⟩

/-- The state, and all its blocks below B. -/
structure PLo (w : World) (l : List Cm) (B g0 gm b6 b7 : Nat) (out : List Int) (W : World) : Prop where
  st : PSt w l g0 gm b6 b7 out W
  wB : w.heap.size + 1 < B
  gB : g0 < B
  mB : gm < B
  b6B : b6 < B
  b7B : b7 < B
  WB : B ≤ W.heap.size
theorem PSt.lo {w W : World} {l : List Cm} {g0 gm b6 b7 : Nat} {out : List Int} (h : PSt w l g0 gm b6 b7 out W) : PLo w l W.heap.size g0 gm b6 b7 out W :=
  ⟨h, h.k5.lt, Blk.lt h.row, h.map.lt, h.k6.lt, h.k7.lt, Nat.le_refl _⟩
theorem PLo.grown {w W W' : World} {l : List Cm} {B g0 gm b6 b7 : Nat} {out : List Int} {row : Option Nat} (h : PLo w l B g0 gm b6 b7 out W) (hg : W.grownBy W' row) (hr : ∀ r, row = some r → B ≤ r) : PLo w l B g0 gm b6 b7 out W' := by
  have hne : ∀ b, b < B → row ≠ some b := fun b hb e => by have := hr b e; omega
  have h1 := h.wB
  have h2 := h.WB
  refine ⟨⟨h.st.below.grown hg h.st.below.size (fun r e => by have := hr r e; omega), h.st.k4.grown hg (hne _ (by omega)), h.st.k5.grown hg (hne _ h.wB), Blk.grown h.st.row hg (hne _ h.gB), h.st.map.kept hg (hne _ h.mB), h.st.k6.grown hg (hne _ h.b6B), h.st.k7.grown hg (hne _ h.b7B), h.st.q0, h.st.q6, h.st.n46⟩, h.wB, h.gB, h.mB, h.b6B, h.b7B, ?_⟩
  have := hg.size
  omega
theorem PLo.alloc {w W : World} {l : List Cm} {B g0 gm b6 b7 : Nat} {out : List Int} (h : PLo w l B g0 gm b6 b7 out W) (o : Obj) : PLo w l B g0 gm b6 b7 out (W.alloc o) :=
  h.grown (World.grownBy_alloc W o none) (fun r e => by cases e)
theorem PLo.putObj {w W : World} {l : List Cm} {B g0 gm b6 b7 : Nat} {out : List Int} (h : PLo w l B g0 gm b6 b7 out W) (k : Nat) (o : Obj) (hk : B ≤ k) : PLo w l B g0 gm b6 b7 out (W.putObj k o) :=
  h.grown (grownBy_putObj' W k o) (fun r e => by cases e; exact hk)
theorem PLo.setCell {w W : World} {l : List Cm} {B g0 gm b6 b7 : Nat} {out : List Int} (h : PLo w l B g0 gm b6 b7 out W) (k : Nat) (v : Value) (hk : B ≤ k) : PLo w l B g0 gm b6 b7 out (W.setCell ⟨k, 0, none⟩ v) :=
  h.grown (grownBy_setCell' W k v) (fun r e => by cases e; exact hk)
theorem PLo.on {w W W' : World} {l : List Cm} {B g0 gm b6 b7 : Nat} {out : List Int} (h : PLo w l B g0 gm b6 b7 out W) (hb : Below W.heap.size W W') : PLo w l B g0 gm b6 b7 out W' :=
  h.grown (below_grownBy hb) (fun r e => by cases e)
theorem blk_ne {W : World} {g h : Nat} {t u : TypeId} {cs ds : Array Value} (a : Blk W g t cs) (b : Blk W h u ds) (ht : t ≠ u) : g ≠ h := by
  rintro rfl
  have e := a.symm.trans b
  injection e with e
  injection e with e1 e2
  exact ht e2
/-- A number stored into the account. -/
theorem PLo.put {w W : World} {l : List Cm} {B g0 gm b6 b7 : Nat} {out : List Int} (h : PLo w l B g0 gm b6 b7 out W) (k : Nat) (x : Int) : PLo w l B g0 gm b6 b7 (out.set k x) (W.setCell ⟨g0, k, none⟩ (.int .i64 x)) := by
  have n4 := blk_ne h.st.k4 h.st.row (by decide)
  have n5 := blk_ne h.st.k5 h.st.row (by decide)
  have n6 := blk_ne h.st.k6 h.st.row (by decide)
  have n7 := blk_ne h.st.k7 h.st.row (by decide)
  refine ⟨⟨h.st.below.setCell (p := ⟨g0, k, none⟩) h.st.q0 _, h.st.k4.far (p := ⟨g0, k, none⟩) n4 _, h.st.k5.far (p := ⟨g0, k, none⟩) n5 _, h.st.row.put k x, ?_, h.st.k6.far (p := ⟨g0, k, none⟩) n6 _, h.st.k7.far (p := ⟨g0, k, none⟩) n7 _, h.st.q0, h.st.q6, h.st.n46⟩, h.wB, h.gB, h.mB, h.b6B, h.b7B, by rw [World.size_setCell]; exact h.WB⟩
  have nm := h.st.map.ne_row h.st.row
  exact h.st.map.kept (row := some g0) (grown_set W g0 k _) (fun e => nm (by injection e))
theorem kp3_below {b0 b1 b2 : Nat} {W W' : World} (h : Below W.heap.size W W') (h0 : b0 < W.heap.size) (h1 : b1 < W.heap.size) (h2 : b2 < W.heap.size) : Kp3 b0 b1 b2 W W' := by
  intro b hb i
  have hl : b < W.heap.size := by rcases hb with rfl | rfl | rfl <;> assumption
  exact ⟨h.cell (p := ⟨b, i, none⟩) hl, h.frozen (p := ⟨b, i, none⟩) hl⟩
theorem kp3_set {b0 b1 b2 : Nat} (W : World) (p : Addr) (v : Value) (h0 : b0 ≠ p.block) (h1 : b1 ≠ p.block) (h2 : b2 ≠ p.block) : Kp3 b0 b1 b2 W (W.setCell p v) := by
  intro b hb i
  have hl : b ≠ p.block := by rcases hb with rfl | rfl | rfl <;> assumption
  exact ⟨World.cell?_setCell_far W p ⟨b, i, none⟩ v (fun e => hl e.symm), by rw [World.frozen?_setCell]⟩
theorem keeps_below {B : Nat} {W W' : World} (h : Below W.heap.size W W') : KeepsFrom B W W' :=
  ⟨h.size, fun k _ _ hk _ => (h.block k (Array.getElem?_eq_some_iff.1 hk).1).trans hk⟩
theorem keeps_set (B : Nat) (W : World) (p : Addr) (v : Value) : KeepsFrom B W (W.setCell p v) := (KeepsOthers.setCell W p v).from B

theorem size_putObj (W : World) (k : Nat) (o : Obj) : (W.putObj k o).heap.size = W.heap.size := by simp [World.putObj]
theorem loopC_snoc (ns : List (List UInt8)) (out : List Int) (ws : List (List UInt8)) (x : List UInt8) : loopC ns out (ws ++ [x]) = (loopC ns out ws).bind fun u => stepC ns u x := by
  induction ws generalizing out with
  | nil =>
    simp only [List.nil_append, loopC, Option.bind_some]
    cases stepC ns out x <;> rfl
  | cons y ws ih =>
    simp only [List.cons_append, loopC]
    cases stepC ns out y with
    | none => rfl
    | some u => exact ih u
theorem loopC_prefix {ns : List (List UInt8)} {out : List Int} {ws vs : List (List UInt8)} (h : ws <+: vs) (hn : loopC ns out ws = none) : loopC ns out vs = none := by
  obtain ⟨r, rfl⟩ := h
  induction ws generalizing out with
  | nil => simp [loopC] at hn
  | cons y ws ih =>
    simp only [List.cons_append, loopC] at hn ⊢
    cases hy : stepC ns out y with
    | none => rfl
    | some => rw [hy] at hn; exact ih hn
theorem loopC_len {ns : List (List UInt8)} {out o : List Int} {ws : List (List UInt8)} (h : loopC ns out ws = some o) : o.length = out.length := by
  induction ws generalizing out with
  | nil => simp only [loopC] at h; injection h with h; rw [h]
  | cons y ws ih =>
    simp only [loopC] at h
    cases hy : stepC ns out y with
    | none => rw [hy] at h; cases h
    | some _ =>
      rw [hy] at h
      rw [ih h]
      unfold stepC at hy
      split at hy
      · cases hy
      · split at hy
        · cases hy
        · split at hy
          · injection hy with hy; rw [← hy]; simp
          · cases hy

end Go.Proofs.YtipaapplingbnaaDoor
