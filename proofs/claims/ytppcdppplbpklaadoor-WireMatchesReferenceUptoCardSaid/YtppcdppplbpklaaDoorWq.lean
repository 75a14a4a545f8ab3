/- Words for memory: slices that read as lists of cells, rows of the call's own, appends onto them. -/
import Derived.Test.YtppcdppplbpklaaDoorWp
import Derived.Test.YtppcdppplbpklaaDoorProg
import Derived.Maps.AppendAt
import Derived.Deep.AppendLies
import Derived.RegionTactic
import Derived.OwnWalk
import Derived.Deep.Draws
namespace Go.Proofs.YtppcdppplbpklaaDoor
open Go.RowKit

/-- The slice address A (n elements of 'size' cells) shows the cells xs, below block B. -/
def Shows (w : World) (B size : Nat) (A : Option Addr) (n : Nat) (xs : List Value) : Prop :=
  xs.length = n * size ∧ (0 < n → ∃ ad : Addr, A = some ad ∧ ad.block < B ∧ ∀ j, j < xs.length → w.cell? (ad.add j) = xs[j]?)

theorem add_block (a : Addr) (n : Nat) : (a.add n).block = a.block := by unfold Addr.add; split <;> rfl
theorem add_add' (a : Addr) (i j : Nat) : (a.add i).add j = a.add (i + j) := by
  unfold Addr.add
  by_cases hi : i = 0
  · simp [hi]
  · by_cases hj : j = 0
    · simp [hi, hj]
    · simp [hi, hj, Nat.add_assoc]

section
variable {w w' : World} {B B' size n : Nat} {A : Option Addr} {xs : List Value}
theorem Shows.nil_ : Shows w B size A 0 [] := ⟨by simp, fun h => by omega⟩
theorem Shows.same (h : Shows w B size A n xs) (hk : ∀ p : Addr, p.block < B → w'.cell? p = w.cell? p) : Shows w' B size A n xs := by
  refine ⟨h.1, fun hn => ?_⟩
  obtain ⟨ad, e, hb, hc⟩ := h.2 hn
  exact ⟨ad, e, hb, fun j hj => by rw [hk _ (by rw [add_block]; exact hb)]; exact hc j hj⟩
theorem Shows.wider (h : Shows w B size A n xs) (hB : B ≤ B') : Shows w B' size A n xs := by
  refine ⟨h.1, fun hn => ?_⟩
  obtain ⟨ad, e, hb, hc⟩ := h.2 hn
  exact ⟨ad, e, by omega, hc⟩
theorem Shows.below (h : Shows w B size A n xs) (hb : Below B w w') : Shows w' B size A n xs := h.same fun _ hp => hb.cell hp
theorem Shows.drewN (h : Shows w B size A n xs) (k : Nat) : Shows (w.drewN k) B size A n xs := h
theorem Shows.alloc (h : Shows w B size A n xs) (hB : B ≤ w.heap.size) (o : Obj) : Shows (w.alloc o) B size A n xs :=
  h.same fun p hp => World.cell?_alloc_lt w o p (by omega)
theorem Shows.setCell (h : Shows w B size A n xs) {p : Addr} (hB : B ≤ p.block) (u : Value) : Shows (w.setCell p u) B size A n xs :=
  h.same fun q hq => World.cell?_setCell_other w p q u (fun e => by subst e; omega)
theorem Shows.grown (h : Shows w B size A n xs) {row : Option Nat} (hg : w.grownBy w' row) (hB : B ≤ w.heap.size) (hr : ∀ g, row = some g → B ≤ g) : Shows w' B size A n xs :=
  h.same fun p hp => World.cell?_of_block (hg.block p.block (by omega) (fun e => by have := hr _ e.symm; omega))
theorem Shows.of_own {base : Nat} {e : TypeId} {c : Nat} (h : w.ownsRow base e size (.slice A n c) n xs) : Shows w w.heap.size size A n xs := by
  refine ⟨h.1, fun hn => ?_⟩
  obtain ⟨g, cap, hv, _, hlt⟩ := h.form hn
  injection hv with hA
  subst hA
  exact ⟨_, rfl, hlt, fun j hj => by rw [h.cells (g := g) rfl j _ (List.getElem?_eq_getElem hj), List.getElem?_eq_getElem hj]⟩
theorem Shows.cut (h : Shows w B size A n xs) {k cap : Nat} (hk : k ≤ n) (hc : n ≤ cap) :
    Shows w B size (if cap = k then A else A.map (·.add (k * size))) (n - k) (xs.drop (k * size)) := by
  refine ⟨by rw [List.length_drop, h.1, Nat.sub_mul], fun hn => ?_⟩
  obtain ⟨ad, rfl, hb, hcell⟩ := h.2 (by omega)
  rw [if_neg (by omega)]
  refine ⟨ad.add (k * size), rfl, by rw [add_block]; exact hb, fun j hj => ?_⟩
  rw [List.length_drop] at hj
  rw [add_add', List.getElem?_drop]
  exact hcell _ (by omega)
theorem Shows.head (h : Shows w B size A n xs) {k : Nat} (hk : k ≤ n) : Shows w B size A k (xs.take (k * size)) := by
  have hl : k * size ≤ n * size := Nat.mul_le_mul_right _ hk
  refine ⟨by rw [List.length_take, h.1]; omega, fun hn => ?_⟩
  obtain ⟨ad, rfl, hb, hcell⟩ := h.2 (by omega)
  refine ⟨ad, rfl, hb, fun j hj => ?_⟩
  rw [List.length_take] at hj
  rw [hcell j (by omega), List.getElem?_take, if_pos (by omega)]
/-- One element of one cell. -/
theorem Shows.at_ {k : Nat} (h : Shows w B 1 A n xs) (hk : k < n) : ∃ ad u, A = some ad ∧ ad.block < B ∧ xs[k]? = some u ∧ w.cell? (ad.add k) = some u := by
  obtain ⟨ad, e, hb, hc⟩ := h.2 (by omega)
  have hl : k < xs.length := by have := h.1; omega
  exact ⟨ad, xs[k], e, hb, List.getElem?_eq_getElem hl, by rw [hc k hl]; exact List.getElem?_eq_getElem hl⟩
end

/-- Append, whatever the source: nil, empty or not. -/
theorem run_app {P : Program} (w : World) (base : Nat) (t ty e : TypeId) (i : TypeInfo) (z : Value) (size bytes : Nat) (ht : P.underlying t = some (.slice e)) (hi : P.info? e = some i) (hz : i.zero = some z)
    (hsize : i.size = size) (hby : i.bytes = bytes) (hzs : z.cells.size = size) (hsz : 0 < size)
    (v : Value) (n : Nat) (xs : List Value) (hown : w.ownsRow base e size v n xs)
    (B : Nat) (A : Option Addr) (m c : Nat) (news : List Value) (hr : Shows w B size A m news) (h1 : ∀ u ∈ news, u.oneCell' = true)
    (h63 : n + m ≤ maxLen) (hbytes : (n + m) * bytes ≤ 140737488355328) (hbase : base ≤ w.heap.size) :
    ∃ v' w', (Builtin.append_ #[t, t] ty #[v, .slice A m c]).run P w = .ok v' w' ∧ w'.ownsRow base e size v' (n + m) (xs ++ news) ∧ w.grownBy w' v.ownBlock ∧
      (v'.ownBlock = v.ownBlock ∨ v'.ownBlock = some w.heap.size) := by
  cases A with
  | some ad =>
    have hc : ∀ j u, news[j]? = some u → w.cell? (ad.add j) = some u := by
      intro j u hu
      have hj : j < news.length := (List.getElem?_eq_some_iff.1 hu).1
      have hm : 0 < m := by
        rcases Nat.eq_zero_or_pos m with h0 | h0
        · have := hr.1; rw [h0, Nat.zero_mul] at this; omega
        · exact h0
      obtain ⟨ad', e', _, hcell⟩ := hr.2 hm
      injection e' with e'
      subst e'
      rw [hcell j hj, hu]
    obtain ⟨v', w', hrun, h2, h3, _, h5⟩ := run_append_own_at (P := P) w base t ty e i z size bytes ht hi hz hsize hby hzs hsz v n xs hown ad m c news hr.1 hc h1 h63 hbytes hbase
    exact ⟨v', w', hrun, h2, h3, h5⟩
  | none =>
    have hm : m = 0 := by
      rcases Nat.eq_zero_or_pos m with h0 | h0
      · exact h0
      · obtain ⟨ad, e', _⟩ := hr.2 h0; cases e'
    subst hm
    have hnn : news = [] := List.eq_nil_of_length_eq_zero (by simpa using hr.1)
    subst hnn
    refine ⟨v, w, ?_, by simpa using hown, ⟨rfl, rfl, rfl, Nat.le_refl _, fun _ _ _ => rfl⟩, .inl rfl⟩
    rcases hown.2 with ⟨rfl, rfl⟩ | ⟨g, cap, cur, rfl, _, _, hnc, _⟩
    · simp [Builtin.append_, run_underlying ht, sizeOf, typeInfo, hi, Builtin.lenOf, Builtin.firstCells]
    · simp [Builtin.append_, run_underlying ht, sizeOf, typeInfo, hi, Builtin.lenOf, Builtin.firstCells, hnc, storeCells]

theorem wp_app {P : Program} (w : World) {o : Oper} {a : Act} {K : Act → World → Prop} {Q : Exit → Act → World → Prop} (s x : Operand) (t : TypeId)
    (ho : o.op = .call { callee := .builtin .append, args := #[s, x], argTypes := #[t, t] })
    (base : Nat) (e : TypeId) (i : TypeInfo) (z : Value) (size bytes : Nat) (ht : P.underlying t = some (.slice e)) (hi : P.info? e = some i) (hz : i.zero = some z)
    (hsize : i.size = size) (hby : i.bytes = bytes) (hzs : z.cells.size = size) (hsz : 0 < size)
    (v : Value) (n : Nat) (xs : List Value) (hs : a.eval s = v) (hown : w.ownsRow base e size v n xs)
    (B : Nat) (A : Option Addr) (m c : Nat) (news : List Value) (hx : a.eval x = .slice A m c) (hr : Shows w B size A m news) (h1 : ∀ u ∈ news, u.oneCell' = true)
    (h63 : n + m ≤ maxLen) (hbytes : (n + m) * bytes ≤ 140737488355328) (hbase : base ≤ w.heap.size)
    (h : ∀ v' w', w'.ownsRow base e size v' (n + m) (xs ++ news) → w.grownBy w' v.ownBlock → (v'.ownBlock = v.ownBlock ∨ v'.ownBlock = some w.heap.size) → K (a.put o.dst v') w') : o.wp P a w K Q := by
  obtain ⟨v', w', hrun, h2, h3, h4⟩ := run_app (P := P) w base t o.type e i z size bytes ht hi hz hsize hby hzs hsz v n xs hown B A m c news hr h1 h63 hbytes hbase
  unfold Oper.wp execOp
  simp only [ho, resolve, invoke, builtin, Sem.run_bind, Sem.run_pure, Result.andThen_ok, List.map_toArray, List.map_cons, List.map_nil, hs, hx, hrun]
  exact h v' w' h2 h3 h4

theorem u8_info : (Tryd.prog.info? 5).map (fun i => (i.zero, i.size, i.bytes)) = some (some (.int .u8 0), 1, 1) := by kernel_rfl

/-- A row of bytes of the call's own. -/
def OwnB (w : World) (base : Nat) (v : Value) (l : List UInt8) : Prop := w.ownsRow base 5 1 v l.length (bcells l)
theorem OwnB.snoc {w : World} {base : Nat} {v : Value} {l m : List UInt8} {n : Nat} {news : List Value} (h : w.ownsRow base 5 1 v (l.length + n) (bcells l ++ news)) (hm : news = bcells m) (hn : n = m.length) : OwnB w base v (l ++ m) := by
  subst hm hn
  unfold OwnB
  rw [List.length_append, show bcells (l ++ m) = bcells l ++ bcells m by simp [bcells]]
  exact h

/-- Append onto a row of bytes of the call's own. -/
theorem wpList_appb (w : World) {ops : Array Oper} {rest : List Oper} {o : Oper} {a : Act} {Q : Exit → Act → World → Prop} (hgd : o.guard = none) (s x : Operand)
    (ho : o.op = .call { callee := .builtin .append, args := #[s, x], argTypes := #[26, 26] })
    (base : Nat) (v : Value) (n : Nat) (xs : List Value) (hs : a.eval s = v) (hown : w.ownsRow base 5 1 v n xs)
    (B : Nat) (A : Option Addr) (m c : Nat) (news : List Value) (hx : a.eval x = .slice A m c) (hr : Shows w B 1 A m news) (h1 : ∀ u ∈ news, u.oneCell' = true)
    (hbytes : n + m ≤ 140737488355328) (hbase : base ≤ w.heap.size)
    (h : ∀ v' w', w'.ownsRow base 5 1 v' (n + m) (xs ++ news) → w.grownBy w' v.ownBlock → (v'.ownBlock = v.ownBlock ∨ v'.ownBlock = some w.heap.size) → wpList Tryd.prog ops Q rest (a.put o.dst v') w') :
    wpList Tryd.prog ops Q (o :: rest) a w := by
  obtain ⟨i0, hi, hz0, hz1, hz2⟩ := info_parts u8_info
  exact wpList_plain hgd fun _ hK => wp_app w s x _ ho base _ i0 _ 1 1 Tryd.underlying26 hi hz0 hz1 hz2 rfl (by omega) v n xs hs hown B A m c news hx hr h1 (by simp only [maxLen]; omega) (by omega) hbase fun v' w' h2 h3 h4 => hK _ _ (h v' w' h2 h3 h4)

theorem step_appb (w : World) {ops : Array Oper} {o : Oper} {a : Act} {K : Act → World → Prop} {Q : Exit → Act → World → Prop} {E : Prop} (hgd : o.guard = none) (s x : Operand)
    (ho : o.op = .call { callee := .builtin .append, args := #[s, x], argTypes := #[26, 26] })
    (base : Nat) (v : Value) (n : Nat) (xs : List Value) (hs : a.eval s = v) (hown : w.ownsRow base 5 1 v n xs)
    (B : Nat) (A : Option Addr) (m c : Nat) (news : List Value) (hx : a.eval x = .slice A m c) (hr : Shows w B 1 A m news) (h1 : ∀ u ∈ news, u.oneCell' = true)
    (hbytes : n + m ≤ 140737488355328) (hbase : base ≤ w.heap.size)
    (h : ∀ v' w', w'.ownsRow base 5 1 v' (n + m) (xs ++ news) → w.grownBy w' v.ownBlock → (v'.ownBlock = v.ownBlock ∨ v'.ownBlock = some w.heap.size) → K (a.put o.dst v') w') :
    if Region.wanted o (yielded ops a.tmps) = true then Oper.wp Tryd.prog o a w K Q else E := by
  have hw : Region.wanted o (yielded ops a.tmps) = true := by simp [Region.wanted, hgd]
  rw [if_pos hw]
  obtain ⟨i0, hi, hz0, hz1, hz2⟩ := info_parts u8_info
  exact wp_app w s x _ ho base _ i0 _ 1 1 Tryd.underlying26 hi hz0 hz1 hz2 rfl (by omega) v n xs hs hown B A m c news hx hr h1 (by simp only [maxLen]; omega) (by omega) hbase h

theorem OwnB.lower {w : World} {base base' : Nat} {v : Value} {l : List UInt8} (h : OwnB w base v l) (hb : base' ≤ base) : OwnB w base' v l := by
  refine ⟨h.1, ?_⟩
  rcases h.2 with h2 | ⟨g, cap, cur, hv, hg, r⟩
  · exact .inl h2
  · exact .inr ⟨g, cap, cur, hv, by omega, r⟩
theorem OwnB.block {w : World} {base : Nat} {v : Value} {l : List UInt8} (h : OwnB w base v l) : ∀ g, v.ownBlock = some g → base ≤ g := fun g hg => (World.ownsRow.lt h g hg).1

theorem OwnB.alloc {w : World} {base : Nat} {v : Value} {l : List UInt8} (h : OwnB w base v l) (o : Obj) : OwnB (w.alloc o) base v l := World.ownsRow.alloc h o
theorem OwnB.drew {w : World} {base : Nat} {v : Value} {l : List UInt8} (h : OwnB w base v l) : OwnB w.drew base v l := h
theorem OwnB.drewN {w : World} {base : Nat} {v : Value} {l : List UInt8} (h : OwnB w base v l) (n : Nat) : OwnB (w.drewN n) base v l := h
theorem Shows.drew {w : World} {B size n : Nat} {A : Option Addr} {xs : List Value} (h : Shows w B size A n xs) : Shows w.drew B size A n xs := h
theorem OwnB.kept {w w' : World} {base : Nat} {v : Value} {l : List UInt8} {r : Option Nat} (h : OwnB w base v l) (hg : w.grownBy w' r) (hne : v.ownBlock = none ∨ v.ownBlock ≠ r) : OwnB w' base v l := World.ownsRow.kept h hg hne

theorem Nibs.size {w : World} (h : Nibs w) : 0 < w.heap.size := World.block_lt_of_cell? w _ (h 0 (by omega))
theorem Nibs.below {w w' : World} (h : Nibs w) (hb : Below w.heap.size w w') : Nibs w' := fun i hi => (hb.cell (p := ⟨0, i, none⟩) h.size).trans (h i hi)

theorem below_dN {B : Nat} {a w : World} (h : Below B a w) (n : Nat) : Below B a (w.drewN n) := ⟨h.os, h.tape, h.output, h.size, h.block⟩
theorem grown_dN {r : Option Nat} {a w : World} (h : a.grownBy w r) (n : Nat) : a.grownBy (w.drewN n) r := ⟨h.os, h.tape, h.output, h.size, h.block⟩
theorem grown_refl (w : World) (r : Option Nat) : w.grownBy w r := ⟨rfl, rfl, rfl, Nat.le_refl _, fun _ _ _ => rfl⟩
theorem grown_set {a w : World} {R : Nat} (h : a.grownBy w (some R)) (i : Nat) (u : Value) : a.grownBy (w.setCell ⟨R, i, none⟩ u) (some R) :=
  ⟨h.os, h.tape, h.output, by simpa using h.size, fun k hk hne => (heap_setCell_other w ⟨R, i, none⟩ k u (fun e => hne (by rw [e]))).trans (h.block k hk hne)⟩

/-- A block that is known whole. -/
def Blk (w : World) (g : Nat) (t : TypeId) (cs : Array Value) : Prop := w.heap[g]? = some (.cells cs t (0, 0))
theorem Blk.lt {w : World} {g : Nat} {t : TypeId} {cs : Array Value} (h : Blk w g t cs) : g < w.heap.size := (Array.getElem?_eq_some_iff.1 h).1
theorem Blk.cell {w : World} {g : Nat} {t : TypeId} {cs : Array Value} (h : Blk w g t cs) (i : Nat) : w.cell? ⟨g, i, none⟩ = cs[i]? := cell_of_row w g i cs t (0, 0) h
theorem Blk.frozen {w : World} {g : Nat} {t : TypeId} {cs : Array Value} (h : Blk w g t cs) (i : Nat) : w.frozen? ⟨g, i, none⟩ = false := frozen_of_row w g i cs t h
theorem Blk.new (w : World) (t : TypeId) (cs : Array Value) : Blk (w.alloc (.cells cs t)) w.heap.size t cs := heap_alloc_new w _
theorem Blk.drew {w : World} {g : Nat} {t : TypeId} {cs : Array Value} (h : Blk w g t cs) : Blk w.drew g t cs := h
theorem Blk.drewN {w : World} {g : Nat} {t : TypeId} {cs : Array Value} (h : Blk w g t cs) (n : Nat) : Blk (w.drewN n) g t cs := h
theorem Blk.alloc {w : World} {g : Nat} {t : TypeId} {cs : Array Value} (h : Blk w g t cs) (o : Obj) : Blk (w.alloc o) g t cs := (heap_alloc_old w o h.lt).trans h
theorem Blk.below {w w' : World} {B g : Nat} {t : TypeId} {cs : Array Value} (h : Blk w g t cs) (hb : Below B w w') (hg : g < B) : Blk w' g t cs := (hb.block g hg).trans h
theorem Blk.grown {w w' : World} {r : Option Nat} {g : Nat} {t : TypeId} {cs : Array Value} (h : Blk w g t cs) (hb : w.grownBy w' r) (hg : r ≠ some g) : Blk w' g t cs := (hb.block g h.lt (fun e => hg e.symm)).trans h
theorem Blk.far {w : World} {g : Nat} {t : TypeId} {cs : Array Value} (h : Blk w g t cs) {p : Addr} (hp : g ≠ p.block) (u : Value) : Blk (w.setCell p u) g t cs := (heap_setCell_other w p g u hp).trans h
theorem Blk.set_ {w : World} {g : Nat} {t : TypeId} {cs : Array Value} (h : Blk w g t cs) (i : Nat) (u : Value) : Blk (w.setCell ⟨g, i, none⟩ u) g t (cs.setIfInBounds i u) := heap_setCell_same w g i cs t u h

section
variable {P : Program} {fn : Func} {p t1 t2 : Tmp} {ty : TypeId}
theorem results_cell_tmp (h : fn.results = #[.cell p ty, .tmp t1]) (tmps : Array Value) (w : World) (g : Nat) (t : TypeId) (cs : Array Value) (d : TypeDesc)
    (hp : tmps.getD p undef = .pointer (some ⟨g, 0, none⟩)) (hg : Blk w g t cs)
    (hu : P.underlying ty = some d) (hd : (match d with | .struct _ | .array _ _ => true | _ => false) = true) (hi : (P.info? ty).map (·.size) = some cs.size) :
    (results fn tmps).run P w = .ok (.tuple #[.agg cs, tmps.getD t1 undef]) w := by
  have hp' : tmps[p]?.getD undef = .pointer (some ⟨g, 0, none⟩) := by simpa using hp
  simp [results, h, hp', asAddr, run_loadVar_row w g t ty cs (0, 0) d hg hu hd hi]
theorem results_cell_tmp2 (h : fn.results = #[.cell p ty, .tmp t1, .tmp t2]) (tmps : Array Value) (w : World) (g : Nat) (t : TypeId) (cs : Array Value) (d : TypeDesc)
    (hp : tmps.getD p undef = .pointer (some ⟨g, 0, none⟩)) (hg : Blk w g t cs)
    (hu : P.underlying ty = some d) (hd : (match d with | .struct _ | .array _ _ => true | _ => false) = true) (hi : (P.info? ty).map (·.size) = some cs.size) :
    (results fn tmps).run P w = .ok (.tuple #[.agg cs, tmps.getD t1 undef, tmps.getD t2 undef]) w := by
  have hp' : tmps[p]?.getD undef = .pointer (some ⟨g, 0, none⟩) := by simpa using hp
  simp [results, h, hp', asAddr, run_loadVar_row w g t ty cs (0, 0) d hg hu hd hi]
end

/-- A store of a whole struct or array into a block that is known whole: the world behind it is a letter. -/
theorem wpList_put {P : Program} {ops : Array Oper} {rest : List Oper} {o : Oper} {a : Act} {w : World} {Q : Exit → Act → World → Prop} (hgd : o.guard = none) (ty : TypeId) (x y : Operand) (ho : o.op = .store ty x y)
    (g : Nat) (cells : Array Value) (hx : a.eval x = .pointer (some ⟨g, 0, none⟩)) (hy : a.eval y = .agg cells)
    (t : TypeId) (old : Array Value) (hg : Blk w g t old) (hi : (P.info? ty).map (·.size) = some cells.size)
    (hold : old.size = cells.size) (h1 : cells.all (·.oneCell') = true)
    (h : ∀ w', Blk w' g t cells → w.grownBy w' (some g) → w'.heap.size = w.heap.size → wpList P ops Q rest (a.put o.dst undef) w') : wpList P ops Q (o :: rest) a w :=
  wpList_store_row hgd ty x y ho g cells hx hy t old hg hi hold h1
    (h _ (setRow_heap w g old cells t (0, 0) hg) ⟨rfl, rfl, rfl, by simp, fun k _ hk => setRow_other w g k cells (fun e => hk (by rw [e]))⟩ (by simp))
theorem step_put {P : Program} {ops : Array Oper} {o : Oper} {a : Act} {w : World} {K : Act → World → Prop} {Q : Exit → Act → World → Prop} {E : Prop} (hgd : o.guard = none) (ty : TypeId) (x y : Operand) (ho : o.op = .store ty x y)
    (g : Nat) (cells : Array Value) (hx : a.eval x = .pointer (some ⟨g, 0, none⟩)) (hy : a.eval y = .agg cells)
    (t : TypeId) (old : Array Value) (hg : Blk w g t old) (hi : (P.info? ty).map (·.size) = some cells.size)
    (hold : old.size = cells.size) (h1 : cells.all (·.oneCell') = true)
    (h : ∀ w', Blk w' g t cells → w.grownBy w' (some g) → w'.heap.size = w.heap.size → K (a.put o.dst undef) w') :
    if Region.wanted o (yielded ops a.tmps) = true then Oper.wp P o a w K Q else E := by
  have hw : Region.wanted o (yielded ops a.tmps) = true := by simp [Region.wanted, hgd]
  rw [if_pos hw]
  exact wp_store_row ty x y ho g cells hx hy t old hg hi hold h1
    (h _ (setRow_heap w g old cells t (0, 0) hg) ⟨rfl, rfl, rfl, by simp, fun k _ hk => setRow_other w g k cells (fun e => hk (by rw [e]))⟩ (by simp))
theorem wpList_get {P : Program} {ops : Array Oper} {rest : List Oper} {o : Oper} {a : Act} {w : World} {Q : Exit → Act → World → Prop} (hgd : o.guard = none) (ty : TypeId) (x : Operand) (ho : o.op = .load ty x)
    (g : Nat) (hx : a.eval x = .pointer (some ⟨g, 0, none⟩)) (t : TypeId) (cs : Array Value) (d : TypeDesc) (hg : Blk w g t cs)
    (hu : P.underlying ty = some d) (hd : (match d with | .struct _ | .array _ _ => true | _ => false) = true) (hi : (P.info? ty).map (·.size) = some cs.size)
    (h : wpList P ops Q rest (a.put o.dst (.agg cs)) w) : wpList P ops Q (o :: rest) a w :=
  wpList_load_row hgd ty x ho g hx t cs (0, 0) d hg hu hd hi h

theorem Blk.set10 {w : World} {g : Nat} {t : TypeId} {c0 c1 c2 c3 c4 c5 c6 c7 c8 c9 : Value} (h : Blk w g t #[c0, c1, c2, c3, c4, c5, c6, c7, c8, c9]) (v0 v1 v2 v3 v4 v5 v6 v7 v8 v9 : Value) :
    Blk ((((((((((w.setCell ⟨g, 0, none⟩ v0).setCell ⟨g, 1, none⟩ v1).setCell ⟨g, 2, none⟩ v2).setCell ⟨g, 3, none⟩ v3).setCell ⟨g, 4, none⟩ v4).setCell ⟨g, 5, none⟩ v5).setCell ⟨g, 6, none⟩ v6).setCell ⟨g, 7, none⟩ v7).setCell ⟨g, 8, none⟩ v8).setCell ⟨g, 9, none⟩ v9)
      g t #[v0, v1, v2, v3, v4, v5, v6, v7, v8, v9] := by
  have h0 := h.set_ 0 v0
  have h1 := h0.set_ 1 v1
  have h2 := h1.set_ 2 v2
  have h3 := h2.set_ 3 v3
  have h4 := h3.set_ 4 v4
  have h5 := h4.set_ 5 v5
  have h6 := h5.set_ 6 v6
  have h7 := h6.set_ 7 v7
  have h8 := h7.set_ 8 v8
  have h9 := h8.set_ 9 v9
  simp only [List.setIfInBounds_toArray, List.set_cons_zero, List.set_cons_succ] at h9
  exact h9
theorem Blk.set4 {w : World} {g : Nat} {t : TypeId} {cs : Array Value} (h : Blk w g t cs) (o : Nat) (v0 v1 v2 v3 : Value) :
    Blk ((((w.setCell ⟨g, o, none⟩ v0).setCell ⟨g, o + 1, none⟩ v1).setCell ⟨g, o + 2, none⟩ v2).setCell ⟨g, o + 3, none⟩ v3) g t ((((cs.setIfInBounds o v0).setIfInBounds (o + 1) v1).setIfInBounds (o + 2) v2).setIfInBounds (o + 3) v3) :=
  (((h.set_ o v0).set_ (o + 1) v1).set_ (o + 2) v2).set_ (o + 3) v3

/-- A new block of literal cells shows them. -/
theorem shows_new (w : World) (cs : Array Value) (t : TypeId) (n size : Nat) (hn : cs.size = n * size) : Shows (w.alloc (.cells cs t)) (w.heap.size + 1) size (some ⟨w.heap.size, 0, none⟩) n cs.toList := by
  refine ⟨by simpa using hn, fun _ => ⟨_, rfl, by simp, fun j hj => ?_⟩⟩
  have : (⟨w.heap.size, 0, none⟩ : Addr).add j = ⟨w.heap.size, j, none⟩ := by unfold Addr.add; split <;> simp_all
  rw [this, World.cell?_alloc_new]
  simp

/-- Steps that leave all old blocks but one row. -/
theorem grown_step {a b c : World} {r r' : Option Nat} (h : a.grownBy b r) (k : b.grownBy c r') (hr : r' = r ∨ ∀ g, r' = some g → a.heap.size ≤ g) : a.grownBy c r := by
  refine ⟨k.os.trans h.os, k.tape.trans h.tape, k.output.trans h.output, Nat.le_trans h.size k.size, fun i hi hne => ?_⟩
  rw [k.block i (Nat.lt_of_lt_of_le hi h.size) ?_]
  · exact h.block i hi hne
  · rcases hr with rfl | hr
    · exact hne
    · intro e; have := hr i e.symm; omega
theorem grown_below {a b : World} (h : Below a.heap.size a b) (r : Option Nat) : a.grownBy b r := ⟨h.os, h.tape, h.output, h.size, fun i hi _ => h.block i hi⟩

theorem bcells_append (l m : List UInt8) : bcells (l ++ m) = bcells l ++ bcells m := by simp [bcells]
theorem bcells_length (l : List UInt8) : (bcells l).length = l.length := by simp [bcells]
theorem bcells_one (l : List UInt8) : ∀ u ∈ bcells l, u.oneCell' = true := by
  intro u hu
  obtain ⟨x, _, rfl⟩ := List.mem_map.1 hu
  rfl
theorem bcell_ofNat (n : Nat) (h : n < 256) : Value.int .u8 (n : Int) = .int .u8 ((UInt8.ofNat n).toNat : Int) := by
  rw [show (UInt8.ofNat n).toNat = n from by simp [UInt8.toNat_ofNat']; omega]
theorem Shows.bytes {w : World} {B : Nat} {A : Option Addr} {l : List UInt8} (h : Shows w B 1 A l.length (bcells l)) : RdB w B A l := by
  intro hl
  obtain ⟨ad, e, hb, hc⟩ := h.2 hl
  refine ⟨ad, e, hb, fun j hj => ?_⟩
  rw [hc j (by rw [bcells_length]; exact hj)]
  simp [bcells, List.getElem?_eq_getElem hj]
theorem RdB.shows {w : World} {B : Nat} {A : Option Addr} {l : List UInt8} (h : RdB w B A l) : Shows w B 1 A l.length (bcells l) := by
  refine ⟨by simp [bcells], fun hl => ?_⟩
  obtain ⟨ad, e, hb, hc⟩ := h hl
  refine ⟨ad, e, hb, fun j hj => ?_⟩
  rw [bcells_length] at hj
  rw [hc j hj]
  simp [bcells, List.getElem?_eq_getElem hj]
end Go.Proofs.YtppcdppplbpklaaDoor
