/- Texts of the Notation chapter, together: Ma, Mb, Mr, Mc, Mq, Nt, Ca. -/
import Derived.Test.YtcjhihmaegagdaaGreatDoorProg
import Derived.Maps.AppendAt
import Derived.Deep.AppendLies
import Derived.RegionTactic
import Derived.OwnWalk
import Derived.Deep.Draws
import Derived.Below
import Derived.Laws.BytesArg
import Derived.Deep.MidRow
import Derived.Deep.WholeRow
import Derived.Deep.Quiet
import Derived.Deep.QuietTactic
import Derived.Lib.ItoaNum
import Derived.WalkKit
import Derived.WalkSpells
import Derived.WalkLawsBesides
import Derived.Handy
import Derived.Deep.OwnRows
import Derived.Lib.Hide
import Derived.Orders
import Derived.OrdersHeld
set_option maxRecDepth 100000
set_option maxHeartbeats 8000000
set_option linter.unusedSimpArgs false
set_option linter.unusedVariables false
set_option linter.unusedSectionVars false
set_option linter.unnecessarySimpa false
namespace Go.Proofs.YtcjhihmaegagdaaGreatDoor
open Go.RowKit
theorem hid {p : Prop} (h : p) : Hid p := Lib.hid h
theorem sS {α : Type} : (∀ (l : List α) (i : Nat) (a : α), l.toArray.setIfInBounds i a = (l.set i a).toArray) ∧ (∀ (x : α) (l : List α) (a : α), (x :: l).set 0 a = a :: l) ∧ (∀ (x : α) (l : List α) (i : Nat) (a : α), (x :: l).set (i + 1) a = x :: l.set i a) := ⟨fun _ _ _ => by simp, fun _ _ _ => rfl, fun _ _ _ _ => rfl⟩
theorem add_block (a : Addr) (j : Nat) : (a.add j).block = a.block := by unfold Addr.add; split <;> rfl
def Shows (w : World) (B size : Nat) (A : Option Addr) (n : Nat) (xs : List Value) : Prop :=
 xs.length = n * size ∧ (0 < n → ∃ ad : Addr, A = some ad ∧ ad.block < B ∧ ∀ j, j < xs.length → w.cell? (ad.add j) = xs[j]?)
theorem add_add' (a : Addr) (i j : Nat) : (a.add i).add j = a.add (i + j) := by
 unfold Addr.add
 by_cases hi : i = 0
 ·
  simp [hi]
 by_cases hj : j = 0
 ·
  simp [hi, hj]
 simp [hi, hj, Nat.add_assoc]
section
variable {w w' : World} {B B' size n : Nat} {A : Option Addr} {xs : List Value}
theorem Shows.nil_ : Shows w B size A 0 [] := ⟨by simp, fun h => by omega⟩
theorem Shows.same (h : Shows w B size A n xs) (hk : ∀ p : Addr, p.block < B → w'.cell? p = w.cell? p) : Shows w' B size A n xs := by
 refine ⟨h.1, fun hn => ?_⟩
 obtain ⟨ad, e, hb, hc⟩ := h.2 hn
 exact ⟨ad, e, hb, fun j hj => by rw [hk _ (by rw [add_block]; exact hb)]; exact hc j hj⟩
theorem Shows.wider (h : Shows w B size A n xs) (hB : B ≤ B') : Shows w B' size A n xs := by
 refine ⟨h.1, fun hn => ?_⟩
 obtain ⟨ad, e, hb, hc⟩ := h.2 hn
 exact ⟨ad, e, by omega, hc⟩
theorem Shows.below (h : Shows w B size A n xs) (hb : Below B w w') : Shows w' B size A n xs := h.same fun _ hp => hb.cell hp
theorem Shows.drewN (h : Shows w B size A n xs) (k : Nat) : Shows (w.drewN k) B size A n xs := h
theorem Shows.alloc (h : Shows w B size A n xs) (hB : B ≤ w.heap.size) (o : Obj) : Shows (w.alloc o) B size A n xs :=
 h.same fun p hp => World.cell?_alloc_lt w o p (by omega)
theorem Shows.setCell (h : Shows w B size A n xs) {p : Addr} (hB : B ≤ p.block) (u : Value) : Shows (w.setCell p u) B size A n xs :=
 h.same fun q hq => World.cell?_setCell_other w p q u (fun e => by subst e; omega)
theorem Shows.grown (h : Shows w B size A n xs) {row : Option Nat} (hg : w.grownBy w' row) (hB : B ≤ w.heap.size) (hr : ∀ g, row = some g → B ≤ g) : Shows w' B size A n xs :=
 h.same fun p hp => World.cell?_of_block (hg.block p.block (by omega) (fun e => by have := hr _ e.symm; omega))
theorem Shows.of_own {base : Nat} {e : TypeId} {c : Nat} (h : w.ownsRow base e size (.slice A n c) n xs) : Shows w w.heap.size size A n xs := by
 refine ⟨h.1, fun hn => ?_⟩
 obtain ⟨g, cap, hv, _, hlt⟩ := h.form hn
 injection hv with hA
 subst hA
 exact ⟨_, rfl, hlt, fun j hj => by rw [h.cells (g := g) rfl j _ (List.getElem?_eq_getElem hj), List.getElem?_eq_getElem hj]⟩
theorem Shows.cut (h : Shows w B size A n xs) {k cap : Nat} (hk : k ≤ n) (hc : n ≤ cap) :
  Shows w B size (if cap = k then A else A.map (·.add (k * size))) (n - k) (xs.drop (k * size)) := by
 refine ⟨by rw [List.length_drop, h.1, Nat.sub_mul], fun hn => ?_⟩
 obtain ⟨ad, rfl, hb, hcell⟩ := h.2 (by omega)
 rw [if_neg (by omega)]
 refine ⟨ad.add (k * size), rfl, by rw [add_block]; exact hb, fun j hj => ?_⟩
 rw [List.length_drop] at hj
 rw [add_add', List.getElem?_drop]
 exact hcell _ (by omega)
theorem Shows.head (h : Shows w B size A n xs) {k : Nat} (hk : k ≤ n) : Shows w B size A k (xs.take (k * size)) := by
 have hl : k * size ≤ n * size := Nat.mul_le_mul_right _ hk
 refine ⟨by rw [List.length_take, h.1]; omega, fun hn => ?_⟩
 obtain ⟨ad, rfl, hb, hcell⟩ := h.2 (by omega)
 refine ⟨ad, rfl, hb, fun j hj => ?_⟩
 rw [List.length_take] at hj
 rw [hcell j (by omega), List.getElem?_take, if_pos (by omega)]
theorem Shows.at_ {k : Nat} (h : Shows w B 1 A n xs) (hk : k < n) : ∃ ad u, A = some ad ∧ ad.block < B ∧ xs[k]? = some u ∧ w.cell? (ad.add k) = some u := by
 obtain ⟨ad, e, hb, hc⟩ := h.2 (by omega)
 have hl : k < xs.length := by have := h.1; omega
 exact ⟨ad, xs[k], e, hb, List.getElem?_eq_getElem hl, by rw [hc k hl]; exact List.getElem?_eq_getElem hl⟩
end
theorem run_app {P : Program} (w : World) (base : Nat) (t ty e : TypeId) (i : TypeInfo) (z : Value) (size bytes : Nat) (ht : P.underlying t = some (.slice e)) (hi : P.info? e = some i) (hz : i.zero = some z)
  (hsize : i.size = size) (hby : i.bytes = bytes) (hzs : z.cells.size = size) (hsz : 0 < size)
  (v : Value) (n : Nat) (xs : List Value) (hown : w.ownsRow base e size v n xs)
  (B : Nat) (A : Option Addr) (m c : Nat) (news : List Value) (hr : Shows w B size A m news) (h1 : ∀ u ∈ news, u.oneCell' = true)
  (h63 : n + m ≤ maxLen) (hbytes : (n + m) * bytes ≤ 140737488355328) (hbase : base ≤ w.heap.size) :
  ∃ v' w', (Builtin.append_ #[t, t] ty #[v, .slice A m c]).run P w = .ok v' w' ∧ w'.ownsRow base e size v' (n + m) (xs ++ news) ∧ w.grownBy w' v.ownBlock ∧
   (v'.ownBlock = v.ownBlock ∨ v'.ownBlock = some w.heap.size) := by
 cases A with
 | some ad =>
  have hc : ∀ j u, news[j]? = some u → w.cell? (ad.add j) = some u := by
   intro j u hu
   have hj : j < news.length := (List.getElem?_eq_some_iff.1 hu).1
   have hm : 0 < m := by
    rcases Nat.eq_zero_or_pos m with h0 | h0
    ·
     have := hr.1; rw [h0, Nat.zero_mul] at this; omega
    exact h0
   obtain ⟨ad', e', _, hcell⟩ := hr.2 hm
   injection e' with e'
   subst e'
   rw [hcell j hj, hu]
  obtain ⟨v', w', hrun, h2, h3, _, h5⟩ := run_append_own_at (P := P) w base t ty e i z size bytes ht hi hz hsize hby hzs hsz v n xs hown ad m c news hr.1 hc h1 h63 hbytes hbase
  exact ⟨v', w', hrun, h2, h3, h5⟩
 | none =>
  have hm : m = 0 := by
   rcases Nat.eq_zero_or_pos m with h0 | h0
   ·
    exact h0
   obtain ⟨ad, e', _⟩ := hr.2 h0; cases e'
  subst hm
  have hnn : news = [] := List.eq_nil_of_length_eq_zero (by simpa using hr.1)
  subst hnn
  refine ⟨v, w, ?_, by simpa using hown, ⟨rfl, rfl, rfl, Nat.le_refl _, fun _ _ _ => rfl⟩, .inl rfl⟩
  rcases hown.2 with ⟨rfl, rfl⟩ | ⟨g, cap, cur, rfl, _, _, hnc, _⟩
  ·
   simp [Builtin.append_, run_underlying ht, sizeOf, typeInfo, hi, Builtin.lenOf, Builtin.firstCells]
  simp [Builtin.append_, run_underlying ht, sizeOf, typeInfo, hi, Builtin.lenOf, Builtin.firstCells, hnc, storeCells]
theorem wp_app {P : Program} (w : World) {o : Oper} {a : Act} {K : Act → World → Prop} {Q : Exit → Act → World → Prop} (s x : Operand) (t : TypeId)
  (ho : o.op = .call { callee := .builtin .append, args := #[s, x], argTypes := #[t, t] })
  (base : Nat) (e : TypeId) (i : TypeInfo) (z : Value) (size bytes : Nat) (ht : P.underlying t = some (.slice e)) (hi : P.info? e = some i) (hz : i.zero = some z)
  (hsize : i.size = size) (hby : i.bytes = bytes) (hzs : z.cells.size = size) (hsz : 0 < size)
  (v : Value) (n : Nat) (xs : List Value) (hs : a.eval s = v) (hown : w.ownsRow base e size v n xs)
  (B : Nat) (A : Option Addr) (m c : Nat) (news : List Value) (hx : a.eval x = .slice A m c) (hr : Shows w B size A m news) (h1 : ∀ u ∈ news, u.oneCell' = true)
  (h63 : n + m ≤ maxLen) (hbytes : (n + m) * bytes ≤ 140737488355328) (hbase : base ≤ w.heap.size)
  (h : ∀ v' w', w'.ownsRow base e size v' (n + m) (xs ++ news) → w.grownBy w' v.ownBlock → (v'.ownBlock = v.ownBlock ∨ v'.ownBlock = some w.heap.size) → K (a.put o.dst v') w') : o.wp P a w K Q := by
 obtain ⟨v', w', hrun, h2, h3, h4⟩ := run_app (P := P) w base t o.type e i z size bytes ht hi hz hsize hby hzs hsz v n xs hown B A m c news hr h1 h63 hbytes hbase
 unfold Oper.wp execOp
 simp only [ho, resolve, invoke, builtin, Sem.run_bind, Sem.run_pure, Result.andThen_ok, List.map_toArray, List.map_cons, List.map_nil, hs, hx, hrun]
 exact h v' w' h2 h3 h4
theorem wpList_app {P : Program} (w : World) {ops : Array Oper} {rest : List Oper} {o : Oper} {a : Act} {Q : Exit → Act → World → Prop} (hgd : o.guard = none) (s x : Operand) (t e : TypeId) (z : Value) (size bytes : Nat)
  (ho : o.op = .call { callee := .builtin .append, args := #[s, x], argTypes := #[t, t] }) (ht : P.underlying t = some (.slice e)) (hinf : (P.info? e).map (fun i => (i.zero, i.size, i.bytes)) = some (some z, size, bytes)) (hzs : z.cells.size = size) (hsz : 0 < size)
  (base : Nat) (v : Value) (n : Nat) (xs : List Value) (hs : a.eval s = v) (hown : w.ownsRow base e size v n xs)
  (B : Nat) (A : Option Addr) (m c : Nat) (news : List Value) (hx : a.eval x = .slice A m c) (hr : Shows w B size A m news) (h1 : ∀ u ∈ news, u.oneCell' = true)
  (h63 : n + m ≤ maxLen) (hbytes : (n + m) * bytes ≤ 140737488355328) (hbase : base ≤ w.heap.size)
  (h : ∀ v' w', w'.ownsRow base e size v' (n + m) (xs ++ news) → w.grownBy w' v.ownBlock → (v'.ownBlock = v.ownBlock ∨ v'.ownBlock = some w.heap.size) → wpList P ops Q rest (a.put o.dst v') w') :
  wpList P ops Q (o :: rest) a w := by
 obtain ⟨i0, hi, hz0, hz1, hz2⟩ := info_parts hinf
 exact wpList_plain hgd fun _ hK => wp_app w s x _ ho base _ i0 _ size bytes ht hi hz0 hz1 hz2 hzs hsz v n xs hs hown B A m c news hx hr h1 h63 hbytes hbase fun v' w' h2 h3 h4 => hK _ _ (h v' w' h2 h3 h4)
theorem below_grown {B : Nat} {a w w' : World} {r : Option Nat} (h : Below B a w) (hg : w.grownBy w' r) (hB : B ≤ w.heap.size) (hr : ∀ g, r = some g → B ≤ g) : Below B a w' := h.grown hg hB hr
theorem below_on {w w1 w2 : World} (h : Below w.heap.size w w1) (b : Below w1.heap.size w1 w2) : Below w.heap.size w w2 := h.trans (b.mono h.size)
theorem grown_refl (w : World) (r : Option Nat) : w.grownBy w r := ⟨rfl, rfl, rfl, Nat.le_refl _, fun _ _ _ => rfl⟩
def Blk (w : World) (g : Nat) (t : TypeId) (cs : Array Value) : Prop := w.heap[g]? = some (.cells cs t (0, 0))
theorem Blk.lt {w : World} {g : Nat} {t : TypeId} {cs : Array Value} (h : Blk w g t cs) : g < w.heap.size := (Array.getElem?_eq_some_iff.1 h).1
theorem Blk.cell {w : World} {g : Nat} {t : TypeId} {cs : Array Value} (h : Blk w g t cs) (i : Nat) : w.cell? ⟨g, i, none⟩ = cs[i]? := cell_of_row w g i cs t (0, 0) h
theorem Blk.frozen {w : World} {g : Nat} {t : TypeId} {cs : Array Value} (h : Blk w g t cs) (i : Nat) : w.frozen? ⟨g, i, none⟩ = false := frozen_of_row w g i cs t h
theorem Blk.new (w : World) (t : TypeId) (cs : Array Value) : Blk (w.alloc (.cells cs t)) w.heap.size t cs := heap_alloc_new w _
theorem Blk.drew {w : World} {g : Nat} {t : TypeId} {cs : Array Value} (h : Blk w g t cs) : Blk w.drew g t cs := h
theorem Blk.drewN {w : World} {g : Nat} {t : TypeId} {cs : Array Value} (h : Blk w g t cs) (n : Nat) : Blk (w.drewN n) g t cs := h
theorem Blk.alloc {w : World} {g : Nat} {t : TypeId} {cs : Array Value} (h : Blk w g t cs) (o : Obj) : Blk (w.alloc o) g t cs := (@Go.heap_alloc_old w o _ h.lt).trans h
theorem Blk.below {w w' : World} {B g : Nat} {t : TypeId} {cs : Array Value} (h : Blk w g t cs) (hb : Below B w w') (hg : g < B) : Blk w' g t cs := (hb.block g hg).trans h
theorem Blk.grown {w w' : World} {r : Option Nat} {g : Nat} {t : TypeId} {cs : Array Value} (h : Blk w g t cs) (hb : w.grownBy w' r) (hg : r ≠ some g) : Blk w' g t cs := (hb.block g h.lt (fun e => hg e.symm)).trans h
theorem Blk.far {w : World} {g : Nat} {t : TypeId} {cs : Array Value} (h : Blk w g t cs) {p : Addr} (hp : g ≠ p.block) (u : Value) : Blk (w.setCell p u) g t cs := (heap_setCell_other w p g u hp).trans h
theorem Blk.set_ {w : World} {g : Nat} {t : TypeId} {cs : Array Value} (h : Blk w g t cs) (i : Nat) (u : Value) : Blk (w.setCell ⟨g, i, none⟩ u) g t (cs.setIfInBounds i u) := heap_setCell_same w g i cs t u h
theorem shows_new (w : World) (cs : Array Value) (t : TypeId) (n size : Nat) (hn : cs.size = n * size) : Shows (w.alloc (.cells cs t)) (w.heap.size + 1) size (some ⟨w.heap.size, 0, none⟩) n cs.toList := by
 refine ⟨by simpa using hn, fun _ => ⟨_, rfl, by simp, fun j hj => ?_⟩⟩
 have : (⟨w.heap.size, 0, none⟩ : Addr).add j = ⟨w.heap.size, j, none⟩ := by unfold Addr.add; split <;> simp_all
 rw [this, World.cell?_alloc_new]
 simp
end Go.Proofs.YtcjhihmaegagdaaGreatDoor
namespace Go.Proofs.YtcjhihmaegagdaaGreatDoor
open Go.RowKit
def RdB (w : World) (B : Nat) (A : Option Addr) (l : List UInt8) : Prop :=
 0 < l.length → ∃ ad, A = some ad ∧ ad.block < B ∧ ∀ j, j < l.length → w.cell? (ad.add j) = some (.int .u8 ((l.getD j 0).toNat : Int))
theorem RdB.nil (w : World) (B : Nat) (A : Option Addr) : RdB w B A [] := fun h => absurd h (by simp)
theorem RdB.below {w w' : World} {B C : Nat} {A : Option Addr} {l : List UInt8} (h : RdB w B A l) (hb : Below C w w') (hBC : B ≤ C) : RdB w' B A l := fun hl => by
 obtain ⟨ad, rfl, hlt, hc⟩ := h hl
 refine ⟨ad, rfl, hlt, fun j hj => ?_⟩
 rw [hb.cell (p := ad.add j) (by rw [add_block]; exact Nat.lt_of_lt_of_le hlt hBC)]
 exact hc j hj
theorem RdB.mono {w : World} {B C : Nat} {A : Option Addr} {l : List UInt8} (h : RdB w B A l) (hBC : B ≤ C) : RdB w C A l := fun hl => by
 obtain ⟨ad, rfl, hlt, hc⟩ := h hl
 exact ⟨ad, rfl, Nat.lt_of_lt_of_le hlt hBC, hc⟩
def bcells (l : List UInt8) : List Value := l.map fun x => Value.int .u8 (x.toNat : Int)
theorem bcells_append (l m : List UInt8) : bcells (l ++ m) = bcells l ++ bcells m := by simp [bcells]
theorem bcells_length (l : List UInt8) : (bcells l).length = l.length := by simp [bcells]
theorem bcells_at (l : List UInt8) (j : Nat) (hj : j < l.length) : (bcells l)[j]? = some (.int .u8 ((l.getD j 0).toNat : Int)) := by
 simp [bcells, List.getElem?_eq_getElem hj]
theorem Shows.bytes {w : World} {B : Nat} {A : Option Addr} {l : List UInt8} (h : Shows w B 1 A l.length (bcells l)) : RdB w B A l := by
 intro hl
 obtain ⟨ad, e, hb, hc⟩ := h.2 hl
 exact ⟨ad, e, hb, fun j hj => by rw [hc j (by rw [bcells_length]; exact hj), bcells_at l j hj]⟩
theorem RdB.shows {w : World} {B : Nat} {A : Option Addr} {l : List UInt8} (h : RdB w B A l) : Shows w B 1 A l.length (bcells l) := by
 refine ⟨by simp [bcells], fun hl => ?_⟩
 obtain ⟨ad, e, hb, hc⟩ := h hl
 refine ⟨ad, e, hb, fun j hj => ?_⟩
 rw [bcells_length] at hj
 rw [hc j hj, bcells_at l j hj]
def OwnB (w : World) (base : Nat) (v : Value) (l : List UInt8) : Prop := w.ownsRow base 5 1 v l.length (bcells l)
theorem OwnB.start (w : World) (base : Nat) : OwnB w base (.slice none 0 0) [] := World.ownsRow_nil _ _ _ 1
theorem OwnB.snoc {w : World} {base : Nat} {v : Value} {l m : List UInt8} {n : Nat} {news : List Value} (h : w.ownsRow base 5 1 v (l.length + n) (bcells l ++ news)) (hm : news = bcells m) (hn : n = m.length) : OwnB w base v (l ++ m) := by
 subst hm hn
 unfold OwnB
 rw [List.length_append, bcells_append]
 exact h
theorem OwnB.form {w : World} {base : Nat} {v : Value} {l : List UInt8} (h : OwnB w base v l) : ∃ A c, v = .slice A l.length c ∧ l.length ≤ c ∧ RdB w w.heap.size A l := by
 have h' := h
 rcases h'.2 with ⟨rfl, h0⟩ | ⟨g, cap, cur, rfl, -, -, hc, -⟩
 ·
  exact ⟨none, 0, by rw [h0], by omega, fun hl => by omega⟩
 exact ⟨_, cap, rfl, hc, (Shows.of_own h).bytes⟩
theorem OwnB.block {w : World} {base : Nat} {v : Value} {l : List UInt8} (h : OwnB w base v l) : ∀ g, v.ownBlock = some g → base ≤ g := fun g hg => (World.ownsRow.lt h g hg).1
theorem OwnB.lt {w : World} {base : Nat} {v : Value} {l : List UInt8} (h : OwnB w base v l) : ∀ g, v.ownBlock = some g → g < w.heap.size := fun g hg => (World.ownsRow.lt h g hg).2
theorem OwnB.alloc {w : World} {base : Nat} {v : Value} {l : List UInt8} (h : OwnB w base v l) (o : Obj) : OwnB (w.alloc o) base v l := World.ownsRow.alloc h o
theorem OwnB.drewN {w : World} {base : Nat} {v : Value} {l : List UInt8} (h : OwnB w base v l) (n : Nat) : OwnB (w.drewN n) base v l := h
theorem OwnB.kept {w w' : World} {base : Nat} {v : Value} {l : List UInt8} {r : Option Nat} (h : OwnB w base v l) (hg : w.grownBy w' r) (hne : v.ownBlock = none ∨ v.ownBlock ≠ r) : OwnB w' base v l := World.ownsRow.kept h hg hne
theorem grown_below {a b : World} (h : Below a.heap.size a b) (r : Option Nat) : a.grownBy b r := ⟨h.os, h.tape, h.output, h.size, fun i hi _ => h.block i hi⟩
end Go.Proofs.YtcjhihmaegagdaaGreatDoor
namespace Go.Proofs.YtcjhihmaegagdaaGreatDoor
open Go.RowKit
section
variable {α : Type} (cf : α → List Value) (k : Nat) (hk : ∀ x, (cf x).length = k)
def rcells (l : List α) : List Value := l.flatMap cf
theorem rcells_append (l m : List α) : rcells cf (l ++ m) = rcells cf l ++ rcells cf m := by simp [rcells]
include hk in
theorem rcells_length (l : List α) : (rcells cf l).length = l.length * k := by
 induction l with
 | nil => simp [rcells]
 | cons m l ih => rw [rcells, List.flatMap_cons, List.length_append, hk]; change k + (rcells cf l).length = _; rw [ih, List.length_cons, Nat.add_mul, Nat.one_mul, Nat.add_comm]
include hk in
theorem rcells_at (l : List α) (i j : Nat) (h : i < l.length) (hj : j < k) : (rcells cf l)[i * k + j]? = (cf l[i])[j]? := by
 induction l generalizing i with
 | nil => simp at h
 | cons m l ih =>
  rw [rcells, List.flatMap_cons]
  cases i with
  | zero => rw [Nat.zero_mul, Nat.zero_add, List.getElem?_append_left (by rw [hk]; exact hj)]; rfl
  | succ i =>
   rw [List.getElem?_append_right (by rw [hk, Nat.add_mul, Nat.one_mul]; omega), hk, show (i + 1) * k + j - k = i * k + j by rw [Nat.add_mul, Nat.one_mul]; omega]
   exact ih i (by simpa using h)
theorem rcells_single (x : α) : rcells cf [x] = cf x := by simp [rcells]
include hk in
theorem Shows.rec {w : World} {B n : Nat} {A : Option Addr} {l : List α} (h : Shows w B k A n (rcells cf l)) (hl : l.length = n) {i : Nat} (hi : i < n) : ∃ ad, A = some ad ∧ ad.block < B ∧ ∀ j, j < k → w.cell? ((ad.add (i * k)).add j) = (cf (l[i]'(by omega)))[j]? := by
 obtain ⟨ad, rfl, hb, hc⟩ := h.2 (by omega)
 refine ⟨ad, rfl, hb, fun j hj => ?_⟩
 rw [add_add', hc _ (by rw [rcells_length cf k hk]; have : i * k + k ≤ n * k := (by rw [← Nat.succ_mul]; exact Nat.mul_le_mul_right _ hi); rw [hl]; omega), rcells_at cf k hk l i j (by omega) hj]
end
theorem load_var {P : Program} (ty : TypeId) (d : TypeDesc) (hu : P.underlying ty = some d) (hd : (match d with | .struct _ | .array _ _ => true | _ => false) = true) (w : World) (a : Addr) (cs : Array Value) (hi : (P.info? ty).map (·.size) = some cs.size)
  (h : ∀ j v, cs.toList[j]? = some v → w.cell? (a.add j) = some v) : (loadVar ty a).run P w = .ok (.agg cs) w := by
 have hl : (loadCells a cs.toList.length).run P w = .ok cs.toList.toArray w := run_loadCells_list (P := P) w a cs.toList h
 cases hq : P.info? ty with
 | none => rw [hq] at hi; cases hi
 | some i =>
  have hs : i.size = cs.toList.length := by rw [hq] at hi; simpa using hi
  have hagg : (isAgg ty).run P w = .ok true w := by
   unfold isAgg
   rw [Sem.run_bind, run_underlying hu w]
   cases d <;> first | rfl | cases hd
  rw [← hs] at hl
  simp [loadVar, hagg, sizeOf, typeInfo, hq, hl]
theorem results_cell {P : Program} {fn : Func} {t : Tmp} {ty : TypeId} (hf : fn.results = #[.cell t ty]) (tmps : Array Value) (a : Addr) (ht : tmps.getD t undef = .pointer (some a)) (d : TypeDesc) (hu : P.underlying ty = some d) (hd : (match d with | .struct _ | .array _ _ => true | _ => false) = true) (w : World) (cs : Array Value) (hi : (P.info? ty).map (·.size) = some cs.size)
  (h : ∀ j v, cs.toList[j]? = some v → w.cell? (a.add j) = some v) : (results fn tmps).run P w = .ok (.agg cs) w := by
 have := load_var ty d hu hd w a cs hi h
 rw [Array.getD_eq_getD_getElem?] at ht
 simp [results, hf, ht, asAddr, this]
theorem results_cell_tmp {P : Program} {fn : Func} {t u : Tmp} {ty : TypeId} (hf : fn.results = #[.cell t ty, .tmp u]) (tmps : Array Value) (a : Addr) (ht : tmps.getD t undef = .pointer (some a)) (d : TypeDesc) (hu : P.underlying ty = some d) (hd : (match d with | .struct _ | .array _ _ => true | _ => false) = true) (w : World) (cs : Array Value) (hi : (P.info? ty).map (·.size) = some cs.size)
  (h : ∀ j v, cs.toList[j]? = some v → w.cell? (a.add j) = some v) : (results fn tmps).run P w = .ok (.tuple #[.agg cs, tmps.getD u undef]) w := by
 have := load_var ty d hu hd w a cs hi h
 rw [Array.getD_eq_getD_getElem?] at ht
 simp [results, hf, ht, asAddr, this]
theorem load_rec {P : Program} (ty : TypeId) (d : TypeDesc) (hu : P.underlying ty = some d) (hd : (match d with | .struct _ | .array _ _ => true | _ => false) = true) (w : World) (a : Addr) (cs : Array Value) (hi : (P.info? ty).map (·.size) = some cs.size)
  (h : ∀ j v, cs.toList[j]? = some v → w.cell? (a.add j) = some v) : (Instr.loadAt ty (.pointer (some a))).run P w = .ok (.agg cs) w := by
 have hl : (loadCells a cs.toList.length).run P w = .ok cs.toList.toArray w := run_loadCells_list (P := P) w a cs.toList h
 cases hq : P.info? ty with
 | none => rw [hq] at hi; cases hi
 | some i =>
  have hs : i.size = cs.toList.length := by rw [hq] at hi; simpa using hi
  have hagg : (isAgg ty).run P w = .ok true w := by
   unfold isAgg
   rw [Sem.run_bind, run_underlying hu w]
   cases d <;> first | rfl | cases hd
  have hlv : (loadVar ty a).run P w = .ok (.agg cs) w := by
   rw [← hs] at hl
   simp [loadVar, hagg, sizeOf, typeInfo, hq, hl]
  simp only [Instr.loadAt, Instr.sureAddr, Sem.run_bind, Sem.run_pure, Result.andThen_ok, hlv]
end Go.Proofs.YtcjhihmaegagdaaGreatDoor
namespace Go.Proofs.YtcjhihmaegagdaaGreatDoor
open Go.RowKit
theorem wpList_put {P : Program} {ops : Array Oper} {rest : List Oper} {o : Oper} {a : Act} {w : World} {Q : Exit → Act → World → Prop} (hgd : o.guard = none) (ty : TypeId) (x y : Operand) (ho : o.op = .store ty x y)
  (g : Nat) (cells : Array Value) (hx : a.eval x = .pointer (some ⟨g, 0, none⟩)) (hy : a.eval y = .agg cells)
  (t : TypeId) (old : Array Value) (hg : Blk w g t old) (hi : (P.info? ty).map (·.size) = some cells.size)
  (hold : old.size = cells.size) (h1 : cells.all (·.oneCell') = true)
  (h : ∀ w', Blk w' g t cells → w.grownBy w' (some g) → w'.heap.size = w.heap.size → wpList P ops Q rest (a.put o.dst undef) w') : wpList P ops Q (o :: rest) a w :=
 wpList_store_row hgd ty x y ho g cells hx hy t old hg hi hold h1
  (h _ (setRow_heap w g old cells t (0, 0) hg) ⟨rfl, rfl, rfl, by simp, fun k _ hk => setRow_other w g k cells (fun e => hk (by rw [e]))⟩ (by simp))
theorem step_put {P : Program} {ops : Array Oper} {o : Oper} {a : Act} {w : World} {K : Act → World → Prop} {Q : Exit → Act → World → Prop} {E : Prop} (hgd : o.guard = none) (ty : TypeId) (x y : Operand) (ho : o.op = .store ty x y)
  (g : Nat) (cells : Array Value) (hx : a.eval x = .pointer (some ⟨g, 0, none⟩)) (hy : a.eval y = .agg cells)
  (t : TypeId) (old : Array Value) (hg : Blk w g t old) (hi : (P.info? ty).map (·.size) = some cells.size)
  (hold : old.size = cells.size) (h1 : cells.all (·.oneCell') = true)
  (h : ∀ w', Blk w' g t cells → w.grownBy w' (some g) → w'.heap.size = w.heap.size → K (a.put o.dst undef) w') :
  if Region.wanted o (yielded ops a.tmps) = true then Oper.wp P o a w K Q else E := by
 have hw : Region.wanted o (yielded ops a.tmps) = true := by simp [Region.wanted, hgd]
 rw [if_pos hw]
 exact wp_store_row ty x y ho g cells hx hy t old hg hi hold h1
  (h _ (setRow_heap w g old cells t (0, 0) hg) ⟨rfl, rfl, rfl, by simp, fun k _ hk => setRow_other w g k cells (fun e => hk (by rw [e]))⟩ (by simp))
theorem wpList_get {P : Program} {ops : Array Oper} {rest : List Oper} {o : Oper} {a : Act} {w : World} {Q : Exit → Act → World → Prop} (hgd : o.guard = none) (ty : TypeId) (x : Operand) (ho : o.op = .load ty x)
  (g : Nat) (hx : a.eval x = .pointer (some ⟨g, 0, none⟩)) (t : TypeId) (cs : Array Value) (d : TypeDesc) (hg : Blk w g t cs)
  (hu : P.underlying ty = some d) (hd : (match d with | .struct _ | .array _ _ => true | _ => false) = true) (hi : (P.info? ty).map (·.size) = some cs.size)
  (h : wpList P ops Q rest (a.put o.dst (.agg cs)) w) : wpList P ops Q (o :: rest) a w :=
 wpList_load_row hgd ty x ho g hx t cs (0, 0) d hg hu hd hi h
theorem step_apg {P : Program} (w : World) {ops : Array Oper} {o : Oper} {a : Act} {K : Act → World → Prop} {Q : Exit → Act → World → Prop} {E : Prop} (hw : Region.wanted o (yielded ops a.tmps) = true) (s x : Operand) (t e : TypeId) (z : Value) (size bytes : Nat)
  (ho : o.op = .call { callee := .builtin .append, args := #[s, x], argTypes := #[t, t] }) (ht : P.underlying t = some (.slice e)) (hinf : (P.info? e).map (fun i => (i.zero, i.size, i.bytes)) = some (some z, size, bytes)) (hzs : z.cells.size = size) (hsz : 0 < size)
  (base : Nat) (v : Value) (n : Nat) (xs : List Value) (hs : a.eval s = v) (hown : w.ownsRow base e size v n xs)
  (A : Option Addr) (m c : Nat) (news : List Value) (hx : a.eval x = .slice A m c) (hr : ∃ B, Shows w B size A m news) (h1 : ∀ u ∈ news, u.oneCell' = true)
  (h63 : n + m ≤ maxLen) (hbytes : (n + m) * bytes ≤ 140737488355328) (hbase : base ≤ w.heap.size)
  (h : ∀ v' w', w'.ownsRow base e size v' (n + m) (xs ++ news) → w.grownBy w' v.ownBlock → (v'.ownBlock = v.ownBlock ∨ v'.ownBlock = some w.heap.size) → K (a.put o.dst v') w') :
  if Region.wanted o (yielded ops a.tmps) = true then Oper.wp P o a w K Q else E := by
 obtain ⟨B, hr⟩ := hr
 rw [if_pos hw]
 obtain ⟨i0, hi, hz0, hz1, hz2⟩ := info_parts hinf
 exact wp_app w s x _ ho base _ i0 _ size bytes ht hi hz0 hz1 hz2 hzs hsz v n xs hs hown B A m c news hx hr h1 h63 hbytes hbase h
end Go.Proofs.YtcjhihmaegagdaaGreatDoor
namespace Go.Proofs.YtcjhihmaegagdaaGreatDoor
open Go.RowKit
section
variable {P : Program} {ops : Array Oper} {C : World → Prop} {Q : Act → Prop} {a : Act} {o : Oper} {rest : List Oper}
theorem quiet_val (hw : Region.wanted o (yielded ops a.tmps) = true) (v : Value) (hC : ∀ w, C w → (execOp a.eval o).run P w = .ok (.value v) w) (h : wpQuiet P ops C Q rest (a.put o.dst v)) : wpQuiet P ops C Q (o :: rest) a := by
 unfold wpQuiet
 rw [if_pos hw]
 exact ⟨v, fun w hw => by unfold Oper.quietAt; rw [hC w hw]; exact ⟨rfl, rfl⟩, h⟩
theorem quiet_call (hw : Region.wanted o (yielded ops a.tmps) = true) (v : Value) (f : FuncId) (args : Array Value) (he : ∀ w, (execOp a.eval o).run P w = .ok (.enter f args) w)
  (hC : ∀ w, C w → Calls P f args w fun e w'' => e = .returned v ∧ C w'') (h : wpQuiet P ops C Q rest (a.put o.dst v)) : wpQuiet P ops C Q (o :: rest) a := by
 unfold wpQuiet
 rw [if_pos hw]
 exact ⟨v, fun w hw => by unfold Oper.quietAt; rw [he w]; exact ⟨rfl, hC w hw⟩, h⟩
theorem quiet_ld (hw : Region.wanted o (yielded ops a.tmps) = true) (ty : TypeId) (x : Operand) (ho : o.op = .load ty x) (ad : Addr) (v : Value) (hx : a.eval x = .pointer (some ad))
  (hC : ∀ w, C w → (Instr.loadAt ty (.pointer (some ad))).run P w = .ok v w) (h : wpQuiet P ops C Q rest (a.put o.dst v)) : wpQuiet P ops C Q (o :: rest) a := by
 refine quiet_val hw v (fun w hw => ?_) h
 unfold execOp
 simp only [ho, hx, Sem.run_bind, hC w hw, Result.andThen_ok, Sem.run_pure]
end
end Go.Proofs.YtcjhihmaegagdaaGreatDoor
namespace Go.Proofs.YtcjhihmaegagdaaGreatDoor
open Go.Lib
theorem decDigits_small {u : Nat} (h : u < 10) : decDigits u = [UInt8.ofNat (48 + u)] := by rw [decDigits, dif_pos h]
theorem decDigits_big {u : Nat} (h : 10 ≤ u) : decDigits u = decDigits (u / 10) ++ [UInt8.ofNat (48 + u % 10)] := by rw [decDigits, dif_neg (by omega)]
theorem decDigits_pos (u : Nat) : 0 < (decDigits u).length := by rw [decDigits_length]; exact nDigits_pos u
def num (a : Nat) (l : List UInt8) : Nat := l.foldl (fun a x => 10 * a + (x.toNat - 48)) a
theorem num_append (a : Nat) (l m : List UInt8) : num a (l ++ m) = num (num a l) m := by simp [num, List.foldl_append]
theorem digit_toNat {d : Nat} (h : d < 10) : (UInt8.ofNat (48 + d)).toNat - 48 = d := by simp [UInt8.toNat_ofNat']; omega
theorem num_dec (u : Nat) : num 0 (decDigits u) = u := by
 induction u using Nat.strongRecOn with
 | _ u ih =>
  by_cases h : u < 10
  ·
   rw [decDigits_small h]; simp only [num, List.foldl_cons, List.foldl_nil, digit_toNat h]; omega
  rw [decDigits_big (by omega), num_append, ih _ (by omega)]
  simp only [num, List.foldl_cons, List.foldl_nil, digit_toNat (Nat.mod_lt u (by omega))]; omega
def IsDec (l : List UInt8) : Prop := l ≠ [] ∧ (∀ x ∈ l, 48 ≤ x.toNat ∧ x.toNat ≤ 57) ∧ (l.head? = some 48 → l.length = 1)
theorem digit_range {d : Nat} (h : d < 10) : 48 ≤ (UInt8.ofNat (48 + d)).toNat ∧ (UInt8.ofNat (48 + d)).toNat ≤ 57 := by simp [UInt8.toNat_ofNat']; omega
theorem decDigits_range (u : Nat) : ∀ x ∈ decDigits u, 48 ≤ x.toNat ∧ x.toNat ≤ 57 := by
 induction u using Nat.strongRecOn with
 | _ u ih =>
  by_cases h : u < 10
  ·
   rw [decDigits_small h]; intro x hx; obtain rfl := List.mem_singleton.1 hx; exact digit_range h
  rw [decDigits_big (by omega)]
  intro x hx
  rcases List.mem_append.1 hx with hx | hx
  ·
   exact ih _ (by omega) x hx
  obtain rfl := List.mem_singleton.1 hx; exact digit_range (Nat.mod_lt u (by omega))
theorem decDigits_head (u : Nat) (h : 0 < u) : ∃ d r, 0 < d ∧ d < 10 ∧ decDigits u = UInt8.ofNat (48 + d) :: r := by
 induction u using Nat.strongRecOn with
 | _ u ih =>
  by_cases h10 : u < 10
  ·
   exact ⟨u, [], h, h10, decDigits_small h10⟩
  obtain ⟨d, r, h1, h2, h3⟩ := ih (u / 10) (by omega) (by omega)
  exact ⟨d, _, h1, h2, by rw [decDigits_big (by omega), h3]; rfl⟩
theorem decDigits_isDec (u : Nat) : IsDec (decDigits u) := by
 refine ⟨fun e => ?_, decDigits_range u, fun e => ?_⟩
 ·
  have := decDigits_pos u; rw [e] at this; simp at this
 rcases Nat.eq_zero_or_pos u with rfl | h
 ·
  rw [decDigits_small (by omega)]; rfl
 obtain ⟨d, r, h1, h2, h3⟩ := decDigits_head u h
 rw [h3] at e
 simp only [List.head?_cons, Option.some.injEq] at e
 have := congrArg UInt8.toNat e
 have h4 := digit_toNat h2
 rw [this] at h4
 simp at h4
 omega
theorem decDigits_inj {u v : Nat} (h : decDigits u = decDigits v) : u = v := by rw [← num_dec u, h, num_dec]
end Go.Proofs.YtcjhihmaegagdaaGreatDoor
namespace Go.Proofs.YtcjhihmaegagdaaGreatDoor
open Go.RowKit
def intOf : Value → Int
 | .int _ x => x
 | _ => 0
structure Vc where
 a : Int
 b : Int
 c : Int
 d : Int
 e : Int
 f : Int
deriving DecidableEq
def Vc.at (v : Vc) : Nat → Int
 | 0 => v.a
 | 1 => v.b
 | 2 => v.c
 | 3 => v.d
 | 4 => v.e
 | 5 => v.f
 | _ => 0
abbrev Vc.cells (v : Vc) : Array Value := #[.int .i64 v.a, .int .i64 v.b, .int .i64 v.c, .int .i64 v.d, .int .i64 v.e, .int .i64 v.f]
theorem Vc.cell (v : Vc) (j : Nat) (hj : j < 6) : v.cells[j]? = some (.int .i64 (v.at j)) := by
 rcases (show j = 0 ∨ j = 1 ∨ j = 2 ∨ j = 3 ∨ j = 4 ∨ j = 5 by omega) with rfl | rfl | rfl | rfl | rfl | rfl <;> rfl
def Vc.ok (v : Vc) : Bool := decide (v.a.natAbs ≤ 48) && decide (v.b.natAbs ≤ 48) && decide (v.c.natAbs ≤ 48) && decide (v.d.natAbs ≤ 48) && decide (v.e.natAbs ≤ 48) && decide (v.f.natAbs ≤ 48)
theorem index_vec (v : Vc) (k : Nat) (hk : k < 6) (w : World) : (Instr.index 53 (.agg #[.int .i64 v.a, .int .i64 v.b, .int .i64 v.c, .int .i64 v.d, .int .i64 v.e, .int .i64 v.f]) (.int .i64 (k : Int))).run Tryz.prog w = .ok (.int .i64 (v.at k)) w := by
 rcases (show k = 0 ∨ k = 1 ∨ k = 2 ∨ k = 3 ∨ k = 4 ∨ k = 5 by omega) with rfl | rfl | rfl | rfl | rfl | rfl <;> rfl
theorem index_six (v : Vc) (k : Nat) (hk : k < 6) (w : World) : (Instr.index 52 (.agg #[.int .i64 v.a, .int .i64 v.b, .int .i64 v.c, .int .i64 v.d, .int .i64 v.e, .int .i64 v.f]) (.int .i64 (k : Int))).run Tryz.prog w = .ok (.int .i64 (v.at k)) w := by
 rcases (show k = 0 ∨ k = 1 ∨ k = 2 ∨ k = 3 ∨ k = 4 ∨ k = 5 by omega) with rfl | rfl | rfl | rfl | rfl | rfl <;> rfl
theorem tR {P : Program} {ops : Array Oper} {Q : Exit → Act → World → Prop} {md : Region.Mode} {fuel : Nat} {listed : Array Bool} {a : Act} {w : World} (rs : List Nat) (hr : Region.ready md ops listed = rs) (hne : rs.isEmpty = false) (h : AllReady P md ops Q fuel listed a w rs) : wpAny P md ops Q (fuel + 1) listed a w := wpAny_ready hr (by intro e; rw [e] at hne; cases hne) h
theorem rN {P : Program} {ops : Array Oper} {Q : Exit → Act → World → Prop} {md : Region.Mode} {fuel : Nat} {listed : Array Bool} {a : Act} {w : World} : AllReady P md ops Q fuel listed a w [] := AllReady.nil
theorem rC {P : Program} {ops : Array Oper} {Q : Exit → Act → World → Prop} {md : Region.Mode} {fuel : Nat} {listed : Array Bool} {a : Act} {w : World} {i : Nat} {o : Oper} {rs : List Nat} (ho : ops[i]? = some o)
 (h : ∀ K' : Act → World → Prop, (∀ a w, wpAny P md ops Q fuel (listed.setIfInBounds i true) a w → K' a w) → if Region.wanted o (yielded ops a.tmps) = true then Oper.wp P o a w K' Q else K' (a.put o.dst undef) w)
 (hs : AllReady P md ops Q fuel listed a w rs) : AllReady P md ops Q fuel listed a w (i :: rs) := AllReady.cons ho h hs
theorem tK {P : Program} {ops : Array Oper} {Q : Exit → Act → World → Prop} {md : Region.Mode} {oi : Oper} {fuel : Nat} {listed : Array Bool} {a : Act} {w : World} (i : Nat) (v : Value) (hi : ops[i]? = some oi) (hb : (Region.noSelect ops && Region.free md ops listed i && (Region.ready md ops listed).contains i) = true) (hQ : ∀ c a w, Q (.panic c) (a.put oi.dst v) w → Q (.panic c) a w) (hy : Yields P ops oi v a) (h : wpAny P md ops Q fuel (listed.setIfInBounds i true) (a.put oi.dst v) w) : wpAny P md ops Q (fuel + 1) listed a w :=
 have h1 := Bool.and_eq_true_iff.1 hb
 have h2 := Bool.and_eq_true_iff.1 h1.1
 wpAny_take hi h2.1 h2.2 h1.2 hQ hy h
theorem tH {P : Program} {ops : Array Oper} {Q : Exit → Act → World → Prop} {md : Region.Mode} {S : World → Prop} {oi : Oper} {fuel : Nat} {listed : Array Bool} {a : Act} {w : World} (i : Nat) (v : Value) (hi : ops[i]? = some oi) (hb : (Region.noSelect ops && Region.free md ops listed i && (Region.ready md ops listed).contains i) = true) (hQ : ∀ c a w, Q (.panic c) (a.put oi.dst v) w → Q (.panic c) a w) (hy : YieldsIf P ops S oi v a) (hS : S w) (h : wpAnyH P md ops Q S fuel (listed.setIfInBounds i true) (a.put oi.dst v) w) : wpAnyH P md ops Q S (fuel + 1) listed a w :=
 have h1 := Bool.and_eq_true_iff.1 hb
 have h2 := Bool.and_eq_true_iff.1 h1.1
 wpAnyH_take hi h2.1 h2.2 h1.2 hQ hy hS h
end Go.Proofs.YtcjhihmaegagdaaGreatDoor
