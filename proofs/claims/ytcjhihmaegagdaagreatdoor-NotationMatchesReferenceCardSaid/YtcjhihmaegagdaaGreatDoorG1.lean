/- Texts of the Notation chapter, together: Ma, Mb, Mr, Mc, Mq, Mt, Md, Nt, Ca. -/
import Derived.Test.YtcjhihmaegagdaaGreatDoorG0
import Derived.Test.YtcjhihmaegagdaaGreatDoorProg
import Derived.Maps.AppendAt
import Derived.Deep.AppendLies
import Derived.RegionTactic
import Derived.OwnWalk
import Derived.Deep.Draws
import Derived.Below
import Derived.Laws.BytesArg
import Derived.Deep.MidRow
import Derived.Deep.WholeRow
import Derived.Deep.Quiet
import Derived.Deep.QuietTactic
import Derived.OrdersHeld
import Derived.Deep.RegionHeld
import Derived.Lib.ItoaNum
import Derived.WalkKit
import Derived.WalkSpells
import Derived.WalkLawsBesides
import Derived.Handy
import Derived.Deep.OwnRows
import Derived.Lib.Hide
import Derived.Orders
set_option maxRecDepth 100000
set_option maxHeartbeats 8000000
set_option linter.unusedSimpArgs false
set_option linter.unusedVariables false
set_option linter.unusedSectionVars false
set_option linter.unnecessarySimpa false
namespace Go.Proofs.YtcjhihmaegagdaaGreatDoor
open Go.RowKit
theorem hid {p : Prop} (h : p) : Hid p := Lib.hid h
theorem sS {α : Type} : (∀ (l : List α) (i : Nat) (a : α), l.toArray.setIfInBounds i a = (l.set i a).toArray) ∧ (∀ (x : α) (l : List α) (a : α), (x :: l).set 0 a = a :: l) ∧ (∀ (x : α) (l : List α) (i : Nat) (a : α), (x :: l).set (i + 1) a = x :: l.set i a) := ⟨fun _ _ _ => by simp, fun _ _ _ => rfl, fun _ _ _ _ => rfl⟩
theorem zs (a : Addr) (j : Nat) : (a.add j).block = a.block := by unfold Addr.add; split <;> rfl
def zQ (w : World) (B size : Nat) (A : Option Addr) (n : Nat) (xs : List Value) : Prop :=
 xs.length = n * size ∧ (0 < n → ∃ ad : Addr, A = some ad ∧ ad.block < B ∧ ∀ j, j < xs.length → w.cell? (ad.add j) = xs[j]?)
theorem zBu (a : Addr) (i j : Nat) : (a.add i).add j = a.add (i + j) := by
 unfold Addr.add;by_cases hi : i = 0
 · simp [hi]
 by_cases hj : j = 0
 · simp [hi, hj]
 simp [hi, hj, Nat.add_assoc]
section
variable {w w' : World} {B B' size n : Nat} {A : Option Addr} {xs : List Value}
theorem zQ.nil_ : zQ w B size A 0 [] := ⟨by simp, fun h => by omega⟩
theorem zQ.same (h : zQ w B size A n xs) (hk : ∀ p : Addr, p.block < B → w'.cell? p = w.cell? p) : zQ w' B size A n xs := by
 refine ⟨h.1, fun hn => ?_⟩;obtain ⟨ad, e, hb, hc⟩ := h.2 hn;exact ⟨ad, e, hb, fun j hj => by rw [hk _ (by rw [zs]; exact hb)]; exact hc j hj⟩
theorem zQ.wider (h : zQ w B size A n xs) (hB : B ≤ B') : zQ w B' size A n xs := by
 refine ⟨h.1, fun hn => ?_⟩;obtain ⟨ad, e, hb, hc⟩ := h.2 hn;exact ⟨ad, e, by omega, hc⟩
theorem zQ.below (h : zQ w B size A n xs) (hb : Below B w w') : zQ w' B size A n xs := h.same fun _ hp => hb.cell hp
theorem zQ.drewN (h : zQ w B size A n xs) (k : Nat) : zQ (w.drewN k) B size A n xs := h
theorem zQ.alloc (h : zQ w B size A n xs) (hB : B ≤ w.heap.size) (o : Obj) : zQ (w.alloc o) B size A n xs :=
 h.same fun p hp => World.cell?_alloc_lt w o p (by omega)
theorem zQ.setCell (h : zQ w B size A n xs) {p : Addr} (hB : B ≤ p.block) (u : Value) : zQ (w.setCell p u) B size A n xs :=
 h.same fun q hq => World.cell?_setCell_other w p q u (fun e => by subst e; omega)
theorem zQ.grown (h : zQ w B size A n xs) {row : Option Nat} (hg : w.grownBy w' row) (hB : B ≤ w.heap.size) (hr : ∀ g, row = some g → B ≤ g) : zQ w' B size A n xs :=
 h.same fun p hp => World.cell?_of_block (hg.block p.block (by omega) (fun e => by have := hr _ e.symm; omega))
theorem zQ.of_own {base : Nat} {e : TypeId} {c : Nat} (h : w.ownsRow base e size (.slice A n c) n xs) : zQ w w.heap.size size A n xs := by
 refine ⟨h.1, fun hn => ?_⟩;obtain ⟨g, cap, hv, _, hlt⟩ := h.form hn;injection hv with hA;subst hA;exact ⟨_, rfl, hlt, fun j hj => by rw [h.cells (g := g) rfl j _ (List.getElem?_eq_getElem hj), List.getElem?_eq_getElem hj]⟩
theorem zQ.cut (h : zQ w B size A n xs) {k cap : Nat} (hk : k ≤ n) (hc : n ≤ cap) :
 zQ w B size (if cap = k then A else A.map (·.add (k * size))) (n - k) (xs.drop (k * size)) := by
 refine ⟨by rw [List.length_drop, h.1, Nat.sub_mul], fun hn => ?_⟩;obtain ⟨ad, rfl, hb, hcell⟩ := h.2 (by omega);rw [if_neg (by omega)];refine ⟨ad.add (k * size), rfl, by rw [zs]; exact hb, fun j hj => ?_⟩;rw [List.length_drop] at hj;rw [zBu, List.getElem?_drop];exact hcell _ (by omega)
theorem zQ.head (h : zQ w B size A n xs) {k : Nat} (hk : k ≤ n) : zQ w B size A k (xs.take (k * size)) := by
 have hl : k * size ≤ n * size := Nat.mul_le_mul_right _ hk;refine ⟨by rw [List.length_take, h.1]; omega, fun hn => ?_⟩;obtain ⟨ad, rfl, hb, hcell⟩ := h.2 (by omega);refine ⟨ad, rfl, hb, fun j hj => ?_⟩;rw [List.length_take] at hj;rw [hcell j (by omega), List.getElem?_take, if_pos (by omega)]
theorem zQ.at_ {k : Nat} (h : zQ w B 1 A n xs) (hk : k < n) : ∃ ad u, A = some ad ∧ ad.block < B ∧ xs[k]? = some u ∧ w.cell? (ad.add k) = some u := by
 obtain ⟨ad, e, hb, hc⟩ := h.2 (by omega);have hl : k < xs.length := by have := h.1; omega
 exact ⟨ad, xs[k], e, hb, List.getElem?_eq_getElem hl, by rw [hc k hl]; exact List.getElem?_eq_getElem hl⟩
end
theorem zLk {P : Program} (w : World) (base : Nat) (t ty e : TypeId) (i : TypeInfo) (z : Value) (size bytes : Nat) (ht : P.underlying t = some (.slice e)) (hi : P.info? e = some i) (hz : i.zero = some z)
 (hsize : i.size = size) (hby : i.bytes = bytes) (hzs : z.cells.size = size) (hsz : 0 < size)
 (v : Value) (n : Nat) (xs : List Value) (hown : w.ownsRow base e size v n xs)
 (B : Nat) (A : Option Addr) (m c : Nat) (news : List Value) (hr : zQ w B size A m news) (h1 : ∀ u ∈ news, u.oneCell' = true)
 (h63 : n + m ≤ maxLen) (hbytes : (n + m) * bytes ≤ 140737488355328) (hbase : base ≤ w.heap.size) :
 ∃ v' w', (Builtin.append_ #[t, t] ty #[v, .slice A m c]).run P w = .ok v' w' ∧ w'.ownsRow base e size v' (n + m) (xs ++ news) ∧ w.grownBy w' v.ownBlock ∧
  (v'.ownBlock = v.ownBlock ∨ v'.ownBlock = some w.heap.size) := by
 cases A with
 | some ad =>
  have hc : ∀ j u, news[j]? = some u → w.cell? (ad.add j) = some u := by
   intro j u hu;have hj : j < news.length := (List.getElem?_eq_some_iff.1 hu).1
   have hm : 0 < m := by
    rcases Nat.eq_zero_or_pos m with h0 | h0
    · have := hr.1; rw [h0, Nat.zero_mul] at this; omega
    exact h0
   obtain ⟨ad', e', _, hcell⟩ := hr.2 hm;injection e' with e';subst e';rw [hcell j hj, hu]
  obtain ⟨v', w', hrun, h2, h3, _, h5⟩ := run_append_own_at (P := P) w base t ty e i z size bytes ht hi hz hsize hby hzs hsz v n xs hown ad m c news hr.1 hc h1 h63 hbytes hbase;exact ⟨v', w', hrun, h2, h3, h5⟩
 | none =>
  have hm : m = 0 := by
   rcases Nat.eq_zero_or_pos m with h0 | h0
   · exact h0
   obtain ⟨ad, e', _⟩ := hr.2 h0; cases e'
  subst hm;have hnn : news = [] := List.eq_nil_of_length_eq_zero (by simpa using hr.1);subst hnn;refine ⟨v, w, ?_, by simpa using hown, ⟨rfl, rfl, rfl, Nat.le_refl _, fun _ _ _ => rfl⟩, .inl rfl⟩;rcases hown.2 with ⟨rfl, rfl⟩ | ⟨g, cap, cur, rfl, _, _, hnc, _⟩
  · simp [Builtin.append_, run_underlying ht, sizeOf, typeInfo, hi, Builtin.lenOf, Builtin.firstCells]
  simp [Builtin.append_, run_underlying ht, sizeOf, typeInfo, hi, Builtin.lenOf, Builtin.firstCells, hnc, storeCells]
theorem zHK {P : Program} (w : World) {o : Oper} {a : Act} {K : Act → World → Prop} {Q : Exit → Act → World → Prop} (s x : Operand) (t : TypeId)
 (ho : o.op = .call { callee := .builtin .append, args := #[s, x], argTypes := #[t, t] })
 (base : Nat) (e : TypeId) (i : TypeInfo) (z : Value) (size bytes : Nat) (ht : P.underlying t = some (.slice e)) (hi : P.info? e = some i) (hz : i.zero = some z)
 (hsize : i.size = size) (hby : i.bytes = bytes) (hzs : z.cells.size = size) (hsz : 0 < size)
 (v : Value) (n : Nat) (xs : List Value) (hs : a.eval s = v) (hown : w.ownsRow base e size v n xs)
 (B : Nat) (A : Option Addr) (m c : Nat) (news : List Value) (hx : a.eval x = .slice A m c) (hr : zQ w B size A m news) (h1 : ∀ u ∈ news, u.oneCell' = true)
 (h63 : n + m ≤ maxLen) (hbytes : (n + m) * bytes ≤ 140737488355328) (hbase : base ≤ w.heap.size)
 (h : ∀ v' w', w'.ownsRow base e size v' (n + m) (xs ++ news) → w.grownBy w' v.ownBlock → (v'.ownBlock = v.ownBlock ∨ v'.ownBlock = some w.heap.size) → K (a.put o.dst v') w') : o.wp P a w K Q := by
 obtain ⟨v', w', hrun, h2, h3, h4⟩ := zLk (P := P) w base t o.type e i z size bytes ht hi hz hsize hby hzs hsz v n xs hown B A m c news hr h1 h63 hbytes hbase;unfold Oper.wp execOp;simp only [ho, resolve, invoke, builtin, Sem.run_bind, Sem.run_pure, Result.andThen_ok, List.map_toArray, List.map_cons, List.map_nil, hs, hx, hrun];exact h v' w' h2 h3 h4
theorem vt {P : Program} (w : World) {ops : Array Oper} {rest : List Oper} {o : Oper} {a : Act} {Q : Exit → Act → World → Prop} (hgd : o.guard = none) (s x : Operand) (t e : TypeId) (z : Value) (size bytes : Nat)
 (ho : o.op = .call { callee := .builtin .append, args := #[s, x], argTypes := #[t, t] }) (ht : P.underlying t = some (.slice e)) (hinf : (P.info? e).map (fun i => (i.zero, i.size, i.bytes)) = some (some z, size, bytes)) (hzs : z.cells.size = size) (hsz : 0 < size)
 (base : Nat) (v : Value) (n : Nat) (xs : List Value) (hs : a.eval s = v) (hown : w.ownsRow base e size v n xs)
 (B : Nat) (A : Option Addr) (m c : Nat) (news : List Value) (hx : a.eval x = .slice A m c) (hr : zQ w B size A m news) (h1 : ∀ u ∈ news, u.oneCell' = true)
 (h63 : n + m ≤ maxLen) (hbytes : (n + m) * bytes ≤ 140737488355328) (hbase : base ≤ w.heap.size)
 (h : ∀ v' w', w'.ownsRow base e size v' (n + m) (xs ++ news) → w.grownBy w' v.ownBlock → (v'.ownBlock = v.ownBlock ∨ v'.ownBlock = some w.heap.size) → wpList P ops Q rest (a.put o.dst v') w') :
 wpList P ops Q (o :: rest) a w := by
 obtain ⟨i0, hi, hz0, hz1, hz2⟩ := info_parts hinf;exact wpList_plain hgd fun _ hK => zHK w s x _ ho base _ i0 _ size bytes ht hi hz0 hz1 hz2 hzs hsz v n xs hs hown B A m c news hx hr h1 h63 hbytes hbase fun v' w' h2 h3 h4 => hK _ _ (h v' w' h2 h3 h4)
theorem zF9 {B : Nat} {a w w' : World} {r : Option Nat} (h : Below B a w) (hg : w.grownBy w' r) (hB : B ≤ w.heap.size) (hr : ∀ g, r = some g → B ≤ g) : Below B a w' := h.grown hg hB hr
theorem zB {w w1 w2 : World} (h : Below w.heap.size w w1) (b : Below w1.heap.size w1 w2) : Below w.heap.size w w2 := h.trans (b.mono h.size)
theorem zGR (w : World) (r : Option Nat) : w.grownBy w r := ⟨rfl, rfl, rfl, Nat.le_refl _, fun _ _ _ => rfl⟩
def Blk (w : World) (g : Nat) (t : TypeId) (cs : Array Value) : Prop := w.heap[g]? = some (.cells cs t (0, 0))
theorem Blk.lt {w : World} {g : Nat} {t : TypeId} {cs : Array Value} (h : Blk w g t cs) : g < w.heap.size := (Array.getElem?_eq_some_iff.1 h).1
theorem Blk.cell {w : World} {g : Nat} {t : TypeId} {cs : Array Value} (h : Blk w g t cs) (i : Nat) : w.cell? ⟨g, i, none⟩ = cs[i]? := cell_of_row w g i cs t (0, 0) h
theorem Blk.frozen {w : World} {g : Nat} {t : TypeId} {cs : Array Value} (h : Blk w g t cs) (i : Nat) : w.frozen? ⟨g, i, none⟩ = false := frozen_of_row w g i cs t h
theorem Blk.new (w : World) (t : TypeId) (cs : Array Value) : Blk (w.alloc (.cells cs t)) w.heap.size t cs := heap_alloc_new w _
theorem Blk.drew {w : World} {g : Nat} {t : TypeId} {cs : Array Value} (h : Blk w g t cs) : Blk w.drew g t cs := h
theorem Blk.drewN {w : World} {g : Nat} {t : TypeId} {cs : Array Value} (h : Blk w g t cs) (n : Nat) : Blk (w.drewN n) g t cs := h
theorem Blk.alloc {w : World} {g : Nat} {t : TypeId} {cs : Array Value} (h : Blk w g t cs) (o : Obj) : Blk (w.alloc o) g t cs := (@Go.heap_alloc_old w o _ h.lt).trans h
theorem Blk.below {w w' : World} {B g : Nat} {t : TypeId} {cs : Array Value} (h : Blk w g t cs) (hb : Below B w w') (hg : g < B) : Blk w' g t cs := (hb.block g hg).trans h
theorem Blk.grown {w w' : World} {r : Option Nat} {g : Nat} {t : TypeId} {cs : Array Value} (h : Blk w g t cs) (hb : w.grownBy w' r) (hg : r ≠ some g) : Blk w' g t cs := (hb.block g h.lt (fun e => hg e.symm)).trans h
theorem Blk.far {w : World} {g : Nat} {t : TypeId} {cs : Array Value} (h : Blk w g t cs) {p : Addr} (hp : g ≠ p.block) (u : Value) : Blk (w.setCell p u) g t cs := (heap_setCell_other w p g u hp).trans h
theorem Blk.set_ {w : World} {g : Nat} {t : TypeId} {cs : Array Value} (h : Blk w g t cs) (i : Nat) (u : Value) : Blk (w.setCell ⟨g, i, none⟩ u) g t (cs.setIfInBounds i u) := heap_setCell_same w g i cs t u h
theorem xX (w : World) (cs : Array Value) (t : TypeId) (n size : Nat) (hn : cs.size = n * size) : zQ (w.alloc (.cells cs t)) (w.heap.size + 1) size (some ⟨w.heap.size, 0, none⟩) n cs.toList := by
 refine ⟨by simpa using hn, fun _ => ⟨_, rfl, by simp, fun j hj => ?_⟩⟩;have : (⟨w.heap.size, 0, none⟩ : Addr).add j = ⟨w.heap.size, j, none⟩ := by unfold Addr.add; split <;> simp_all
 rw [this, World.cell?_alloc_new];simp
open Go.RowKit
def RdB (w : World) (B : Nat) (A : Option Addr) (l : List UInt8) : Prop :=
 0 < l.length → ∃ ad, A = some ad ∧ ad.block < B ∧ ∀ j, j < l.length → w.cell? (ad.add j) = some (.int .u8 ((l.getD j 0).toNat : Int))
theorem RdB.nil (w : World) (B : Nat) (A : Option Addr) : RdB w B A [] := fun h => absurd h (by simp)
theorem RdB.below {w w' : World} {B C : Nat} {A : Option Addr} {l : List UInt8} (h : RdB w B A l) (hb : Below C w w') (hBC : B ≤ C) : RdB w' B A l := fun hl => by
 obtain ⟨ad, rfl, hlt, hc⟩ := h hl;refine ⟨ad, rfl, hlt, fun j hj => ?_⟩;rw [hb.cell (p := ad.add j) (by rw [zs]; exact Nat.lt_of_lt_of_le hlt hBC)];exact hc j hj
theorem RdB.mono {w : World} {B C : Nat} {A : Option Addr} {l : List UInt8} (h : RdB w B A l) (hBC : B ≤ C) : RdB w C A l := fun hl => by
 obtain ⟨ad, rfl, hlt, hc⟩ := h hl;exact ⟨ad, rfl, Nat.lt_of_lt_of_le hlt hBC, hc⟩
def kN (l : List UInt8) : List Value := l.map fun x => Value.int .u8 (x.toNat : Int)
theorem zD1 (l m : List UInt8) : kN (l ++ m) = kN l ++ kN m := by simp [kN]
theorem zA5 (l : List UInt8) : (kN l).length = l.length := by simp [kN]
theorem zEn (l : List UInt8) (j : Nat) (hj : j < l.length) : (kN l)[j]? = some (.int .u8 ((l.getD j 0).toNat : Int)) := by
 simp [kN, List.getElem?_eq_getElem hj]
theorem zQ.bytes {w : World} {B : Nat} {A : Option Addr} {l : List UInt8} (h : zQ w B 1 A l.length (kN l)) : RdB w B A l := by
 intro hl;obtain ⟨ad, e, hb, hc⟩ := h.2 hl;exact ⟨ad, e, hb, fun j hj => by rw [hc j (by rw [zA5]; exact hj), zEn l j hj]⟩
theorem RdB.shows {w : World} {B : Nat} {A : Option Addr} {l : List UInt8} (h : RdB w B A l) : zQ w B 1 A l.length (kN l) := by
 refine ⟨by simp [kN], fun hl => ?_⟩;obtain ⟨ad, e, hb, hc⟩ := h hl;refine ⟨ad, e, hb, fun j hj => ?_⟩;rw [zA5] at hj;rw [hc j hj, zEn l j hj]
def qh (w : World) (base : Nat) (v : Value) (l : List UInt8) : Prop := w.ownsRow base 5 1 v l.length (kN l)
theorem qh.start (w : World) (base : Nat) : qh w base (.slice none 0 0) [] := World.ownsRow_nil _ _ _ 1
theorem qh.snoc {w : World} {base : Nat} {v : Value} {l m : List UInt8} {n : Nat} {news : List Value} (h : w.ownsRow base 5 1 v (l.length + n) (kN l ++ news)) (hm : news = kN m) (hn : n = m.length) : qh w base v (l ++ m) := by
 subst hm hn;unfold qh;rw [List.length_append, zD1];exact h
theorem qh.form {w : World} {base : Nat} {v : Value} {l : List UInt8} (h : qh w base v l) : ∃ A c, v = .slice A l.length c ∧ l.length ≤ c ∧ RdB w w.heap.size A l := by
 have h' := h;rcases h'.2 with ⟨rfl, h0⟩ | ⟨g, cap, cur, rfl, -, -, hc, -⟩
 · exact ⟨none, 0, by rw [h0], by omega, fun hl => by omega⟩
 exact ⟨_, cap, rfl, hc, (zQ.of_own h).bytes⟩
theorem qh.block {w : World} {base : Nat} {v : Value} {l : List UInt8} (h : qh w base v l) : ∀ g, v.ownBlock = some g → base ≤ g := fun g hg => (World.ownsRow.lt h g hg).1
theorem qh.lt {w : World} {base : Nat} {v : Value} {l : List UInt8} (h : qh w base v l) : ∀ g, v.ownBlock = some g → g < w.heap.size := fun g hg => (World.ownsRow.lt h g hg).2
theorem qh.alloc {w : World} {base : Nat} {v : Value} {l : List UInt8} (h : qh w base v l) (o : Obj) : qh (w.alloc o) base v l := World.ownsRow.alloc h o
theorem qh.drewN {w : World} {base : Nat} {v : Value} {l : List UInt8} (h : qh w base v l) (n : Nat) : qh (w.drewN n) base v l := h
theorem qh.kept {w w' : World} {base : Nat} {v : Value} {l : List UInt8} {r : Option Nat} (h : qh w base v l) (hg : w.grownBy w' r) (hne : v.ownBlock = none ∨ v.ownBlock ≠ r) : qh w' base v l := World.ownsRow.kept h hg hne
theorem xm {a b : World} (h : Below a.heap.size a b) (r : Option Nat) : a.grownBy b r := ⟨h.os, h.tape, h.output, h.size, fun i hi _ => h.block i hi⟩
open Go.RowKit
section
variable {α : Type} (cf : α → List Value) (k : Nat) (hk : ∀ x, (cf x).length = k)
def zW (l : List α) : List Value := l.flatMap cf
theorem y9 (l m : List α) : zW cf (l ++ m) = zW cf l ++ zW cf m := by simp [zW]
include hk in
theorem xQ (l : List α) : (zW cf l).length = l.length * k := by
 induction l with
 | nil => simp [zW]
 | cons m l ih => rw [zW, List.flatMap_cons, List.length_append, hk]; change k + (zW cf l).length = _; rw [ih, List.length_cons, Nat.add_mul, Nat.one_mul, Nat.add_comm]
include hk in
theorem zAX (l : List α) (i j : Nat) (h : i < l.length) (hj : j < k) : (zW cf l)[i * k + j]? = (cf l[i])[j]? := by
 induction l generalizing i with
 | nil => simp at h
 | cons m l ih =>
  rw [zW, List.flatMap_cons]
  cases i with
  | zero => rw [Nat.zero_mul, Nat.zero_add, List.getElem?_append_left (by rw [hk]; exact hj)]; rfl
  | succ i =>
   rw [List.getElem?_append_right (by rw [hk, Nat.add_mul, Nat.one_mul]; omega), hk, show (i + 1) * k + j - k = i * k + j by rw [Nat.add_mul, Nat.one_mul]; omega];exact ih i (by simpa using h)
theorem xw (x : α) : zW cf [x] = cf x := by simp [zW]
include hk in
theorem zQ.rec {w : World} {B n : Nat} {A : Option Addr} {l : List α} (h : zQ w B k A n (zW cf l)) (hl : l.length = n) {i : Nat} (hi : i < n) : ∃ ad, A = some ad ∧ ad.block < B ∧ ∀ j, j < k → w.cell? ((ad.add (i * k)).add j) = (cf (l[i]'(by omega)))[j]? := by
 obtain ⟨ad, rfl, hb, hc⟩ := h.2 (by omega);refine ⟨ad, rfl, hb, fun j hj => ?_⟩;rw [zBu, hc _ (by rw [xQ cf k hk]; have : i * k + k ≤ n * k := (by rw [← Nat.succ_mul]; exact Nat.mul_le_mul_right _ hi); rw [hl]; omega), zAX cf k hk l i j (by omega) hj]
end
theorem qS {P : Program} (ty : TypeId) (d : TypeDesc) (hu : P.underlying ty = some d) (hd : (match d with | .struct _ | .array _ _ => true | _ => false) = true) (w : World) (a : Addr) (cs : Array Value) (hi : (P.info? ty).map (·.size) = some cs.size)
 (h : ∀ j v, cs.toList[j]? = some v → w.cell? (a.add j) = some v) : (loadVar ty a).run P w = .ok (.agg cs) w := by
 have hl : (loadCells a cs.toList.length).run P w = .ok cs.toList.toArray w := run_loadCells_list (P := P) w a cs.toList h
 cases hq : P.info? ty with
 | none => rw [hq] at hi; cases hi
 | some i =>
  have hs : i.size = cs.toList.length := by rw [hq] at hi; simpa using hi
  have hagg : (isAgg ty).run P w = .ok true w := by
   unfold isAgg;rw [Sem.run_bind, run_underlying hu w];cases d <;> first | rfl | cases hd
  rw [← hs] at hl;simp [loadVar, hagg, sizeOf, typeInfo, hq, hl]
theorem yN {P : Program} {fn : Func} {t : Tmp} {ty : TypeId} (hf : fn.results = #[.cell t ty]) (tmps : Array Value) (a : Addr) (ht : tmps.getD t undef = .pointer (some a)) (d : TypeDesc) (hu : P.underlying ty = some d) (hd : (match d with | .struct _ | .array _ _ => true | _ => false) = true) (w : World) (cs : Array Value) (hi : (P.info? ty).map (·.size) = some cs.size)
 (h : ∀ j v, cs.toList[j]? = some v → w.cell? (a.add j) = some v) : (results fn tmps).run P w = .ok (.agg cs) w := by
 have := qS ty d hu hd w a cs hi h;rw [Array.getD_eq_getD_getElem?] at ht;simp [results, hf, ht, asAddr, this]
theorem vT {P : Program} {fn : Func} {t u : Tmp} {ty : TypeId} (hf : fn.results = #[.cell t ty, .tmp u]) (tmps : Array Value) (a : Addr) (ht : tmps.getD t undef = .pointer (some a)) (d : TypeDesc) (hu : P.underlying ty = some d) (hd : (match d with | .struct _ | .array _ _ => true | _ => false) = true) (w : World) (cs : Array Value) (hi : (P.info? ty).map (·.size) = some cs.size)
 (h : ∀ j v, cs.toList[j]? = some v → w.cell? (a.add j) = some v) : (results fn tmps).run P w = .ok (.tuple #[.agg cs, tmps.getD u undef]) w := by
 have := qS ty d hu hd w a cs hi h;rw [Array.getD_eq_getD_getElem?] at ht;simp [results, hf, ht, asAddr, this]
theorem jw {P : Program} (ty : TypeId) (d : TypeDesc) (hu : P.underlying ty = some d) (hd : (match d with | .struct _ | .array _ _ => true | _ => false) = true) (w : World) (a : Addr) (cs : Array Value) (hi : (P.info? ty).map (·.size) = some cs.size)
 (h : ∀ j v, cs.toList[j]? = some v → w.cell? (a.add j) = some v) : (Instr.loadAt ty (.pointer (some a))).run P w = .ok (.agg cs) w := by
 have hl : (loadCells a cs.toList.length).run P w = .ok cs.toList.toArray w := run_loadCells_list (P := P) w a cs.toList h
 cases hq : P.info? ty with
 | none => rw [hq] at hi; cases hi
 | some i =>
  have hs : i.size = cs.toList.length := by rw [hq] at hi; simpa using hi
  have hagg : (isAgg ty).run P w = .ok true w := by
   unfold isAgg;rw [Sem.run_bind, run_underlying hu w];cases d <;> first | rfl | cases hd
  have hlv : (loadVar ty a).run P w = .ok (.agg cs) w := by
   rw [← hs] at hl;simp [loadVar, hagg, sizeOf, typeInfo, hq, hl]
  simp only [Instr.loadAt, Instr.sureAddr, Sem.run_bind, Sem.run_pure, Result.andThen_ok, hlv]
open Go.RowKit
theorem zI {P : Program} {ops : Array Oper} {rest : List Oper} {o : Oper} {a : Act} {w : World} {Q : Exit → Act → World → Prop} (hgd : o.guard = none) (ty : TypeId) (x y : Operand) (ho : o.op = .store ty x y)
 (g : Nat) (cells : Array Value) (hx : a.eval x = .pointer (some ⟨g, 0, none⟩)) (hy : a.eval y = .agg cells)
 (t : TypeId) (old : Array Value) (hg : Blk w g t old) (hi : (P.info? ty).map (·.size) = some cells.size)
 (hold : old.size = cells.size) (h1 : cells.all (·.oneCell') = true)
 (h : ∀ w', Blk w' g t cells → w.grownBy w' (some g) → w'.heap.size = w.heap.size → wpList P ops Q rest (a.put o.dst undef) w') : wpList P ops Q (o :: rest) a w :=
 wpList_store_row hgd ty x y ho g cells hx hy t old hg hi hold h1
  (h _ (setRow_heap w g old cells t (0, 0) hg) ⟨rfl, rfl, rfl, by simp, fun k _ hk => setRow_other w g k cells (fun e => hk (by rw [e]))⟩ (by simp))
theorem kD {P : Program} {ops : Array Oper} {o : Oper} {a : Act} {w : World} {K : Act → World → Prop} {Q : Exit → Act → World → Prop} {E : Prop} (hgd : o.guard = none) (ty : TypeId) (x y : Operand) (ho : o.op = .store ty x y)
 (g : Nat) (cells : Array Value) (hx : a.eval x = .pointer (some ⟨g, 0, none⟩)) (hy : a.eval y = .agg cells)
 (t : TypeId) (old : Array Value) (hg : Blk w g t old) (hi : (P.info? ty).map (·.size) = some cells.size)
 (hold : old.size = cells.size) (h1 : cells.all (·.oneCell') = true)
 (h : ∀ w', Blk w' g t cells → w.grownBy w' (some g) → w'.heap.size = w.heap.size → K (a.put o.dst undef) w') :
 if Region.wanted o (yielded ops a.tmps) = true then Oper.wp P o a w K Q else E := by
 have hw : Region.wanted o (yielded ops a.tmps) = true := by simp [Region.wanted, hgd]
 rw [if_pos hw]
 exact wp_store_row ty x y ho g cells hx hy t old hg hi hold h1
  (h _ (setRow_heap w g old cells t (0, 0) hg) ⟨rfl, rfl, rfl, by simp, fun k _ hk => setRow_other w g k cells (fun e => hk (by rw [e]))⟩ (by simp))
theorem ju {P : Program} {ops : Array Oper} {rest : List Oper} {o : Oper} {a : Act} {w : World} {Q : Exit → Act → World → Prop} (hgd : o.guard = none) (ty : TypeId) (x : Operand) (ho : o.op = .load ty x)
 (g : Nat) (hx : a.eval x = .pointer (some ⟨g, 0, none⟩)) (t : TypeId) (cs : Array Value) (d : TypeDesc) (hg : Blk w g t cs)
 (hu : P.underlying ty = some d) (hd : (match d with | .struct _ | .array _ _ => true | _ => false) = true) (hi : (P.info? ty).map (·.size) = some cs.size)
 (h : wpList P ops Q rest (a.put o.dst (.agg cs)) w) : wpList P ops Q (o :: rest) a w :=
 wpList_load_row hgd ty x ho g hx t cs (0, 0) d hg hu hd hi h
theorem xt {P : Program} (w : World) {ops : Array Oper} {o : Oper} {a : Act} {K : Act → World → Prop} {Q : Exit → Act → World → Prop} {E : Prop} (hw : Region.wanted o (yielded ops a.tmps) = true) (s x : Operand) (t e : TypeId) (z : Value) (size bytes : Nat)
 (ho : o.op = .call { callee := .builtin .append, args := #[s, x], argTypes := #[t, t] }) (ht : P.underlying t = some (.slice e)) (hinf : (P.info? e).map (fun i => (i.zero, i.size, i.bytes)) = some (some z, size, bytes)) (hzs : z.cells.size = size) (hsz : 0 < size)
 (base : Nat) (v : Value) (n : Nat) (xs : List Value) (hs : a.eval s = v) (hown : w.ownsRow base e size v n xs)
 (A : Option Addr) (m c : Nat) (news : List Value) (hx : a.eval x = .slice A m c) (hr : ∃ B, zQ w B size A m news) (h1 : ∀ u ∈ news, u.oneCell' = true)
 (h63 : n + m ≤ maxLen) (hbytes : (n + m) * bytes ≤ 140737488355328) (hbase : base ≤ w.heap.size)
 (h : ∀ v' w', w'.ownsRow base e size v' (n + m) (xs ++ news) → w.grownBy w' v.ownBlock → (v'.ownBlock = v.ownBlock ∨ v'.ownBlock = some w.heap.size) → K (a.put o.dst v') w') :
 if Region.wanted o (yielded ops a.tmps) = true then Oper.wp P o a w K Q else E := by
 obtain ⟨B, hr⟩ := hr;rw [if_pos hw];obtain ⟨i0, hi, hz0, hz1, hz2⟩ := info_parts hinf;exact zHK w s x _ ho base _ i0 _ size bytes ht hi hz0 hz1 hz2 hzs hsz v n xs hs hown B A m c news hx hr h1 h63 hbytes hbase h
open Go.RowKit
section
variable {P : Program} {ops : Array Oper} {C : World → Prop} {Q : Act → Prop} {a : Act} {o : Oper} {rest : List Oper}
theorem zEE (hw : Region.wanted o (yielded ops a.tmps) = true) (v : Value) (hC : ∀ w, C w → (execOp a.eval o).run P w = .ok (.value v) w) (h : wpQuiet P ops C Q rest (a.put o.dst v)) : wpQuiet P ops C Q (o :: rest) a := by
 unfold wpQuiet;rw [if_pos hw];exact ⟨v, fun w hw => by unfold Oper.quietAt; rw [hC w hw]; exact ⟨rfl, rfl⟩, h⟩
theorem zf (hw : Region.wanted o (yielded ops a.tmps) = true) (v : Value) (f : FuncId) (args : Array Value) (he : ∀ w, (execOp a.eval o).run P w = .ok (.enter f args) w)
 (hC : ∀ w, C w → Calls P f args w fun e w'' => e = .returned v ∧ C w'') (h : wpQuiet P ops C Q rest (a.put o.dst v)) : wpQuiet P ops C Q (o :: rest) a := by
 unfold wpQuiet;rw [if_pos hw];exact ⟨v, fun w hw => by unfold Oper.quietAt; rw [he w]; exact ⟨rfl, hC w hw⟩, h⟩
theorem zGT (hw : Region.wanted o (yielded ops a.tmps) = false) (h : wpQuiet P ops C Q rest (a.put o.dst undef)) : wpQuiet P ops C Q (o :: rest) a := by
 unfold wpQuiet;rw [hw];simpa using h
theorem zKu (hw : Region.wanted o (yielded ops a.tmps) = true) (ty : TypeId) (x : Operand) (ho : o.op = .load ty x) (ad : Addr) (v : Value) (hx : a.eval x = .pointer (some ad))
 (hC : ∀ w, C w → (Instr.loadAt ty (.pointer (some ad))).run P w = .ok v w) (h : wpQuiet P ops C Q rest (a.put o.dst v)) : wpQuiet P ops C Q (o :: rest) a := by
 refine zEE hw v (fun w hw => ?_) h;unfold execOp;simp only [ho, hx, Sem.run_bind, hC w hw, Result.andThen_ok, Sem.run_pure]
end
open Go
section
variable {P : Program} {md : Region.Mode} {ops : Array Oper} {Q : Exit → Act → World → Prop} {S : World → Prop} {last : Nat}
def zz (P : Program) (md : Region.Mode) (ops : Array Oper) (Q : Exit → Act → World → Prop) (S : World → Prop) (last : Nat) : Nat → Array Bool → Act → World → Prop
 | 0, L, a, w => Region.ready md ops L = [] ∧ Q .normal a w
 | f + 1, L, a, w => (Region.ready md ops L = [] → Q .normal a w) ∧ ∀ j ∈ Region.ready md ops L, wpOp P ops Q j (fun a' w' => (j = last ∨ S w') ∧ zz P md ops Q S last f (L.setIfInBounds j true) a' w') a w
theorem zz.any : ∀ (f : Nat) (L : Array Bool) (a : Act) (w : World), zz P md ops Q S last f L a w → wpAny P md ops Q f L a w
 | 0, _, _, _, h => h
 | f + 1, _, _, _, h => ⟨h.1, fun j hj => wpOp_mono (fun a' w' h' => zz.any f _ a' w' h'.2) (h.2 j hj)⟩
theorem zz.done {L : Array Bool} {a : Act} {w : World} (hr : Region.ready md ops L = []) (h : Q .normal a w) (f : Nat) : zz P md ops Q S last f L a w := by
 cases f with
 | zero => exact ⟨hr, h⟩
 | succ f => exact ⟨fun _ => h, fun j hj => by rw [hr] at hj; cases hj⟩
theorem zz.one {f i : Nat} {L : Array Bool} {a : Act} {w : World} {o : Oper} (hr : Region.ready md ops L = [i]) (ho : ops[i]? = some o)
 (h : ∀ K : Act → World → Prop, (∀ a w, (i = last ∨ S w) → zz P md ops Q S last f (L.setIfInBounds i true) a w → K a w) → if Region.wanted o (yielded ops a.tmps) = true then Oper.wp P o a w K Q else K (a.put o.dst undef) w) : zz P md ops Q S last (f + 1) L a w := by
 refine ⟨fun e => (by rw [hr] at e; cases e), fun j hj => ?_⟩;rw [hr, List.mem_singleton] at hj;subst hj;exact wpOp_step ho fun K hK => h K fun a w h1 h2 => hK a w ⟨h1, h2⟩
theorem zz.first {i : Nat} {oi : Oper} {v : Value} (hi : ops[i]? = some oi) (hw : ∀ o, ops[last]? = some o → ∃ e ∈ o.after, Region.binds md e = true ∧ e.on = i) (hns : ∀ (j : Nat) (o : Oper) cs b, ops[j]? = some o → o.op ≠ .select cs b)
 (hQ : ∀ c a w, Q (.panic c) (a.put oi.dst v) w → Q (.panic c) a w) (f : Nat) : ∀ (L : Array Bool) (a : Act) (w : World),
  (∀ j oj, ops[j]? = some oj → j ≠ i → L.getD j true = false → (∀ e ∈ oj.after, Region.binds md e = true → e.on ≠ i) → oi.apart ops oj = true) →
  i ∈ Region.ready md ops L → YieldsIf P ops S oi v a → S w → zz P md ops Q S last f (L.setIfInBounds i true) (a.put oi.dst v) w → zz P md ops Q S last (f + 1) L a w := by
 have wait : ∀ (L : Array Bool) (j : Nat) (oj : Oper), i ∈ Region.ready md ops L → ops[j]? = some oj → (∀ e ∈ oj.after, Region.binds md e = true → L.getD e.on false = true) → ∀ e ∈ oj.after, Region.binds md e = true → e.on ≠ i := by
  intro L j oj hr _ hall e he hb e1;have h0 := (mem_ready.1 hr).1;have h1 := hall e he hb;rw [e1] at h1;by_cases hs : i < L.size
  · simp only [Array.getD, hs, dif_pos] at h0 h1;rw [h0] at h1; cases h1
  simp only [Array.getD, hs, dif_neg, not_false_iff] at h1;cases h1
 induction f with
 | zero =>
  intro L a w _ hr hy hS H;refine ⟨fun e => (by rw [e] at hr; cases hr), fun j hj => ?_⟩;by_cases e : j = i
  · subst e; exact hy.wpOp hi hS ⟨.inr hS, H⟩
  have h1 := ready_mono hj e;rw [H.1] at h1;cases h1
 | succ f ih =>
  intro L a w hfr hr hy hS H;refine ⟨fun e => (by rw [e] at hr; cases hr), fun j hj => ?_⟩;by_cases e : j = i
  · subst e; exact hy.wpOp hi hS ⟨.inr hS, H⟩
  obtain ⟨hun, oj, hoj, hall⟩ := mem_ready.1 hj;have hno := wait L j oj hr hoj hall
  have hjl : j ≠ last := by
   rintro rfl;obtain ⟨e2, he, hb, h2⟩ := hw oj hoj;exact hno e2 he hb h2
  refine wpOp_mono (fun a' w' h3 => ?_) (wpOp_putIf hoj (hfr j oj hoj e hun hno) (fun cs b => hns i oi cs b hi) (fun cs b => hns j oj cs b hoj) hQ hy (H.2 j (ready_mono hj e)));obtain ⟨y3, s3 | s3, t3⟩ := h3
  · exact absurd s3 hjl
  refine ⟨.inr s3, ih _ a' w' (fun k ok hk hki hku hkn => hfr k ok hk hki ?_ hkn) (ready_mono hr (Ne.symm e)) y3 s3 ?_⟩
  · by_cases ejk : j = k
    · subst ejk; exact hun
    rw [getD_set_ne true ejk] at hku; exact hku
  rw [Array.setIfInBounds_comm _ _ e];exact t3
def zGX (md : Region.Mode) (ops : Array Oper) (last i : Nat) : Bool := match ops[last]? with | some o => o.after.any fun e => Region.binds md e && e.on == i | none => true
theorem zz.take {i : Nat} {oi : Oper} {v : Value} {f : Nat} {L : Array Bool} {a : Act} {w : World} (hi : ops[i]? = some oi) (hw : zGX md ops last i = true) (hs : Region.noSelect ops = true) (hf : Region.free md ops L i = true) (hr : (Region.ready md ops L).contains i = true)
 (hQ : ∀ c a w, Q (.panic c) (a.put oi.dst v) w → Q (.panic c) a w) (hy : YieldsIf P ops S oi v a) (hS : S w) (h : zz P md ops Q S last f (L.setIfInBounds i true) (a.put oi.dst v) w) : zz P md ops Q S last (f + 1) L a w :=
 zz.first hi (fun o ho => by
  unfold zGX at hw;rw [ho] at hw;obtain ⟨e, he, hb⟩ := Array.any_eq_true'.1 hw;simp only [Bool.and_eq_true, beq_iff_eq] at hb;exact ⟨e, he, hb.1, hb.2⟩) (Region.noSelect_spec hs) hQ f L a w (Region.free_spec hi hf) (by simpa using hr) hy hS h
theorem zFo {id : Nat} {a : Act} {w : World} (last : Nat) (S : World → Prop) (hm : P.follows .mixedOrders = true) (h : zz P .any ops Q S last ops.size (Array.replicate ops.size false) a w.drew) : (Code.region id ops true).wp P Q a w :=
 wp_region_any hm (zz.any _ _ _ _ h)
end
open Go.RowKit
section
variable {P : Program} {md : Region.Mode} {ops : Array Oper} {Q : Exit → Act → World → Prop} {S : World → Prop} {o : Oper} {f : Nat} {L : Array Bool} {a a' : Act} {w w' : World} {v : Value} {rs : List Nat}
theorem zOw {a0 a1 : Act} (h : a0 = a1) : a0 = a1 := h
theorem zG (i : Nat) (h : wpAny P md ops Q f (L.setIfInBounds i true) a' w) (hi : ops[i]? = some o := by exact rfl)
 (hb : (Region.noSelect ops && Region.free md ops L i && (Region.ready md ops L).contains i) = true := by kernel_rfl)
 (hQ : ∀ c a w, Q (.panic c) (a.put o.dst v) w → Q (.panic c) a w := by exact fun _ _ _ h => h)
 (hy : Yields P ops o v a := by exact Or.inl ⟨by rfl, fun w => by go_simp; try with_reducible rfl⟩)
 (ha : a.put o.dst v = a' := by (try change Act.mk _ _ = _); (try simp only [Act.put, sS]); (try exact rfl)) : wpAny P md ops Q (f + 1) L a w := by
 have h1 := Bool.and_eq_true_iff.1 hb;have h2 := Bool.and_eq_true_iff.1 h1.1;exact wpAny_take hi h2.1 h2.2 h1.2 hQ hy (ha ▸ h)
theorem zJ (i : Nat) (h : wpAnyH P md ops Q S f (L.setIfInBounds i true) a' w) (hi : ops[i]? = some o := by exact rfl)
 (hb : (Region.noSelect ops && Region.free md ops L i && (Region.ready md ops L).contains i) = true := by kernel_rfl)
 (hQ : ∀ c a w, Q (.panic c) (a.put o.dst v) w → Q (.panic c) a w := by exact fun _ _ _ h => h)
 (hy : YieldsIf P ops S o v a := by exact Or.inl ⟨by rfl, fun w hSw => by clear hSw; go_simp; try with_reducible rfl⟩)
 (hS : S w := by exact hHeld)
 (ha : a.put o.dst v = a' := by (try change Act.mk _ _ = _); (try simp only [Act.put, sS]); (try exact rfl)) : wpAnyH P md ops Q S (f + 1) L a w := by
 have h1 := Bool.and_eq_true_iff.1 hb;have h2 := Bool.and_eq_true_iff.1 h1.1;exact wpAnyH_take hi h2.1 h2.2 h1.2 hQ hy hS (ha ▸ h)
theorem zOv {last : Nat} (i : Nat) (hS : S w) (h : zz P md ops Q S last f (L.setIfInBounds i true) a' w) (hi : ops[i]? = some o := by exact rfl)
 (hb : (zGX md ops last i && (Region.noSelect ops && Region.free md ops L i && (Region.ready md ops L).contains i)) = true := by kernel_rfl)
 (hQ : ∀ c a w, Q (.panic c) (a.put o.dst v) w → Q (.panic c) a w := by exact fun _ _ _ h => h)
 (hy : YieldsIf P ops S o v a := by exact Or.inl ⟨by rfl, fun w hSw => by clear hSw; go_simp; try with_reducible rfl⟩)
 (ha : a.put o.dst v = a' := by (try change Act.mk _ _ = _); (try simp only [Act.put, sS]); (try exact rfl)) : zz P md ops Q S last (f + 1) L a w := by
 have h0 := Bool.and_eq_true_iff.1 hb;have h1 := Bool.and_eq_true_iff.1 h0.2;have h2 := Bool.and_eq_true_iff.1 h1.1;exact zz.take hi h0.1 h2.1 h2.2 h1.2 hQ hy hS (ha ▸ h)
theorem zY (i : Nat) (h : wpAny P md ops Q f (L.setIfInBounds i true) a' w') (hr : Region.ready md ops L = [i] := by kernel_rfl) (ho : ops[i]? = some o := by exact rfl)
 (hs : ∀ K : Act → World → Prop, (∀ a0, a0 = a' → K a0 w') → if Region.wanted o (yielded ops a.tmps) = true then Oper.wp P o a w K Q else K (a.put o.dst undef) w := by
  intro K hK; go_simp; refine hK _ ?_; ((try change Act.mk _ _ = _); (try simp only [Act.put, sS]); (try exact rfl))) : wpAny P md ops Q (f + 1) L a w :=
 wpAny_ready hr (by simp) (AllReady.cons ho (fun K' hK => hs K' fun a0 e => hK _ _ (e ▸ h)) AllReady.nil)
theorem xn (i : Nat) (h : ∀ K' : Act → World → Prop, (∀ a w, wpAny P md ops Q f (L.setIfInBounds i true) a w → K' a w) → if Region.wanted o (yielded ops a.tmps) = true then Oper.wp P o a w K' Q else K' (a.put o.dst undef) w)
 (hr : Region.ready md ops L = [i] := by kernel_rfl) (ho : ops[i]? = some o := by exact rfl) : wpAny P md ops Q (f + 1) L a w :=
 wpAny_ready hr (by simp) (AllReady.cons ho h AllReady.nil)
theorem yg (rs : List Nat) (h : AllReady P md ops Q f L a w rs) (hr : Region.ready md ops L = rs := by kernel_rfl) (hn : rs.isEmpty = false := by rfl) : wpAny P md ops Q (f + 1) L a w :=
 wpAny_ready hr (by intro e; rw [e] at hn; cases hn) h
theorem xj {i : Nat} (h : wpAny P md ops Q f (L.setIfInBounds i true) a' w') (hR : AllReady P md ops Q f L a w rs) (ho : ops[i]? = some o := by exact rfl)
 (hs : ∀ K : Act → World → Prop, (∀ a0, a0 = a' → K a0 w') → if Region.wanted o (yielded ops a.tmps) = true then Oper.wp P o a w K Q else K (a.put o.dst undef) w := by
  intro K hK; go_simp; refine hK _ ?_; ((try change Act.mk _ _ = _); (try simp only [Act.put, sS]); (try exact rfl))) : AllReady P md ops Q f L a w (i :: rs) :=
 AllReady.cons ho (fun K' hK => hs K' fun a0 e => hK _ _ (e ▸ h)) hR
theorem vI {i : Nat} (h : wpAny P md ops Q f (L.setIfInBounds i true) a' w') (ho : ops[i]? = some o := by exact rfl)
 (hs : ∀ K : Act → World → Prop, (∀ a0, a0 = a' → K a0 w') → if Region.wanted o (yielded ops a.tmps) = true then Oper.wp P o a w K Q else K (a.put o.dst undef) w := by
  intro K hK; go_simp; refine hK _ ?_; ((try change Act.mk _ _ = _); (try simp only [Act.put, sS]); (try exact rfl))) : AllReady P md ops Q f L a w [i] :=
 AllReady.cons ho (fun K' hK => hs K' fun a0 e => hK _ _ (e ▸ h)) AllReady.nil
theorem zBn {i : Nat} (h : ∀ K' : Act → World → Prop, (∀ a w, wpAny P md ops Q f (L.setIfInBounds i true) a w → K' a w) → if Region.wanted o (yielded ops a.tmps) = true then Oper.wp P o a w K' Q else K' (a.put o.dst undef) w)
 (hR : AllReady P md ops Q f L a w rs) (ho : ops[i]? = some o := by exact rfl) : AllReady P md ops Q f L a w (i :: rs) := AllReady.cons ho h hR
theorem zAv {i : Nat} (h : ∀ K' : Act → World → Prop, (∀ a w, wpAny P md ops Q f (L.setIfInBounds i true) a w → K' a w) → if Region.wanted o (yielded ops a.tmps) = true then Oper.wp P o a w K' Q else K' (a.put o.dst undef) w)
 (ho : ops[i]? = some o := by exact rfl) : AllReady P md ops Q f L a w [i] := AllReady.cons ho h AllReady.nil
theorem yi {K : Act → World → Prop} (hK : ∀ a w, wpAny P md ops Q f L a w → K a w) (h : wpAny P md ops Q f L a' w) (ha : a = a' := by (try change Act.mk _ _ = _); (try simp only [Act.put, sS]); (try exact rfl)) : K a w := hK _ _ (ha ▸ h)
theorem kW (h : Q .normal a w) (hr : Region.ready md ops L = [] := by kernel_rfl) : wpAny P md ops Q f L a w := wpAny_done hr h _
theorem kQ {id : Nat} (h : wpAny P .any ops Q ops.size (Array.replicate ops.size false) a w.drew) (hm : P.follows .mixedOrders = true := by kernel_rfl) : (Code.region id ops true).wp P Q a w := wp_region_any hm h
theorem yL (i : Nat) (h : ∀ K' : Act → World → Prop, Shut (∀ a w, S w → (S w → wpAnyH P md ops Q S f (L.setIfInBounds i true) a w) → K' a w) → if Region.wanted o (yielded ops a.tmps) = true then Oper.wp P o a w K' Q else K' (a.put o.dst undef) w)
 (hr : Region.ready md ops L = [i] := by kernel_rfl) (ho : ops[i]? = some o := by exact rfl) : wpAnyH P md ops Q S (f + 1) L a w :=
 wpAnyH_ready hr (by simp) (AllReadyH.cons ho h AllReadyH.nil)
theorem zDq (rs : List Nat) (h : AllReadyH P md ops Q S f L a w rs) (hr : Region.ready md ops L = rs := by kernel_rfl) (hn : rs.isEmpty = false := by rfl) : wpAnyH P md ops Q S (f + 1) L a w :=
 wpAnyH_ready hr (by intro e; rw [e] at hn; cases hn) h
theorem zDW {i : Nat} (h : ∀ K' : Act → World → Prop, Shut (∀ a w, S w → (S w → wpAnyH P md ops Q S f (L.setIfInBounds i true) a w) → K' a w) → if Region.wanted o (yielded ops a.tmps) = true then Oper.wp P o a w K' Q else K' (a.put o.dst undef) w)
 (hR : AllReadyH P md ops Q S f L a w rs) (ho : ops[i]? = some o := by exact rfl) : AllReadyH P md ops Q S f L a w (i :: rs) := AllReadyH.cons ho h hR
theorem zDu {i : Nat} (h : ∀ K' : Act → World → Prop, Shut (∀ a w, S w → (S w → wpAnyH P md ops Q S f (L.setIfInBounds i true) a w) → K' a w) → if Region.wanted o (yielded ops a.tmps) = true then Oper.wp P o a w K' Q else K' (a.put o.dst undef) w)
 (ho : ops[i]? = some o := by exact rfl) : AllReadyH P md ops Q S f L a w [i] := AllReadyH.cons ho h AllReadyH.nil
theorem zq {K : Act → World → Prop} (hK : Shut (∀ a w, S w → (S w → wpAnyH P md ops Q S f L a w) → K a w)) (hS : S w) (h : S w → wpAnyH P md ops Q S f L a' w) (ha : a = a' := by (try change Act.mk _ _ = _); (try simp only [Act.put, sS]); (try exact rfl)) : K a w := hK.out _ _ hS (ha ▸ h)
theorem jc (h : Q .normal a w) (hr : Region.ready md ops L = [] := by kernel_rfl) : wpAnyH P md ops Q S f L a w := wpAnyH_done hr h _
theorem jF {id : Nat} (S : World → Prop) (hS : S w.drew) (h : S w.drew → wpAnyH P .any ops Q S ops.size (Array.replicate ops.size false) a w.drew) (hm : P.follows .mixedOrders = true := by kernel_rfl) : (Code.region id ops true).wp P Q a w := wp_region_held_drew hm hS h
theorem zNG {last i : Nat} {K : Act → World → Prop} (hK : ∀ a w, (i = last ∨ S w) → zz P md ops Q S last f L a w → K a w) (hS : i = last ∨ S w) (h : zz P md ops Q S last f L a' w) (ha : a = a' := by (try change Act.mk _ _ = _); (try simp only [Act.put, sS]); (try exact rfl)) : K a w := hK _ _ hS (ha ▸ h)
theorem zMT {last : Nat} (i : Nat) (h : ∀ K : Act → World → Prop, (∀ a w, (i = last ∨ S w) → zz P md ops Q S last f (L.setIfInBounds i true) a w → K a w) → if Region.wanted o (yielded ops a.tmps) = true then Oper.wp P o a w K Q else K (a.put o.dst undef) w)
 (hr : Region.ready md ops L = [i] := by kernel_rfl) (ho : ops[i]? = some o := by exact rfl) : zz P md ops Q S last (f + 1) L a w := zz.one hr ho h
theorem zOq {last : Nat} (h : Q .normal a w) (hr : Region.ready md ops L = [] := by kernel_rfl) : zz P md ops Q S last f L a w := zz.done hr h _
theorem zOu {id : Nat} (last : Nat) (S : World → Prop) (h : zz P .any ops Q S last ops.size (Array.replicate ops.size false) a w.drew) (hm : P.follows .mixedOrders = true := by kernel_rfl) : (Code.region id ops true).wp P Q a w := zFo last S hm h
end
section
variable {P : Program} {ops : Array Oper} {C : World → Prop} {Q : Act → Prop} {a a' : Act} {o : Oper} {rest : List Oper}
theorem zAF (h : wpQuiet P ops C Q rest a') (hw : Region.wanted o (yielded ops a.tmps) = false := by kernel_rfl) (ha : a.put o.dst undef = a' := by (try simp only [Act.put, sS]); (try exact rfl)) : wpQuiet P ops C Q (o :: rest) a := zGT hw (ha ▸ h)
theorem zA (v : Value) (h : wpQuiet P ops C Q rest a') (hw : Region.wanted o (yielded ops a.tmps) = true := by kernel_rfl) (hC : ∀ w, C w → (execOp a.eval o).run P w = .ok (.value v) w := by intro _ _; first | rfl | (simp [go_sem]; done))
 (ha : a.put o.dst v = a' := by (try simp only [Act.put, sS]); (try exact rfl)) : wpQuiet P ops C Q (o :: rest) a := zEE hw v hC (ha ▸ h)
theorem zL {x : Operand} (ty : TypeId) (ad : Addr) (v : Value) (hC : ∀ w, C w → (Instr.loadAt ty (.pointer (some ad))).run P w = .ok v w) (h : wpQuiet P ops C Q rest a') (hw : Region.wanted o (yielded ops a.tmps) = true := by kernel_rfl) (ho : o.op = .load ty x := by exact rfl)
 (hx : a.eval x = .pointer (some ad) := by exact rfl) (ha : a.put o.dst v = a' := by (try simp only [Act.put, sS]); (try exact rfl)) : wpQuiet P ops C Q (o :: rest) a := zKu hw ty x ho ad v hx hC (ha ▸ h)
theorem yo {id : Nat} {Q : Exit → Act → World → Prop} {w : World} (h : wpQuiet P ops (fun w' => Below w.heap.size w w') (fun a' => ∀ w', Below w.heap.size w w' → Q .normal a' w') ops.toList a) (hm : P.follows .mixedOrders = true := by kernel_rfl)
 (hB : Region.lexB .any ops = true := by kernel_rfl) : (Code.region id ops true).wp P Q a w := wp_region_quiet (C := fun w' => Below w.heap.size w w') hm hB (Below.refl _ w).drew h
end
section
variable {P : Program} {ops : Array Oper} {rest : List Oper} {o : Oper} {a a' : Act} {w : World} {Q : Exit → Act → World → Prop} {g : Nat} {cs : Array Value} {d : TypeDesc} {x y : Operand}
theorem zp (ty : TypeId) (hg : Blk w g ty cs) (hu : P.underlying ty = some d) (hi : (P.info? ty).map (·.size) = some cs.size) (h : wpList P ops Q rest a' w) (hgd : o.guard = none := by exact rfl) (ho : o.op = .load ty x := by exact rfl)
 (hx : a.eval x = .pointer (some ⟨g, 0, none⟩) := by exact rfl) (hd : (match d with | .struct _ | .array _ _ => true | _ => false) = true := by exact rfl) (ha : a.put o.dst (.agg cs) = a' := by (try simp only [Act.put, sS]); (try exact rfl)) : wpList P ops Q (o :: rest) a w :=
 ju hgd ty x ho g hx ty cs d hg hu hd hi (ha ▸ h)
theorem xJ {old : Array Value} (ty : TypeId) (cells : Array Value) (hg : Blk w g ty old) (hi : (P.info? ty).map (·.size) = some cells.size) (h1 : cells.all (·.oneCell') = true)
 (h : ∀ w', Blk w' g ty cells → w.grownBy w' (some g) → w'.heap.size = w.heap.size → wpList P ops Q rest (a.put o.dst undef) w') (hgd : o.guard = none := by exact rfl) (ho : o.op = .store ty x y := by exact rfl)
 (hx : a.eval x = .pointer (some ⟨g, 0, none⟩) := by exact rfl) (hy : a.eval y = .agg cells := by exact rfl) (hold : old.size = cells.size := by exact rfl) : wpList P ops Q (o :: rest) a w :=
 zI hgd ty x y ho g cells hx hy ty old hg hi hold h1 h
theorem jV {old : Array Value} {K : Act → World → Prop} {E : Prop} (ty : TypeId) (cells : Array Value) (hg : Blk w g ty old) (hi : (P.info? ty).map (·.size) = some cells.size) (h1 : cells.all (·.oneCell') = true)
 (h : ∀ w', Blk w' g ty cells → w.grownBy w' (some g) → w'.heap.size = w.heap.size → K (a.put o.dst undef) w') (hgd : o.guard = none := by exact rfl) (ho : o.op = .store ty x y := by exact rfl)
 (hx : a.eval x = .pointer (some ⟨g, 0, none⟩) := by exact rfl) (hy : a.eval y = .agg cells := by exact rfl) (hold : old.size = cells.size := by exact rfl) : if Region.wanted o (yielded ops a.tmps) = true then Oper.wp P o a w K Q else E :=
 kD hgd ty x y ho g cells hx hy ty old hg hi hold h1 h
end
open Go.Lib
theorem xu {u : Nat} (h : u < 10) : decDigits u = [UInt8.ofNat (48 + u)] := by rw [decDigits, dif_pos h]
theorem ku {u : Nat} (h : 10 ≤ u) : decDigits u = decDigits (u / 10) ++ [UInt8.ofNat (48 + u % 10)] := by rw [decDigits, dif_neg (by omega)]
theorem zD0 (u : Nat) : 0 < (decDigits u).length := by rw [decDigits_length]; exact nDigits_pos u
def num (a : Nat) (l : List UInt8) : Nat := l.foldl (fun a x => 10 * a + (x.toNat - 48)) a
theorem zDP (a : Nat) (l m : List UInt8) : num a (l ++ m) = num (num a l) m := by simp [num, List.foldl_append]
theorem zAK {d : Nat} (h : d < 10) : (UInt8.ofNat (48 + d)).toNat - 48 = d := by simp [UInt8.toNat_ofNat']; omega
theorem zKW (u : Nat) : num 0 (decDigits u) = u := by
 induction u using Nat.strongRecOn with
 | _ u ih =>
  by_cases h : u < 10
  · rw [xu h]; simp only [num, List.foldl_cons, List.foldl_nil, zAK h]; omega
  rw [ku (by omega), zDP, ih _ (by omega)];simp only [num, List.foldl_cons, List.foldl_nil, zAK (Nat.mod_lt u (by omega))]; omega
def zNf (l : List UInt8) : Prop := l ≠ [] ∧ (∀ x ∈ l, 48 ≤ x.toNat ∧ x.toNat ≤ 57) ∧ (l.head? = some 48 → l.length = 1)
theorem zCv {d : Nat} (h : d < 10) : 48 ≤ (UInt8.ofNat (48 + d)).toNat ∧ (UInt8.ofNat (48 + d)).toNat ≤ 57 := by simp [UInt8.toNat_ofNat']; omega
theorem zCG (u : Nat) : ∀ x ∈ decDigits u, 48 ≤ x.toNat ∧ x.toNat ≤ 57 := by
 induction u using Nat.strongRecOn with
 | _ u ih =>
  by_cases h : u < 10
  · rw [xu h]; intro x hx; obtain rfl := List.mem_singleton.1 hx; exact zCv h
  rw [ku (by omega)];intro x hx;rcases List.mem_append.1 hx with hx | hx
  · exact ih _ (by omega) x hx
  obtain rfl := List.mem_singleton.1 hx; exact zCv (Nat.mod_lt u (by omega))
theorem zC3 (u : Nat) (h : 0 < u) : ∃ d r, 0 < d ∧ d < 10 ∧ decDigits u = UInt8.ofNat (48 + d) :: r := by
 induction u using Nat.strongRecOn with
 | _ u ih =>
  by_cases h10 : u < 10
  · exact ⟨u, [], h, h10, xu h10⟩
  obtain ⟨d, r, h1, h2, h3⟩ := ih (u / 10) (by omega) (by omega);exact ⟨d, _, h1, h2, by rw [ku (by omega), h3]; rfl⟩
theorem zCH (u : Nat) : zNf (decDigits u) := by
 refine ⟨fun e => ?_, zCG u, fun e => ?_⟩
 · have := zD0 u; rw [e] at this; simp at this
 rcases Nat.eq_zero_or_pos u with rfl | h
 · rw [xu (by omega)]; rfl
 obtain ⟨d, r, h1, h2, h3⟩ := zC3 u h;rw [h3] at e;simp only [List.head?_cons, Option.some.injEq] at e;have := congrArg UInt8.toNat e;have h4 := zAK h2;rw [this] at h4;simp at h4;omega
open Go.RowKit
def zD : Value → Int
 | .int _ x => x
 | _ => 0
structure Vc where
 a : Int
 b : Int
 c : Int
 d : Int
 e : Int
 f : Int
deriving DecidableEq
def Vc.at (v : Vc) : Nat → Int
 | 0 => v.a
 | 1 => v.b
 | 2 => v.c
 | 3 => v.d
 | 4 => v.e
 | 5 => v.f
 | _ => 0
abbrev Vc.cells (v : Vc) : Array Value := #[.int .i64 v.a, .int .i64 v.b, .int .i64 v.c, .int .i64 v.d, .int .i64 v.e, .int .i64 v.f]
theorem Vc.cell (v : Vc) (j : Nat) (hj : j < 6) : v.cells[j]? = some (.int .i64 (v.at j)) := by
 exact zMu
def Vc.ok (v : Vc) : Bool := decide (v.a.natAbs ≤ 48) && decide (v.b.natAbs ≤ 48) && decide (v.c.natAbs ≤ 48) && decide (v.d.natAbs ≤ 48) && decide (v.e.natAbs ≤ 48) && decide (v.f.natAbs ≤ 48)
theorem zEy (v : Vc) (k : Nat) (hk : k < 6) (w : World) : (Instr.index 53 (.agg #[.int .i64 v.a, .int .i64 v.b, .int .i64 v.c, .int .i64 v.d, .int .i64 v.e, .int .i64 v.f]) (.int .i64 (k : Int))).run Tryz.prog w = .ok (.int .i64 (v.at k)) w := by
 exact m65
theorem zEz (v : Vc) (k : Nat) (hk : k < 6) (w : World) : (Instr.index 52 (.agg #[.int .i64 v.a, .int .i64 v.b, .int .i64 v.c, .int .i64 v.d, .int .i64 v.e, .int .i64 v.f]) (.int .i64 (k : Int))).run Tryz.prog w = .ok (.int .i64 (v.at k)) w := by
 exact m65
theorem tR {P : Program} {ops : Array Oper} {Q : Exit → Act → World → Prop} {md : Region.Mode} {fuel : Nat} {listed : Array Bool} {a : Act} {w : World} (rs : List Nat) (hr : Region.ready md ops listed = rs) (hne : rs.isEmpty = false) (h : AllReady P md ops Q fuel listed a w rs) : wpAny P md ops Q (fuel + 1) listed a w := wpAny_ready hr (by intro e; rw [e] at hne; cases hne) h
theorem rN {P : Program} {ops : Array Oper} {Q : Exit → Act → World → Prop} {md : Region.Mode} {fuel : Nat} {listed : Array Bool} {a : Act} {w : World} : AllReady P md ops Q fuel listed a w [] := AllReady.nil
theorem rC {P : Program} {ops : Array Oper} {Q : Exit → Act → World → Prop} {md : Region.Mode} {fuel : Nat} {listed : Array Bool} {a : Act} {w : World} {i : Nat} {o : Oper} {rs : List Nat} (ho : ops[i]? = some o)
 (h : ∀ K' : Act → World → Prop, (∀ a w, wpAny P md ops Q fuel (listed.setIfInBounds i true) a w → K' a w) → if Region.wanted o (yielded ops a.tmps) = true then Oper.wp P o a w K' Q else K' (a.put o.dst undef) w)
 (hs : AllReady P md ops Q fuel listed a w rs) : AllReady P md ops Q fuel listed a w (i :: rs) := AllReady.cons ho h hs
theorem tK {P : Program} {ops : Array Oper} {Q : Exit → Act → World → Prop} {md : Region.Mode} {oi : Oper} {fuel : Nat} {listed : Array Bool} {a : Act} {w : World} (i : Nat) (v : Value) (hi : ops[i]? = some oi) (hb : (Region.noSelect ops && Region.free md ops listed i && (Region.ready md ops listed).contains i) = true) (hQ : ∀ c a w, Q (.panic c) (a.put oi.dst v) w → Q (.panic c) a w) (hy : Yields P ops oi v a) (h : wpAny P md ops Q fuel (listed.setIfInBounds i true) (a.put oi.dst v) w) : wpAny P md ops Q (fuel + 1) listed a w :=
 have h1 := Bool.and_eq_true_iff.1 hb
 have h2 := Bool.and_eq_true_iff.1 h1.1
 wpAny_take hi h2.1 h2.2 h1.2 hQ hy h
theorem tH {P : Program} {ops : Array Oper} {Q : Exit → Act → World → Prop} {md : Region.Mode} {S : World → Prop} {oi : Oper} {fuel : Nat} {listed : Array Bool} {a : Act} {w : World} (i : Nat) (v : Value) (hi : ops[i]? = some oi) (hb : (Region.noSelect ops && Region.free md ops listed i && (Region.ready md ops listed).contains i) = true) (hQ : ∀ c a w, Q (.panic c) (a.put oi.dst v) w → Q (.panic c) a w) (hy : YieldsIf P ops S oi v a) (hS : S w) (h : wpAnyH P md ops Q S fuel (listed.setIfInBounds i true) (a.put oi.dst v) w) : wpAnyH P md ops Q S (fuel + 1) listed a w :=
 have h1 := Bool.and_eq_true_iff.1 hb
 have h2 := Bool.and_eq_true_iff.1 h1.1
 wpAnyH_take hi h2.1 h2.2 h1.2 hQ hy hS h
end Go.Proofs.YtcjhihmaegagdaaGreatDoor
