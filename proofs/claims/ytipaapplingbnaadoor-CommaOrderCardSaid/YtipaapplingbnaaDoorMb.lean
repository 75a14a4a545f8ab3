/- Words for bytes: slices that read as bytes, rows of bytes of the call's own. -/
import Derived.Test.YtipaapplingbnaaDoorMa
import Derived.Laws.BytesArg
namespace Go.Proofs.YtipaapplingbnaaDoor
open Go.RowKit

/-- The slice at A reads as the bytes l, all below block B. -/
def RdB (w : World) (B : Nat) (A : Option Addr) (l : List UInt8) : Prop :=
  0 < l.length → ∃ ad, A = some ad ∧ ad.block < B ∧ ∀ j, j < l.length → w.cell? (ad.add j) = some (.int .u8 ((l.getD j 0).toNat : Int))
theorem RdB.nil (w : World) (B : Nat) (A : Option Addr) : RdB w B A [] := fun h => absurd h (by simp)
theorem RdB.below {w w' : World} {B C : Nat} {A : Option Addr} {l : List UInt8} (h : RdB w B A l) (hb : Below C w w') (hBC : B ≤ C) : RdB w' B A l := fun hl => by
  obtain ⟨ad, rfl, hlt, hc⟩ := h hl
  refine ⟨ad, rfl, hlt, fun j hj => ?_⟩
  rw [hb.cell (p := ad.add j) (by rw [add_block]; exact Nat.lt_of_lt_of_le hlt hBC)]
  exact hc j hj
theorem RdB.mono {w : World} {B C : Nat} {A : Option Addr} {l : List UInt8} (h : RdB w B A l) (hBC : B ≤ C) : RdB w C A l := fun hl => by
  obtain ⟨ad, rfl, hlt, hc⟩ := h hl
  exact ⟨ad, rfl, Nat.lt_of_lt_of_le hlt hBC, hc⟩

def bcells (l : List UInt8) : List Value := l.map fun x => Value.int .u8 (x.toNat : Int)
theorem bcells_append (l m : List UInt8) : bcells (l ++ m) = bcells l ++ bcells m := by simp [bcells]
theorem bcells_length (l : List UInt8) : (bcells l).length = l.length := by simp [bcells]
theorem bcells_one (l : List UInt8) : ∀ u ∈ bcells l, u.oneCell' = true := by
  intro u hu
  obtain ⟨x, _, rfl⟩ := List.mem_map.1 hu
  rfl
theorem bcells_at (l : List UInt8) (j : Nat) (hj : j < l.length) : (bcells l)[j]? = some (.int .u8 ((l.getD j 0).toNat : Int)) := by
  simp [bcells, List.getElem?_eq_getElem hj]
theorem bcell_ofNat (n : Nat) (h : n < 256) : Value.int .u8 (n : Int) = .int .u8 ((UInt8.ofNat n).toNat : Int) := by
  rw [show (UInt8.ofNat n).toNat = n from by simp [UInt8.toNat_ofNat']; omega]
theorem Shows.bytes {w : World} {B : Nat} {A : Option Addr} {l : List UInt8} (h : Shows w B 1 A l.length (bcells l)) : RdB w B A l := by
  intro hl
  obtain ⟨ad, e, hb, hc⟩ := h.2 hl
  exact ⟨ad, e, hb, fun j hj => by rw [hc j (by rw [bcells_length]; exact hj), bcells_at l j hj]⟩
theorem RdB.shows {w : World} {B : Nat} {A : Option Addr} {l : List UInt8} (h : RdB w B A l) : Shows w B 1 A l.length (bcells l) := by
  refine ⟨by simp [bcells], fun hl => ?_⟩
  obtain ⟨ad, e, hb, hc⟩ := h hl
  refine ⟨ad, e, hb, fun j hj => ?_⟩
  rw [bcells_length] at hj
  rw [hc j hj, bcells_at l j hj]

/-- A row of bytes of the call's own. -/
def OwnB (w : World) (base : Nat) (v : Value) (l : List UInt8) : Prop := w.ownsRow base 5 1 v l.length (bcells l)
theorem OwnB.start (w : World) (base : Nat) : OwnB w base (.slice none 0 0) [] := World.ownsRow_nil _ _ _ 1
theorem OwnB.snoc {w : World} {base : Nat} {v : Value} {l m : List UInt8} {n : Nat} {news : List Value} (h : w.ownsRow base 5 1 v (l.length + n) (bcells l ++ news)) (hm : news = bcells m) (hn : n = m.length) : OwnB w base v (l ++ m) := by
  subst hm hn
  unfold OwnB
  rw [List.length_append, bcells_append]
  exact h
theorem OwnB.form {w : World} {base : Nat} {v : Value} {l : List UInt8} (h : OwnB w base v l) : ∃ A c, v = .slice A l.length c ∧ l.length ≤ c ∧ RdB w w.heap.size A l := by
  have h' := h
  rcases h'.2 with ⟨rfl, h0⟩ | ⟨g, cap, cur, rfl, -, -, hc, -⟩
  · exact ⟨none, 0, by rw [h0], by omega, fun hl => by omega⟩
  · exact ⟨_, cap, rfl, hc, (Shows.of_own h).bytes⟩
theorem OwnB.form' {w : World} {base : Nat} {v : Value} {l : List UInt8} (h : OwnB w base v l) (hp : 0 < l.length) : ∃ g cap, v = .slice (some ⟨g, 0, none⟩) l.length cap ∧ base ≤ g ∧ g < w.heap.size ∧ RdB w w.heap.size (some ⟨g, 0, none⟩) l := by
  have h' := h
  rcases h'.2 with ⟨rfl, h0⟩ | ⟨g, cap, cur, rfl, hb, hg, hc, -⟩
  · omega
  · exact ⟨g, cap, rfl, hb, (Array.getElem?_eq_some_iff.1 hg).1, (Shows.of_own h).bytes⟩
theorem OwnB.block {w : World} {base : Nat} {v : Value} {l : List UInt8} (h : OwnB w base v l) : ∀ g, v.ownBlock = some g → base ≤ g := fun g hg => (World.ownsRow.lt h g hg).1
theorem OwnB.lt {w : World} {base : Nat} {v : Value} {l : List UInt8} (h : OwnB w base v l) : ∀ g, v.ownBlock = some g → g < w.heap.size := fun g hg => (World.ownsRow.lt h g hg).2
theorem OwnB.alloc {w : World} {base : Nat} {v : Value} {l : List UInt8} (h : OwnB w base v l) (o : Obj) : OwnB (w.alloc o) base v l := World.ownsRow.alloc h o
theorem OwnB.drewN {w : World} {base : Nat} {v : Value} {l : List UInt8} (h : OwnB w base v l) (n : Nat) : OwnB (w.drewN n) base v l := h
theorem OwnB.kept {w w' : World} {base : Nat} {v : Value} {l : List UInt8} {r : Option Nat} (h : OwnB w base v l) (hg : w.grownBy w' r) (hne : v.ownBlock = none ∨ v.ownBlock ≠ r) : OwnB w' base v l := World.ownsRow.kept h hg hne
theorem grown_below {a b : World} (h : Below a.heap.size a b) (r : Option Nat) : a.grownBy b r := ⟨h.os, h.tape, h.output, h.size, fun i hi _ => h.block i hi⟩

theorem u8_info : (Tryd.prog.info? 5).map (fun i => (i.zero, i.size, i.bytes)) = some (some (.int .u8 0), 1, 1) := by kernel_rfl
/-- Append onto a row of bytes of the call's own. -/
theorem wpList_appb (w : World) {ops : Array Oper} {rest : List Oper} {o : Oper} {a : Act} {Q : Exit → Act → World → Prop} (hgd : o.guard = none) (s x : Operand)
    (ho : o.op = .call { callee := .builtin .append, args := #[s, x], argTypes := #[87, 87] })
    (base : Nat) (v : Value) (n : Nat) (xs : List Value) (hs : a.eval s = v) (hown : w.ownsRow base 5 1 v n xs)
    (B : Nat) (A : Option Addr) (m c : Nat) (news : List Value) (hx : a.eval x = .slice A m c) (hr : Shows w B 1 A m news) (h1 : ∀ u ∈ news, u.oneCell' = true)
    (hbytes : n + m ≤ 140737488355328) (hbase : base ≤ w.heap.size)
    (h : ∀ v' w', w'.ownsRow base 5 1 v' (n + m) (xs ++ news) → w.grownBy w' v.ownBlock → (v'.ownBlock = v.ownBlock ∨ v'.ownBlock = some w.heap.size) → wpList Tryd.prog ops Q rest (a.put o.dst v') w') :
    wpList Tryd.prog ops Q (o :: rest) a w := by
  obtain ⟨i0, hi, hz0, hz1, hz2⟩ := info_parts u8_info
  exact wpList_plain hgd fun _ hK => wp_app w s x _ ho base _ i0 _ 1 1 Tryd.underlying87 hi hz0 hz1 hz2 rfl (by omega) v n xs hs hown B A m c news hx hr h1 (by simp only [maxLen]; omega) (by omega) hbase fun v' w' h2 h3 h4 => hK _ _ (h v' w' h2 h3 h4)

/-- A row of bytes as a string. -/
theorem conv_own (w : World) (g n c : Nat) (l : List UInt8) (hn : n = l.length) (h : RdB w w.heap.size (some ⟨g, 0, none⟩) l) : (convert 87 9 (.slice (some ⟨g, 0, none⟩) n c)).run Tryd.prog w = .ok (.string ⟨l.toArray⟩) w := by
  have := run_convert_bytes_arg (P := Tryd.prog) w 87 5 Tryd.underlying87 Tryd.underlying5 g 0 n c (l.map fun x => (x.toNat : Int)) (by rw [List.length_map, hn]) (fun i hi => by
    obtain ⟨ad, e, _, hc⟩ := h (by omega)
    obtain rfl := Option.some.inj e
    have := hc i (by omega)
    rw [Nat.zero_add]
    rw [show (⟨g, 0, none⟩ : Addr).add i = ⟨g, i, none⟩ from by unfold Addr.add; split <;> simp_all] at this
    rw [this]
    simp [List.getD_eq_getElem?_getD, List.getElem?_eq_getElem (show i < l.length by omega)]) 9 Tryd.underlying9
  rw [this]
  have e : strOfNums (l.map fun x => (x.toNat : Int)) = ⟨l.toArray⟩ := by
    unfold strOfNums
    rw [List.map_map, show ((fun n : Int => UInt8.ofNat n.toNat) ∘ fun x : UInt8 => (x.toNat : Int)) = id from funext fun x => by simp, List.map_id]
  rw [e]

end Go.Proofs.YtipaapplingbnaaDoor
