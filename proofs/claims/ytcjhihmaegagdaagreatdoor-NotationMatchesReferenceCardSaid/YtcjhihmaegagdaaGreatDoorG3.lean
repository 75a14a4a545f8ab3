/- Texts of the Notation chapter, together: La, Lb, Ra, Rb, Rc, Rd, Re, Rf, Rg. -/
import Derived.Test.YtcjhihmaegagdaaGreatDoorG2
import Derived.Test.YtcjhihmaegagdaaGreatDoorG1
import Derived.Test.YtcjhihmaegagdaaGreatDoorSh
import Derived.Shelf.Strings.SlTrimAscii
import Derived.Deep.RegionHeld3
import Derived.Deep.DeepCutAuto
import Derived.Maps.OwnSet
import Derived.Maps.OwnOps
import Derived.Maps.Views
import Derived.Deep.Quiet
import Derived.Deep.QuietTactic
set_option maxRecDepth 100000
set_option maxHeartbeats 8000000
set_option linter.unusedSimpArgs false
set_option linter.unusedVariables false
set_option linter.unusedSectionVars false
set_option linter.unnecessarySimpa false
namespace Go.Proofs.YtcjhihmaegagdaaGreatDoor
open Go.RowKit Go.Deep
abbrev str (l : List UInt8) : Value := .string ⟨l.toArray⟩
abbrev Tok.cells (t : Tok) : Array Value := #[.int .i64 (t.kind : Int), .int .i64 (t.pos : Int), .int .i64 (t.n : Int), str t.text]
def Tok.cs (t : Tok) : List Value := t.cells.toList
theorem Tok.cs_len (t : Tok) : t.cs.length = 4 := rfl
theorem Tok.cs_one (t : Tok) : ∀ u ∈ t.cs, u.oneCell' = true := by
 intro u hu;simp [Tok.cs] at hu;rcases hu with rfl | rfl | rfl | rfl <;> rfl
theorem zEU (p : Addr) (j : Nat) : p.add (j + 1) = ⟨p.block, p.off + (j + 1), none⟩ := by simp [Addr.add]
def RdT (w : World) (B : Nat) (A : Option Addr) (l : List Tok) : Prop := zQ w B 4 A l.length (zW Tok.cs l)
theorem RdT.nil (w : World) (B : Nat) (A : Option Addr) : RdT w B A [] := zQ.nil_
theorem RdT.up {w w' : World} {A : Option Addr} {l : List Tok} (h : RdT w w.heap.size A l) (hb : Below w.heap.size w w') : RdT w' w'.heap.size A l := (h.below hb).wider hb.size
structure zLN (w : World) (p : Addr) (x : Tok) : Prop where
 a : w.cell? p = some (.int .i64 x.kind)
 b : w.cell? ⟨p.block, p.off + 1, none⟩ = some (.int .i64 x.pos)
 c : w.cell? ⟨p.block, p.off + 2, none⟩ = some (.int .i64 x.n)
 d : w.cell? ⟨p.block, p.off + 3, none⟩ = some (str x.text)
theorem RdT.at {w : World} {B : Nat} {A : Option Addr} {l : List Tok} (h : RdT w B A l) {i : Nat} (hi : i < l.length) : ∃ ad, A = some ad ∧ ad.block < B ∧ zLN w (ad.add (i * 4)) l[i] := by
 obtain ⟨ad, rfl, hb, hc⟩ := zQ.rec Tok.cs 4 Tok.cs_len h rfl hi;have h0 := hc 0 (by omega);rw [show (ad.add (i * 4)).add 0 = ad.add (i * 4) from by simp [Addr.add]] at h0;have hj : ∀ j, j < 3 → w.cell? ⟨(ad.add (i * 4)).block, (ad.add (i * 4)).off + (j + 1), none⟩ = l[i].cs[j + 1]? := fun j hj => by rw [← zEU]; exact hc (j + 1) (by omega)
 exact ⟨ad, rfl, hb, h0, hj 0 (by omega), hj 1 (by omega), hj 2 (by omega)⟩
theorem RdT.tail {w : World} {B : Nat} {A : Option Addr} {t : Tok} {l : List Tok} {c : Nat} (h : RdT w B A (t :: l)) (hc : l.length + 1 ≤ c) : RdT w B (if c = 1 then A else A.map (·.add 4)) l := by
 have := zQ.cut (k := 1) (cap := c) h (by simp) (by simpa using hc);simp only [Nat.one_mul] at this;unfold RdT;rw [show (t :: l).length - 1 = l.length by simp] at this;have e : (zW Tok.cs (t :: l)).drop 4 = zW Tok.cs l := rfl
 rwa [e] at this
def qP (w : World) (base : Nat) (v : Value) (l : List Tok) : Prop := w.ownsRow base 40 4 v l.length (zW Tok.cs l)
theorem qP.start (w : World) (base : Nat) : qP w base (.slice none 0 0) [] := ⟨rfl, Or.inl ⟨rfl, rfl⟩⟩
theorem qP.form {w : World} {base : Nat} {v : Value} {l : List Tok} (h : qP w base v l) : ∃ A c, v = .slice A l.length c ∧ l.length ≤ c ∧ RdT w w.heap.size A l := by
 exact m53
theorem qP.block {w : World} {base : Nat} {v : Value} {l : List Tok} (h : qP w base v l) : ∀ g, v.ownBlock = some g → base ≤ g := fun g hg => (World.ownsRow.lt h g hg).1
theorem qP.kept {w w' : World} {base : Nat} {v : Value} {l : List Tok} {r : Option Nat} (h : qP w base v l) (hg : w.grownBy w' r) (hne : v.ownBlock = none ∨ v.ownBlock ≠ r) : qP w' base v l := World.ownsRow.kept h hg hne
theorem qP.on {w w' : World} {base : Nat} {v : Value} {l : List Tok} (h : qP w base v l) (hb : Below w.heap.size w w') : qP w' base v l :=
 qP.kept (r := some w.heap.size) h (xm hb _) (by
  rcases hv : v.ownBlock with _ | g
  · exact Or.inl rfl
  right; intro e; injection e with e; have := (World.ownsRow.lt h g hv).2; omega)
theorem zJL : (Tryz.prog.info? 40).map (fun i => (i.zero, i.size, i.bytes)) = some (some (.agg #[.int .i64 0, .int .i64 0, .int .i64 0, .string ⟨#[]⟩]), 4, 40) := by kernel_rfl
theorem zIU (w : World) (x : Tok) : zQ (w.alloc (.cells x.cells 40)) (w.heap.size + 1) 4 (some ⟨w.heap.size, 0, none⟩) 1 x.cs := xX w x.cells 40 1 4 rfl
theorem vl (w : World) (x : Tok) (g : Nat) (hg : g = w.heap.size) : zQ (w.alloc (.cells x.cells 40)) (g + 1) 4 (some ⟨g, 0, none⟩) 1 x.cs := hg ▸ zIU w x
theorem vF (w : World) {ops : Array Oper} {rest : List Oper} {o : Oper} {a : Act} {Q : Exit → Act → World → Prop} (hgd : o.guard = none) (s x : Operand)
 (ho : o.op = .call { callee := .builtin .append, args := #[s, x], argTypes := #[28, 28] })
 (base : Nat) (v : Value) (l : List Tok) (hs : a.eval s = v) (hown : qP w base v l)
 (B : Nat) (A : Option Addr) (c : Nat) (u : Tok) (hx : a.eval x = .slice A 1 c) (hr : zQ w B 4 A 1 u.cs)
 (hbytes : (l.length + 1) * 40 ≤ 140737488355328) (hbase : base ≤ w.heap.size)
 (h : ∀ v' w', qP w' base v' (l ++ [u]) → w.grownBy w' v.ownBlock → (v'.ownBlock = v.ownBlock ∨ v'.ownBlock = some w.heap.size) → wpList Tryz.prog ops Q rest (a.put o.dst v') w') :
 wpList Tryz.prog ops Q (o :: rest) a w := by
 obtain ⟨i0, hi, hz0, hz1, hz2⟩ := info_parts zJL;refine wpList_plain hgd fun _ hK => zHK w s x _ ho base _ i0 _ 4 40 Tryz.underlying28 hi hz0 hz1 hz2 rfl (by omega) v l.length (zW Tok.cs l) hs hown B A 1 c u.cs hx hr u.cs_one (by simp only [maxLen]; omega) hbytes hbase fun v' w' h2 h3 h4 => hK _ _ (h v' w' ?_ h3 h4)
 unfold qP;rw [List.length_append, y9, xw];exact h2
theorem zBz (l : List UInt8) (x : UInt8) : Lib.indexByte l x = if l.contains x then ((l.takeWhile (· != x)).length : Int) else -1 := by
 induction l with
 | nil => simp [Lib.indexByte]
 | cons b l ih =>
  simp only [Lib.indexByte];rw [List.contains_cons, List.takeWhile_cons];by_cases hb : b = x
  · subst hb;simp
  rw [if_neg (by simpa using hb), show (x == b) = false by rw [beq_eq_false_iff_ne]; exact fun h => hb h.symm, Bool.false_or, show (b != x) = true by simpa using hb];rw [ih];rcases hc : l.contains x with _ | _
  · simp
  simp only [if_true, List.length_cons];rw [if_neg (by simp)];omega
theorem zD6 (l : List UInt8) (x : UInt8) : decide (0 ≤ Lib.indexByte l x) = l.contains x := by
 have h := zBz l x;rcases hc : l.contains x with _ | _
 · rw [hc] at h;rw [if_neg (by decide)] at h;exact decide_eq_false (by omega)
 rw [hc, if_pos rfl] at h;exact decide_eq_true (by omega)
theorem zCN (w : World) (l : List UInt8) (x : UInt8) :
 Calls Tryz.prog 24 #[str l, str [x]] w fun e w' => e = .returned (.bool (l.contains x)) ∧ w' = w := by
 have := Tryz.strings_Contains_one ⟨l.toArray⟩ x w;rw [zD6] at this;exact this
theorem zFk (w : World) (l c : List UInt8) (hc : c.length < 4294967281) (ha : ∀ x ∈ c, x.toNat < 128) :
 Calls Tryz.prog 50 #[str l, str c] w fun e w' => e = .returned (str (l.dropWhile fun x => c.contains x)) ∧ Below w.heap.size w w' :=
 Any.strings_TrimLeft_laid Tryz.lays161 (by kernel_rfl) ⟨l.toArray⟩ ⟨c.toArray⟩ w (by simpa [ByteArray.size] using hc) (fun j b hb => ha b (List.mem_of_getElem? hb))
theorem zKx {α : Type} (p : α → Bool) (l : List α) : (l.dropWhile p).length = l.length - (l.takeWhile p).length := by
 conv => rhs; rw [← List.takeWhile_append_dropWhile (p := p) (l := l)]
 rw [List.length_append];have : (((l.takeWhile p) ++ (l.dropWhile p)).takeWhile p) = l.takeWhile p := by rw [List.takeWhile_append_dropWhile]
 rw [this];omega
theorem zFx (w : World) (l c : List UInt8) (hl : l.length ≤ 9223372036854775807) (hc : c.length < 4294967281) (ha : ∀ x ∈ c, x.toNat < 128) :
 Calls Tryz.prog 25 #[str l, str c] w fun e w' => e = .returned (.int .i64 (l.takeWhile fun x => c.contains x).length) ∧ Below w.heap.size w w' := by
 have HT := hid (zFk w l c hc ha);have h1 := zKx (fun x => c.contains x) l;have h2 := yP (fun x => c.contains x) l;generalize l.dropWhile (fun x => c.contains x) = d at *;generalize (l.takeWhile fun x => c.contains x).length = n at *;have h3 : (l.length : Int) - (d.length : Int) = n := by omega
 have HQ : Hid ((d.length : Int) = l.length - n) := by show _ = _; omega
 clear h1;go_enter Tryz.func25, Tryz.ntmps25
 go_wp2_with (go_at_call 50; refine HT.out.mono ?_; rintro e w' ⟨rfl, hb⟩; replace hb := hid hb)
 go_ret;exact ⟨rfl, hb.out⟩
open Go.RowKit Go.Deep
def zJV : List UInt8 := [32, 9, 10]
def zMw : List UInt8 := [97, 98, 99, 100, 101, 102, 103, 104, 105, 106, 107, 108, 109, 110, 111, 112, 113, 114, 115, 116, 117, 118, 119, 120, 121, 122]
def zLB : List UInt8 := [97, 98, 99, 100, 101, 102, 103, 104, 105, 106, 107, 108, 109, 110, 111, 112, 113, 114, 115, 116, 117, 118, 119, 120, 121, 122, 48, 49, 50, 51, 52, 53, 54, 55, 56, 57]
def zJO : List UInt8 := [48, 49, 50, 51, 52, 53, 54, 55, 56, 57]
def zL3 : List UInt8 := [59, 58, 47, 45, 91, 93]
theorem zLi : ∀ n : Fin 256, zJV.contains (UInt8.ofNat n.val) = yw (UInt8.ofNat n.val) ∧ zMw.contains (UInt8.ofNat n.val) = k9 (UInt8.ofNat n.val) ∧ zLB.contains (UInt8.ofNat n.val) = yD (UInt8.ofNat n.val) ∧ zJO.contains (UInt8.ofNat n.val) = zd (UInt8.ofNat n.val) ∧ zL3.contains (UInt8.ofNat n.val) = jv (UInt8.ofNat n.val) := by decide +kernel
theorem qp (x : UInt8) : zJV.contains x = yw x ∧ zMw.contains x = k9 x ∧ zLB.contains x = yD x ∧ zJO.contains x = zd x ∧ zL3.contains x = jv x := by
 have := zLi ⟨x.toNat, x.toNat_lt⟩
 rwa [UInt8.ofNat_toNat] at this
theorem zLg : (fun x => zJV.contains x) = yw := funext fun x => (qp x).1
theorem zLF : (fun x => zLB.contains x) = yD := funext fun x => (qp x).2.2.1
theorem zLD : (fun x => zJO.contains x) = zd := funext fun x => (qp x).2.2.2.1
theorem zKI (s : List UInt8) (p n : Nat) (hn : n = s.length) : (⟨s.toArray⟩ : ByteArray).extract p n = ⟨(s.drop p).toArray⟩ := by
 apply ByteArray.ext;simp only [ByteArray.data_extract, List.extract_toArray, List.extract_eq_take_drop, hn];rw [List.take_of_length_le (by simp)]
theorem zHB (s : List UInt8) (k : Nat) : (⟨s.toArray⟩ : ByteArray).extract 0 k = ⟨(s.take k).toArray⟩ := by
 apply ByteArray.ext;simp [ByteArray.data_extract, List.extract_eq_take_drop]
theorem zM6 (w : World) (x : UInt8) (b : Bool) (hb : yw x = b) :
 Calls Tryz.prog 24 #[.string ⟨#[32, 9, 10]⟩, str [x]] w fun e w' => e = .returned (.bool b) ∧ w' = w := by
 have := zCN w zJV x;rw [(qp x).1, hb] at this;exact this
theorem zOa (w : World) (x : UInt8) (b : Bool) (hb : k9 x = b) :
 Calls Tryz.prog 24 #[.string ⟨#[97, 98, 99, 100, 101, 102, 103, 104, 105, 106, 107, 108, 109, 110, 111, 112, 113, 114, 115, 116, 117, 118, 119, 120, 121, 122]⟩, str [x]] w fun e w' => e = .returned (.bool b) ∧ w' = w := by
 have := zCN w zMw x;rw [(qp x).2.1, hb] at this;exact this
theorem zM4 (w : World) (x : UInt8) (b : Bool) (hb : zd x = b) :
 Calls Tryz.prog 24 #[.string ⟨#[48, 49, 50, 51, 52, 53, 54, 55, 56, 57]⟩, str [x]] w fun e w' => e = .returned (.bool b) ∧ w' = w := by
 have := zCN w zJO x;rw [(qp x).2.2.2.1, hb] at this;exact this
theorem zMW (w : World) (x : UInt8) (b : Bool) (hb : jv x = b) :
 Calls Tryz.prog 24 #[.string ⟨#[59, 58, 47, 45, 91, 93]⟩, str [x]] w fun e w' => e = .returned (.bool b) ∧ w' = w := by
 have := zCN w zL3 x;rw [(qp x).2.2.2.2, hb] at this;exact this
theorem zOp (w : World) (l : List UInt8) (hl : l.length ≤ 9223372036854775807) (n : Nat) (hn : (l.takeWhile yw).length = n) :
 Calls Tryz.prog 25 #[str l, .string ⟨#[32, 9, 10]⟩] w fun e w' => e = .returned (.int .i64 n) ∧ Below w.heap.size w w' := by
 have := zFx w l zJV hl (by decide) (by decide);rw [zLg, hn] at this;exact this
theorem zOt (w : World) (l : List UInt8) (hl : l.length ≤ 9223372036854775807) (n : Nat) (hn : (l.takeWhile yD).length = n) :
 Calls Tryz.prog 25 #[str l, .string ⟨#[97, 98, 99, 100, 101, 102, 103, 104, 105, 106, 107, 108, 109, 110, 111, 112, 113, 114, 115, 116, 117, 118, 119, 120, 121, 122, 48, 49, 50, 51, 52, 53, 54, 55, 56, 57]⟩] w fun e w' => e = .returned (.int .i64 n) ∧ Below w.heap.size w w' := by
 have := zFx w l zLB hl (by decide) (by decide);rw [zLF, hn] at this;exact this
theorem zOs (w : World) (l : List UInt8) (hl : l.length ≤ 9223372036854775807) (n : Nat) (hn : (l.takeWhile zd).length = n) :
 Calls Tryz.prog 25 #[str l, .string ⟨#[48, 49, 50, 51, 52, 53, 54, 55, 56, 57]⟩] w fun e w' => e = .returned (.int .i64 n) ∧ Below w.heap.size w w' := by
 have := zFx w l zJO hl (by decide) (by decide);rw [zLD, hn] at this;exact this
def zAl (w : World) (s : List UInt8) (p : Nat) (T : List Tok) (v : Value) (wx : World) : Prop :=
 p ≤ s.length ∧ T.length ≤ p ∧ Below w.heap.size w wx ∧ qP wx w.heap.size v T ∧ xr 0 s = (T ++ (xr p (s.drop p)).1, (xr p (s.drop p)).2)
theorem zBZ {s : List UInt8} {p : Nat} {x : UInt8} {r : List UInt8} (h : s.drop p = x :: r) : s.length = p + 1 + r.length := by
 have := congrArg List.length h;simp at this;omega
theorem zAH {w wr w1 : World} {s : List UInt8} {p k : Nat} {T : List Tok} {v : Value} {x : UInt8} {r : List UInt8} (h : zAl w s p T v wr) (hr : s.drop p = x :: r) (b : Below wr.heap.size wr w1)
 (e : xr p (x :: r) = xr (p + k) ((x :: r).drop k)) (hk : k ≤ r.length + 1) : zAl w s (p + k) T v w1 := by
 obtain ⟨h1, h2, h3, h4, h5⟩ := h;have hl := zBZ hr;rw [← hr, List.drop_drop] at e;exact ⟨by omega, by omega, zB h3 b, h4.on b, by rw [h5, e]⟩
theorem zKm {w wr w1 : World} {s : List UInt8} {p kd n k : Nat} {T : List Tok} {v v' : Value} {x : UInt8} {r : List UInt8} (h : zAl w s p T v wr) (hr : s.drop p = x :: r) (e : zP (x :: r) = .tok kd n k)
 (own : qP w1 w.heap.size v' (T ++ [⟨kd, p, n, (x :: r).take k⟩])) (b : Below w.heap.size w w1) : zAl w s (p + k) (T ++ [⟨kd, p, n, (x :: r).take k⟩]) v' w1 := by
 obtain ⟨h1, h2, h3, h4, h5⟩ := h;have hk := qF e;have hl := zBZ hr;have hx := zAM (p := p) e;rw [← hr, List.drop_drop] at hx;refine ⟨by simp at hk; omega, by simp; omega, b, own, ?_⟩;rw [h5, hx, hr];simp
theorem zK2 {w wr : World} {s : List UInt8} {p : Nat} {T : List Tok} {v : Value} {x : UInt8} {r : List UInt8} (h : zAl w s p T v wr) (hr : s.drop p = x :: r) (e : zP (x :: r) = .bad) (h8 : ¬ 8000 < s.length) :
 jG s = [] ∧ zBc s = p ∧ kP s = 10 := by
 have hb := zF8 (p := p) (x := r.length) (by simp) e;have h5 := h.2.2.2.2;rw [hr, hb] at h5;have h9 : jG s = match (xr 0 s).2 with | none => (xr 0 s).1 | some _ => [] := if_neg h8
 have h10 : zBc s = match (xr 0 s).2 with | none => 0 | some p => p := if_neg h8
 have h11 : kP s = match (xr 0 s).2 with | none => 0 | some _ => 10 := if_neg h8
 rw [h5] at h9 h10 h11;exact ⟨h9, h10, h11⟩
theorem zK6 {w wr : World} {s : List UInt8} {p : Nat} {T : List Tok} {v : Value} (h : zAl w s p T v wr) (hp : ¬ p < s.length) (h8 : ¬ 8000 < s.length) :
 jG s = T ∧ zBc s = 0 ∧ kP s = 0 := by
 have h5 := h.2.2.2.2;rw [List.drop_of_length_le (by omega), zJG, List.append_nil] at h5;have h9 : jG s = match (xr 0 s).2 with | none => (xr 0 s).1 | some _ => [] := if_neg h8
 have h10 : zBc s = match (xr 0 s).2 with | none => 0 | some p => p := if_neg h8
 have h11 : kP s = match (xr 0 s).2 with | none => 0 | some _ => 10 := if_neg h8
 rw [h5] at h9 h10 h11;exact ⟨h9, h10, h11⟩
theorem qW (n p k : Nat) (h1 : p + k ≤ n) (h2 : n ≤ 8000) (hk : 1 ≤ k) : n - (zD (.int .i64 (wrap64 ((p : Int) + (k : Int))))).toNat < n - (zD (.int .i64 (p : Int))).toNat := by
 have : wrap64 ((p : Int) + k) = ((p + k : Nat) : Int) := by unfold wrap64; omega
 rw [this];simp only [zD];omega
theorem zA0 (n p k : Nat) (h1 : p + k ≤ n) (h2 : n ≤ 8000) : Value.int .i64 (wrap64 ((p : Int) + (k : Int))) = .int .i64 ((p + k : Nat) : Int) := by
 have : wrap64 ((p : Int) + k) = ((p + k : Nat) : Int) := by unfold wrap64; omega
 rw [this]
theorem zKT {wr w1 : World} (b : Below wr.heap.size wr w1) (i1 i2 : Nat) (u1 u2 : Value) (o : Obj) : Below wr.heap.size wr (((w1.setCell ⟨wr.heap.size, i1, none⟩ u1).setCell ⟨wr.heap.size, i2, none⟩ u2).alloc o) :=
 ((b.setCell (p := ⟨wr.heap.size, i1, none⟩) (Nat.le_refl _) _).setCell (p := ⟨wr.heap.size, i2, none⟩) (Nat.le_refl _) _).alloc (by have := b.size; simp [World.setCell]; omega) _
theorem vk {w wr W w4 : World} {s : List UInt8} {p kd n k : Nat} {T : List Tok} {v v' : Value} {x : UInt8} {r : List UInt8} (h : zAl w s p T v wr) (hr : s.drop p = x :: r) (e : zP (x :: r) = .tok kd n k)
 (b : Below wr.heap.size wr W) (own : qP w4 w.heap.size v' (T ++ [⟨kd, p, n, (x :: r).take k⟩])) (g : W.grownBy w4 v.ownBlock) : zAl w s (p + k) (T ++ [⟨kd, p, n, (x :: r).take k⟩]) v' w4 :=
 zKm h hr e own (zF9 (zB h.2.2.1 b) g (zB h.2.2.1 b).size h.2.2.2.1.block)
theorem qR (p k : Nat) : Value.int .i64 ((p : Int) + (k : Int)) = .int .i64 ((p + k : Nat) : Int) := by rw [Int.natCast_add]
theorem jb (n p k : Nat) (h1 : p + k ≤ n) (hk : 1 ≤ k) : n - (zD (.int .i64 ((p : Int) + (k : Int)))).toNat < n - (zD (.int .i64 (p : Int))).toNat := by
 simp only [zD];omega
theorem zIL {l : List UInt8} (h0 : l ≠ []) (h : ∀ y ∈ l, zd y = true) : Lib.atoi l = some ((num 0 l : Nat) : Int) := by
 have hr : ∀ y ∈ l, 48 ≤ y.toNat ∧ y.toNat ≤ 57 := fun y hy => by have := h y hy; simpa [zd] using this
 have hf : ∀ (l : List UInt8) (acc : Nat), (∀ y ∈ l, 48 ≤ y.toNat ∧ y.toNat ≤ 57) → Lib.decFrom acc l = some (num acc l) := by
  intro l
  induction l with
  | nil => intro acc _; rfl
  | cons x l ih =>
   intro acc h;have hx := h x (List.mem_cons_self ..);have : Lib.digitVal x = some (x.toNat - 48) := if_pos hx;simp only [Lib.decFrom, this];rw [ih _ (fun y hy => h y (List.mem_cons_of_mem _ hy)), Nat.mul_comm];rfl
 cases l with
 | nil => exact absurd rfl h0
 | cons x r =>
  have hx := hr x (List.mem_cons_self ..);(have n1 : (x == 45) = false := by rw [beq_eq_false_iff_ne]; rintro rfl; exact absurd hx.1 (by decide));(have n2 : (x == 43) = false := by rw [beq_eq_false_iff_ne]; rintro rfl; exact absurd hx.1 (by decide));(have hd : Lib.decNat (x :: r) = some (num 0 (x :: r)) := by unfold Lib.decNat; rw [if_neg (by simp), hf _ _ hr]);simp only [Lib.atoi, n1, n2, hd, Bool.false_eq_true, if_false, Option.map_some]
theorem zMd (w : World) (l : List UInt8) : Calls Tryz.prog 26 #[str l, .int .u8 10] w fun e w' => e = .returned (.int .i64 (if l.contains 10 then ((l.takeWhile (· != 10)).length : Int) else -1)) ∧ w' = w := by
 have := Tryz.strings_IndexByte ⟨l.toArray⟩ 10 w;rw [show ((10 : Int).toNat.toUInt8) = (10 : UInt8) from rfl, zBz] at this;exact this
theorem zD8 {α : Type} (p : α → Bool) (l : List α) (h : ∀ x ∈ l, p x = true) : l.takeWhile p = l := by
 induction l with
 | nil => rfl
 | cons x l ih => rw [List.takeWhile_cons, if_pos (h x (List.mem_cons_self ..)), ih fun y hy => h y (List.mem_cons_of_mem _ hy)]
theorem zGr (w : World) (e : TypeId) (s : ByteArray) : Below w.heap.size w (Lib.bytesWorld w e s) := by
 have h1 := ((Below.refl w.heap.size w).drew.alloc (Nat.le_refl _) (.cells (Lib.bytesCells w e s) e))
 refine ⟨rfl, rfl, rfl, ?_, fun i hi => ?_⟩
 · simp [Lib.bytesWorld, World.freeze]
 have := h1.block i hi;simp only [Lib.bytesWorld, World.freeze];rw [if_neg (by decide)];simp only;rw [Array.getElem?_modify, if_neg (by show ¬ w.heap.size = i; omega)];exact this
theorem zJI {w : World} {g : Nat} {t : TypeId} {a b c d : Value} (h : Blk w g t #[a, b, c, d]) (e : Value) : Blk (w.setCell ⟨g, 0, none⟩ e) g t #[e, b, c, d] := by
 have := h.set_ 0 e;simpa using this
def j5 (w : World) (s : List UInt8) (e : Ending) (w' : World) : Prop := Below w.heap.size w w' ∧ ∃ A c, e = .returned (.tuple #[.slice A (jG s).length c, .int .i64 (zBc s : Nat), .int .i64 (kP s : Nat)]) ∧ RdT w' w'.heap.size A (jG s) ∧ (jG s).length ≤ c
theorem jU {w wr w1 : World} {s : List UInt8} {p : Nat} {T : List Tok} {v : Value} {x : UInt8} {r : List UInt8} (h : zAl w s p T v wr) (hr : s.drop p = x :: r) (e : zP (x :: r) = .bad) (h8 : ¬ 8000 < s.length) (b : Below wr.heap.size wr w1) :
 j5 w s (.returned (.tuple #[.slice none 0 0, .int .i64 p, .int .i64 10])) w1 := by
 obtain ⟨e1, e2, e3⟩ := zK2 h hr e h8;refine ⟨zB h.2.2.1 b, none, 0, by rw [e1, e2, e3]; rfl, by rw [e1]; exact RdT.nil _ _ _, by rw [e1]; exact Nat.le_refl _⟩
theorem zBO {w wr : World} {s : List UInt8} {p : Nat} {T : List Tok} {v : Value} (h : zAl w s p T v wr) (hp : ¬ p < s.length) (h8 : ¬ 8000 < s.length) :
 j5 w s (.returned (.tuple #[v, .int .i64 0, .int .i64 0])) wr := by
 obtain ⟨e1, e2, e3⟩ := zK6 h hp h8;obtain ⟨A, c, rfl, hC, hR⟩ := h.2.2.2.1.form;exact ⟨h.2.2.1, A, c, by rw [e1, e2, e3]; rfl, by rw [e1]; exact hR, by rw [e1]; exact hC⟩
theorem zE4 (w : World) (s : List UInt8) (hs : s.length ≤ 9223372036854775807) :
 Calls Tryz.prog 12 #[str s] w fun e w' => j5 w s e w' := by
 by_cases h8 : 8000 < s.length
 ·
  have h9 : jG s = [] := if_pos h8;have h10 : zBc s = 0 := if_pos h8;have h11 : kP s = 2 := if_pos h8;unfold j5;rw [h9, h10, h11];clear h9 h10 h11;go_enter Tryz.func12, Tryz.ntmps12
  go_wp2
  go_ret3
  exact ⟨Below.refl _ _, none, 0, rfl, RdT.nil _ _ _, Nat.le_refl _⟩
 have H8 := hid h8;have h8' : (s.length : Int) ≤ 8000 := by omega
 go_enter Tryz.func12, Tryz.ntmps12
 go_wp2
 go_loopw [5, 6] (fun v i wx => ∃ (p : Nat) (T : List Tok), i = .int .i64 p ∧ Hid (zAl w s p T v wx)) (fun _ i _ => s.length - (zD i).toNat)
 case atStart => exact ⟨0, [], rfl, Nat.zero_le _, Nat.zero_le _, Below.refl _ _, qP.start _ _, by simp⟩
 case round =>
  obtain ⟨p, T, rfl, HA⟩ := hrel;by_cases hlt : p < s.length
  ·
   obtain ⟨x, r, hr⟩ : ∃ x r, s.drop p = x :: r := List.exists_cons_of_ne_nil (by intro e; have := congrArg List.length e; simp at this; omega);have hlen := zBZ hr;have hex := zKI s p s.length rfl;rw [hr] at hex;have hex1 : (⟨(x :: r).toArray⟩ : ByteArray).extract 0 1 = ⟨[x].toArray⟩ := zHB (x :: r) 1;have HN := hid hlen;have hrl : (x :: r).length ≤ 9223372036854775807 := by simp; omega
   have HRD := hid hr;have HRL := hid hrl;clear hr hlen hrl h8;by_cases hx : yw x = true
   ·
    have H1 := hid fun w => zM6 w x true hx
    obtain ⟨k, hk⟩ : ∃ k, ((x :: r).takeWhile yw).length = k := ⟨_, rfl⟩
    have H2 := hid fun w => zOp w (x :: r) HRL.out k hk
    have hk1 : k ≤ r.length + 1 := by have := yP yw (x :: r); rw [hk] at this; simpa using this
    have hk0 : 1 ≤ k := by rw [← hk, List.takeWhile_cons, if_pos hx]; simp
    have HK := hid hk;clear hx hk;go_wp2_with (first | (go_at_call 24; with_reducible refine (H1.out _).mono ?_; rintro e w1 ⟨rfl, rfl⟩) | (go_at_call 25; with_reducible refine (H2.out _).mono ?_; rintro e w1 ⟨rfl, b1⟩; replace b1 := hid b1))
    have hlen := HN.out;go_roundw
    case rel => exact ⟨p + k, T, by first | exact zA0 s.length p k (by omega) (by omega) | exact qR p k, zAH HA.out HRD.out (((Below.refl wr.heap.size wr).alloc (Nat.le_refl _) _).trans (b1.out.mono (by simp))) (zFX k p (x :: r) (Nat.le_of_eq HK.out.symm)) hk1⟩
    case measure => first | exact qW s.length p k (by omega) (by omega) hk0 | exact jb s.length p k (by omega) hk0
   have HX := hid hx;have H1 := hid fun w => zM6 w x false (by simpa using hx)
   clear hx;by_cases hx2 : x = 35
   ·
    have HX2 := hid hx2;have hq : (x == 35) = true := by simpa using hx2
    have hk : (r.takeWhile (· != 10)).length + 1 = ((x :: r).takeWhile (· != 10)).length := by rw [List.takeWhile_cons, if_pos (by rw [hx2]; decide)]; rfl
    have HS : Hid (zP (x :: r) = .skip ((x :: r).takeWhile (· != 10)).length) := by
     show _ = _;simp only [zP];rw [if_neg HX.out, if_pos hq, ← hk, Nat.add_comm]
    have hk1 := yP (· != 10) (x :: r);have H3 := hid fun w => zMd w (x :: r)
    rcases hc : (x :: r).contains 10 with _ | _
    ·
     have hall : ((x :: r).takeWhile (· != 10)).length = r.length + 1 := by
      rw [zD8 _ _ (fun y hy => by rw [bne_iff_ne]; rintro rfl; rw [List.contains_iff_mem.2 hy] at hc; cases hc)]; rfl
     rw [hc] at H3;rw [hall] at HS;simp only [Bool.false_eq_true, if_false] at H3;clear hc hall hk hx2 hk1;go_wp2_with (first | (go_at_call 24; with_reducible refine (H1.out _).mono ?_; rintro e w1 ⟨rfl, rfl⟩) | (go_at_call 26; with_reducible refine (H3.out _).mono ?_; rintro e w1 ⟨rfl, rfl⟩))
     have hlen := HN.out;go_roundw
     case rel => exact ⟨p + (r.length + 1), T, by first | exact zA0 s.length p (r.length + 1) (by omega) (by omega) | exact qR p (r.length + 1) | (refine congrArg _ ?_; omega), zAH HA.out HRD.out ((Below.refl wr.heap.size wr).alloc (Nat.le_refl _) _) (vS HS.out) (Nat.le_refl _)⟩
     case measure => first | exact qW s.length p (r.length + 1) (by omega) (by omega) (by omega) | exact jb s.length p (r.length + 1) (by omega) (by omega) | (simp only [zD]; omega)
    rw [hc] at H3;simp only [if_true] at H3;obtain ⟨k, hk2⟩ : ∃ k, ((x :: r).takeWhile (· != 10)).length = k := ⟨_, rfl⟩
    rw [hk2] at H3 HS hk1 hk;have hk0 : 1 ≤ k := by omega
    have hkn : ¬ (k : Int) < 0 := by omega
    simp only [List.length_cons] at hk1;clear hc hk hk2 hx2;go_wp2_with (first | (go_at_call 24; with_reducible refine (H1.out _).mono ?_; rintro e w1 ⟨rfl, rfl⟩) | (go_at_call 26; with_reducible refine (H3.out _).mono ?_; rintro e w1 ⟨rfl, rfl⟩))
    have hlen := HN.out;go_roundw
    case rel => exact ⟨p + k, T, by first | exact zA0 s.length p k (by omega) (by omega) | exact qR p k, zAH HA.out HRD.out ((Below.refl wr.heap.size wr).alloc (Nat.le_refl _) _) (vS HS.out) hk1⟩
    case measure => first | exact qW s.length p k (by omega) (by omega) hk0 | exact jb s.length p k (by omega) hk0
   have HX2 := hid hx2;have hq : (x == 35) = false := by simpa using hx2
   clear hx2;by_cases hx3 : k9 x = true
   ·
    have H3 := hid fun w => zOa w x true hx3
    obtain ⟨k, hk⟩ : ∃ k, ((x :: r).takeWhile yD).length = k := ⟨_, rfl⟩
    have H4 := hid fun w => zOt w (x :: r) HRL.out k hk
    have hk1 : k ≤ r.length + 1 := by have := yP yD (x :: r); rw [hk] at this; simpa using this
    have hk0 : 1 ≤ k := by rw [← hk, List.takeWhile_cons, if_pos (by unfold yD; rw [hx3]; rfl)]; simp
    have hkw : 1 + (r.takeWhile yD).length = k := by rw [← hk, List.takeWhile_cons, if_pos (by unfold yD; rw [hx3]; rfl)]; simp; omega
    have HS : Hid (zP (x :: r) = if 16 < k then .bad else .tok 1 0 k) := by
     show _ = _;simp only [zP];rw [if_neg HX.out, if_neg (by rw [hq]; decide), if_pos hx3, hkw]
    have hex2 : (⟨(x :: r).toArray⟩ : ByteArray).extract 0 k = ⟨((x :: r).take k).toArray⟩ := zHB (x :: r) k;clear hk hx3 hkw;by_cases h16 : 16 < k
    ·
     rw [if_pos h16] at HS;have h16i : (16 : Int) < (k : Int) := by omega
     clear h16;go_wp2_with (first | (go_at_call 24; with_reducible refine (H1.out _).mono ?_; rintro e w1 ⟨rfl, rfl⟩) | (go_at_call 24; with_reducible refine (H3.out _).mono ?_; rintro e w1 ⟨rfl, rfl⟩) | (go_at_call 25; with_reducible refine (H4.out _).mono ?_; rintro e w1 ⟨rfl, b1⟩; have K1 := (Blk.new wr 40 #[.int .i64 0, .int .i64 p, .int .i64 0, .string ⟨#[]⟩]).below b1 (by simp); have c0 := K1.cell 0; have f0 := K1.frozen 0; clear K1; replace b1 := hid b1))
     go_ret3
     exact zMI
    rw [if_neg h16] at HS;have h16i : ¬ (16 : Int) < (k : Int) := by omega
    clear h16;go_wp2_with (first | (go_at_call 24; with_reducible refine (H1.out _).mono ?_; rintro e w1 ⟨rfl, rfl⟩) | (go_at_call 24; with_reducible refine (H3.out _).mono ?_; rintro e w1 ⟨rfl, rfl⟩) | (go_at_call 25; with_reducible refine (H4.out _).mono ?_; rintro e w1 ⟨rfl, b1⟩; have K1 := (Blk.new wr 40 #[.int .i64 0, .int .i64 p, .int .i64 0, .string ⟨#[]⟩]).below b1 (by simp); have c0 := K1.cell 0; have f0 := K1.frozen 0; have c1 := K1.cell 1; have c2 := K1.cell 2; have c3 := K1.cell 3; have f3 := K1.frozen 3; clear K1; have b2 := hid (((Below.refl wr.heap.size wr).alloc (Nat.le_refl _) _).trans (b1.mono (by simp))); clear b1) | (at_builtin; go_must (refine vF _ rfl _ _ rfl w.heap.size _ T rfl (HA.out.2.2.2.1.on (zKT b2.out _ _ _ _ _)) _ _ _ ⟨1, p, 0, (x :: r).take k⟩ rfl (vl _ ⟨1, p, 0, (x :: r).take k⟩ _ (by simp)) (by have := HA.out.2.1; omega) (by have := b2.out.size; have := HA.out.2.2.1.size; simp; omega) ?_); intro v4 w4 ho4 hg4 _; replace ho4 := hid ho4; replace hg4 := hid hg4))
    have hlen := HN.out;go_roundw
    case rel => exact ⟨p + k, _, by first | exact zA0 s.length p k (by omega) (by omega) | exact qR p k, vk HA.out HRD.out HS.out (zKT b2.out _ _ _ _ _) ho4.out hg4.out⟩
    case measure => first | exact qW s.length p k (by omega) (by omega) hk0 | exact jb s.length p k (by omega) hk0
   have H3 := hid fun w => zOa w x false (by simpa using hx3)
   have HX3 := hid hx3;clear hx3;by_cases hx4 : zd x = true
   ·
    have H4 := hid fun w => zM4 w x true hx4
    obtain ⟨k, hk⟩ : ∃ k, ((x :: r).takeWhile zd).length = k := ⟨_, rfl⟩
    have H5 := hid fun w => zOs w (x :: r) HRL.out k hk
    have hk1 : k ≤ r.length + 1 := by have := yP zd (x :: r); rw [hk] at this; simpa using this
    have hk0 : 1 ≤ k := by rw [← hk, List.takeWhile_cons, if_pos hx4]; simp
    have hkw : 1 + (r.takeWhile zd).length = k := by rw [← hk, List.takeWhile_cons, if_pos hx4]; simp; omega
    have htk : (x :: r).take k = x :: r.takeWhile zd := by
     rw [← hkw, Nat.add_comm, List.take_succ_cons];congr 1
     conv => lhs; rw [← List.takeWhile_append_dropWhile (p := zd) (l := r)]
     rw [List.take_left'];try rw [List.takeWhile_append_dropWhile]
    obtain ⟨N, hN⟩ : ∃ N, num 0 (x :: r.takeWhile zd) = N := ⟨_, rfl⟩
    have HS : Hid (zP (x :: r) = if 7 < k ∨ (1 < k ∧ x = 48) then .bad else .tok 2 N k) := by
     show _ = _;simp only [zP];rw [if_neg HX.out, if_neg (by rw [hq]; decide), if_neg HX3.out, if_pos hx4, hkw, hN]
    have HAT : Hid (Lib.atoi ((x :: r).take k) = some (N : Int)) := by
     show _ = _;rw [htk, ← hN]
     exact zIL (by simp) (fun y hy => by
      rcases List.mem_cons.1 hy with rfl | hy
      · exact hx4
      exact (List.all_takeWhile (p := zd) (l := r) |> List.all_eq_true.1) y hy)
    have H6 : Hid (k ≤ 7 → ∀ w, Calls Tryz.prog 27 #[str ((x :: r).take k)] w fun e w' => e = .returned (.tuple #[.int .i64 N, .nilIface]) ∧ Below w.heap.size w w') := fun h7 w => (Tryz.strconv_Atoi ⟨((x :: r).take k).toArray⟩ N (by simp [ByteArray.size]; omega) HAT.out w).mono fun e w' ⟨h1, t, h2⟩ => ⟨h1, by rw [h2]; exact zGr w _ t⟩
    have hex2 : (⟨(x :: r).toArray⟩ : ByteArray).extract 0 k = ⟨((x :: r).take k).toArray⟩ := zHB (x :: r) k;clear hk hx4 hkw htk hN HAT;by_cases h7 : 7 < k
    ·
     rw [if_pos (.inl h7)] at HS;have h7i : (7 : Int) < (k : Int) := by omega
     clear h7;exact m54
    by_cases h1 : 1 < k
    ·
     by_cases h48 : x = 48
     ·
      rw [if_pos (.inr ⟨h1, h48⟩)] at HS;have h7i : ¬ (7 : Int) < (k : Int) := by omega
      have h1i : (1 : Int) < (k : Int) := by omega
      have hq0 : (x == 48) = true := by simpa using h48
      clear h7 h1 h48;exact m54
     rw [if_neg (by rintro (h | ⟨_, h⟩); exact h7 h; exact h48 h)] at HS;have H7 := hid (H6.out (by omega));have h7i : ¬ (7 : Int) < (k : Int) := by omega
     have h1i : (1 : Int) < (k : Int) := by omega
     have hq0 : (x == 48) = false := by simpa using h48
     clear h7 h1 h48;exact m26
    rw [if_neg (by rintro (h | ⟨h, _⟩); exact h7 h; exact h1 h)] at HS;have H7 := hid (H6.out (by omega));have h7i : ¬ (7 : Int) < (k : Int) := by omega
    have h1i : ¬ (1 : Int) < (k : Int) := by omega
    clear h7 h1;exact m26
   have H4 := hid fun w => zM4 w x false (by simpa using hx4)
   have HX4 := hid hx4;clear hx4;by_cases hx5 : jv x = true
   ·
    have H5 := hid fun w => zMW w x true hx5
    have HS : Hid (zP (x :: r) = .tok 3 0 1) := by
     show _ = _;simp only [zP];rw [if_neg HX.out, if_neg (by rw [hq]; decide), if_neg HX3.out, if_neg HX4.out, if_pos hx5]
    clear hx5;have b2 := hid (((Below.refl wr.heap.size wr).alloc (Nat.le_refl _) (.cells #[.int .i64 3, .int .i64 p, .int .i64 0, str [x]] 40)).alloc (by simp) (.cells #[.int .i64 3, .int .i64 p, .int .i64 0, str [x]] 40));go_wp2_with (first | (go_at_call 24; with_reducible refine (H1.out _).mono ?_; rintro e w1 ⟨rfl, rfl⟩) | (go_at_call 24; with_reducible refine (H3.out _).mono ?_; rintro e w1 ⟨rfl, rfl⟩) | (go_at_call 24; with_reducible refine (H4.out _).mono ?_; rintro e w1 ⟨rfl, rfl⟩) | (go_at_call 24; with_reducible refine (H5.out _).mono ?_; rintro e w1 ⟨rfl, rfl⟩) | (at_builtin; go_must (refine vF _ rfl _ _ rfl w.heap.size _ T rfl (HA.out.2.2.2.1.on b2.out) _ _ _ ⟨3, p, 0, [x]⟩ rfl (vl _ ⟨3, p, 0, [x]⟩ _ (by simp)) (by have := HA.out.2.1; omega) (by have := b2.out.size; have := HA.out.2.2.1.size; simp; omega) ?_); intro v4 w4 ho4 hg4 _; replace ho4 := hid ho4; replace hg4 := hid hg4))
    have hlen := HN.out;go_roundw
    case rel => exact ⟨p + 1, _, by first | exact zA0 s.length p 1 (by omega) (by omega) | exact qR p 1 | (refine congrArg _ ?_; omega), vk HA.out HRD.out HS.out b2.out ho4.out hg4.out⟩
    case measure => first | exact qW s.length p 1 (by omega) (by omega) (by omega) | exact jb s.length p 1 (by omega) (by omega) | (simp only [zD]; omega)
   have H5 := hid fun w => zMW w x false (by simpa using hx5)
   have HS : Hid (zP (x :: r) = .bad) := by
    show _ = _;simp only [zP];rw [if_neg HX.out, if_neg (by rw [hq]; decide), if_neg HX3.out, if_neg HX4.out, if_neg hx5]
   clear hx5;go_wp2_with (first | (go_at_call 24; with_reducible refine (H1.out _).mono ?_; rintro e w1 ⟨rfl, rfl⟩) | (go_at_call 24; with_reducible refine (H3.out _).mono ?_; rintro e w1 ⟨rfl, rfl⟩) | (go_at_call 24; with_reducible refine (H4.out _).mono ?_; rintro e w1 ⟨rfl, rfl⟩) | (go_at_call 24; with_reducible refine (H5.out _).mono ?_; rintro e w1 ⟨rfl, rfl⟩))
   go_ret3
   exact jU HA.out HRD.out HS.out H8.out ((Below.refl wr.heap.size wr).alloc (Nat.le_refl _) _)
  (have hlti : ¬ (p : Int) < (s.length : Int) := by omega);have HLT := hid hlt;clear hlt;(go_wp2);(go_ret3);exact zBO HA.out HLT.out H8.out
open Go.RowKit Go.Deep
structure zH (g : Nat) (w w' : World) : Prop where
 os : w'.os = w.os
 tape : w'.tape = w.tape
 output : w'.output = w.output
 size : w.heap.size ≤ w'.heap.size
 block : ∀ k, k ≠ g → k < w.heap.size → w'.heap[k]? = w.heap[k]?
theorem zH.refl (g : Nat) (w : World) : zH g w w := ⟨rfl, rfl, rfl, Nat.le_refl _, fun _ _ _ => rfl⟩
theorem zH.trans {g : Nat} {a b c : World} (h : zH g a b) (k : zH g b c) : zH g a c :=
 ⟨k.os.trans h.os, k.tape.trans h.tape, k.output.trans h.output, Nat.le_trans h.size k.size, fun i hi hl => (k.block i hi (Nat.lt_of_lt_of_le hl h.size)).trans (h.block i hi hl)⟩
theorem zH.setCell {g : Nat} {a w : World} (h : zH g a w) (i : Nat) (v : Value) : zH g a (w.setCell ⟨g, i, none⟩ v) :=
 ⟨h.os, h.tape, h.output, by rw [show (w.setCell ⟨g, i, none⟩ v).heap.size = w.heap.size from by simp]; exact h.size, fun k hk hl => (heap_setCell_other w ⟨g, i, none⟩ k v hk).trans (h.block k hk hl)⟩
theorem zH.below {g B : Nat} {w w' : World} (h : zH g w w') (hB : B ≤ g) (hs : B ≤ w.heap.size) : Below B w w' := ⟨h.os, h.tape, h.output, h.size, fun k hk => h.block k (by omega) (by omega)⟩
theorem zH.cell {g : Nat} {w w' : World} (h : zH g w w') {p : Addr} (hp : p.block ≠ g) (hl : p.block < w.heap.size) : w'.cell? p = w.cell? p := World.cell?_of_block (h.block p.block hp hl)
theorem zH.drew {g : Nat} {a w : World} (h : zH g a w) : zH g a w.drew := ⟨h.os, h.tape, h.output, h.size, h.block⟩
theorem zH.of_below {g : Nat} {w w' : World} (h : Below w.heap.size w w') : zH g w w' := ⟨h.os, h.tape, h.output, h.size, fun k _ hl => h.block k hl⟩
theorem zH.blk {g x : Nat} {w w' : World} {t : TypeId} {cs : Array Value} (h : zH g w w') (hb : Blk w x t cs) (hx : x ≠ g) : Blk w' x t cs := (h.block x hx hb.lt).trans hb
abbrev zDY (p k : Nat) : Ending := .panicked [{ v := .iface 70 (.agg #[.int .i64 p, .int .i64 k]), recovered := false }]
structure Rc where
 m : Value
 v : Value
 n : Value
 p : Value
 q : Value
def zU (W : World) (g en : Nat) (x : Rc) (ts : List Tok) : Prop :=
 ∃ A c, Blk W g 68 #[.slice A ts.length c, .int .i64 en, x.m, x.v, x.n, x.p, x.q] ∧ RdT W (g - 1) A ts ∧ ts.length ≤ c
theorem zU.lt {W : World} {g en : Nat} {x : Rc} {ts : List Tok} (h : zU W g en x ts) : g < W.heap.size := by
 obtain ⟨A, c, h, _⟩ := h;exact h.lt
theorem zU.alloc {W : World} {g en : Nat} {x : Rc} {ts : List Tok} (h : zU W g en x ts) (o : Obj) : zU (W.alloc o) g en x ts := by
 have hl := h.lt;obtain ⟨A, c, h1, h2, h3⟩ := h;exact ⟨A, c, h1.alloc o, h2.alloc (by omega) o, h3⟩
theorem zH.alloc {g : Nat} {a w : World} (h : zH g a w) (o : Obj) : zH g a (w.alloc o) := h.trans (zH.of_below ((Below.refl w.heap.size w).alloc (Nat.le_refl _) o))
theorem zU.below {W W' : World} {g en : Nat} {x : Rc} {ts : List Tok} (h : zU W g en x ts) (b : Below W.heap.size W W') : zU W' g en x ts := by
 have hl := h.lt;obtain ⟨A, c, h1, h2, h3⟩ := h;exact ⟨A, c, h1.below b hl, h2.below (b.mono (by omega)), h3⟩
theorem zO {W : World} {g : Nat} {t : TypeId} {cs : Array Value} (h : Blk W g t cs) : ∀ j v, cs.toList[j]? = some v → W.cell? ((⟨g, 0, none⟩ : Addr).add j) = some v := by
 intro j v hv;have e : (⟨g, 0, none⟩ : Addr).add j = ⟨g, j, none⟩ := by unfold Addr.add; split <;> simp_all
 rw [e, h.cell j];simpa using hv
theorem zFZ : (Tryz.prog.info? 40).map (·.size) = some 4 := by kernel_rfl
def zKE : List Tok → Tok
 | [] => ⟨0, 0, 0, []⟩
 | t :: _ => t
def yU {α : Type} (W : World) (g en : Nat) (x : Rc) (val : α → Value) (q : Rs α) (e : Ending) (w' : World) : Prop :=
 zH g W w' ∧ match q with
 | .ok a r => e = .returned (val a) ∧ zU w' g en x r
 | .err r k => e = zDY (qK en r) k
theorem yU.ok {α : Type} {W w' : World} {g en : Nat} {x : Rc} {val : α → Value} {a : α} {r : List Tok} (h : zH g W w') (k : zU w' g en x r) : yU W g en x val (.ok a r) (.returned (val a)) w' := ⟨h, rfl, k⟩
theorem yU.err {α : Type} {W w' : World} {g en : Nat} {x : Rc} {val : α → Value} {k : Nat} {r : List Tok} (h : zH g W w') : yU (α := α) W g en x val (.err r k) (zDY (qK en r) k) w' := ⟨h, rfl⟩
theorem zB4 (W : World) (g en : Nat) (x : Rc) (ts : List Tok) (h : zU W g en x ts) :
 Calls Tryz.prog 109 #[.pointer (some ⟨g, 0, none⟩)] W fun e w' => e = .returned (.int .i64 (qK en ts : Nat)) ∧ w' = W := by
 obtain ⟨A, c, hb, hr, hc⟩ := h;have c0 := hb.cell 0;have c1 := hb.cell 1
 cases ts with
 | nil =>
  clear hb hr hc;exact zM8
 | cons t r =>
  obtain ⟨ad, rfl, hlt, q0, q1, q2, q3⟩ := hr.at (i := 0) (by simp);rw [show ad.add (0 * 4) = ad from by simp [Addr.add]] at q0 q1 q2 q3;simp only [List.getElem_cons_zero] at q0 q1 q2 q3;simp only [List.length_cons] at c0;clear hb hr hc q0 q2 q3;exact zM8
theorem zGH (W : World) (g en : Nat) (x : Rc) (ts : List Tok) (h : zU W g en x ts) :
 Calls Tryz.prog 62 #[.pointer (some ⟨g, 0, none⟩)] W fun e w' => e = .returned (.agg (zKE ts).cells) ∧ Below W.heap.size W w' := by
 have hl := h.lt;obtain ⟨A, c, hb, hr, hc⟩ := h;have c0 := hb.cell 0;have hbl (o : Obj) := (Below.refl W.heap.size W).alloc (Nat.le_refl _) o;have HBL := hid hbl
 cases ts with
 | nil =>
  clear hb hr hc hbl;(go_enter Tryz.func62, Tryz.ntmps62);(go_wp2);refine bodyPost_ret (yN rfl _ ⟨W.heap.size, 0, none⟩ rfl _ Tryz.underlying40 rfl _ (zKE []).cells zFZ (zO (Blk.new W 40 (zKE []).cells))) rfl ?_;exact ⟨rfl, HBL.out _⟩
 | cons t r =>
  obtain ⟨ad, rfl, hlt, q0, q1, q2, q3⟩ := hr.at (i := 0) (by simp);rw [show ad.add (0 * 4) = ad from by simp [Addr.add]] at q0 q1 q2 q3;simp only [List.getElem_cons_zero] at q0 q1 q2 q3;simp only [List.length_cons] at c0;(have hla : ad.block < W.heap.size := by omega);clear hb hr hc hbl;(go_enter Tryz.func62, Tryz.ntmps62);(go_wp2);refine bodyPost_ret (yN rfl _ ⟨W.heap.size, 0, none⟩ rfl _ Tryz.underlying40 rfl _ t.cells zFZ (zO (Blk.new W 40 t.cells))) rfl ?_;exact ⟨rfl, HBL.out _⟩
theorem ky (W : World) (g en : Nat) (x : Rc) (ts : List Tok) (k : Nat) (h : zU W g en x ts) :
 Calls Tryz.prog 63 #[.pointer (some ⟨g, 0, none⟩), .int .i64 k] W fun e w' => e = zDY (qK en ts) k ∧ w' = W := by
 have HA := hid (zB4 W g en x ts h);clear h;go_enter Tryz.func63, Tryz.ntmps63
 go_wp2_with (go_at_call 109; refine HA.out.mono ?_; rintro e w' ⟨rfl, rfl⟩)
 exact ⟨rfl, rfl, rfl⟩
theorem qY (W : World) (g en : Nat) (x : Rc) (t : Tok) (r : List Tok) (h : zU W g en x (t :: r)) :
 Calls Tryz.prog 62 #[.pointer (some ⟨g, 0, none⟩)] W fun e w' => e = .returned (.agg #[.int .i64 t.kind, .int .i64 t.pos, .int .i64 t.n, str t.text]) ∧ Below W.heap.size W w' := zGH W g en x (t :: r) h
theorem zAR (W : World) (g en : Nat) (x : Rc) (h : zU W g en x []) :
 Calls Tryz.prog 62 #[.pointer (some ⟨g, 0, none⟩)] W fun e w' => e = .returned (.agg #[.int .i64 0, .int .i64 0, .int .i64 0, .string ⟨#[]⟩]) ∧ Below W.heap.size W w' := zGH W g en x [] h
theorem zU.step {W : World} {g en : Nat} {x : Rc} {t : Tok} {r : List Tok} {A : Option Addr} {c : Nat} (hb : Blk W g 68 #[.slice A (r.length + 1) c, .int .i64 en, x.m, x.v, x.n, x.p, x.q]) (hr : RdT W (g - 1) A (t :: r)) (hc : r.length + 1 ≤ c) :
 zU (W.setCell ⟨g, 0, none⟩ (.slice (if c = 1 then A else A.map (·.add 4)) r.length (c - 1))) g en x r := by
 have h1 := hb.set_ 0 (.slice (if c = 1 then A else A.map (·.add 4)) r.length (c - 1));exact ⟨_, c - 1, by simpa using h1, (hr.tail hc).setCell (p := ⟨g, 0, none⟩) (Nat.sub_le g 1) _, by omega⟩
theorem zU.pop1 {W : World} {g en : Nat} {x : Rc} {t : Tok} {r : List Tok} {A : Option Addr} {c : Nat} (hb : Blk W g 68 #[.slice A (t :: r).length c, .int .i64 en, x.m, x.v, x.n, x.p, x.q]) (hr : RdT W (g - 1) A (t :: r)) (hc : r.length + 1 ≤ c) (h1 : c = 1) :
 zU (W.setCell ⟨g, 0, none⟩ (.slice A r.length 0)) g en x r := by
 have := zU.step hb hr hc;rw [if_pos h1, h1] at this;exact this
theorem zU.popn {W : World} {g en : Nat} {x : Rc} {t : Tok} {r : List Tok} {A : Option Addr} {c : Nat} (hb : Blk W g 68 #[.slice A (t :: r).length c, .int .i64 en, x.m, x.v, x.n, x.p, x.q]) (hr : RdT W (g - 1) A (t :: r)) (hc : r.length + 1 ≤ c) (h1 : ¬ c = 1) :
 zU (W.setCell ⟨g, 0, none⟩ (.slice (Option.map (fun x => { block := x.block, off := x.off + 4 }) A) r.length (c - 1))) g en x r := by
 have := zU.step hb hr hc;rw [if_neg h1] at this;exact this
theorem zCP {W w' : World} {g : Nat} (b : Below W.heap.size W w') (v : Value) : zH g W (w'.setCell ⟨g, 0, none⟩ v) := (zH.of_below b).setCell 0 v
theorem zCY (a b c d : Value) (w : World) : (Instr.field 40 (.agg #[a, b, c, d]) 3).run Tryz.prog w = .ok d w := by kernel_rfl
theorem bytes_beq {s t : List UInt8} (h : s ≠ t) : ((⟨s.toArray⟩ : ByteArray) == ⟨t.toArray⟩) = false := by
 show (s.toArray == t.toArray) = false;rw [beq_eq_false_iff_ne];intro e;exact h (by simpa using e)
theorem zId (W : World) (g en : Nat) (x : Rc) (ts : List Tok) (s : List UInt8) (hs : s ≠ []) (h : zU W g en x ts) :
 Calls Tryz.prog 106 #[.pointer (some ⟨g, 0, none⟩), str s] W fun e w' => e = .returned (.bool (yv s ts).isSome) ∧ zH g W w' ∧ zU w' g en x ((yv s ts).getD ts) := by
 have H := hid h;have hf3 := zCY
 cases ts with
 | nil =>
  have HN := hid (zAR W g en x h);(have hse : s.isEmpty = false := by cases s with | nil => exact absurd rfl hs | cons y l => rfl);clear hs h;exact zNw
 | cons t r =>
  have HN := hid (qY W g en x t r h);by_cases hq : t.text = s
  ·
   have hh : yv s (t :: r) = some r := if_pos hq;rw [hh];simp only [Option.isSome_some, Option.getD_some];subst hq;clear hh hs h;go_enter Tryz.func106, Tryz.ntmps106
   go_wp2_with (go_at_call 62; refine HN.out.mono ?_; rintro e w' ⟨rfl, b1⟩; obtain ⟨A, c, hb, hr, hc⟩ := H.out.below b1; replace b1 := hid b1; have HB := hid hb; have HR := hid hr; have c0 := hb.cell 0; have f0 := hb.frozen 0; have hcl : r.length + 1 ≤ c := (by simpa using hc); have hcz : ¬ (c : Int) < 1 := (by omega); clear hb hr hc)
   all_goals go_ret
   · exact ⟨rfl, zCP b1.out _, zU.pop1 HB.out HR.out hcl h⟩
   exact ⟨rfl, zCP b1.out _, zU.popn HB.out HR.out hcl h⟩
  have hh : yv s (t :: r) = none := if_neg hq;rw [hh];simp only [Option.isSome_none, Option.getD_none];(have hq1 : (t.text == s) = false := by rw [beq_eq_false_iff_ne]; exact hq);clear hh hs hq h;exact zNw
theorem zHf (W : World) (g en : Nat) (x : Rc) (ts : List Tok) (h : zU W g en x ts) :
 Calls Tryz.prog 61 #[.pointer (some ⟨g, 0, none⟩)] W (yU W g en x (fun n : Nat => .int .i64 n) (yX ts)) := by
 have H := hid h;have hl := h.lt
 cases ts with
 | nil =>
  have HN := hid (zAR W g en x h);rw [show yX [] = .err [] 10 from rfl];clear h;(go_enter Tryz.func61, Tryz.ntmps61);exact m58
 | cons t r =>
  have HN := hid (qY W g en x t r h);clear h;by_cases hk : t.kind = 2
  ·
   have hk2 : ((t.kind : Int) == 2) = true := by rw [hk]; rfl
   have hq : yX (t :: r) = .ok t.n r := if_pos hk;rw [hq];clear hk hq;go_enter Tryz.func61, Tryz.ntmps61
   go_wp2_with (first | (go_at_call 62; refine HN.out.mono ?_; rintro e w1 ⟨rfl, b1⟩; have hz := b1.size; obtain ⟨A, c, hb, hr, hc⟩ := H.out.below b1; replace b1 := hid b1; have HB := hid hb; have HR := hid hr; have c0 := hb.cell 0; have f0 := hb.frozen 0; have hcl : r.length + 1 ≤ c := (by simpa using hc); have hcz : ¬ (c : Int) < 1 := (by omega); have hgl := hb.lt; have hgn : g ≠ w1.heap.size := (by omega); clear hb hr hc))
   all_goals go_ret
   · exact yU.ok ((zCP b1.out _).alloc _) ((zU.pop1 HB.out HR.out hcl h).alloc _)
   exact yU.ok ((zCP b1.out _).alloc _) ((zU.popn HB.out HR.out hcl h).alloc _)
  (have hk2 : ((t.kind : Int) == 2) = false := by rw [beq_eq_false_iff_ne]; omega);have hq : yX (t :: r) = .err (t :: r) 10 := if_neg hk;rw [hq];clear hk hq;(go_enter Tryz.func61, Tryz.ntmps61);exact m59
open Go.RowKit Go.Deep
theorem zBo {s : List UInt8} {l : List (List UInt8)} {r r' : List Tok} (h : yv s r = some r') : zb (s :: l) r = zb l r' := by
 simp only [zb, jM, h, Rs.bind]
theorem zBd {s : List UInt8} {l : List (List UInt8)} {r : List Tok} (h : yv s r = none) : zb (s :: l) r = .err r 10 := by
 simp only [zb, jM, h, Rs.bind]
theorem zFK (W : World) (g en h : Nat) (x : Rc) (ts : List Tok) (l : List (List UInt8)) (hs : ∀ s ∈ l, s ≠ []) (hb : Blk W h 9 (l.map str).toArray) (hne : h ≠ g) (hl : l.length ≤ 1000) (ht : zU W g en x ts) :
 Calls Tryz.prog 60 #[.pointer (some ⟨g, 0, none⟩), .slice (some ⟨h, 0, none⟩) l.length l.length] W (yU W g en x (fun _ : Unit => .tuple #[]) (zb l ts)) := by
 have HS := hid hs;have HBK := hid hb;have HT := hid ht;clear hs hb ht;go_enter Tryz.func60, Tryz.ntmps60
 go_wp2
 go_loopw [8] (fun i wx => ∃ (j : Nat) (r : List Tok), j ≤ l.length ∧ i = .int .i64 j ∧ Hid (zH g W wx) ∧ Hid (zU wx g en x r) ∧ Hid (zb l ts = zb (l.drop j) r)) (fun i _ => l.length - (zD i).toNat)
 case atStart => exact ⟨0, ts, Nat.zero_le _, rfl, zH.refl _ _, HT, rfl⟩
 case round =>
  obtain ⟨j, r, hj, rfl, HO, HR, HW⟩ := hrel;by_cases hlt : j < l.length
  ·
   have hbx := HO.out.blk HBK.out hne;have c0 := hbx.cell j;rw [show (l.map str).toArray[j]? = some (str l[j]) by simp [hlt]] at c0;have hsn := HS.out l[j] (List.getElem_mem hlt);have HX := hid (zId wr g en x r l[j] hsn HR.out);rw [List.drop_eq_getElem_cons hlt] at HW;have hll := hl;generalize l[j] = s at *;clear hbx hsn;rcases hq : yv s r with _ | r'
   ·
    rw [hq] at HX;rw [zBd hq] at HW;simp only [Option.isSome_none, Option.getD_none] at HX;clear hq;go_wp2_with (first | (go_at_call 106; refine HX.out.mono ?_; rintro e w1 ⟨rfl, o1, t1⟩; replace o1 := hid o1; replace t1 := hid t1) | (go_at_call 63; refine (ky _ g en x r 10 t1.out).mono ?_; rintro e w2 ⟨rfl, rfl⟩))
    refine ⟨rfl, ?_⟩;rw [HW.out];exact yU.err (HO.out.trans o1.out)
   rw [hq] at HX;rw [zBo hq] at HW;simp only [Option.isSome_some, Option.getD_some] at HX;clear hq;go_wp2_with (first | (go_at_call 106; refine HX.out.mono ?_; rintro e w1 ⟨rfl, o1, t1⟩; replace o1 := hid o1; replace t1 := hid t1))
   go_roundw
   case rel => exact ⟨j + 1, r', by omega, by go_num, HO.out.trans o1.out, t1.out, HW.out⟩
   case measure => simp [zD]; omega
  (obtain rfl : j = l.length := by omega);rw [List.drop_length] at HW;(go_wp2);(go_end0);rw [HW.out];exact yU.ok (val := fun _ : Unit => .tuple #[]) (a := ()) HO.out HR.out
theorem yU.before {α : Type} {W W1 w' : World} {g en : Nat} {x : Rc} {val : α → Value} {q : Rs α} {e : Ending} (o : zH g W W1) (h : yU W1 g en x val q e w') : yU W g en x val q e w' := ⟨o.trans h.1, h.2⟩
theorem zAB (W : World) (g en : Nat) (x : Rc) (ts : List Tok) (s : List UInt8) (hs : s ≠ []) (q : Rs Unit) (hq : zb [s] ts = q) (ht : zU W g en x ts) :
 Calls Tryz.prog 60 #[.pointer (some ⟨g, 0, none⟩), .slice (some ⟨W.heap.size, 0, none⟩) 1 1] (W.alloc (.cells #[str s] 9)) (yU W g en x (fun _ : Unit => .tuple #[]) q) := by
 subst hq;have hl := ht.lt;exact (zFK (W.alloc (.cells #[str s] 9)) g en W.heap.size x ts [s] (by intro y hy; simp at hy; subst hy; exact hs) (Blk.new W 9 #[str s]) (by omega) (by simp) (ht.alloc _)).mono fun e w' h => yU.before (zH.alloc (zH.refl g W) _) h
theorem zJ6 (W : World) (g en : Nat) (x : Rc) (ts : List Tok) (s u : List UInt8) (hs : s ≠ []) (hu : u ≠ []) (q : Rs Unit) (hq : zb [s, u] ts = q) (ht : zU W g en x ts) :
 Calls Tryz.prog 60 #[.pointer (some ⟨g, 0, none⟩), .slice (some ⟨W.heap.size, 0, none⟩) 2 2] (W.alloc (.cells #[str s, str u] 9)) (yU W g en x (fun _ : Unit => .tuple #[]) q) := by
 subst hq;have hl := ht.lt;exact (zFK (W.alloc (.cells #[str s, str u] 9)) g en W.heap.size x ts [s, u] (by intro y hy; simp at hy; rcases hy with rfl | rfl <;> assumption) (Blk.new W 9 #[str s, str u]) (by omega) (by simp) (ht.alloc _)).mono fun e w' h => yU.before (zH.alloc (zH.refl g W) _) h
open Go.RowKit Go.Deep
def yJ (w : World) : Prop := ∀ j, j < 6 → w.cell? ⟨3, j, none⟩ = some (.int .i64 (zr j))
theorem yJ.below {w w' : World} (h : yJ w) (hb : Below w.heap.size w w') : yJ w' := fun j hj => (hb.cell (World.block_lt_of_cell? w _ (h j hj))).trans (h j hj)
theorem zFw (v : Vc) (k : Nat) (hk : k < 6) (x : Int) : v.cells.setIfInBounds k (.int .i64 x) = (v.put k x).cells := by
 exact m65
theorem zLq (v : Vc) (k : Nat) (x y : Int) : (v.put k x).put k y = v.put k y := by
 unfold Vc.put;simp only;congr 1 <;> split <;> rfl
theorem zMg (v : Vc) (k : Nat) (hk : k < 6) (x : Int) : (v.put k x).at k = x := by
 exact m65
theorem zKR (v : Vc) (k j : Nat) (hk : k < 6) (hj : j < 6) (h : j ≠ k) (x : Int) : (v.put k x).at j = v.at j := by
 rcases (show k = 0 ∨ k = 1 ∨ k = 2 ∨ k = 3 ∨ k = 4 ∨ k = 5 by omega) with rfl | rfl | rfl | rfl | rfl | rfl <;>
 rcases (show j = 0 ∨ j = 1 ∨ j = 2 ∨ j = 3 ∨ j = 4 ∨ j = 5 by omega) with rfl | rfl | rfl | rfl | rfl | rfl <;> first | rfl | exact absurd rfl h
theorem zFQ (v : Vc) (k : Nat) (hk : k < 6) : v.put k (v.at k) = v := by
 exact m65
theorem qC (i : Nat) : 2 ≤ zr i ∧ zr i ≤ 13 := by
 rcases (show i = 0 ∨ i = 1 ∨ i = 2 ∨ i = 3 ∨ i = 4 ∨ 5 ≤ i by omega) with rfl | rfl | rfl | rfl | rfl | h
 · decide
 · decide
 · decide
 · decide
 · decide
 obtain ⟨j, rfl⟩ : ∃ j, i = j + 5 := ⟨i - 5, by omega⟩
 exact ⟨by show 2 ≤ 13; decide, Nat.le_refl _⟩
def kr (p n m c : Nat) : Prop := 1 ≤ m ∧ m * 2 ^ c ≤ n ∧ ∃ f, m < 2 ^ f ∧ vY p 64 n = ((vY p f m).1, (vY p f m).2 + c)
theorem qD (p n : Nat) (h1 : 1 ≤ n) (h2 : n < 2 ^ 64) : kr p n n 0 := ⟨h1, by simp, 64, h2, rfl⟩
theorem kr.le {p n m c : Nat} (h : kr p n m c) : m ≤ n := Nat.le_trans (by have := Nat.mul_le_mul_left m (Nat.one_le_two_pow (n := c)); omega) h.2.1
theorem kr.small {p n m c : Nat} (h : kr p n m c) (hn : n ≤ 1000000000) : c < 30 := by
 have h1 := h.1;have h2 := h.2.1;have h3 : 2 ^ c ≤ n := Nat.le_trans (by have := Nat.mul_le_mul_right (2 ^ c) h1; omega) h2;have h4 : 2 ^ c < 2 ^ 30 := by omega
 exact (Nat.pow_lt_pow_iff_right (by decide)).1 h4
theorem zCX {p n m c : Nat} (hp : 2 ≤ p) (h : kr p n m c) (hm : m % p = 0) : kr p n (m / p) (c + 1) ∧ m / p < m := by
 obtain ⟨h1, h2, f, h3, h4⟩ := h;have hd := Nat.div_add_mod m p;rw [hm, Nat.add_zero] at hd
 have hm1 : 1 ≤ m / p := by
  rcases Nat.eq_zero_or_pos (m / p) with h0 | h0
  · rw [h0, Nat.mul_zero] at hd; omega
  exact h0
 have hm2 : m / p * 2 ≤ m := by
  have := Nat.mul_le_mul_right (m / p) hp;omega
 have hm3 : m / p * 2 ^ (c + 1) ≤ n := by
  rw [Nat.pow_succ, Nat.mul_comm (2 ^ c) 2, ← Nat.mul_assoc];exact Nat.le_trans (Nat.mul_le_mul_right _ hm2) h2
 cases f with
 | zero => simp at h3; omega
 | succ f =>
  refine ⟨⟨hm1, hm3, f, by rw [Nat.pow_succ] at h3; omega, ?_⟩, by omega⟩;rw [h4];simp only [vY];rw [if_pos hm];simp only;congr 1;omega
theorem zBN (w : World) (o : Obj) (t : TypeId) (cs : Array Value) (g : Nat) (h : g = w.heap.size + 1) : Blk ((w.alloc o).alloc (.cells cs t)) g t cs := by
 subst h;have := Blk.new (w.alloc o) t cs;simpa using this
theorem zIb {W : World} {g k : Nat} {v : Vc} {c : Int} (h : Blk W g 53 (v.put k c).cells) (hk : k < 6) (x : Int) : Blk (W.setCell ⟨g, k, none⟩ (.int .i64 x)) g 53 (v.put k x).cells := by
 have := h.set_ k (.int .i64 x)
 rwa [zFw _ _ hk, zLq] at this
theorem zGM {W : World} {g k : Nat} {v : Vc} {c : Int} (h : Blk W g 53 (v.put k c).cells) (hk : k < 6) : W.cell? ⟨g, k, none⟩ = some (.int .i64 c) := by
 rw [h.cell k, Vc.cell _ _ hk, zMg _ _ hk]
theorem zED {p n m c : Nat} (h : kr p n m c) (hm : m % p ≠ 0) : vY p 64 n = (m, c) := by
 obtain ⟨h1, h2, f, h3, h4⟩ := h;rw [h4]
 cases f with
 | zero => simp [vY]
 | succ f => simp only [vY]; rw [if_neg hm]; simp
theorem zGc (p : Nat) (f n : Nat) (hp : 2 ≤ p) (hn : 1 ≤ n) : 1 ≤ (vY p f n).1 ∧ (vY p f n).1 ≤ n := by
 induction f generalizing n with
 | zero => exact ⟨hn, Nat.le_refl _⟩
 | succ f ih =>
  simp only [vY];split
  case isTrue h =>
   have hd := Nat.div_add_mod n p;rw [h, Nat.add_zero] at hd
   have h1 : 1 ≤ n / p := by
    rcases Nat.eq_zero_or_pos (n / p) with h0 | h0
    · rw [h0, Nat.mul_zero] at hd; omega
    exact h0
   have := ih _ h1;exact ⟨this.1, Nat.le_trans this.2 (Nat.div_le_self _ _)⟩
  case isFalse => exact ⟨hn, Nat.le_refl _⟩
theorem j6 (n d k : Nat) : zm n d (k + 1) = ((vY (zr k) 64 (zm n d k).1).1, (vY (zr k) 64 (zm n d k).2.1).1, (zm n d k).2.2.put k (((vY (zr k) 64 (zm n d k).1).2 : Int) - (vY (zr k) 64 (zm n d k).2.1).2)) := rfl
theorem zCb (n d k : Nat) (hn : 1 ≤ n) (hd : 1 ≤ d) : 1 ≤ (zm n d k).1 ∧ (zm n d k).1 ≤ n ∧ 1 ≤ (zm n d k).2.1 ∧ (zm n d k).2.1 ≤ d := by
 induction k with
 | zero => exact ⟨hn, Nat.le_refl _, hd, Nat.le_refl _⟩
 | succ k ih =>
  obtain ⟨h1, h2, h3, h4⟩ := ih;have hp := (qC k).1;have a := zGc (zr k) 64 _ hp h1;have b := zGc (zr k) 64 _ hp h3;rw [j6];simp only;omega
theorem zEj (n d k j : Nat) (hj : k ≤ j) (hj6 : j < 6) : (zm n d k).2.2.at j = 0 := by
 induction k with
 | zero => rcases (show j = 0 ∨ j = 1 ∨ j = 2 ∨ j = 3 ∨ j = 4 ∨ j = 5 by omega) with rfl | rfl | rfl | rfl | rfl | rfl <;> rfl
 | succ k ih =>
  rw [j6];simp only;rw [zKR _ _ _ (by omega) hj6 (by omega)];exact ih (by omega)
theorem zI5 (k : Nat) (hk : k < 6) (w : World) : (Instr.index 52 (.agg #[.int .i64 2, .int .i64 3, .int .i64 5, .int .i64 7, .int .i64 11, .int .i64 13]) (.int .i64 (k : Int))).run Tryz.prog w = .ok (.int .i64 (zr k)) w :=
 (zEz ⟨2, 3, 5, 7, 11, 13⟩ k hk w).trans (by rcases (show k = 0 ∨ k = 1 ∨ k = 2 ∨ k = 3 ∨ k = 4 ∨ k = 5 by omega) with rfl | rfl | rfl | rfl | rfl | rfl <;> rfl)
theorem zR : (Tryz.prog.info? 53).map (·.size) = some 6 := by kernel_rfl
theorem zMy {W : World} {g : Nat} {t : TypeId} {a0 a1 a2 a3 a4 a5 : Value} (h : Blk W g t #[a0, a1, a2, a3, a4, a5]) (b0 b1 b2 b3 b4 b5 : Value) :
 Blk ((((((W.setCell ⟨g, 0, none⟩ b0).setCell ⟨g, 1, none⟩ b1).setCell ⟨g, 2, none⟩ b2).setCell ⟨g, 3, none⟩ b3).setCell ⟨g, 4, none⟩ b4).setCell ⟨g, 5, none⟩ b5) g t #[b0, b1, b2, b3, b4, b5] := by
 have := (((((h.set_ 0 b0).set_ 1 b1).set_ 2 b2).set_ 3 b3).set_ 4 b4).set_ 5 b5;simpa using this
theorem zJA {B : Nat} {a W : World} {g : Nat} (h : Below B a W) (hg : B ≤ g) (b0 b1 b2 b3 b4 b5 : Value) :
 Below B a ((((((W.setCell ⟨g, 0, none⟩ b0).setCell ⟨g, 1, none⟩ b1).setCell ⟨g, 2, none⟩ b2).setCell ⟨g, 3, none⟩ b3).setCell ⟨g, 4, none⟩ b4).setCell ⟨g, 5, none⟩ b5) :=
 (((((h.setCell (p := ⟨g, 0, none⟩) hg b0).setCell (p := ⟨g, 1, none⟩) hg b1).setCell (p := ⟨g, 2, none⟩) hg b2).setCell (p := ⟨g, 3, none⟩) hg b3).setCell (p := ⟨g, 4, none⟩) hg b4).setCell (p := ⟨g, 5, none⟩) hg b5
def zAr (n d : Nat) : Int := if n < 1 ∨ 1000000000 < n ∨ d < 1 ∨ 1000000000 < d then 1 else if (xS n d).isSome then 0 else 9
def zAt (n d : Nat) : Vc := (xS n d).getD vc0
theorem zIn (w : World) (n d : Nat) (hn : n ≤ 9223372036854775807) (hd : d ≤ 9223372036854775807) (hP : yJ w) :
 Calls Tryz.prog 142 #[.int .i64 n, .int .i64 d] w fun e w' => e = .returned (.tuple #[.agg (zAt n d).cells, .int .i64 (zAr n d)]) ∧ Below w.heap.size w w' := by
 by_cases hok : n < 1 ∨ 1000000000 < n ∨ d < 1 ∨ 1000000000 < d
 ·
  have hE : zAr n d = 1 := if_pos hok;have hV : zAt n d = vc0 := by unfold zAt xS; rw [if_pos hok]; rfl
  rw [hE, hV];have HBL := hid ((Below.refl w.heap.size w).alloc (Nat.le_refl _) (.cells vc0.cells 53));clear hE hV hP;by_cases h0 : n < 1
  ·
   have b0 : (n : Int) < 1 := by omega
   clear hok h0;exact m55
  by_cases h1 : 1000000000 < n
  ·
   have b0 : ¬ (n : Int) < 1 := by omega
   have b1 : (1000000000 : Int) < n := by omega
   clear hok h0 h1;exact m55
  by_cases h2 : d < 1
  ·
   have b0 : ¬ (n : Int) < 1 := by omega
   have b1 : ¬ (1000000000 : Int) < n := by omega
   have b2 : (d : Int) < 1 := by omega
   clear hok h0 h1 h2;exact m55
  have b0 : ¬ (n : Int) < 1 := by omega
  have b1 : ¬ (1000000000 : Int) < n := by omega
  have b2 : ¬ (d : Int) < 1 := by omega
  have b3 : (1000000000 : Int) < d := by omega
  clear hok h0 h1 h2;exact m55
 have hn1 : 1 ≤ n := by omega
 have hn2 : n ≤ 1000000000 := by omega
 have hd1 : 1 ≤ d := by omega
 have hd2 : d ≤ 1000000000 := by omega
 have b0 : ¬ (n : Int) < 1 := by omega
 have b1 : ¬ (1000000000 : Int) < n := by omega
 have b2 : ¬ (d : Int) < 1 := by omega
 have b3 : ¬ (1000000000 : Int) < d := by omega
 have g0 : w.cell? ⟨3, 0, none⟩ = some (.int .i64 2) := hP 0 (by omega);have g1 : w.cell? ⟨3, 1, none⟩ = some (.int .i64 3) := hP 1 (by omega);have g2 : w.cell? ⟨3, 2, none⟩ = some (.int .i64 5) := hP 2 (by omega);have g3 : w.cell? ⟨3, 3, none⟩ = some (.int .i64 7) := hP 3 (by omega);have g4 : w.cell? ⟨3, 4, none⟩ = some (.int .i64 11) := hP 4 (by omega);have g5 : w.cell? ⟨3, 5, none⟩ = some (.int .i64 13) := hP 5 (by omega);have hgl : 3 < w.heap.size := World.block_lt_of_cell? w _ g0;clear hok;go_enter Tryz.func142, Tryz.ntmps142
 go_wp2
 go_loopw [0, 1, 25] (fun sn sd si wx => ∃ k : Nat, k ≤ 6 ∧ sn = .int .i64 (zm n d k).1 ∧ sd = .int .i64 (zm n d k).2.1 ∧ si = .int .i64 k ∧ Hid (Below w.heap.size w wx) ∧ Hid (Blk wx w.heap.size 53 vc0.cells) ∧ Hid (Blk wx (w.heap.size + 1) 53 (zm n d k).2.2.cells)) (fun _ _ i _ => 6 - (zD i).toNat)
 case atStart => exact ⟨0, by omega, rfl, rfl, rfl, ((Below.refl _ _).alloc (Nat.le_refl _) _).alloc (by simp) _, (Blk.new w 53 vc0.cells).alloc _, zBN w _ 53 vc0.cells _ rfl⟩
 case round =>
  obtain ⟨k, hk, rfl, rfl, rfl, HB, HZ, HV⟩ := hrel;by_cases hlt : k < 6
  ·
   have hix := zI5 k hlt;obtain ⟨p2, p13⟩ := qC k;obtain ⟨a1, a2, a3, a4⟩ := zCb n d k hn1 hd1;have hat := zEj n d k k (Nat.le_refl _) hlt;have HSU := hid (j6 n d k);generalize hpv : zm n d k = R at *;obtain ⟨a, b, v⟩ := R;simp only at a1 a2 a3 a4 hat HSU HV ⊢;generalize zr k = p at *;have hp0 : ¬ (p : Int) = 0 := by omega
   have hpb : ((p : Int) == 0) = false := by rw [beq_eq_false_iff_ne]; omega
   clear hpv;have HS0 := hid (qD p a a1 (by omega));have HS1 := hid (qD p b a3 (by omega))
   have HV0 : Hid (Blk wr (w.heap.size + 1) 53 (v.put k ((0 : Nat) : Int)).cells) := by
    have := HV.out;rw [← zFQ v k hlt, hat] at this;exact this
   have hai : (a : Int) ≤ 1000000000 := by omega
   have hbi : (b : Int) ≤ 1000000000 := by omega
   go_wp2
   exact m12
  exact m24
open Go.RowKit Go.Deep
def j7 (ts : List Tok) : Prop := ∀ t ∈ ts, t.n ≤ 9999999
theorem j7.has {s : List UInt8} {ts r : List Tok} (h : j7 ts) (e : yv s ts = some r) : j7 r := by
 exact zOo
theorem j7.num {ts r : List Tok} {n : Nat} (h : j7 ts) (e : yX ts = .ok n r) : j7 r ∧ n ≤ 9999999 := by
 cases ts with
 | nil => cases e
 | cons t l =>
  simp only [yX] at e;split at e
  · injection e with e1 e2; subst e1 e2; exact ⟨fun u hu => h u (List.mem_cons_of_mem _ hu), h t (List.mem_cons_self ..)⟩
  cases e
theorem vA (W : World) (g en : Nat) (x : Rc) (ts : List Tok) (s : List UInt8) (hs : s ≠ []) (q : Option (List Tok)) (hq : yv s ts = q) (h : zU W g en x ts) :
 Calls Tryz.prog 106 #[.pointer (some ⟨g, 0, none⟩), str s] W fun e w' => e = .returned (.bool q.isSome) ∧ zH g W w' ∧ zU w' g en x (q.getD ts) := by
 have := zId W g en x ts s hs h
 rwa [hq] at this
theorem zZ (W : World) (g en : Nat) (x : Rc) (ts : List Tok) (q : Rs Nat) (hq : yX ts = q) (h : zU W g en x ts) :
 Calls Tryz.prog 61 #[.pointer (some ⟨g, 0, none⟩)] W (yU W g en x (fun n : Nat => .int .i64 n) q) := hq ▸ zHf W g en x ts h
theorem j7.wants {l : List (List UInt8)} {ts r : List Tok} {u : Unit} (h : j7 ts) (e : zb l ts = .ok u r) : j7 r := by
 exact zOh
theorem zE2 (s : List UInt8) (ts : List Tok) : zb [s] ts = jM s ts := by
 rcases hq : yv s ts with _ | r
 · rw [zBd hq]; simp only [jM, hq]
 rw [zBo hq]; simp only [jM, hq, zb]
theorem zCQ {ts : List Tok} (h : yv zEO ts = none) : vL ts = (yX ts).bind fun n r => (zb [zAy] r).bind fun _ r => (yX r).bind fun d r => match xS n d with | some v => .ok v r | none => .err ts 9 := by
 simp only [zE2, vL, h];rfl
theorem zCh {m : Nat} {v : Vc} {ts r : List Tok} (h : yv kh ts = some r) : v9 m v ts = .ok v r := by
 cases m <;> simp only [v9, h]
theorem zGz {v : Vc} {ts : List Tok} (h : yv kh ts = none) : v9 0 v ts = .err ts 10 := by simp only [v9, h]
theorem zEu {m : Nat} {v : Vc} {ts r : List Tok} (h : yv kh ts = none) (h2 : yv zAE ts = some r) : v9 (m + 1) v ts = (yX r).bind fun n r' => v9 m (v.put (5 - m) (-(n : Int))) r' := by simp only [v9, h, h2]
theorem zFV {m : Nat} {v : Vc} {ts : List Tok} (h : yv kh ts = none) (h2 : yv zAE ts = none) : v9 (m + 1) v ts = (yX ts).bind fun n r' => v9 m (v.put (5 - m) (n : Int)) r' := by simp only [v9, h, h2]
theorem zLv {W : World} {g k : Nat} {v : Vc} (h : Blk W g 53 v.cells) (hk : k < 6) (x : Int) : Blk (W.setCell ⟨g, k, none⟩ (.int .i64 x)) g 53 (v.put k x).cells := by
 have := h.set_ k (.int .i64 x)
 rwa [zFw _ _ hk] at this
structure zAu (W : World) (g en : Nat) (x : Rc) (r : List Tok) (v : Vc) (wx : World) : Prop where
 only : zH g W wx
 tk : zU wx g en x r
 z : Blk wx W.heap.size 53 vc0.cells
 vec : Blk wx (W.heap.size + 1) 53 v.cells
 num : j7 r
 lt : g < W.heap.size
theorem zAu.on {W : World} {g en : Nat} {x : Rc} {r r' : List Tok} {v : Vc} {wx w1 : World} (h : zAu W g en x r v wx) (o : zH g wx w1) (t : zU w1 g en x r') (n : j7 r') : zAu W g en x r' v w1 :=
 ⟨h.only.trans o, t, o.blk h.z (by have := h.lt; omega), o.blk h.vec (by have := h.lt; omega), n, h.lt⟩
theorem zU.far {W : World} {g en : Nat} {x : Rc} {r : List Tok} (h : zU W g en x r) {b : Nat} (hb : g < b) (i : Nat) (v : Value) : zU (W.setCell ⟨b, i, none⟩ v) g en x r := by
 obtain ⟨A, c, h1, h2, h3⟩ := h;exact ⟨A, c, h1.far (p := ⟨b, i, none⟩) (by show g ≠ b; omega) v, h2.setCell (p := ⟨b, i, none⟩) (by show g - 1 ≤ b; omega) v, h3⟩
theorem zH.far {g : Nat} {W wx : World} (h : zH g W wx) {b : Nat} (hb : W.heap.size ≤ b) (i : Nat) (v : Value) : zH g W (wx.setCell ⟨b, i, none⟩ v) :=
 ⟨h.os, h.tape, h.output, by simpa [World.setCell] using h.size, fun k hk1 hk2 => by
  rw [heap_setCell_other _ ⟨b, i, none⟩ _ _ (by show k ≠ b; omega)];exact h.block k hk1 hk2⟩
theorem zAu.put {W : World} {g en : Nat} {x : Rc} {r : List Tok} {v : Vc} {wx : World} (h : zAu W g en x r v wx) {k : Nat} (hk : k < 6) (y : Int) : zAu W g en x r (v.put k y) (wx.setCell ⟨W.heap.size + 1, k, none⟩ (.int .i64 y)) := by
 have hl := h.lt;exact ⟨h.only.far (by omega) _ _, h.tk.far (by omega) _ _, h.z.far (p := ⟨W.heap.size + 1, k, none⟩) (by show W.heap.size ≠ W.heap.size + 1; omega) _, zLv h.vec hk y, h.num, hl⟩
theorem yJ.only {W : World} {g en : Nat} {x : Rc} {r : List Tok} {v : Vc} {wx : World} (h : yJ W ∧ 3 < g) (k : zAu W g en x r v wx) : yJ wx := fun j hj => by
 rw [k.only.cell (p := ⟨3, j, none⟩) (Nat.ne_of_lt h.2) (World.block_lt_of_cell? W _ (h.1 j hj))];exact h.1 j hj
theorem zGv {g b : Nat} {W wx w' : World} (h : zH g W wx) (k : wx.grownBy w' (some b)) (hb : W.heap.size ≤ b) : zH g W w' :=
 ⟨k.os.trans h.os, k.tape.trans h.tape, k.output.trans h.output, Nat.le_trans h.size k.size, fun i hi hl => (k.block i (by have := h.size; omega) (by intro e; injection e with e; omega)).trans (h.block i hi hl)⟩
theorem zKF {W w' : World} {g en : Nat} {x : Rc} {r : List Tok} {b : Nat} (h : zU W g en x r) (k : W.grownBy w' (some b)) (hb : g < b) : zU w' g en x r := by
 have hl := h.lt;obtain ⟨A, c, h1, h2, h3⟩ := h;exact ⟨A, c, h1.grown k (by intro e; injection e with e; omega), h2.grown k (by omega) (fun i e => by injection e with e; omega), h3⟩
theorem zAu.swapped {W : World} {g en : Nat} {x : Rc} {r : List Tok} {v v' : Vc} {wx w' : World} (h : zAu W g en x r v wx) (hb : Blk w' (W.heap.size + 1) 53 v'.cells) (hg : wx.grownBy w' (some (W.heap.size + 1))) : zAu W g en x r v' w' := by
 have hl := h.lt;exact ⟨zGv h.only hg (by omega), zKF h.tk hg (by omega), h.z.grown hg (by intro e; injection e with e; omega), hb, h.num, hl⟩
theorem zAu.result {W : World} {g en : Nat} {x : Rc} {r : List Tok} {v : Vc} {wx w' : World} (h : zAu W g en x r v wx) (hg : wx.grownBy w' (some W.heap.size)) : zH g W w' ∧ zU w' g en x r :=
 ⟨zGv h.only hg (Nat.le_refl _), zKF h.tk hg h.lt⟩
theorem qx (v : Vc) : (#[.int .i64 v.a, .int .i64 v.b, .int .i64 v.c, .int .i64 v.d, .int .i64 v.e, .int .i64 v.f] : Array Value).all (·.oneCell') = true := by simp [Value.oneCell']
theorem zEH (w : World) (n d : Nat) (hn : n ≤ 9223372036854775807) (hd : d ≤ 9223372036854775807) (hP : yJ w) (v : Vc) (k : Int) (hv : zAt n d = v) (hk : zAr n d = k) :
 Calls Tryz.prog 142 #[.int .i64 n, .int .i64 d] w fun e w' => e = .returned (.tuple #[.agg #[.int .i64 v.a, .int .i64 v.b, .int .i64 v.c, .int .i64 v.d, .int .i64 v.e, .int .i64 v.f], .int .i64 k]) ∧ Below w.heap.size w w' := by
 subst hv hk;exact zIn w n d hn hd hP
theorem zAu.start {W : World} {g en : Nat} {x : Rc} {r : List Tok} (h : zU W g en x r) (n : j7 r) : zAu W g en x r vc0 ((W.alloc (.cells vc0.cells 53)).alloc (.cells vc0.cells 53)) :=
 ⟨((zH.refl g W).alloc _).alloc _, (h.alloc _).alloc _, (Blk.new W _ _).alloc _, zBN W _ _ _ _ rfl, n, h.lt⟩
theorem zAu.done {W : World} {g en : Nat} {x : Rc} {r : List Tok} {v : Vc} {wx : World} (h : zAu W g en x r v wx) (b0 b1 b2 b3 b4 b5 : Value) :
 zH g W ((((((wx.setCell ⟨W.heap.size, 0, none⟩ b0).setCell ⟨W.heap.size, 1, none⟩ b1).setCell ⟨W.heap.size, 2, none⟩ b2).setCell ⟨W.heap.size, 3, none⟩ b3).setCell ⟨W.heap.size, 4, none⟩ b4).setCell ⟨W.heap.size, 5, none⟩ b5) ∧
 zU ((((((wx.setCell ⟨W.heap.size, 0, none⟩ b0).setCell ⟨W.heap.size, 1, none⟩ b1).setCell ⟨W.heap.size, 2, none⟩ b2).setCell ⟨W.heap.size, 3, none⟩ b3).setCell ⟨W.heap.size, 4, none⟩ b4).setCell ⟨W.heap.size, 5, none⟩ b5) g en x r := by
 have hl := h.lt
 exact ⟨(((((h.only.far (Nat.le_refl _) 0 b0).far (Nat.le_refl _) 1 b1).far (Nat.le_refl _) 2 b2).far (Nat.le_refl _) 3 b3).far (Nat.le_refl _) 4 b4).far (Nat.le_refl _) 5 b5,
  (((((h.tk.far hl 0 b0).far hl 1 b1).far hl 2 b2).far hl 3 b3).far hl 4 b4).far hl 5 b5⟩
theorem zBI (W : World) (g en : Nat) (x : Rc) (ts : List Tok) (h : zU W g en x ts) (hN : j7 ts) (hP : yJ W) (hg : 3 < g) :
 Calls Tryz.prog 107 #[.pointer (some ⟨g, 0, none⟩)] W (yU W g en x (fun v : Vc => .agg v.cells) (vL ts)) := by
 have HI := hid (zAu.start h hN);have HNO := hid hN;have HPR := hid (And.intro hP hg);have hlg := h.lt;clear h hN hP;rcases hq0 : yv zEO ts with _ | r0
 ·
  have HH := hid fun w t => vA w g en x ts [91] (by decide) none hq0 t
  simp only [Option.isSome_none, Option.getD_none] at HH;have HIV := hid (zCQ hq0);clear hq0;have tk1 := hid trivial;rcases hq1 : yX ts with ⟨n, r1⟩ | ⟨r1, k⟩
  ·
   have H1 := hid fun w t => zZ w g en x ts _ hq1 t
   have hn9 := (HNO.out.num hq1).2;have HN1 := hid (HNO.out.num hq1).1;rw [hq1] at HIV;simp only [Rs.bind] at HIV;clear hq1;rcases hq2 : zb [zAy] r1 with ⟨u, r2⟩ | ⟨r2, k⟩
   ·
    have H2 := hid fun w t => zAB w g en x r1 [47] (by decide) _ hq2 t
    have HN2 := hid (HN1.out.wants hq2);rw [hq2] at HIV;simp only [Rs.bind] at HIV;clear hq2;rcases hq3 : yX r2 with ⟨d, r3⟩ | ⟨r3, k⟩
    ·
     have H3 := hid fun w t => zZ w g en x r2 _ hq3 t
     have hd9 := (HN2.out.num hq3).2;have HN3 := hid (HN2.out.num hq3).1;rw [hq3] at HIV;simp only [Rs.bind] at HIV;clear hq3;rcases hq4 : xS n d with _ | v
     ·
      have HE0 : ∃ k : Int, zAr n d = k ∧ (k == 0) = false := by
       unfold zAr;rw [hq4];by_cases hc : n < 1 ∨ 1000000000 < n ∨ d < 1 ∨ 1000000000 < d
       · rw [if_pos hc]; exact ⟨1, rfl, by decide⟩
       rw [if_neg hc]; exact ⟨9, rfl, by decide⟩
      obtain ⟨k, hk, hk0⟩ := HE0;have HE := hid hk;have HV : Hid (zAt n d = vc0) := by show _ = _; unfold zAt; rw [hq4]; rfl
      rw [hq4] at HIV;simp only at HIV;clear hq4 hk;go_enter Tryz.func107, Tryz.ntmps107
      go_wp2_with (first | (go_at_call 106; refine (HH.out _ HI.out.tk).mono ?_; rintro e w1 ⟨rfl, o1, t1⟩; have HI1 := hid (HI.out.on o1 t1 HNO.out); clear o1 t1) | (go_at_call 109; refine (zB4 _ g en x ts HI1.out.tk).mono ?_; rintro e w2 ⟨rfl, rfl⟩) | (have _t := tk1; go_at_call 61; refine (H1.out _ HI1.out.tk).mono ?_; rintro e w3 ⟨o1, rfl, t1⟩; have HI2 := hid (HI1.out.on o1 t1 HN1.out); clear o1 t1 tk1 _t) | (go_at_call 60; refine (H2.out _ HI2.out.tk).mono ?_; rintro e w4 ⟨o1, rfl, t1⟩; have HI3 := hid (HI2.out.on o1 t1 HN2.out); clear o1 t1) | (go_at_call 61; refine (H3.out _ HI3.out.tk).mono ?_; rintro e w5 ⟨o1, rfl, t1⟩; have HI4 := hid (HI3.out.on o1 t1 HN3.out); clear o1 t1) | (go_at_call 142; refine (zEH _ n d (by omega) (by omega) (yJ.only HPR.out HI4.out) _ _ HV.out HE.out).mono ?_; rintro e w6 ⟨rfl, b6⟩; have HA1 := hid (HI4.out.on (zH.of_below b6) (HI4.out.tk.below b6) HI4.out.num); clear b6) | (refine zI rfl 53 (.tmp 3) (.tmp 41) rfl _ _ rfl rfl _ _ HA1.out.vec zR rfl (qx _) ?_; intro w7 B7 q7 s7; have HA2 := hid (HA1.out.swapped B7 q7); clear B7 q7; replace s7 := hid s7) | (refine ju rfl 53 (.tmp 3) rfl _ rfl _ _ _ HA2.out.vec Tryz.underlying53 rfl zR ?_) | (refine zI rfl 53 (.tmp 2) (.tmp 48) rfl _ _ rfl rfl _ _ HA2.out.z zR rfl (qx _) ?_; intro w8 B8 q8 s8; replace B8 := hid B8; replace q8 := hid q8; replace s8 := hid s8))
      refine ⟨rfl, ?_⟩;rw [HIV.out];exact yU.err HA2.out.only
     have HE : Hid (zAr n d = 0) := by
      show _ = _
      have hc : ¬ (n < 1 ∨ 1000000000 < n ∨ d < 1 ∨ 1000000000 < d) := by
       intro hc;unfold xS at hq4;rw [if_pos hc] at hq4;cases hq4
      unfold zAr;rw [if_neg hc, hq4];rfl
     have HV : Hid (zAt n d = v) := by show _ = _; unfold zAt; rw [hq4]; rfl
     rw [hq4] at HIV;simp only at HIV;clear hq4;go_enter Tryz.func107, Tryz.ntmps107
     go_wp2_with (first | (go_at_call 106; refine (HH.out _ HI.out.tk).mono ?_; rintro e w1 ⟨rfl, o1, t1⟩; have HI1 := hid (HI.out.on o1 t1 HNO.out); clear o1 t1) | (go_at_call 109; refine (zB4 _ g en x ts HI1.out.tk).mono ?_; rintro e w2 ⟨rfl, rfl⟩) | (have _t := tk1; go_at_call 61; refine (H1.out _ HI1.out.tk).mono ?_; rintro e w3 ⟨o1, rfl, t1⟩; have HI2 := hid (HI1.out.on o1 t1 HN1.out); clear o1 t1 tk1 _t) | (go_at_call 60; refine (H2.out _ HI2.out.tk).mono ?_; rintro e w4 ⟨o1, rfl, t1⟩; have HI3 := hid (HI2.out.on o1 t1 HN2.out); clear o1 t1) | (go_at_call 61; refine (H3.out _ HI3.out.tk).mono ?_; rintro e w5 ⟨o1, rfl, t1⟩; have HI4 := hid (HI3.out.on o1 t1 HN3.out); clear o1 t1) | (go_at_call 142; refine (zEH _ n d (by omega) (by omega) (yJ.only HPR.out HI4.out) _ _ HV.out HE.out).mono ?_; rintro e w6 ⟨rfl, b6⟩; have HA1 := hid (HI4.out.on (zH.of_below b6) (HI4.out.tk.below b6) HI4.out.num); clear b6) | (refine zI rfl 53 (.tmp 3) (.tmp 41) rfl _ _ rfl rfl _ _ HA1.out.vec zR rfl (qx _) ?_; intro w7 B7 q7 s7; have HA2 := hid (HA1.out.swapped B7 q7); clear B7 q7; replace s7 := hid s7) | (refine ju rfl 53 (.tmp 3) rfl _ rfl _ _ _ HA2.out.vec Tryz.underlying53 rfl zR ?_) | (refine zI rfl 53 (.tmp 2) (.tmp 48) rfl _ _ rfl rfl _ _ HA2.out.z zR rfl (qx _) ?_; intro w8 B8 q8 s8; replace B8 := hid B8; replace q8 := hid q8; replace s8 := hid s8))
     refine bodyPost_ret (yN rfl _ ⟨W.heap.size, 0, none⟩ rfl _ Tryz.underlying53 rfl _ v.cells zR (zO B8.out)) rfl ?_;rw [HIV.out];exact yU.ok (val := fun v : Vc => .agg v.cells) (HA2.out.result q8.out).1 (HA2.out.result q8.out).2
    have H3 := hid fun w t => zZ w g en x r2 _ hq3 t
    rw [hq3] at HIV;simp only [Rs.bind] at HIV;clear hq3;go_enter Tryz.func107, Tryz.ntmps107
    go_wp2_with (first | (go_at_call 106; refine (HH.out _ HI.out.tk).mono ?_; rintro e w1 ⟨rfl, o1, t1⟩; have HI1 := hid (HI.out.on o1 t1 HNO.out); clear o1 t1) | (go_at_call 109; refine (zB4 _ g en x ts HI1.out.tk).mono ?_; rintro e w2 ⟨rfl, rfl⟩) | (have _t := tk1; go_at_call 61; refine (H1.out _ HI1.out.tk).mono ?_; rintro e w3 ⟨o1, rfl, t1⟩; have HI2 := hid (HI1.out.on o1 t1 HN1.out); clear o1 t1 tk1 _t) | (go_at_call 60; refine (H2.out _ HI2.out.tk).mono ?_; rintro e w4 ⟨o1, rfl, t1⟩; have HI3 := hid (HI2.out.on o1 t1 HN2.out); clear o1 t1) | (go_at_call 61; refine (H3.out _ HI3.out.tk).mono ?_; rintro e w5 ⟨o1, rfl⟩; replace o1 := hid o1))
    refine ⟨rfl, ?_⟩;rw [HIV.out];exact yU.err (HI3.out.only.trans o1.out)
   have H2 := hid fun w t => zAB w g en x r1 [47] (by decide) _ hq2 t
   rw [hq2] at HIV;simp only [Rs.bind] at HIV;clear hq2;go_enter Tryz.func107, Tryz.ntmps107
   go_wp2_with (first | (go_at_call 106; refine (HH.out _ HI.out.tk).mono ?_; rintro e w1 ⟨rfl, o1, t1⟩; have HI1 := hid (HI.out.on o1 t1 HNO.out); clear o1 t1) | (go_at_call 109; refine (zB4 _ g en x ts HI1.out.tk).mono ?_; rintro e w2 ⟨rfl, rfl⟩) | (have _t := tk1; go_at_call 61; refine (H1.out _ HI1.out.tk).mono ?_; rintro e w3 ⟨o1, rfl, t1⟩; have HI2 := hid (HI1.out.on o1 t1 HN1.out); clear o1 t1 tk1 _t) | (go_at_call 60; refine (H2.out _ HI2.out.tk).mono ?_; rintro e w4 ⟨o1, rfl⟩; replace o1 := hid o1))
   refine ⟨rfl, ?_⟩;rw [HIV.out];exact yU.err (HI2.out.only.trans o1.out)
  have H1 := hid fun w t => zZ w g en x ts _ hq1 t
  rw [hq1] at HIV;simp only [Rs.bind] at HIV;clear hq1;go_enter Tryz.func107, Tryz.ntmps107
  go_wp2_with (first | (go_at_call 106; refine (HH.out _ HI.out.tk).mono ?_; rintro e w1 ⟨rfl, o1, t1⟩; have HI1 := hid (HI.out.on o1 t1 HNO.out); clear o1 t1) | (go_at_call 109; refine (zB4 _ g en x ts HI1.out.tk).mono ?_; rintro e w2 ⟨rfl, rfl⟩) | (have _t := tk1; go_at_call 61; refine (H1.out _ HI1.out.tk).mono ?_; rintro e w3 ⟨o1, rfl⟩; replace o1 := hid o1; clear tk1 _t))
  refine ⟨rfl, ?_⟩;rw [HIV.out];exact yU.err (HI1.out.only.trans o1.out)
 have hI : vL ts = v9 6 vc0 r0 := by unfold vL; rw [hq0]
 have HH := hid fun w t => vA w g en x ts [91] (by decide) (some r0) hq0 t
 simp only [Option.isSome_some, Option.getD_some] at HH;have HN0 := hid (HNO.out.has hq0);have HIV := hid hI;clear hq0 hI;go_enter Tryz.func107, Tryz.ntmps107
 go_wp2_with (first | (go_at_call 106; refine (HH.out _ HI.out.tk).mono ?_; rintro e w1 ⟨rfl, o1, t1⟩; have HI1 := hid (HI.out.on o1 t1 HN0.out); clear o1 t1))
 go_loopw [4, 5] (fun sj _ wx => ∃ (j : Nat) (r : List Tok) (v : Vc), j ≤ 6 ∧ sj = .int .i64 j ∧ Hid (zAu W g en x r v wx) ∧ Hid (vL ts = v9 (6 - j) v r)) (fun sj _ _ => 7 - (zD sj).toNat)
 case atStart => exact ⟨0, r0, vc0, by omega, rfl, HI1, HIV⟩
 case round =>
  obtain ⟨j, r, v, hj, rfl, HA, HB⟩ := hrel;rcases hq1 : yv kh r with _ | r1
  ·
   have H1 := hid fun w t => vA w g en x r [93] (by decide) none hq1 t
   simp only [Option.isSome_none, Option.getD_none] at H1;have HQ1 := hid hq1;clear hq1;by_cases h6 : j = 6
   ·
    subst h6;rw [show 6 - 6 = 0 from rfl, zGz HQ1.out] at HB;go_wp2_with (first | (go_at_call 106; refine (H1.out _ HA.out.tk).mono ?_; rintro e w1 ⟨rfl, o1, t1⟩; have HA1 := hid (HA.out.on o1 t1 HA.out.num); clear o1 t1) | (go_at_call 63; refine (ky _ g en x r 10 HA1.out.tk).mono ?_; rintro e w2 ⟨rfl, rfl⟩))
    refine ⟨rfl, ?_⟩;rw [HB.out];exact yU.err HA1.out.only
   have hj6 : ((j : Int) == 6) = false := by rw [beq_eq_false_iff_ne]; omega
   have hj5 : j < 6 := by omega
   have hm : 6 - j = (5 - j) + 1 := by omega
   have hm5 : 5 - (5 - j) = j := by omega
   clear h6;rcases hq2 : yv zAE r with _ | r2
   ·
    rw [hm, zFV HQ1.out hq2, hm5] at HB;have H2 := hid fun w t => vA w g en x r [45] (by decide) none hq2 t
    simp only [Option.isSome_none, Option.getD_none] at H2;have HN2 := hid HA.out.num;clear hq2;rcases hq3 : yX r with ⟨n, r3⟩ | ⟨r3, k⟩
    ·
     have H3 := hid fun w t => zZ w g en x r _ hq3 t
     have hn9 := (HN2.out.num hq3).2;have HN3 := hid (HN2.out.num hq3).1;rw [hq3] at HB;simp only [Rs.bind] at HB;have hni : (n : Int) ≤ 9999999 := by omega
     clear hq3;go_wp2_with (first | (have _t := H1; go_at_call 106; refine (H1.out _ HA.out.tk).mono ?_; rintro e w1 ⟨rfl, o1, t1⟩; have HA1 := hid (HA.out.on o1 t1 HA.out.num); clear o1 t1 H1 _t) | (go_at_call 106; refine (H2.out _ HA1.out.tk).mono ?_; rintro e w2 ⟨rfl, o1, t1⟩; have HA2 := hid (HA1.out.on o1 t1 HN2.out); clear o1 t1) | (go_at_call 61; refine (H3.out _ HA2.out.tk).mono ?_; rintro e w3 ⟨o1, rfl, t1⟩; have HA3 := hid (HA2.out.on o1 t1 HN3.out); clear o1 t1; have cj := HA3.out.vec.cell j; rw [Vc.cell _ j hj5] at cj; have fj := HA3.out.vec.frozen j))
     go_roundw
     case rel => exact ⟨j + 1, r3, v.put j (n : Int), by omega, by go_num, by first | exact HA3.out.put hj5 (n : Int) | (rw [show (1 : Int) * (n : Int) = (n : Int) by omega]; exact HA3.out.put hj5 (n : Int)), by rw [show 6 - (j + 1) = 5 - j by omega]; exact HB⟩
     case measure => simp [zD]; omega
    have H3 := hid fun w t => zZ w g en x r _ hq3 t
    exact m67
   rw [hm, zEu HQ1.out hq2, hm5] at HB;have H2 := hid fun w t => vA w g en x r [45] (by decide) (some r2) hq2 t
   simp only [Option.isSome_some, Option.getD_some] at H2;have HN2 := hid (HA.out.num.has hq2);clear hq2;rcases hq3 : yX r2 with ⟨n, r3⟩ | ⟨r3, k⟩
   ·
    have H3 := hid fun w t => zZ w g en x r2 _ hq3 t
    have hn9 := (HN2.out.num hq3).2;have HN3 := hid (HN2.out.num hq3).1;rw [hq3] at HB;simp only [Rs.bind] at HB;have hni : (n : Int) ≤ 9999999 := by omega
    clear hq3;go_wp2_with (first | (have _t := H1; go_at_call 106; refine (H1.out _ HA.out.tk).mono ?_; rintro e w1 ⟨rfl, o1, t1⟩; have HA1 := hid (HA.out.on o1 t1 HA.out.num); clear o1 t1 H1 _t) | (go_at_call 106; refine (H2.out _ HA1.out.tk).mono ?_; rintro e w2 ⟨rfl, o1, t1⟩; have HA2 := hid (HA1.out.on o1 t1 HN2.out); clear o1 t1) | (go_at_call 61; refine (H3.out _ HA2.out.tk).mono ?_; rintro e w3 ⟨o1, rfl, t1⟩; have HA3 := hid (HA2.out.on o1 t1 HN3.out); clear o1 t1; have cj := HA3.out.vec.cell j; rw [Vc.cell _ j hj5] at cj; have fj := HA3.out.vec.frozen j))
    go_roundw
    case rel => exact ⟨j + 1, r3, v.put j (-(n : Int)), by omega, by go_num, by first | exact HA3.out.put hj5 (-(n : Int)) | (rw [show (-1 : Int) * (n : Int) = -(n : Int) by omega]; exact HA3.out.put hj5 (-(n : Int))), by rw [show 6 - (j + 1) = 5 - j by omega]; exact HB⟩
    case measure => simp [zD]; omega
   have H3 := hid fun w t => zZ w g en x r2 _ hq3 t
   exact m67
  (have H1 := hid fun w t => vA w g en x r [93] (by decide) (some r1) hq1 t);simp only [Option.isSome_some, Option.getD_some] at H1;have HN1 := hid (HA.out.num.has hq1);rw [zCh hq1] at HB;clear hq1;(go_wp2_with (first | (go_at_call 106; refine (H1.out _ HA.out.tk).mono ?_; rintro e w1 ⟨rfl, o1, t1⟩; have HA1 := hid (HA.out.on o1 t1 HN1.out); clear o1 t1; have c0 := HA1.out.vec.cell 0; have c1 := HA1.out.vec.cell 1; have c2 := HA1.out.vec.cell 2; have c3 := HA1.out.vec.cell 3; have c4 := HA1.out.vec.cell 4; have c5 := HA1.out.vec.cell 5; have z0 := HA1.out.z.cell 0; have z1 := HA1.out.z.cell 1; have z2 := HA1.out.z.cell 2; have z3 := HA1.out.z.cell 3; have z4 := HA1.out.z.cell 4; have z5 := HA1.out.z.cell 5; have f0 := HA1.out.z.frozen 0; have f1 := HA1.out.z.frozen 1; have f2 := HA1.out.z.frozen 2; have f3 := HA1.out.z.frozen 3; have f4 := HA1.out.z.frozen 4; have f5 := HA1.out.z.frozen 5)));refine bodyPost_ret (yN rfl _ ⟨W.heap.size, 0, none⟩ rfl _ Tryz.underlying53 rfl _ v.cells zR (zO (zMy HA1.out.z _ _ _ _ _ _))) rfl ?_;rw [HB.out];exact yU.ok (val := fun v : Vc => .agg v.cells) (HA1.out.done _ _ _ _ _ _).1 (HA1.out.done _ _ _ _ _ _).2
open Go.RowKit Go.Maps Go.WideMaps
def zDA (s : List UInt8) : Lit := .string s
def jE (ns : List (List UInt8)) (k : Nat) : DataW Unit := (List.range k).foldl (fun D i => D.put (zDA (ns.getD i [])) (.lit (.int .i64 i))) (.map [])
theorem v7 (ns : List (List UInt8)) (k : Nat) : jE ns (k + 1) = (jE ns k).put (zDA (ns.getD k [])) (.lit (.int .i64 k)) := by
 simp [jE, List.range_succ, List.foldl_append]
theorem zFr (s : List UInt8) : WideAt.IsKeyLit (zDA s) := trivial
theorem zGL {s t : List UInt8} (h : zDA s = zDA t) : s = t := by injection h
theorem zCx (ns : List (List UInt8)) (k : Nat) : Tidy (jE ns k) := by
 induction k with
 | zero => exact tidy_empty
 | succ k ih => rw [v7]; exact ih.put (zFr _) _
theorem zDh (ns : List (List UInt8)) (k : Nat) (s : List UInt8) : has (jE ns k) (zDA s) = true ↔ ∃ i, i < k ∧ ns.getD i [] = s := by
 induction k with
 | zero => exact Iff.intro (fun h => by cases h) (fun h => by obtain ⟨i, h, _⟩ := h; omega)
 | succ k ih =>
  rw [v7];by_cases h : s = ns.getD k []
  · rw [h, has_put_same (zCx ns k).isMap (zFr _)];exact ⟨fun _ => ⟨k, by omega, rfl⟩, fun _ => rfl⟩
  rw [has_put_other (fun e => h (zGL e)), ih];constructor
  · rintro ⟨i, h1, h2⟩; exact ⟨i, by omega, h2⟩
  rintro ⟨i, h1, h2⟩;refine ⟨i, ?_, h2⟩;rcases Nat.lt_or_ge i k with h3 | h3
  · exact h3
  exact absurd (by rw [show i = k by omega] at h2; exact h2.symm) h
theorem zJb (ns : List (List UInt8)) (k i : Nat) (hi : i < k) (hn : ∀ j, i < j → j < k → ns.getD j [] ≠ ns.getD i []) (z : DataW Unit) : (jE ns k).atKey (zDA (ns.getD i [])) z = .lit (.int .i64 i) := by
 induction k with
 | zero => omega
 | succ k ih =>
  rw [v7];by_cases h : i = k
  · rw [h, atKey_put_same (zCx ns k).isMap (zFr _)]
  rw [atKey_put_other (fun e => hn k (by omega) (by omega) (zGL e).symm)];exact ih (by omega) (fun j h1 h2 => hn j h1 (by omega))
def zBH (w : World) (g : Nat) (ns : List (List UInt8)) (k : Nat) : Prop := w.ownsMap Tryz.prog 9 (plainElem (H := Unit) Tryz.prog 3) g k (jE ns k)
theorem zBH.up {w w' : World} {g : Nat} {ns : List (List UInt8)} {k : Nat} (h : zBH w g ns k) (hb : Below w.heap.size w w') : zBH w' g ns k :=
 World.ownsMap.kept (row := none) h (xm hb none) (by simp)
theorem zMB : Keyed Tryz.prog 9 := string_keyed Tryz.underlying9
theorem zLO (w : World) : (zeroValue 3).run Tryz.prog w = .ok (.int .i64 0) w := by kernel_rfl
theorem zFh (s : List UInt8) (hs : s.length ≤ 9223372036854775807) : keyOf Tryz.prog 9 (str s) = some (zDA s) := by
 have := keyOf_string_mk Tryz.underlying9 (s := ⟨s.toArray⟩) (by simpa [ByteArray.size, maxLen] using hs);exact this
def xk (w : World) (g : Nat) (ns : List (List UInt8)) : Prop := zBH w g ns ns.length ∧ ns.Nodup
theorem zF5 (ns : List (List UInt8)) (s : List UInt8) (k : Nat) (hk : k ≤ ns.length) : jE (ns ++ [s]) k = jE ns k := by
 induction k with
 | zero => rfl
 | succ k ih =>
  rw [v7, v7, ih (by omega)];congr 2;simp [List.getD_eq_getElem?_getD, List.getElem?_append_left (show k < ns.length by omega)]
theorem zEq {ns : List (List UInt8)} {s : List UInt8} {i : Nat} (h : xY ns s = some i) : i < ns.length ∧ ns.getD i [] = s := by
 unfold xY at h;obtain ⟨h1, h2, _⟩ := List.findIdx?_eq_some_iff_getElem.1 h;refine ⟨h1, ?_⟩;rw [List.getD_eq_getElem?_getD, List.getElem?_eq_getElem h1];simpa using h2
theorem zES {ns : List (List UInt8)} {s : List UInt8} : xY ns s = none ↔ s ∉ ns := by
 unfold xY;rw [List.findIdx?_eq_none_iff];constructor
 · intro h hs; have := h s hs; simp at this
 intro h x hx;by_cases e : x = s
 · exact absurd (e ▸ hx) h
 simpa using e
theorem zIl {ns : List (List UInt8)} {s : List UInt8} : has (jE ns ns.length) (zDA s) = (xY ns s).isSome := by
 rcases hq : xY ns s with _ | i
 · rw [Option.isSome_none, Bool.eq_false_iff];intro h;obtain ⟨i, hi, e⟩ := (zDh _ _ _).1 h;refine zES.1 hq ?_;rw [← e, List.getD_eq_getElem?_getD, List.getElem?_eq_getElem hi];exact List.getElem_mem hi
 obtain ⟨h1, h2⟩ := zEq hq;exact (zDh _ _ _).2 ⟨i, h1, h2⟩
theorem zJP {ns : List (List UInt8)} {s : List UInt8} {i : Nat} (hn : ns.Nodup) (hq : xY ns s = some i) (z : DataW Unit) : (jE ns ns.length).atKey (zDA s) z = .lit (.int .i64 i) := by
 obtain ⟨h1, h2⟩ := zEq hq
 have := zJb ns ns.length i h1 (fun j h3 h4 e => by
  have hp := List.pairwise_iff_getElem.1 hn i j h1 h4 h3;rw [List.getD_eq_getElem?_getD, List.getD_eq_getElem?_getD, List.getElem?_eq_getElem h1, List.getElem?_eq_getElem h4] at e;exact hp e.symm) z
 rwa [h2] at this
theorem xk.kept {w w' : World} {g : Nat} {ns : List (List UInt8)} {row : Option Nat} (h : xk w g ns) (hg : w.grownBy w' row) (hr : row ≠ some g) : xk w' g ns := ⟨World.ownsMap.kept h.1 hg (fun e => hr e.symm), h.2⟩
theorem xk.only {w w' : World} {g b : Nat} {ns : List (List UInt8)} (h : xk w g ns) (o : zH b w w') (hne : b ≠ g) : xk w' g ns :=
 h.kept (row := some b) ⟨o.os, o.tape, o.output, o.size, fun k hk e => o.block k (fun e' => e (by rw [e'])) hk⟩ (by intro e; injection e with e; exact hne e)
theorem xk.up {w w' : World} {g : Nat} {ns : List (List UInt8)} (h : xk w g ns) (hb : Below w.heap.size w w') : xk w' g ns := h.kept (row := none) (xm hb none) (by simp)
theorem qy {w : World} {g : Nat} {ns : List (List UInt8)} (h : xk w g ns) (s : List UInt8) (hs : s.length ≤ 9223372036854775807) (b : Bool) (hb : (xY ns s).isSome = b) :
 ∃ c : Int, ∀ k, (Instr.lookup 66 (.map (some g)) (str s) true).run Tryz.prog (w.drewN k) = .ok (.tuple #[.int .i64 c, .bool b]) (w.drewN k) := by
 subst hb
 have key : ∀ w, xk w g ns → ∃ c : Int, (Instr.lookup 66 (.map (some g)) (str s) true).run Tryz.prog w = .ok (.tuple #[.int .i64 c, .bool (xY ns s).isSome]) w ∧ (jE ns ns.length).atKey (zDA s) (.lit (.int .i64 0)) = .lit (.int .i64 c) := by
  intro w h;obtain ⟨v, ps, hrun, hv⟩ := World.ownsMap.look_ok h.1 zMB Tryz.underlying66 (zLO w) (plainElem_int (H := Unit) Tryz.underlying3 (by decide)) (zFh s hs);obtain ⟨c, rfl, hc, hwc⟩ := plainElem_int_inv Tryz.underlying3 hv;refine ⟨c, by rw [hrun, zIl], ?_⟩;simp only [Prod.mk.injEq] at hc;exact hc.1
 obtain ⟨c, h1, h2⟩ := key w h;refine ⟨c, fun k => ?_⟩;obtain ⟨c', h3, h4⟩ := key (w.drewN k) h;rw [h2] at h4;injection h4 with h4;injection h4 with _ h4;rw [h3, h4]
theorem kX {w : World} {g : Nat} {ns : List (List UInt8)} (h : xk w g ns) (s : List UInt8) (hs : s.length ≤ 9223372036854775807) (i : Nat) (hi : xY ns s = some i) :
 (Instr.lookup 66 (.map (some g)) (str s) false).run Tryz.prog w = .ok (.int .i64 i) w := by
 obtain ⟨c, hrun, hat, hwc⟩ := World.ownsMap.lookup_int h.1 zMB Tryz.underlying66 Tryz.underlying3 (zLO w) (zFh s hs);rw [zJP h.2 hi] at hat;simp at hat;rw [hrun, hat]
open Go.RowKit Go.Deep
theorem zKi (l sub : List UInt8) : -1 ≤ Lib.index l sub := by
 induction l with
 | nil => unfold Lib.index; split <;> omega
 | cons b l ih =>
  unfold Lib.index;split
  · omega
  split
  · omega
  omega
theorem contains_cons (b : UInt8) (l sub : List UInt8) : Lib.contains (b :: l) sub = (sub.isPrefixOf (b :: l) || Lib.contains l sub) := by
 have hg := zKi l sub;unfold Lib.contains;rw [Lib.index];by_cases h : sub.isPrefixOf (b :: l) = true
 · rw [if_pos h, h]; rfl
 rw [if_neg h, show sub.isPrefixOf (b :: l) = false from Bool.eq_false_iff.2 h, Bool.false_or];by_cases h2 : Lib.index l sub = -1
 · rw [if_pos (by simpa using h2), h2]
 rw [if_neg (by simpa using h2), decide_eq_true (by omega), decide_eq_true (by omega)]
theorem zD5 (w t sub : List UInt8) (hw : ∀ y ∈ w, y ≠ 32) : Lib.contains (w ++ t) (32 :: sub) = Lib.contains t (32 :: sub) := by
 induction w with
 | nil => rfl
 | cons b w ih =>
  rw [List.cons_append, contains_cons, ih (fun y hy => hw y (List.mem_cons_of_mem _ hy))];have hb := hw b (List.mem_cons_self ..);rw [show (32 :: sub).isPrefixOf (b :: (w ++ t)) = false by rw [List.isPrefixOf]; simp; intro e; exact absurd e.symm hb, Bool.false_or]
theorem zGe (s w r : List UInt8) (hs : ∀ y ∈ s, y ≠ 32) (hw : ∀ y ∈ w, y ≠ 32) : (s ++ [32]).isPrefixOf (w ++ 32 :: r) = decide (s = w) := by
 induction s generalizing w with
 | nil =>
  cases w with
  | nil => simp [List.isPrefixOf]
  | cons b w =>
   have hb := hw b (List.mem_cons_self ..);simp only [List.nil_append, List.cons_append, List.isPrefixOf];rw [show ((32 : UInt8) == b) = false by rw [beq_eq_false_iff_ne]; exact fun e => hb e.symm];simp
 | cons a s ih =>
  have ha := hs a (List.mem_cons_self ..)
  cases w with
  | nil =>
   simp only [List.nil_append, List.cons_append, List.isPrefixOf];rw [show (a == (32 : UInt8)) = false by rw [beq_eq_false_iff_ne]; exact ha];simp
  | cons b w =>
   simp only [List.cons_append, List.isPrefixOf];rw [ih w (fun y hy => hs y (List.mem_cons_of_mem _ hy)) (fun y hy => hw y (List.mem_cons_of_mem _ hy))];by_cases e : a = b
   · subst e; simp
   rw [show (a == b) = false by rw [beq_eq_false_iff_ne]; exact e];simp [e]
theorem zCV (ws : List (List UInt8)) (s : List UInt8) (hs : ∀ y ∈ s, y ≠ 32) (hw : ∀ w ∈ ws, w ≠ [] ∧ ∀ y ∈ w, y ≠ 32) : Lib.contains (32 :: ws.flatMap (· ++ [32])) (32 :: (s ++ [32])) = decide (s ∈ ws) := by
 induction ws with
 | nil =>
  rw [contains_cons]
  have : (32 :: (s ++ [32])).isPrefixOf [32] = false := by
   simp only [List.isPrefixOf, beq_self_eq_true, Bool.true_and];cases s <;> rfl
  rw [List.flatMap_nil, this];simp [Lib.contains, Lib.index]
 | cons w ws ih =>
  obtain ⟨hn, hy⟩ := hw w (List.mem_cons_self ..);rw [contains_cons, List.flatMap_cons, List.append_assoc, List.singleton_append, zD5 _ _ _ hy, ih (fun w hw' => hw w (List.mem_cons_of_mem _ hw'))];rw [show (32 :: (s ++ [32])).isPrefixOf (32 :: (w ++ 32 :: ws.flatMap (· ++ [32]))) = (s ++ [32]).isPrefixOf (w ++ 32 :: ws.flatMap (· ++ [32])) by simp [List.isPrefixOf], zGe s w _ hs hy];by_cases e : s = w
  · subst e; simp
  simp [e]
def zGD : List UInt8 := [32, 118, 111, 105, 99, 101, 115, 32, 99, 97, 100, 101, 110, 99, 101, 32, 110, 111, 116, 101, 32, 116, 105, 101, 100, 32, 112, 97, 105, 114, 32, 118, 111, 105, 99, 101, 32, 102, 114, 111, 109, 32, 116, 111, 32, 97, 116, 32, 98, 121, 32, 119, 105, 116, 104, 105, 110, 32]
theorem zGW : zGD = 32 :: zi.flatMap (· ++ [32]) := by decide
theorem zK8 : ∀ w ∈ zi, w ≠ [] ∧ ∀ y ∈ w, y ≠ 32 := by decide
theorem zFz (W : World) (m : Int) (s : List UInt8) (hs : ∀ y ∈ s, y ≠ 32) (hm : W.cell? ⟨0, 0, none⟩ = some (.int .i64 m)) (b : Bool) (hb : decide (s ∈ zi) = b) :
 Calls Tryz.prog 24 #[.string ⟨zGD.toArray⟩, .string ⟨(32 :: (s ++ [32])).toArray⟩] W fun e w' => e = .returned (.bool b) ∧ w' = W := by
 have h := Tryz.strings_Contains ⟨zGD.toArray⟩ ⟨(32 :: (s ++ [32])).toArray⟩ m W (by decide) hm;have e : Lib.contains zGD (32 :: (s ++ [32])) = b := by rw [zGW, zCV _ _ hs zK8, hb]
 rw [show Lib.contains (⟨zGD.toArray⟩ : ByteArray).data.toList (⟨(32 :: (s ++ [32])).toArray⟩ : ByteArray).data.toList = b from e] at h;exact h
def vh (ts : List Tok) : Prop := ∀ t ∈ ts, t.n ≤ 9999999 ∧ t.text.length ≤ 8000 ∧ (t.kind = 1 → ∀ y ∈ t.text, y ≠ 32)
theorem vh.num {ts : List Tok} (h : vh ts) : j7 ts := fun t ht => (h t ht).1
def qr (w : World) : Prop := ∃ m : Int, w.cell? ⟨0, 0, none⟩ = some (.int .i64 m)
theorem qr.below {w w' : World} (h : qr w) (hb : Below w.heap.size w w') : qr w' := by
 obtain ⟨m, h⟩ := h;exact ⟨m, (hb.cell (World.block_lt_of_cell? w _ h)).trans h⟩
theorem qr.only {g : Nat} {w w' : World} (h : qr w) (hb : zH g w w') (hg : 0 < g) : qr w' := by
 obtain ⟨m, h⟩ := h;exact ⟨m, (hb.cell (p := ⟨0, 0, none⟩) (Nat.ne_of_lt hg) (World.block_lt_of_cell? w _ h)).trans h⟩
def vR (known : Bool) (ns : List (List UInt8)) (ts : List Tok) : Rs (List UInt8) := (jf ts).bind fun s r => if (xY ns s).isSome = known then .ok s r else .err ts 11
theorem zU.drewN {W : World} {g en : Nat} {x : Rc} {ts : List Tok} (h : zU W g en x ts) (k : Nat) : zU (W.drewN k) g en x ts := h
theorem zH.drewN {g : Nat} {a w : World} (h : zH g a w) (k : Nat) : zH g a (w.drewN k) := ⟨h.os, h.tape, h.output, h.size, h.block⟩
theorem zAC {known : Bool} {ns : List (List UInt8)} {t : Tok} {r : List Tok} (h : ¬ (t.kind = 1 ∧ t.text ∉ zi)) : vR known ns (t :: r) = .err (t :: r) 10 := by simp only [vR, jf, if_neg h, Rs.bind]
theorem zCg {known : Bool} {ns : List (List UInt8)} {t : Tok} {r : List Tok} (h : t.kind = 1 ∧ t.text ∉ zi) : vR known ns (t :: r) = if (xY ns t.text).isSome = known then .ok t.text r else .err (t :: r) 11 := by simp only [vR, jf, if_pos h, Rs.bind]
theorem zGn (W : World) (b : Bool) : Calls Tryz.prog 105 #[.bool b] W fun e w' => e = .returned (.bool (!b)) ∧ w' = W := by
 go_enter Tryz.func105, Tryz.ntmps105
 go_wp2
 go_ret;exact ⟨rfl, rfl⟩
theorem zGh (W : World) (b : Bool) : Calls Tryz.prog 108 #[.bool b] W fun e w' => e = .returned (.bool b) ∧ w' = W := by
 go_enter Tryz.func108, Tryz.ntmps108
 go_wp2
 go_ret;exact ⟨rfl, rfl⟩
theorem zCW (W : World) (g en gm : Nat) (x : Rc) (ts : List Tok) (ns : List (List UInt8)) (hx : x.m = .map (some gm)) (hne : g ≠ gm) (h : zU W g en x ts) (hN : vh ts) (hM : qr W) (hg : 0 < g) (hns : xk W gm ns) :
 Calls Tryz.prog 104 #[.pointer (some ⟨g, 0, none⟩), .func (.func 105) #[] #[]] W (yU W g en x str (vR false ns ts)) := by
 have H := hid h;have HNS := hid hns;have HM := hid hM;have hl := h.lt
 cases ts with
 | nil =>
  have HN := hid (zAR W g en x h);rw [show vR false ns [] = .err [] 10 from rfl];exact zN0
 | cons t r =>
  have HN := hid (qY W g en x t r h);obtain ⟨_, ht8, htw⟩ := hN t (List.mem_cons_self ..);clear h hns hM hN;by_cases hk : t.kind = 1
  ·
   have hk2 : ((t.kind : Int) == 1) = true := by rw [hk]; rfl
   have hk3 : ((t.kind : Int) != 1) = false := by unfold bne; rw [hk2]; rfl
   have hy := htw hk
   have hcat : ((⟨#[32]⟩ : ByteArray) ++ ⟨t.text.toArray⟩) ++ ⟨#[32]⟩ = ⟨(32 :: (t.text ++ [32])).toArray⟩ := by
    apply ByteArray.ext;simp [ByteArray.data_append]
   by_cases hkey : t.text ∈ zi
   · have hq : vR false ns (t :: r) = .err (t :: r) 10 := zAC (fun c => c.2 hkey);exact m50
   have HKY := hid fun W m hm => zFz W m t.text hy hm false (decide_eq_false hkey)
   have hw : vR false ns (t :: r) = if (xY ns t.text).isSome = false then .ok t.text r else .err (t :: r) 11 := zCg ⟨hk, hkey⟩
   have hlen : t.text.length ≤ 9223372036854775807 := by omega
   rcases hs : (xY ns t.text).isSome with _ | _
   ·
    rw [hw, hs, if_pos rfl];have HS := hid hs;clear hk hw hkey hs hy htw;go_enter Tryz.func104, Tryz.ntmps104
    have HSI := hid HS.out;go_wp2_with (first | (go_at_call 62; refine HN.out.mono ?_; rintro e w1 ⟨rfl, b1⟩; have hz := b1.size; obtain ⟨m1, hm1⟩ := (HM.out.below b1).below ((Below.refl w1.heap.size w1).alloc (Nat.le_refl _) (.cells #[.int .i64 t.kind, .int .i64 t.pos, .int .i64 t.n, str t.text] 40)); have HNW := hid ((HNS.out.up b1).up ((Below.refl w1.heap.size w1).alloc (Nat.le_refl _) (.cells #[.int .i64 t.kind, .int .i64 t.pos, .int .i64 t.n, str t.text] 40))); have H1 := hid (H.out.below b1); obtain ⟨A, c, hb, hr, hc⟩ := H1.out; replace b1 := hid b1; replace hm1 := hid hm1; have HB := hid hb; have HR := hid hr; have c0 := hb.cell 0; have f0 := hb.frozen 0; have c2 := hb.cell 2; rw [show (#[Value.slice A (t :: r).length c, .int .i64 en, x.m, x.v, x.n, x.p, x.q] : Array Value)[2]? = some (.map (some gm)) by rw [← hx]; rfl] at c2; have hcl : r.length + 1 ≤ c := (by simpa using hc); have hcz : ¬ (c : Int) < 1 := (by omega); have hgl := hb.lt; have hgn : g ≠ w1.heap.size := (by omega); clear hb hr hc) | (go_at_call 24; refine (HKY.out _ m1 hm1.out).mono ?_; rintro e w2 ⟨rfl, rfl⟩))
    obtain ⟨cv, hlk⟩ := qy HNW.out t.text hlen false HS.out;go_quiet (fail)
    clear hlk;go_wp2_with (first | (go_at_call 105; refine (zGn _ false).mono ?_; rintro e w2 ⟨rfl, rfl⟩))
    all_goals go_ret
    · exact zNX
    exact zNV
   rw [hw, hs, if_neg (by decide)];have HS := hid hs;clear hk hw hkey hs hy htw;go_enter Tryz.func104, Tryz.ntmps104
   have HSI := hid HS.out;go_wp2_with (first | (go_at_call 62; refine HN.out.mono ?_; rintro e w1 ⟨rfl, b1⟩; have hz := b1.size; obtain ⟨m1, hm1⟩ := (HM.out.below b1).below ((Below.refl w1.heap.size w1).alloc (Nat.le_refl _) (.cells #[.int .i64 t.kind, .int .i64 t.pos, .int .i64 t.n, str t.text] 40)); have HNW := hid ((HNS.out.up b1).up ((Below.refl w1.heap.size w1).alloc (Nat.le_refl _) (.cells #[.int .i64 t.kind, .int .i64 t.pos, .int .i64 t.n, str t.text] 40))); have H1 := hid (H.out.below b1); obtain ⟨A, c, hb, hr, hc⟩ := H1.out; replace b1 := hid b1; replace hm1 := hid hm1; have HB := hid hb; have HR := hid hr; have c0 := hb.cell 0; have f0 := hb.frozen 0; have c2 := hb.cell 2; rw [show (#[Value.slice A (t :: r).length c, .int .i64 en, x.m, x.v, x.n, x.p, x.q] : Array Value)[2]? = some (.map (some gm)) by rw [← hx]; rfl] at c2; have hcl : r.length + 1 ≤ c := (by simpa using hc); have hcz : ¬ (c : Int) < 1 := (by omega); have hgl := hb.lt; have hgn : g ≠ w1.heap.size := (by omega); clear hb hr hc) | (go_at_call 24; refine (HKY.out _ m1 hm1.out).mono ?_; rintro e w2 ⟨rfl, rfl⟩))
   obtain ⟨cv, hlk⟩ := qy HNW.out t.text hlen true HS.out;go_quiet (fail)
   clear hlk;go_wp2_with (first | (go_at_call 105; refine (zGn _ true).mono ?_; rintro e w2 ⟨rfl, rfl⟩) | (go_at_call 63; refine (ky _ g en x (t :: r) 11 ((H1.out.alloc _).drewN nq)).mono ?_; rintro e w2 ⟨rfl, rfl⟩))
   exact ⟨rfl, yU.err (((zH.of_below b1.out).alloc _).drewN nq)⟩
  (have hk2 : ((t.kind : Int) == 1) = false := by rw [beq_eq_false_iff_ne]; omega);(have hk3 : ((t.kind : Int) != 1) = true := by unfold bne; rw [hk2]; rfl);have hq : vR false ns (t :: r) = .err (t :: r) 10 := zAC (fun c => hk c.1);exact zNP
theorem k8 (W : World) (g en gm : Nat) (x : Rc) (ts : List Tok) (ns : List (List UInt8)) (hx : x.m = .map (some gm)) (hne : g ≠ gm) (h : zU W g en x ts) (hN : vh ts) (hM : qr W) (hg : 0 < g) (hns : xk W gm ns) :
 Calls Tryz.prog 104 #[.pointer (some ⟨g, 0, none⟩), .func (.func 108) #[] #[]] W (yU W g en x str (vR true ns ts)) := by
 have H := hid h;have HNS := hid hns;have HM := hid hM;have hl := h.lt
 cases ts with
 | nil =>
  have HN := hid (zAR W g en x h);rw [show vR true ns [] = .err [] 10 from rfl];exact zN0
 | cons t r =>
  have HN := hid (qY W g en x t r h);obtain ⟨_, ht8, htw⟩ := hN t (List.mem_cons_self ..);clear h hns hM hN;by_cases hk : t.kind = 1
  ·
   have hk2 : ((t.kind : Int) == 1) = true := by rw [hk]; rfl
   have hk3 : ((t.kind : Int) != 1) = false := by unfold bne; rw [hk2]; rfl
   have hy := htw hk
   have hcat : ((⟨#[32]⟩ : ByteArray) ++ ⟨t.text.toArray⟩) ++ ⟨#[32]⟩ = ⟨(32 :: (t.text ++ [32])).toArray⟩ := by
    apply ByteArray.ext;simp [ByteArray.data_append]
   by_cases hkey : t.text ∈ zi
   · have hq : vR true ns (t :: r) = .err (t :: r) 10 := zAC (fun c => c.2 hkey);exact m50
   have HKY := hid fun W m hm => zFz W m t.text hy hm false (decide_eq_false hkey)
   have hw : vR true ns (t :: r) = if (xY ns t.text).isSome = true then .ok t.text r else .err (t :: r) 11 := zCg ⟨hk, hkey⟩
   have hlen : t.text.length ≤ 9223372036854775807 := by omega
   rcases hs : (xY ns t.text).isSome with _ | _
   ·
    rw [hw, hs, if_neg (by decide)];have HS := hid hs;clear hk hw hkey hs hy htw;go_enter Tryz.func104, Tryz.ntmps104
    have HSI := hid HS.out;go_wp2_with (first | (go_at_call 62; refine HN.out.mono ?_; rintro e w1 ⟨rfl, b1⟩; have hz := b1.size; obtain ⟨m1, hm1⟩ := (HM.out.below b1).below ((Below.refl w1.heap.size w1).alloc (Nat.le_refl _) (.cells #[.int .i64 t.kind, .int .i64 t.pos, .int .i64 t.n, str t.text] 40)); have HNW := hid ((HNS.out.up b1).up ((Below.refl w1.heap.size w1).alloc (Nat.le_refl _) (.cells #[.int .i64 t.kind, .int .i64 t.pos, .int .i64 t.n, str t.text] 40))); have H1 := hid (H.out.below b1); obtain ⟨A, c, hb, hr, hc⟩ := H1.out; replace b1 := hid b1; replace hm1 := hid hm1; have HB := hid hb; have HR := hid hr; have c0 := hb.cell 0; have f0 := hb.frozen 0; have c2 := hb.cell 2; rw [show (#[Value.slice A (t :: r).length c, .int .i64 en, x.m, x.v, x.n, x.p, x.q] : Array Value)[2]? = some (.map (some gm)) by rw [← hx]; rfl] at c2; have hcl : r.length + 1 ≤ c := (by simpa using hc); have hcz : ¬ (c : Int) < 1 := (by omega); have hgl := hb.lt; have hgn : g ≠ w1.heap.size := (by omega); clear hb hr hc) | (go_at_call 24; refine (HKY.out _ m1 hm1.out).mono ?_; rintro e w2 ⟨rfl, rfl⟩))
    obtain ⟨cv, hlk⟩ := qy HNW.out t.text hlen false HS.out;go_quiet (fail)
    clear hlk;go_wp2_with (first | (go_at_call 108; refine (zGh _ false).mono ?_; rintro e w2 ⟨rfl, rfl⟩) | (go_at_call 63; refine (ky _ g en x (t :: r) 11 ((H1.out.alloc _).drewN nq)).mono ?_; rintro e w2 ⟨rfl, rfl⟩))
    exact ⟨rfl, yU.err (((zH.of_below b1.out).alloc _).drewN nq)⟩
   rw [hw, hs, if_pos rfl];have HS := hid hs;clear hk hw hkey hs hy htw;go_enter Tryz.func104, Tryz.ntmps104
   have HSI := hid HS.out;go_wp2_with (first | (go_at_call 62; refine HN.out.mono ?_; rintro e w1 ⟨rfl, b1⟩; have hz := b1.size; obtain ⟨m1, hm1⟩ := (HM.out.below b1).below ((Below.refl w1.heap.size w1).alloc (Nat.le_refl _) (.cells #[.int .i64 t.kind, .int .i64 t.pos, .int .i64 t.n, str t.text] 40)); have HNW := hid ((HNS.out.up b1).up ((Below.refl w1.heap.size w1).alloc (Nat.le_refl _) (.cells #[.int .i64 t.kind, .int .i64 t.pos, .int .i64 t.n, str t.text] 40))); have H1 := hid (H.out.below b1); obtain ⟨A, c, hb, hr, hc⟩ := H1.out; replace b1 := hid b1; replace hm1 := hid hm1; have HB := hid hb; have HR := hid hr; have c0 := hb.cell 0; have f0 := hb.frozen 0; have c2 := hb.cell 2; rw [show (#[Value.slice A (t :: r).length c, .int .i64 en, x.m, x.v, x.n, x.p, x.q] : Array Value)[2]? = some (.map (some gm)) by rw [← hx]; rfl] at c2; have hcl : r.length + 1 ≤ c := (by simpa using hc); have hcz : ¬ (c : Int) < 1 := (by omega); have hgl := hb.lt; have hgn : g ≠ w1.heap.size := (by omega); clear hb hr hc) | (go_at_call 24; refine (HKY.out _ m1 hm1.out).mono ?_; rintro e w2 ⟨rfl, rfl⟩))
   obtain ⟨cv, hlk⟩ := qy HNW.out t.text hlen true HS.out;go_quiet (fail)
   clear hlk;go_wp2_with (first | (go_at_call 108; refine (zGh _ true).mono ?_; rintro e w2 ⟨rfl, rfl⟩))
   all_goals go_ret
   · exact zNX
   exact zNV
  (have hk2 : ((t.kind : Int) == 1) = false := by rw [beq_eq_false_iff_ne]; omega);(have hk3 : ((t.kind : Int) != 1) = true := by unfold bne; rw [hk2]; rfl);have hq : vR true ns (t :: r) = .err (t :: r) 10 := zAC (fun c => hk c.1);exact zNP
open Go.RowKit Go.Deep
theorem xZ {w : World} {base : Nat} {e t : TypeId} {size n b : Nat} {v : Value} {xs : List Value} {cs : Array Value} (h : w.ownsRow base e size v n xs) (hb : Blk w b t cs) (ht : t ≠ e) : v.ownBlock ≠ some b := by
 rcases h.2 with ⟨rfl, _⟩ | ⟨g, cap, cur, rfl, _, hg, _⟩
 · simp [Value.ownBlock]
 intro e1;simp only [Value.ownBlock, Option.some.injEq] at e1;subst e1;have hb' : w.heap[g]? = some (.cells cs t (0, 0)) := hb;rw [hg] at hb';simp only [Option.some.injEq, Obj.cells.injEq] at hb';exact ht hb'.2.1.symm
abbrev Nte.cells (t : Nte) : Array Value := #[.int .i64 t.voice, .int .i64 t.start, .int .i64 t.stop, .int .i64 t.place.a, .int .i64 t.place.b, .int .i64 t.place.c, .int .i64 t.place.d, .int .i64 t.place.e, .int .i64 t.place.f, .bool t.tied]
def Nte.cs (t : Nte) : List Value := t.cells.toList
theorem Nte.cs_len (t : Nte) : t.cs.length = 10 := rfl
theorem Nte.cs_one (t : Nte) : ∀ u ∈ t.cs, u.oneCell' = true := by
 intro u hu;simp [Nte.cs] at hu;rcases hu with rfl | rfl | rfl | rfl | rfl | rfl | rfl | rfl | rfl | rfl <;> rfl
theorem Nte.all_one (t : Nte) : t.cells.all (·.oneCell') = true := by simp [Value.oneCell']
theorem zx : (Tryz.prog.info? 55).map (·.size) = some 10 := by kernel_rfl
theorem zBq : (Tryz.prog.info? 55).map (fun i => (i.zero, i.size, i.bytes)) = some (some (.agg #[.int .i64 0, .int .i64 0, .int .i64 0, .int .i64 0, .int .i64 0, .int .i64 0, .int .i64 0, .int .i64 0, .int .i64 0, .bool false]), 10, 80) := by kernel_rfl
def RdN (w : World) (B : Nat) (A : Option Addr) (l : List Nte) : Prop := zQ w B 10 A l.length (zW Nte.cs l)
theorem RdN.nil (w : World) (B : Nat) (A : Option Addr) : RdN w B A [] := zQ.nil_
theorem RdN.up {w w' : World} {A : Option Addr} {l : List Nte} (h : RdN w w.heap.size A l) (hb : Below w.heap.size w w') : RdN w' w'.heap.size A l := (h.below hb).wider hb.size
structure Nte.At (w : World) (p : Addr) (x : Nte) : Prop where
 c0 : w.cell? p = x.cells[0]?
 c1 : w.cell? ⟨p.block, p.off + 1, none⟩ = x.cells[1]?
 c2 : w.cell? ⟨p.block, p.off + 2, none⟩ = x.cells[2]?
 c3 : w.cell? ⟨p.block, p.off + 3, none⟩ = x.cells[3]?
 c4 : w.cell? ⟨p.block, p.off + 4, none⟩ = x.cells[4]?
 c5 : w.cell? ⟨p.block, p.off + 5, none⟩ = x.cells[5]?
 c6 : w.cell? ⟨p.block, p.off + 6, none⟩ = x.cells[6]?
 c7 : w.cell? ⟨p.block, p.off + 7, none⟩ = x.cells[7]?
 c8 : w.cell? ⟨p.block, p.off + 8, none⟩ = x.cells[8]?
 c9 : w.cell? ⟨p.block, p.off + 9, none⟩ = x.cells[9]?
theorem RdN.at {w : World} {B : Nat} {A : Option Addr} {l : List Nte} (h : RdN w B A l) {i : Nat} (hi : i < l.length) : ∃ ad, A = some ad ∧ ad.block < B ∧ Nte.At w (ad.add (i * 10)) l[i] := by
 obtain ⟨ad, rfl, hb, hc⟩ := zQ.rec Nte.cs 10 Nte.cs_len h rfl hi;have h0 := hc 0 (by omega);rw [show (ad.add (i * 10)).add 0 = ad.add (i * 10) from by simp [Addr.add]] at h0;have hj : ∀ j, j < 9 → w.cell? ⟨(ad.add (i * 10)).block, (ad.add (i * 10)).off + (j + 1), none⟩ = l[i].cs[j + 1]? := fun j hj => by rw [← zEU]; exact hc (j + 1) (by omega)
 exact ⟨ad, rfl, hb, h0, hj 0 (by omega), hj 1 (by omega), hj 2 (by omega), hj 3 (by omega), hj 4 (by omega), hj 5 (by omega), hj 6 (by omega), hj 7 (by omega), hj 8 (by omega)⟩
def yY (w : World) (base : Nat) (v : Value) (l : List Nte) : Prop := w.ownsRow base 55 10 v l.length (zW Nte.cs l)
theorem yY.start (w : World) (base : Nat) : yY w base (.slice none 0 0) [] := ⟨rfl, Or.inl ⟨rfl, rfl⟩⟩
theorem yY.form {w : World} {base : Nat} {v : Value} {l : List Nte} (h : yY w base v l) : ∃ A c, v = .slice A l.length c ∧ l.length ≤ c ∧ RdN w w.heap.size A l := by
 exact m53
theorem yY.kept {w w' : World} {base : Nat} {v : Value} {l : List Nte} {r : Option Nat} (h : yY w base v l) (hg : w.grownBy w' r) (hne : v.ownBlock = none ∨ v.ownBlock ≠ r) : yY w' base v l := World.ownsRow.kept h hg hne
theorem yY.on {w w' : World} {base : Nat} {v : Value} {l : List Nte} (h : yY w base v l) (hb : Below w.heap.size w w') : yY w' base v l :=
 yY.kept (r := some w.heap.size) h (xm hb _) (by
  rcases hv : v.ownBlock with _ | g
  · exact Or.inl rfl
  right; intro e; injection e with e; have := (World.ownsRow.lt h g hv).2; omega)
theorem yY.snoc {w : World} {base : Nat} {v : Value} {l : List Nte} {x : Nte} (h : w.ownsRow base 55 10 v (l.length + 1) (zW Nte.cs l ++ x.cs)) : yY w base v (l ++ [x]) := by
 unfold yY;rw [List.length_append, y9, xw];exact h
theorem yY.apart {w : World} {base b : Nat} {v : Value} {l : List Nte} (h : yY w base v l) {t : TypeId} {cs : Array Value} (hb : Blk w b t cs) (ht : t ≠ 55) : v.ownBlock ≠ some b := xZ h hb ht
theorem yY.only {w w' : World} {base b : Nat} {v : Value} {l : List Nte} (h : yY w base v l) (o : zH b w w') (hne : v.ownBlock ≠ some b) : yY w' base v l :=
 h.kept (r := some b) ⟨o.os, o.tape, o.output, o.size, fun k hk e => o.block k (fun e' => e (by rw [e'])) hk⟩ (.inr hne)
theorem zAO (w : World) (x : Nte) (g : Nat) (hg : g = w.heap.size) : zQ (w.alloc (.cells x.cells 55)) (g + 1) 10 (some ⟨g, 0, none⟩) 1 x.cs := hg ▸ xX w x.cells 55 1 10 rfl
abbrev Par.cells (t : Par) : Array Value := #[.int .i64 t.a, .int .i64 t.b, .int .i64 t.wish.a, .int .i64 t.wish.b, .int .i64 t.wish.c, .int .i64 t.wish.d, .int .i64 t.wish.e, .int .i64 t.wish.f, .int .i64 t.bound]
def Par.cs (t : Par) : List Value := t.cells.toList
theorem Par.cs_len (t : Par) : t.cs.length = 9 := rfl
theorem Par.cs_one (t : Par) : ∀ u ∈ t.cs, u.oneCell' = true := by
 intro u hu;simp [Par.cs] at hu;rcases hu with rfl | rfl | rfl | rfl | rfl | rfl | rfl | rfl | rfl <;> rfl
theorem Par.all_one (t : Par) : t.cells.all (·.oneCell') = true := by simp [Value.oneCell']
theorem vN : (Tryz.prog.info? 57).map (·.size) = some 9 := by kernel_rfl
theorem zBj : (Tryz.prog.info? 57).map (fun i => (i.zero, i.size, i.bytes)) = some (some (.agg #[.int .i64 0, .int .i64 0, .int .i64 0, .int .i64 0, .int .i64 0, .int .i64 0, .int .i64 0, .int .i64 0, .int .i64 0]), 9, 72) := by kernel_rfl
def RdP (w : World) (B : Nat) (A : Option Addr) (l : List Par) : Prop := zQ w B 9 A l.length (zW Par.cs l)
theorem RdP.nil (w : World) (B : Nat) (A : Option Addr) : RdP w B A [] := zQ.nil_
theorem RdP.up {w w' : World} {A : Option Addr} {l : List Par} (h : RdP w w.heap.size A l) (hb : Below w.heap.size w w') : RdP w' w'.heap.size A l := (h.below hb).wider hb.size
structure Par.At (w : World) (p : Addr) (x : Par) : Prop where
 c0 : w.cell? p = x.cells[0]?
 c1 : w.cell? ⟨p.block, p.off + 1, none⟩ = x.cells[1]?
 c2 : w.cell? ⟨p.block, p.off + 2, none⟩ = x.cells[2]?
 c3 : w.cell? ⟨p.block, p.off + 3, none⟩ = x.cells[3]?
 c4 : w.cell? ⟨p.block, p.off + 4, none⟩ = x.cells[4]?
 c5 : w.cell? ⟨p.block, p.off + 5, none⟩ = x.cells[5]?
 c6 : w.cell? ⟨p.block, p.off + 6, none⟩ = x.cells[6]?
 c7 : w.cell? ⟨p.block, p.off + 7, none⟩ = x.cells[7]?
 c8 : w.cell? ⟨p.block, p.off + 8, none⟩ = x.cells[8]?
theorem RdP.at {w : World} {B : Nat} {A : Option Addr} {l : List Par} (h : RdP w B A l) {i : Nat} (hi : i < l.length) : ∃ ad, A = some ad ∧ ad.block < B ∧ Par.At w (ad.add (i * 9)) l[i] := by
 obtain ⟨ad, rfl, hb, hc⟩ := zQ.rec Par.cs 9 Par.cs_len h rfl hi;have h0 := hc 0 (by omega);rw [show (ad.add (i * 9)).add 0 = ad.add (i * 9) from by simp [Addr.add]] at h0;have hj : ∀ j, j < 8 → w.cell? ⟨(ad.add (i * 9)).block, (ad.add (i * 9)).off + (j + 1), none⟩ = l[i].cs[j + 1]? := fun j hj => by rw [← zEU]; exact hc (j + 1) (by omega)
 exact ⟨ad, rfl, hb, h0, hj 0 (by omega), hj 1 (by omega), hj 2 (by omega), hj 3 (by omega), hj 4 (by omega), hj 5 (by omega), hj 6 (by omega), hj 7 (by omega)⟩
def zn (w : World) (base : Nat) (v : Value) (l : List Par) : Prop := w.ownsRow base 57 9 v l.length (zW Par.cs l)
theorem zn.start (w : World) (base : Nat) : zn w base (.slice none 0 0) [] := ⟨rfl, Or.inl ⟨rfl, rfl⟩⟩
theorem zn.form {w : World} {base : Nat} {v : Value} {l : List Par} (h : zn w base v l) : ∃ A c, v = .slice A l.length c ∧ l.length ≤ c ∧ RdP w w.heap.size A l := by
 exact m53
theorem zn.kept {w w' : World} {base : Nat} {v : Value} {l : List Par} {r : Option Nat} (h : zn w base v l) (hg : w.grownBy w' r) (hne : v.ownBlock = none ∨ v.ownBlock ≠ r) : zn w' base v l := World.ownsRow.kept h hg hne
theorem zn.on {w w' : World} {base : Nat} {v : Value} {l : List Par} (h : zn w base v l) (hb : Below w.heap.size w w') : zn w' base v l :=
 zn.kept (r := some w.heap.size) h (xm hb _) (by
  rcases hv : v.ownBlock with _ | g
  · exact Or.inl rfl
  right; intro e; injection e with e; have := (World.ownsRow.lt h g hv).2; omega)
theorem zn.snoc {w : World} {base : Nat} {v : Value} {l : List Par} {x : Par} (h : w.ownsRow base 57 9 v (l.length + 1) (zW Par.cs l ++ x.cs)) : zn w base v (l ++ [x]) := by
 unfold zn;rw [List.length_append, y9, xw];exact h
theorem zn.apart {w : World} {base b : Nat} {v : Value} {l : List Par} (h : zn w base v l) {t : TypeId} {cs : Array Value} (hb : Blk w b t cs) (ht : t ≠ 57) : v.ownBlock ≠ some b := xZ h hb ht
theorem zn.only {w w' : World} {base b : Nat} {v : Value} {l : List Par} (h : zn w base v l) (o : zH b w w') (hne : v.ownBlock ≠ some b) : zn w' base v l :=
 h.kept (r := some b) ⟨o.os, o.tape, o.output, o.size, fun k hk e => o.block k (fun e' => e (by rw [e'])) hk⟩ (.inr hne)
theorem zAb (w : World) (x : Par) (g : Nat) (hg : g = w.heap.size) : zQ (w.alloc (.cells x.cells 57)) (g + 1) 9 (some ⟨g, 0, none⟩) 1 x.cs := hg ▸ xX w x.cells 57 1 9 rfl
structure Itg where
 x : Int
def itg (l : List Int) : List Itg := l.map Itg.mk
abbrev Itg.cells (t : Itg) : Array Value := #[.int .i64 t.x]
def Itg.cs (t : Itg) : List Value := t.cells.toList
theorem Itg.cs_len (t : Itg) : t.cs.length = 1 := rfl
theorem Itg.cs_one (t : Itg) : ∀ u ∈ t.cs, u.oneCell' = true := by
 intro u hu;simp [Itg.cs] at hu;rcases hu with rfl <;> rfl
theorem Itg.all_one (t : Itg) : t.cells.all (·.oneCell') = true := by simp [Value.oneCell']
theorem zFd : (Tryz.prog.info? 3).map (fun i => (i.zero, i.size, i.bytes)) = some (some (.int .i64 0), 1, 8) := by kernel_rfl
def RdC (w : World) (B : Nat) (A : Option Addr) (l : List Itg) : Prop := zQ w B 1 A l.length (zW Itg.cs l)
theorem RdC.nil (w : World) (B : Nat) (A : Option Addr) : RdC w B A [] := zQ.nil_
theorem RdC.up {w w' : World} {A : Option Addr} {l : List Itg} (h : RdC w w.heap.size A l) (hb : Below w.heap.size w w') : RdC w' w'.heap.size A l := (h.below hb).wider hb.size
structure Itg.At (w : World) (p : Addr) (x : Itg) : Prop where
 c0 : w.cell? p = x.cells[0]?
theorem RdC.at {w : World} {B : Nat} {A : Option Addr} {l : List Itg} (h : RdC w B A l) {i : Nat} (hi : i < l.length) : ∃ ad, A = some ad ∧ ad.block < B ∧ Itg.At w (ad.add (i * 1)) l[i] := by
 obtain ⟨ad, rfl, hb, hc⟩ := zQ.rec Itg.cs 1 Itg.cs_len h rfl hi;have h0 := hc 0 (by omega);rw [show (ad.add (i * 1)).add 0 = ad.add (i * 1) from by simp [Addr.add]] at h0;exact ⟨ad, rfl, hb, ⟨h0⟩⟩
def yO (w : World) (base : Nat) (v : Value) (l : List Itg) : Prop := w.ownsRow base 3 1 v l.length (zW Itg.cs l)
theorem yO.start (w : World) (base : Nat) : yO w base (.slice none 0 0) [] := ⟨rfl, Or.inl ⟨rfl, rfl⟩⟩
theorem yO.form {w : World} {base : Nat} {v : Value} {l : List Itg} (h : yO w base v l) : ∃ A c, v = .slice A l.length c ∧ l.length ≤ c ∧ RdC w w.heap.size A l := by
 exact m53
theorem yO.kept {w w' : World} {base : Nat} {v : Value} {l : List Itg} {r : Option Nat} (h : yO w base v l) (hg : w.grownBy w' r) (hne : v.ownBlock = none ∨ v.ownBlock ≠ r) : yO w' base v l := World.ownsRow.kept h hg hne
theorem yO.on {w w' : World} {base : Nat} {v : Value} {l : List Itg} (h : yO w base v l) (hb : Below w.heap.size w w') : yO w' base v l :=
 yO.kept (r := some w.heap.size) h (xm hb _) (by
  rcases hv : v.ownBlock with _ | g
  · exact Or.inl rfl
  right; intro e; injection e with e; have := (World.ownsRow.lt h g hv).2; omega)
theorem yO.snoc {w : World} {base : Nat} {v : Value} {l : List Itg} {x : Itg} (h : w.ownsRow base 3 1 v (l.length + 1) (zW Itg.cs l ++ x.cs)) : yO w base v (l ++ [x]) := by
 unfold yO;rw [List.length_append, y9, xw];exact h
theorem yO.apart {w : World} {base b : Nat} {v : Value} {l : List Itg} (h : yO w base v l) {t : TypeId} {cs : Array Value} (hb : Blk w b t cs) (ht : t ≠ 3) : v.ownBlock ≠ some b := xZ h hb ht
theorem yO.only {w w' : World} {base b : Nat} {v : Value} {l : List Itg} (h : yO w base v l) (o : zH b w w') (hne : v.ownBlock ≠ some b) : yO w' base v l :=
 h.kept (r := some b) ⟨o.os, o.tape, o.output, o.size, fun k hk e => o.block k (fun e' => e (by rw [e'])) hk⟩ (.inr hne)
theorem zHW (w : World) (x : Itg) (g : Nat) (hg : g = w.heap.size) : zQ (w.alloc (.cells x.cells 3)) (g + 1) 1 (some ⟨g, 0, none⟩) 1 x.cs := hg ▸ xX w x.cells 3 1 1 rfl
end Go.Proofs.YtcjhihmaegagdaaGreatDoor
