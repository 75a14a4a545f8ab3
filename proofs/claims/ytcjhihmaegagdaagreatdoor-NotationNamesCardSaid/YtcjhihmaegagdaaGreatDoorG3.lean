/- Texts of the Notation chapter, together: La, Lb. -/
import Derived.Test.YtcjhihmaegagdaaGreatDoorG2
import Derived.Test.YtcjhihmaegagdaaGreatDoorG1
import Derived.Test.YtcjhihmaegagdaaGreatDoorSh
import Derived.Shelf.Strings.SlTrimAscii
import Derived.Deep.RegionHeld3
import Derived.Deep.DeepCutAuto
set_option maxRecDepth 100000
set_option maxHeartbeats 8000000
set_option linter.unusedSimpArgs false
set_option linter.unusedVariables false
set_option linter.unusedSectionVars false
set_option linter.unnecessarySimpa false
namespace Go.Proofs.YtcjhihmaegagdaaGreatDoor
open Go.RowKit Go.Deep
abbrev str (l : List UInt8) : Value := .string ⟨l.toArray⟩
abbrev Tok.cells (t : Tok) : Array Value := #[.int .i64 (t.kind : Int), .int .i64 (t.pos : Int), .int .i64 (t.n : Int), str t.text]
def Tok.cs (t : Tok) : List Value := t.cells.toList
theorem Tok.cs_len (t : Tok) : t.cs.length = 4 := rfl
theorem Tok.cs_one (t : Tok) : ∀ u ∈ t.cs, u.oneCell' = true := by
 intro u hu
 simp [Tok.cs] at hu
 rcases hu with rfl | rfl | rfl | rfl <;> rfl
theorem add_off (p : Addr) (j : Nat) : p.add (j + 1) = ⟨p.block, p.off + (j + 1), none⟩ := by simp [Addr.add]
def RdT (w : World) (B : Nat) (A : Option Addr) (l : List Tok) : Prop := Shows w B 4 A l.length (rcells Tok.cs l)
theorem RdT.nil (w : World) (B : Nat) (A : Option Addr) : RdT w B A [] := Shows.nil_
theorem RdT.up {w w' : World} {A : Option Addr} {l : List Tok} (h : RdT w w.heap.size A l) (hb : Below w.heap.size w w') : RdT w' w'.heap.size A l := (h.below hb).wider hb.size
structure TokAt (w : World) (p : Addr) (x : Tok) : Prop where
 a : w.cell? p = some (.int .i64 x.kind)
 b : w.cell? ⟨p.block, p.off + 1, none⟩ = some (.int .i64 x.pos)
 c : w.cell? ⟨p.block, p.off + 2, none⟩ = some (.int .i64 x.n)
 d : w.cell? ⟨p.block, p.off + 3, none⟩ = some (str x.text)
theorem RdT.at {w : World} {B : Nat} {A : Option Addr} {l : List Tok} (h : RdT w B A l) {i : Nat} (hi : i < l.length) : ∃ ad, A = some ad ∧ ad.block < B ∧ TokAt w (ad.add (i * 4)) l[i] := by
 obtain ⟨ad, rfl, hb, hc⟩ := Shows.rec Tok.cs 4 Tok.cs_len h rfl hi
 have h0 := hc 0 (by omega)
 rw [show (ad.add (i * 4)).add 0 = ad.add (i * 4) from by simp [Addr.add]] at h0
 have hj : ∀ j, j < 3 → w.cell? ⟨(ad.add (i * 4)).block, (ad.add (i * 4)).off + (j + 1), none⟩ = l[i].cs[j + 1]? := fun j hj => by rw [← add_off]; exact hc (j + 1) (by omega)
 exact ⟨ad, rfl, hb, h0, hj 0 (by omega), hj 1 (by omega), hj 2 (by omega)⟩
theorem RdT.tail {w : World} {B : Nat} {A : Option Addr} {t : Tok} {l : List Tok} {c : Nat} (h : RdT w B A (t :: l)) (hc : l.length + 1 ≤ c) : RdT w B (if c = 1 then A else A.map (·.add 4)) l := by
 have := Shows.cut (k := 1) (cap := c) h (by simp) (by simpa using hc)
 simp only [Nat.one_mul] at this
 unfold RdT
 rw [show (t :: l).length - 1 = l.length by simp] at this
 have e : (rcells Tok.cs (t :: l)).drop 4 = rcells Tok.cs l := rfl
 rwa [e] at this
def OwnT (w : World) (base : Nat) (v : Value) (l : List Tok) : Prop := w.ownsRow base 40 4 v l.length (rcells Tok.cs l)
theorem OwnT.start (w : World) (base : Nat) : OwnT w base (.slice none 0 0) [] := ⟨rfl, Or.inl ⟨rfl, rfl⟩⟩
theorem OwnT.form {w : World} {base : Nat} {v : Value} {l : List Tok} (h : OwnT w base v l) : ∃ A c, v = .slice A l.length c ∧ l.length ≤ c ∧ RdT w w.heap.size A l := by
 have h' := h
 rcases h'.2 with ⟨rfl, h0⟩ | ⟨g, cap, cur, rfl, -, -, hc, -⟩
 ·
  obtain rfl := List.eq_nil_of_length_eq_zero h0
  exact ⟨none, 0, rfl, Nat.le_refl _, Shows.nil_⟩
 exact ⟨_, cap, rfl, hc, Shows.of_own h⟩
theorem OwnT.block {w : World} {base : Nat} {v : Value} {l : List Tok} (h : OwnT w base v l) : ∀ g, v.ownBlock = some g → base ≤ g := fun g hg => (World.ownsRow.lt h g hg).1
theorem OwnT.kept {w w' : World} {base : Nat} {v : Value} {l : List Tok} {r : Option Nat} (h : OwnT w base v l) (hg : w.grownBy w' r) (hne : v.ownBlock = none ∨ v.ownBlock ≠ r) : OwnT w' base v l := World.ownsRow.kept h hg hne
theorem OwnT.on {w w' : World} {base : Nat} {v : Value} {l : List Tok} (h : OwnT w base v l) (hb : Below w.heap.size w w') : OwnT w' base v l :=
 OwnT.kept (r := some w.heap.size) h (grown_below hb _) (by
  rcases hv : v.ownBlock with _ | g
  ·
   exact Or.inl rfl
  right; intro e; injection e with e; have := (World.ownsRow.lt h g hv).2; omega)
theorem tok_info : (Tryz.prog.info? 40).map (fun i => (i.zero, i.size, i.bytes)) = some (some (.agg #[.int .i64 0, .int .i64 0, .int .i64 0, .string ⟨#[]⟩]), 4, 40) := by kernel_rfl
theorem shows_tok (w : World) (x : Tok) : Shows (w.alloc (.cells x.cells 40)) (w.heap.size + 1) 4 (some ⟨w.heap.size, 0, none⟩) 1 x.cs := shows_new w x.cells 40 1 4 rfl
theorem shows_tok' (w : World) (x : Tok) (g : Nat) (hg : g = w.heap.size) : Shows (w.alloc (.cells x.cells 40)) (g + 1) 4 (some ⟨g, 0, none⟩) 1 x.cs := hg ▸ shows_tok w x
theorem wpList_appt (w : World) {ops : Array Oper} {rest : List Oper} {o : Oper} {a : Act} {Q : Exit → Act → World → Prop} (hgd : o.guard = none) (s x : Operand)
  (ho : o.op = .call { callee := .builtin .append, args := #[s, x], argTypes := #[28, 28] })
  (base : Nat) (v : Value) (l : List Tok) (hs : a.eval s = v) (hown : OwnT w base v l)
  (B : Nat) (A : Option Addr) (c : Nat) (u : Tok) (hx : a.eval x = .slice A 1 c) (hr : Shows w B 4 A 1 u.cs)
  (hbytes : (l.length + 1) * 40 ≤ 140737488355328) (hbase : base ≤ w.heap.size)
  (h : ∀ v' w', OwnT w' base v' (l ++ [u]) → w.grownBy w' v.ownBlock → (v'.ownBlock = v.ownBlock ∨ v'.ownBlock = some w.heap.size) → wpList Tryz.prog ops Q rest (a.put o.dst v') w') :
  wpList Tryz.prog ops Q (o :: rest) a w := by
 obtain ⟨i0, hi, hz0, hz1, hz2⟩ := info_parts tok_info
 refine wpList_plain hgd fun _ hK => wp_app w s x _ ho base _ i0 _ 4 40 Tryz.underlying28 hi hz0 hz1 hz2 rfl (by omega) v l.length (rcells Tok.cs l) hs hown B A 1 c u.cs hx hr u.cs_one (by simp only [maxLen]; omega) hbytes hbase fun v' w' h2 h3 h4 => hK _ _ (h v' w' ?_ h3 h4)
 unfold OwnT
 rw [List.length_append, rcells_append, rcells_single]
 exact h2
theorem indexByte_at (l : List UInt8) (x : UInt8) : Lib.indexByte l x = if l.contains x then ((l.takeWhile (· != x)).length : Int) else -1 := by
 induction l with
 | nil => simp [Lib.indexByte]
 | cons b l ih =>
  simp only [Lib.indexByte]
  rw [List.contains_cons, List.takeWhile_cons]
  by_cases hb : b = x
  ·
   subst hb
   simp
  rw [if_neg (by simpa using hb), show (x == b) = false by rw [beq_eq_false_iff_ne]; exact fun h => hb h.symm, Bool.false_or, show (b != x) = true by simpa using hb]
  rw [ih]
  rcases hc : l.contains x with _ | _
  ·
   simp
  simp only [if_true, List.length_cons]
  rw [if_neg (by simp)]
  omega
theorem indexByte_has (l : List UInt8) (x : UInt8) : decide (0 ≤ Lib.indexByte l x) = l.contains x := by
 have h := indexByte_at l x
 rcases hc : l.contains x with _ | _
 ·
  rw [hc] at h
  rw [if_neg (by decide)] at h
  exact decide_eq_false (by omega)
 rw [hc, if_pos rfl] at h
 exact decide_eq_true (by omega)
theorem has_any (w : World) (l : List UInt8) (x : UInt8) :
  Calls Tryz.prog 24 #[str l, str [x]] w fun e w' => e = .returned (.bool (l.contains x)) ∧ w' = w := by
 have := Tryz.strings_Contains_one ⟨l.toArray⟩ x w
 rw [indexByte_has] at this
 exact this
theorem trimLeft_any (w : World) (l c : List UInt8) (hc : c.length < 4294967281) (ha : ∀ x ∈ c, x.toNat < 128) :
  Calls Tryz.prog 50 #[str l, str c] w fun e w' => e = .returned (str (l.dropWhile fun x => c.contains x)) ∧ Below w.heap.size w w' :=
 Any.strings_TrimLeft_laid Tryz.lays161 (by kernel_rfl) ⟨l.toArray⟩ ⟨c.toArray⟩ w (by simpa [ByteArray.size] using hc) (fun j b hb => ha b (List.mem_of_getElem? hb))
theorem len_drop {α : Type} (p : α → Bool) (l : List α) : (l.dropWhile p).length = l.length - (l.takeWhile p).length := by
 conv => rhs; rw [← List.takeWhile_append_dropWhile (p := p) (l := l)]
 rw [List.length_append]
 have : (((l.takeWhile p) ++ (l.dropWhile p)).takeWhile p) = l.takeWhile p := by rw [List.takeWhile_append_dropWhile]
 rw [this]
 omega
theorem run_any (w : World) (l c : List UInt8) (hl : l.length ≤ 9223372036854775807) (hc : c.length < 4294967281) (ha : ∀ x ∈ c, x.toNat < 128) :
  Calls Tryz.prog 25 #[str l, str c] w fun e w' => e = .returned (.int .i64 (l.takeWhile fun x => c.contains x).length) ∧ Below w.heap.size w w' := by
 have HT := hid (trimLeft_any w l c hc ha)
 have h1 := len_drop (fun x => c.contains x) l
 have h2 := takeWhile_len_le (fun x => c.contains x) l
 generalize l.dropWhile (fun x => c.contains x) = d at *
 generalize (l.takeWhile fun x => c.contains x).length = n at *
 have h3 : (l.length : Int) - (d.length : Int) = n := by omega
 have HQ : Hid ((d.length : Int) = l.length - n) := by show _ = _; omega
 clear h1
 go_enter Tryz.func25, Tryz.ntmps25
 go_wp2_with (go_at_call 50; refine HT.out.mono ?_; rintro e w' ⟨rfl, hb⟩; replace hb := hid hb)
 go_ret
 exact ⟨rfl, hb.out⟩
end Go.Proofs.YtcjhihmaegagdaaGreatDoor
namespace Go.Proofs.YtcjhihmaegagdaaGreatDoor
open Go.RowKit Go.Deep
def cutB : List UInt8 := [32, 9, 10]
def cutL : List UInt8 := [97, 98, 99, 100, 101, 102, 103, 104, 105, 106, 107, 108, 109, 110, 111, 112, 113, 114, 115, 116, 117, 118, 119, 120, 121, 122]
def cutW : List UInt8 := [97, 98, 99, 100, 101, 102, 103, 104, 105, 106, 107, 108, 109, 110, 111, 112, 113, 114, 115, 116, 117, 118, 119, 120, 121, 122, 48, 49, 50, 51, 52, 53, 54, 55, 56, 57]
def cutD : List UInt8 := [48, 49, 50, 51, 52, 53, 54, 55, 56, 57]
def cutM : List UInt8 := [59, 58, 47, 45, 91, 93]
theorem cut_fin : ∀ n : Fin 256, cutB.contains (UInt8.ofNat n.val) = isBlank (UInt8.ofNat n.val) ∧ cutL.contains (UInt8.ofNat n.val) = isLow (UInt8.ofNat n.val) ∧ cutW.contains (UInt8.ofNat n.val) = isWord (UInt8.ofNat n.val) ∧ cutD.contains (UInt8.ofNat n.val) = isDig (UInt8.ofNat n.val) ∧ cutM.contains (UInt8.ofNat n.val) = isMark (UInt8.ofNat n.val) := by decide +kernel
theorem cut_all (x : UInt8) : cutB.contains x = isBlank x ∧ cutL.contains x = isLow x ∧ cutW.contains x = isWord x ∧ cutD.contains x = isDig x ∧ cutM.contains x = isMark x := by
 have := cut_fin ⟨x.toNat, x.toNat_lt⟩
 rwa [UInt8.ofNat_toNat] at this
theorem cutB_is : (fun x => cutB.contains x) = isBlank := funext fun x => (cut_all x).1
theorem cutW_is : (fun x => cutW.contains x) = isWord := funext fun x => (cut_all x).2.2.1
theorem cutD_is : (fun x => cutD.contains x) = isDig := funext fun x => (cut_all x).2.2.2.1
theorem ext_from (s : List UInt8) (p n : Nat) (hn : n = s.length) : (⟨s.toArray⟩ : ByteArray).extract p n = ⟨(s.drop p).toArray⟩ := by
 apply ByteArray.ext
 simp only [ByteArray.data_extract, List.extract_toArray, List.extract_eq_take_drop, hn]
 rw [List.take_of_length_le (by simp)]
theorem ext_to (s : List UInt8) (k : Nat) : (⟨s.toArray⟩ : ByteArray).extract 0 k = ⟨(s.take k).toArray⟩ := by
 apply ByteArray.ext
 simp [ByteArray.data_extract, List.extract_eq_take_drop]
theorem hasB (w : World) (x : UInt8) (b : Bool) (hb : isBlank x = b) :
  Calls Tryz.prog 24 #[.string ⟨#[32, 9, 10]⟩, str [x]] w fun e w' => e = .returned (.bool b) ∧ w' = w := by
 have := has_any w cutB x
 rw [(cut_all x).1, hb] at this
 exact this
theorem hasL (w : World) (x : UInt8) (b : Bool) (hb : isLow x = b) :
  Calls Tryz.prog 24 #[.string ⟨#[97, 98, 99, 100, 101, 102, 103, 104, 105, 106, 107, 108, 109, 110, 111, 112, 113, 114, 115, 116, 117, 118, 119, 120, 121, 122]⟩, str [x]] w fun e w' => e = .returned (.bool b) ∧ w' = w := by
 have := has_any w cutL x
 rw [(cut_all x).2.1, hb] at this
 exact this
theorem hasD (w : World) (x : UInt8) (b : Bool) (hb : isDig x = b) :
  Calls Tryz.prog 24 #[.string ⟨#[48, 49, 50, 51, 52, 53, 54, 55, 56, 57]⟩, str [x]] w fun e w' => e = .returned (.bool b) ∧ w' = w := by
 have := has_any w cutD x
 rw [(cut_all x).2.2.2.1, hb] at this
 exact this
theorem hasM (w : World) (x : UInt8) (b : Bool) (hb : isMark x = b) :
  Calls Tryz.prog 24 #[.string ⟨#[59, 58, 47, 45, 91, 93]⟩, str [x]] w fun e w' => e = .returned (.bool b) ∧ w' = w := by
 have := has_any w cutM x
 rw [(cut_all x).2.2.2.2, hb] at this
 exact this
theorem runB (w : World) (l : List UInt8) (hl : l.length ≤ 9223372036854775807) (n : Nat) (hn : (l.takeWhile isBlank).length = n) :
  Calls Tryz.prog 25 #[str l, .string ⟨#[32, 9, 10]⟩] w fun e w' => e = .returned (.int .i64 n) ∧ Below w.heap.size w w' := by
 have := run_any w l cutB hl (by decide) (by decide)
 rw [cutB_is, hn] at this
 exact this
theorem runW (w : World) (l : List UInt8) (hl : l.length ≤ 9223372036854775807) (n : Nat) (hn : (l.takeWhile isWord).length = n) :
  Calls Tryz.prog 25 #[str l, .string ⟨#[97, 98, 99, 100, 101, 102, 103, 104, 105, 106, 107, 108, 109, 110, 111, 112, 113, 114, 115, 116, 117, 118, 119, 120, 121, 122, 48, 49, 50, 51, 52, 53, 54, 55, 56, 57]⟩] w fun e w' => e = .returned (.int .i64 n) ∧ Below w.heap.size w w' := by
 have := run_any w l cutW hl (by decide) (by decide)
 rw [cutW_is, hn] at this
 exact this
theorem runD (w : World) (l : List UInt8) (hl : l.length ≤ 9223372036854775807) (n : Nat) (hn : (l.takeWhile isDig).length = n) :
  Calls Tryz.prog 25 #[str l, .string ⟨#[48, 49, 50, 51, 52, 53, 54, 55, 56, 57]⟩] w fun e w' => e = .returned (.int .i64 n) ∧ Below w.heap.size w w' := by
 have := run_any w l cutD hl (by decide) (by decide)
 rw [cutD_is, hn] at this
 exact this
def LexAt (w : World) (s : List UInt8) (p : Nat) (T : List Tok) (v : Value) (wx : World) : Prop :=
 p ≤ s.length ∧ T.length ≤ p ∧ Below w.heap.size w wx ∧ OwnT wx w.heap.size v T ∧ lexA 0 s = (T ++ (lexA p (s.drop p)).1, (lexA p (s.drop p)).2)
theorem drop_len {s : List UInt8} {p : Nat} {x : UInt8} {r : List UInt8} (h : s.drop p = x :: r) : s.length = p + 1 + r.length := by
 have := congrArg List.length h
 simp at this
 omega
theorem lex_skip {w wr w1 : World} {s : List UInt8} {p k : Nat} {T : List Tok} {v : Value} {x : UInt8} {r : List UInt8} (h : LexAt w s p T v wr) (hr : s.drop p = x :: r) (b : Below wr.heap.size wr w1)
  (e : lexA p (x :: r) = lexA (p + k) ((x :: r).drop k)) (hk : k ≤ r.length + 1) : LexAt w s (p + k) T v w1 := by
 obtain ⟨h1, h2, h3, h4, h5⟩ := h
 have hl := drop_len hr
 rw [← hr, List.drop_drop] at e
 exact ⟨by omega, by omega, below_on h3 b, h4.on b, by rw [h5, e]⟩
theorem lex_more {w wr w1 : World} {s : List UInt8} {p kd n k : Nat} {T : List Tok} {v v' : Value} {x : UInt8} {r : List UInt8} (h : LexAt w s p T v wr) (hr : s.drop p = x :: r) (e : lexStep (x :: r) = .tok kd n k)
  (own : OwnT w1 w.heap.size v' (T ++ [⟨kd, p, n, (x :: r).take k⟩])) (b : Below w.heap.size w w1) : LexAt w s (p + k) (T ++ [⟨kd, p, n, (x :: r).take k⟩]) v' w1 := by
 obtain ⟨h1, h2, h3, h4, h5⟩ := h
 have hk := lexStep_tok e
 have hl := drop_len hr
 have hx := lexA_tok (p := p) e
 rw [← hr, List.drop_drop] at hx
 refine ⟨by simp at hk; omega, by simp; omega, b, own, ?_⟩
 rw [h5, hx, hr]
 simp
theorem lex_bad {w wr : World} {s : List UInt8} {p : Nat} {T : List Tok} {v : Value} {x : UInt8} {r : List UInt8} (h : LexAt w s p T v wr) (hr : s.drop p = x :: r) (e : lexStep (x :: r) = .bad) (h8 : ¬ 8000 < s.length) :
  lexT s = [] ∧ lexP s = p ∧ lexE s = 10 := by
 have hb := lexA_bad (p := p) (x := r.length) (by simp) e
 have h5 := h.2.2.2.2
 rw [hr, hb] at h5
 have h9 : lexT s = match (lexA 0 s).2 with | none => (lexA 0 s).1 | some _ => [] := if_neg h8
 have h10 : lexP s = match (lexA 0 s).2 with | none => 0 | some p => p := if_neg h8
 have h11 : lexE s = match (lexA 0 s).2 with | none => 0 | some _ => 10 := if_neg h8
 rw [h5] at h9 h10 h11
 exact ⟨h9, h10, h11⟩
theorem lex_end {w wr : World} {s : List UInt8} {p : Nat} {T : List Tok} {v : Value} (h : LexAt w s p T v wr) (hp : ¬ p < s.length) (h8 : ¬ 8000 < s.length) :
  lexT s = T ∧ lexP s = 0 ∧ lexE s = 0 := by
 have h5 := h.2.2.2.2
 rw [List.drop_of_length_le (by omega), lexA_nil, List.append_nil] at h5
 have h9 : lexT s = match (lexA 0 s).2 with | none => (lexA 0 s).1 | some _ => [] := if_neg h8
 have h10 : lexP s = match (lexA 0 s).2 with | none => 0 | some p => p := if_neg h8
 have h11 : lexE s = match (lexA 0 s).2 with | none => 0 | some _ => 10 := if_neg h8
 rw [h5] at h9 h10 h11
 exact ⟨h9, h10, h11⟩
theorem lex_meas (n p k : Nat) (h1 : p + k ≤ n) (h2 : n ≤ 8000) (hk : 1 ≤ k) : n - (intOf (.int .i64 (wrap64 ((p : Int) + (k : Int))))).toNat < n - (intOf (.int .i64 (p : Int))).toNat := by
 have : wrap64 ((p : Int) + k) = ((p + k : Nat) : Int) := by unfold wrap64; omega
 rw [this]
 simp only [intOf]
 omega
theorem lex_pos (n p k : Nat) (h1 : p + k ≤ n) (h2 : n ≤ 8000) : Value.int .i64 (wrap64 ((p : Int) + (k : Int))) = .int .i64 ((p + k : Nat) : Int) := by
 have : wrap64 ((p : Int) + k) = ((p + k : Nat) : Int) := by unfold wrap64; omega
 rw [this]
theorem far2 {wr w1 : World} (b : Below wr.heap.size wr w1) (i1 i2 : Nat) (u1 u2 : Value) (o : Obj) : Below wr.heap.size wr (((w1.setCell ⟨wr.heap.size, i1, none⟩ u1).setCell ⟨wr.heap.size, i2, none⟩ u2).alloc o) :=
 ((b.setCell (p := ⟨wr.heap.size, i1, none⟩) (Nat.le_refl _) _).setCell (p := ⟨wr.heap.size, i2, none⟩) (Nat.le_refl _) _).alloc (by have := b.size; simp [World.setCell]; omega) _
theorem lex_pushed {w wr W w4 : World} {s : List UInt8} {p kd n k : Nat} {T : List Tok} {v v' : Value} {x : UInt8} {r : List UInt8} (h : LexAt w s p T v wr) (hr : s.drop p = x :: r) (e : lexStep (x :: r) = .tok kd n k)
  (b : Below wr.heap.size wr W) (own : OwnT w4 w.heap.size v' (T ++ [⟨kd, p, n, (x :: r).take k⟩])) (g : W.grownBy w4 v.ownBlock) : LexAt w s (p + k) (T ++ [⟨kd, p, n, (x :: r).take k⟩]) v' w4 :=
 lex_more h hr e own (below_grown (below_on h.2.2.1 b) g (below_on h.2.2.1 b).size h.2.2.2.1.block)
theorem lex_pos' (p k : Nat) : Value.int .i64 ((p : Int) + (k : Int)) = .int .i64 ((p + k : Nat) : Int) := by rw [Int.natCast_add]
theorem lex_meas' (n p k : Nat) (h1 : p + k ≤ n) (hk : 1 ≤ k) : n - (intOf (.int .i64 ((p : Int) + (k : Int)))).toNat < n - (intOf (.int .i64 (p : Int))).toNat := by
 simp only [intOf]
 omega
theorem atoi_digs {l : List UInt8} (h0 : l ≠ []) (h : ∀ y ∈ l, isDig y = true) : Lib.atoi l = some ((num 0 l : Nat) : Int) := by
 have hr : ∀ y ∈ l, 48 ≤ y.toNat ∧ y.toNat ≤ 57 := fun y hy => by have := h y hy; simpa [isDig] using this
 have hf : ∀ (l : List UInt8) (acc : Nat), (∀ y ∈ l, 48 ≤ y.toNat ∧ y.toNat ≤ 57) → Lib.decFrom acc l = some (num acc l) := by
  intro l
  induction l with
  | nil => intro acc _; rfl
  | cons x l ih =>
   intro acc h
   have hx := h x (List.mem_cons_self ..)
   have : Lib.digitVal x = some (x.toNat - 48) := if_pos hx
   simp only [Lib.decFrom, this]
   rw [ih _ (fun y hy => h y (List.mem_cons_of_mem _ hy)), Nat.mul_comm]
   rfl
 cases l with
 | nil => exact absurd rfl h0
 | cons x r =>
  have hx := hr x (List.mem_cons_self ..)
  have n1 : (x == 45) = false := by rw [beq_eq_false_iff_ne]; rintro rfl; exact absurd hx.1 (by decide)
  have n2 : (x == 43) = false := by rw [beq_eq_false_iff_ne]; rintro rfl; exact absurd hx.1 (by decide)
  have hd : Lib.decNat (x :: r) = some (num 0 (x :: r)) := by unfold Lib.decNat; rw [if_neg (by simp), hf _ _ hr]
  simp only [Lib.atoi, n1, n2, hd, Bool.false_eq_true, if_false, Option.map_some]
theorem idx_nl (w : World) (l : List UInt8) : Calls Tryz.prog 26 #[str l, .int .u8 10] w fun e w' => e = .returned (.int .i64 (if l.contains 10 then ((l.takeWhile (· != 10)).length : Int) else -1)) ∧ w' = w := by
 have := Tryz.strings_IndexByte ⟨l.toArray⟩ 10 w
 rw [show ((10 : Int).toNat.toUInt8) = (10 : UInt8) from rfl, indexByte_at] at this
 exact this
theorem takeWhile_all {α : Type} (p : α → Bool) (l : List α) (h : ∀ x ∈ l, p x = true) : l.takeWhile p = l := by
 induction l with
 | nil => rfl
 | cons x l ih => rw [List.takeWhile_cons, if_pos (h x (List.mem_cons_self ..)), ih fun y hy => h y (List.mem_cons_of_mem _ hy)]
theorem below_bytes (w : World) (e : TypeId) (s : ByteArray) : Below w.heap.size w (Lib.bytesWorld w e s) := by
 have h1 := ((Below.refl w.heap.size w).drew.alloc (Nat.le_refl _) (.cells (Lib.bytesCells w e s) e))
 refine ⟨rfl, rfl, rfl, ?_, fun i hi => ?_⟩
 ·
  simp [Lib.bytesWorld, World.freeze]
 have := h1.block i hi
 simp only [Lib.bytesWorld, World.freeze]
 rw [if_neg (by decide)]
 simp only
 rw [Array.getElem?_modify, if_neg (by show ¬ w.heap.size = i; omega)]
 exact this
theorem kind_set {w : World} {g : Nat} {t : TypeId} {a b c d : Value} (h : Blk w g t #[a, b, c, d]) (e : Value) : Blk (w.setCell ⟨g, 0, none⟩ e) g t #[e, b, c, d] := by
 have := h.set_ 0 e
 simpa using this
def LexEnds (w : World) (s : List UInt8) (e : Ending) (w' : World) : Prop := Below w.heap.size w w' ∧ ∃ A c, e = .returned (.tuple #[.slice A (lexT s).length c, .int .i64 (lexP s : Nat), .int .i64 (lexE s : Nat)]) ∧ RdT w' w'.heap.size A (lexT s) ∧ (lexT s).length ≤ c
theorem lex_bad_ends {w wr w1 : World} {s : List UInt8} {p : Nat} {T : List Tok} {v : Value} {x : UInt8} {r : List UInt8} (h : LexAt w s p T v wr) (hr : s.drop p = x :: r) (e : lexStep (x :: r) = .bad) (h8 : ¬ 8000 < s.length) (b : Below wr.heap.size wr w1) :
  LexEnds w s (.returned (.tuple #[.slice none 0 0, .int .i64 p, .int .i64 10])) w1 := by
 obtain ⟨e1, e2, e3⟩ := lex_bad h hr e h8
 refine ⟨below_on h.2.2.1 b, none, 0, by rw [e1, e2, e3]; rfl, by rw [e1]; exact RdT.nil _ _ _, by rw [e1]; exact Nat.le_refl _⟩
theorem lex_end_ends {w wr : World} {s : List UInt8} {p : Nat} {T : List Tok} {v : Value} (h : LexAt w s p T v wr) (hp : ¬ p < s.length) (h8 : ¬ 8000 < s.length) :
  LexEnds w s (.returned (.tuple #[v, .int .i64 0, .int .i64 0])) wr := by
 obtain ⟨e1, e2, e3⟩ := lex_end h hp h8
 obtain ⟨A, c, rfl, hC, hR⟩ := h.2.2.2.1.form
 exact ⟨h.2.2.1, A, c, by rw [e1, e2, e3]; rfl, by rw [e1]; exact hR, by rw [e1]; exact hC⟩
theorem lex_any (w : World) (s : List UInt8) (hs : s.length ≤ 9223372036854775807) :
  Calls Tryz.prog 12 #[str s] w fun e w' => LexEnds w s e w' := by
 by_cases h8 : 8000 < s.length
 ·
  have h9 : lexT s = [] := if_pos h8
  have h10 : lexP s = 0 := if_pos h8
  have h11 : lexE s = 2 := if_pos h8
  unfold LexEnds
  rw [h9, h10, h11]
  clear h9 h10 h11
  go_enter Tryz.func12, Tryz.ntmps12
  go_wp2
  go_ret3
  exact ⟨Below.refl _ _, none, 0, rfl, RdT.nil _ _ _, Nat.le_refl _⟩
 have H8 := hid h8
 have h8' : (s.length : Int) ≤ 8000 := by omega
 go_enter Tryz.func12, Tryz.ntmps12
 go_wp2
 go_loopw [5, 6] (fun v i wx => ∃ (p : Nat) (T : List Tok), i = .int .i64 p ∧ Hid (LexAt w s p T v wx)) (fun _ i _ => s.length - (intOf i).toNat)
 case atStart => exact ⟨0, [], rfl, Nat.zero_le _, Nat.zero_le _, Below.refl _ _, OwnT.start _ _, by simp⟩
 case round =>
  obtain ⟨p, T, rfl, HA⟩ := hrel
  by_cases hlt : p < s.length
  ·
   obtain ⟨x, r, hr⟩ : ∃ x r, s.drop p = x :: r := List.exists_cons_of_ne_nil (by intro e; have := congrArg List.length e; simp at this; omega)
   have hlen := drop_len hr
   have hex := ext_from s p s.length rfl
   rw [hr] at hex
   have hex1 : (⟨(x :: r).toArray⟩ : ByteArray).extract 0 1 = ⟨[x].toArray⟩ := ext_to (x :: r) 1
   have HN := hid hlen
   have hrl : (x :: r).length ≤ 9223372036854775807 := by simp; omega
   have HRD := hid hr
   have HRL := hid hrl
   clear hr hlen hrl h8
   by_cases hx : isBlank x = true
   ·
    have H1 := hid fun w => hasB w x true hx
    obtain ⟨k, hk⟩ : ∃ k, ((x :: r).takeWhile isBlank).length = k := ⟨_, rfl⟩
    have H2 := hid fun w => runB w (x :: r) HRL.out k hk
    have hk1 : k ≤ r.length + 1 := by have := takeWhile_len_le isBlank (x :: r); rw [hk] at this; simpa using this
    have hk0 : 1 ≤ k := by rw [← hk, List.takeWhile_cons, if_pos hx]; simp
    have HK := hid hk
    clear hx hk
    go_wp2_with (first
     | (go_at_call 24; with_reducible refine (H1.out _).mono ?_; rintro e w1 ⟨rfl, rfl⟩)
     | (go_at_call 25; with_reducible refine (H2.out _).mono ?_; rintro e w1 ⟨rfl, b1⟩; replace b1 := hid b1))
    have hlen := HN.out
    go_roundw
    case rel => exact ⟨p + k, T, by first | exact lex_pos s.length p k (by omega) (by omega) | exact lex_pos' p k, lex_skip HA.out HRD.out (((Below.refl wr.heap.size wr).alloc (Nat.le_refl _) _).trans (b1.out.mono (by simp))) (lexA_blanks k p (x :: r) (Nat.le_of_eq HK.out.symm)) hk1⟩
    case measure => first | exact lex_meas s.length p k (by omega) (by omega) hk0 | exact lex_meas' s.length p k (by omega) hk0
   have HX := hid hx
   have H1 := hid fun w => hasB w x false (by simpa using hx)
   clear hx
   by_cases hx2 : x = 35
   ·
    have HX2 := hid hx2
    have hq : (x == 35) = true := by simpa using hx2
    have hk : (r.takeWhile (· != 10)).length + 1 = ((x :: r).takeWhile (· != 10)).length := by rw [List.takeWhile_cons, if_pos (by rw [hx2]; decide)]; rfl
    have HS : Hid (lexStep (x :: r) = .skip ((x :: r).takeWhile (· != 10)).length) := by
     show _ = _
     simp only [lexStep]
     rw [if_neg HX.out, if_pos hq, ← hk, Nat.add_comm]
    have hk1 := takeWhile_len_le (· != 10) (x :: r)
    have H3 := hid fun w => idx_nl w (x :: r)
    rcases hc : (x :: r).contains 10 with _ | _
    ·
     have hall : ((x :: r).takeWhile (· != 10)).length = r.length + 1 := by
      rw [takeWhile_all _ _ (fun y hy => by rw [bne_iff_ne]; rintro rfl; rw [List.contains_iff_mem.2 hy] at hc; cases hc)]; rfl
     rw [hc] at H3
     rw [hall] at HS
     simp only [Bool.false_eq_true, if_false] at H3
     clear hc hall hk hx2 hk1
     go_wp2_with (first
      | (go_at_call 24; with_reducible refine (H1.out _).mono ?_; rintro e w1 ⟨rfl, rfl⟩)
      | (go_at_call 26; with_reducible refine (H3.out _).mono ?_; rintro e w1 ⟨rfl, rfl⟩))
     have hlen := HN.out
     go_roundw
     case rel => exact ⟨p + (r.length + 1), T, by first | exact lex_pos s.length p (r.length + 1) (by omega) (by omega) | exact lex_pos' p (r.length + 1) | (refine congrArg _ ?_; omega), lex_skip HA.out HRD.out ((Below.refl wr.heap.size wr).alloc (Nat.le_refl _) _) (lexA_skip HS.out) (Nat.le_refl _)⟩
     case measure => first | exact lex_meas s.length p (r.length + 1) (by omega) (by omega) (by omega) | exact lex_meas' s.length p (r.length + 1) (by omega) (by omega) | (simp only [intOf]; omega)
    rw [hc] at H3
    simp only [if_true] at H3
    obtain ⟨k, hk2⟩ : ∃ k, ((x :: r).takeWhile (· != 10)).length = k := ⟨_, rfl⟩
    rw [hk2] at H3 HS hk1 hk
    have hk0 : 1 ≤ k := by omega
    have hkn : ¬ (k : Int) < 0 := by omega
    simp only [List.length_cons] at hk1
    clear hc hk hk2 hx2
    go_wp2_with (first
     | (go_at_call 24; with_reducible refine (H1.out _).mono ?_; rintro e w1 ⟨rfl, rfl⟩)
     | (go_at_call 26; with_reducible refine (H3.out _).mono ?_; rintro e w1 ⟨rfl, rfl⟩))
    have hlen := HN.out
    go_roundw
    case rel => exact ⟨p + k, T, by first | exact lex_pos s.length p k (by omega) (by omega) | exact lex_pos' p k, lex_skip HA.out HRD.out ((Below.refl wr.heap.size wr).alloc (Nat.le_refl _) _) (lexA_skip HS.out) hk1⟩
    case measure => first | exact lex_meas s.length p k (by omega) (by omega) hk0 | exact lex_meas' s.length p k (by omega) hk0
   have HX2 := hid hx2
   have hq : (x == 35) = false := by simpa using hx2
   clear hx2
   by_cases hx3 : isLow x = true
   ·
    have H3 := hid fun w => hasL w x true hx3
    obtain ⟨k, hk⟩ : ∃ k, ((x :: r).takeWhile isWord).length = k := ⟨_, rfl⟩
    have H4 := hid fun w => runW w (x :: r) HRL.out k hk
    have hk1 : k ≤ r.length + 1 := by have := takeWhile_len_le isWord (x :: r); rw [hk] at this; simpa using this
    have hk0 : 1 ≤ k := by rw [← hk, List.takeWhile_cons, if_pos (by unfold isWord; rw [hx3]; rfl)]; simp
    have hkw : 1 + (r.takeWhile isWord).length = k := by rw [← hk, List.takeWhile_cons, if_pos (by unfold isWord; rw [hx3]; rfl)]; simp; omega
    have HS : Hid (lexStep (x :: r) = if 16 < k then .bad else .tok 1 0 k) := by
     show _ = _
     simp only [lexStep]
     rw [if_neg HX.out, if_neg (by rw [hq]; decide), if_pos hx3, hkw]
    have hex2 : (⟨(x :: r).toArray⟩ : ByteArray).extract 0 k = ⟨((x :: r).take k).toArray⟩ := ext_to (x :: r) k
    clear hk hx3 hkw
    by_cases h16 : 16 < k
    ·
     rw [if_pos h16] at HS
     have h16i : (16 : Int) < (k : Int) := by omega
     clear h16
     go_wp2_with (first
      | (go_at_call 24; with_reducible refine (H1.out _).mono ?_; rintro e w1 ⟨rfl, rfl⟩)
      | (go_at_call 24; with_reducible refine (H3.out _).mono ?_; rintro e w1 ⟨rfl, rfl⟩)
      | (go_at_call 25; with_reducible refine (H4.out _).mono ?_; rintro e w1 ⟨rfl, b1⟩; have K1 := (Blk.new wr 40 #[.int .i64 0, .int .i64 p, .int .i64 0, .string ⟨#[]⟩]).below b1 (by simp); have c0 := K1.cell 0; have f0 := K1.frozen 0; clear K1; replace b1 := hid b1))
     go_ret3
     exact lex_bad_ends HA.out HRD.out HS.out H8.out ((((Below.refl wr.heap.size wr).alloc (Nat.le_refl _) _).trans (b1.out.mono (by simp))).setCell (p := ⟨wr.heap.size, 0, none⟩) (Nat.le_refl _) _)
    rw [if_neg h16] at HS
    have h16i : ¬ (16 : Int) < (k : Int) := by omega
    clear h16
    go_wp2_with (first
     | (go_at_call 24; with_reducible refine (H1.out _).mono ?_; rintro e w1 ⟨rfl, rfl⟩)
     | (go_at_call 24; with_reducible refine (H3.out _).mono ?_; rintro e w1 ⟨rfl, rfl⟩)
     | (go_at_call 25; with_reducible refine (H4.out _).mono ?_; rintro e w1 ⟨rfl, b1⟩; have K1 := (Blk.new wr 40 #[.int .i64 0, .int .i64 p, .int .i64 0, .string ⟨#[]⟩]).below b1 (by simp); have c0 := K1.cell 0; have f0 := K1.frozen 0; have c1 := K1.cell 1; have c2 := K1.cell 2; have c3 := K1.cell 3; have f3 := K1.frozen 3; clear K1; have b2 := hid (((Below.refl wr.heap.size wr).alloc (Nat.le_refl _) _).trans (b1.mono (by simp))); clear b1)
     | (at_builtin; go_must (refine wpList_appt _ rfl _ _ rfl w.heap.size _ T rfl (HA.out.2.2.2.1.on (far2 b2.out _ _ _ _ _)) _ _ _ ⟨1, p, 0, (x :: r).take k⟩ rfl (shows_tok' _ ⟨1, p, 0, (x :: r).take k⟩ _ (by simp)) (by have := HA.out.2.1; omega) (by have := b2.out.size; have := HA.out.2.2.1.size; simp; omega) ?_); intro v4 w4 ho4 hg4 _; replace ho4 := hid ho4; replace hg4 := hid hg4))
    have hlen := HN.out
    go_roundw
    case rel => exact ⟨p + k, _, by first | exact lex_pos s.length p k (by omega) (by omega) | exact lex_pos' p k, lex_pushed HA.out HRD.out HS.out (far2 b2.out _ _ _ _ _) ho4.out hg4.out⟩
    case measure => first | exact lex_meas s.length p k (by omega) (by omega) hk0 | exact lex_meas' s.length p k (by omega) hk0
   have H3 := hid fun w => hasL w x false (by simpa using hx3)
   have HX3 := hid hx3
   clear hx3
   by_cases hx4 : isDig x = true
   ·
    have H4 := hid fun w => hasD w x true hx4
    obtain ⟨k, hk⟩ : ∃ k, ((x :: r).takeWhile isDig).length = k := ⟨_, rfl⟩
    have H5 := hid fun w => runD w (x :: r) HRL.out k hk
    have hk1 : k ≤ r.length + 1 := by have := takeWhile_len_le isDig (x :: r); rw [hk] at this; simpa using this
    have hk0 : 1 ≤ k := by rw [← hk, List.takeWhile_cons, if_pos hx4]; simp
    have hkw : 1 + (r.takeWhile isDig).length = k := by rw [← hk, List.takeWhile_cons, if_pos hx4]; simp; omega
    have htk : (x :: r).take k = x :: r.takeWhile isDig := by
     rw [← hkw, Nat.add_comm, List.take_succ_cons]
     congr 1
     conv => lhs; rw [← List.takeWhile_append_dropWhile (p := isDig) (l := r)]
     rw [List.take_left']
     try rw [List.takeWhile_append_dropWhile]
    obtain ⟨N, hN⟩ : ∃ N, num 0 (x :: r.takeWhile isDig) = N := ⟨_, rfl⟩
    have HS : Hid (lexStep (x :: r) = if 7 < k ∨ (1 < k ∧ x = 48) then .bad else .tok 2 N k) := by
     show _ = _
     simp only [lexStep]
     rw [if_neg HX.out, if_neg (by rw [hq]; decide), if_neg HX3.out, if_pos hx4, hkw, hN]
    have HAT : Hid (Lib.atoi ((x :: r).take k) = some (N : Int)) := by
     show _ = _
     rw [htk, ← hN]
     exact atoi_digs (by simp) (fun y hy => by
      rcases List.mem_cons.1 hy with rfl | hy
      ·
       exact hx4
      exact (List.all_takeWhile (p := isDig) (l := r) |> List.all_eq_true.1) y hy)
    have H6 : Hid (k ≤ 7 → ∀ w, Calls Tryz.prog 27 #[str ((x :: r).take k)] w fun e w' => e = .returned (.tuple #[.int .i64 N, .nilIface]) ∧ Below w.heap.size w w') := fun h7 w => (Tryz.strconv_Atoi ⟨((x :: r).take k).toArray⟩ N (by simp [ByteArray.size]; omega) HAT.out w).mono fun e w' ⟨h1, t, h2⟩ => ⟨h1, by rw [h2]; exact below_bytes w _ t⟩
    have hex2 : (⟨(x :: r).toArray⟩ : ByteArray).extract 0 k = ⟨((x :: r).take k).toArray⟩ := ext_to (x :: r) k
    clear hk hx4 hkw htk hN HAT
    by_cases h7 : 7 < k
    ·
     rw [if_pos (.inl h7)] at HS
     have h7i : (7 : Int) < (k : Int) := by omega
     clear h7
     go_wp2_with (first
      | (go_at_call 24; with_reducible refine (H1.out _).mono ?_; rintro e w1 ⟨rfl, rfl⟩)
      | (go_at_call 24; with_reducible refine (H3.out _).mono ?_; rintro e w1 ⟨rfl, rfl⟩)
      | (go_at_call 24; with_reducible refine (H4.out _).mono ?_; rintro e w1 ⟨rfl, rfl⟩)
      | (go_at_call 25; with_reducible refine (H5.out _).mono ?_; rintro e w1 ⟨rfl, b1⟩; have K1 := (Blk.new wr 40 #[.int .i64 0, .int .i64 p, .int .i64 0, .string ⟨#[]⟩]).below b1 (by simp); have c0 := K1.cell 0; have f0 := K1.frozen 0; clear K1; replace b1 := hid b1))
     go_ret3
     exact lex_bad_ends HA.out HRD.out HS.out H8.out ((((Below.refl wr.heap.size wr).alloc (Nat.le_refl _) _).trans (b1.out.mono (by simp))).setCell (p := ⟨wr.heap.size, 0, none⟩) (Nat.le_refl _) _)
    by_cases h1 : 1 < k
    ·
     by_cases h48 : x = 48
     ·
      rw [if_pos (.inr ⟨h1, h48⟩)] at HS
      have h7i : ¬ (7 : Int) < (k : Int) := by omega
      have h1i : (1 : Int) < (k : Int) := by omega
      have hq0 : (x == 48) = true := by simpa using h48
      clear h7 h1 h48
      go_wp2_with (first
     | (go_at_call 24; with_reducible refine (H1.out _).mono ?_; rintro e w1 ⟨rfl, rfl⟩)
     | (go_at_call 24; with_reducible refine (H3.out _).mono ?_; rintro e w1 ⟨rfl, rfl⟩)
     | (go_at_call 24; with_reducible refine (H4.out _).mono ?_; rintro e w1 ⟨rfl, rfl⟩)
     | (go_at_call 25; with_reducible refine (H5.out _).mono ?_; rintro e w1 ⟨rfl, b1⟩; have K1 := (Blk.new wr 40 #[.int .i64 0, .int .i64 p, .int .i64 0, .string ⟨#[]⟩]).below b1 (by simp); have c0 := K1.cell 0; have f0 := K1.frozen 0; clear K1; replace b1 := hid b1))
      go_ret3
      exact lex_bad_ends HA.out HRD.out HS.out H8.out ((((Below.refl wr.heap.size wr).alloc (Nat.le_refl _) _).trans (b1.out.mono (by simp))).setCell (p := ⟨wr.heap.size, 0, none⟩) (Nat.le_refl _) _)
     ·
      rw [if_neg (by rintro (h | ⟨_, h⟩); exact h7 h; exact h48 h)] at HS
      have H7 := hid (H6.out (by omega))
      have h7i : ¬ (7 : Int) < (k : Int) := by omega
      have h1i : (1 : Int) < (k : Int) := by omega
      have hq0 : (x == 48) = false := by simpa using h48
      clear h7 h1 h48
      go_wp2_with (first
     | (go_at_call 24; with_reducible refine (H1.out _).mono ?_; rintro e w1 ⟨rfl, rfl⟩)
     | (go_at_call 24; with_reducible refine (H3.out _).mono ?_; rintro e w1 ⟨rfl, rfl⟩)
     | (go_at_call 24; with_reducible refine (H4.out _).mono ?_; rintro e w1 ⟨rfl, rfl⟩)
     | (go_at_call 25; with_reducible refine (H5.out _).mono ?_; rintro e w1 ⟨rfl, b1⟩; have K1 := (Blk.new wr 40 #[.int .i64 0, .int .i64 p, .int .i64 0, .string ⟨#[]⟩]).below b1 (by simp); have c0 := K1.cell 0; have f0 := K1.frozen 0; replace K1 := hid K1; have b2 := hid (((Below.refl wr.heap.size wr).alloc (Nat.le_refl _) _).trans (b1.mono (by simp))); clear b1)
     | (go_at_call 27; with_reducible refine (H7.out _).mono ?_; rintro e w2 ⟨rfl, b3⟩; have K2 : Blk w2 wr.heap.size 40 #[.int .i64 2, .int .i64 p, .int .i64 0, .string ⟨#[]⟩] := (kind_set K1.out (.int .i64 2)).below b3 (by have := K1.out.lt; simpa [World.setCell] using this); have b4 := hid ((b2.out.setCell (p := ⟨wr.heap.size, 0, none⟩) (Nat.le_refl _) (.int .i64 2)).trans (b3.mono (by have := K1.out.lt; simp [World.setCell]; omega))); clear b3 c0 f0; have c0 := K2.cell 0; have c1 := K2.cell 1; have c2 := K2.cell 2; have f2 := K2.frozen 2; have c3 := K2.cell 3; have f3 := K2.frozen 3; clear K2)
     | (at_builtin; go_must (refine wpList_appt _ rfl _ _ rfl w.heap.size _ T rfl (HA.out.2.2.2.1.on (far2 b4.out _ _ _ _ _)) _ _ _ ⟨2, p, N, (x :: r).take k⟩ rfl (shows_tok' _ ⟨2, p, N, (x :: r).take k⟩ _ (by simp)) (by have := HA.out.2.1; omega) (by have := b4.out.size; have := HA.out.2.2.1.size; simp; omega) ?_); intro v4 w4 ho4 hg4 _; replace ho4 := hid ho4; replace hg4 := hid hg4))
      have hlen := HN.out
      go_roundw
      case rel => exact ⟨p + k, _, by first | exact lex_pos s.length p k (by omega) (by omega) | exact lex_pos' p k, lex_pushed HA.out HRD.out HS.out (far2 b4.out _ _ _ _ _) ho4.out hg4.out⟩
      case measure => first | exact lex_meas s.length p k (by omega) (by omega) hk0 | exact lex_meas' s.length p k (by omega) hk0
    rw [if_neg (by rintro (h | ⟨h, _⟩); exact h7 h; exact h1 h)] at HS
    have H7 := hid (H6.out (by omega))
    have h7i : ¬ (7 : Int) < (k : Int) := by omega
    have h1i : ¬ (1 : Int) < (k : Int) := by omega
    clear h7 h1
    go_wp2_with (first
    | (go_at_call 24; with_reducible refine (H1.out _).mono ?_; rintro e w1 ⟨rfl, rfl⟩)
    | (go_at_call 24; with_reducible refine (H3.out _).mono ?_; rintro e w1 ⟨rfl, rfl⟩)
    | (go_at_call 24; with_reducible refine (H4.out _).mono ?_; rintro e w1 ⟨rfl, rfl⟩)
    | (go_at_call 25; with_reducible refine (H5.out _).mono ?_; rintro e w1 ⟨rfl, b1⟩; have K1 := (Blk.new wr 40 #[.int .i64 0, .int .i64 p, .int .i64 0, .string ⟨#[]⟩]).below b1 (by simp); have c0 := K1.cell 0; have f0 := K1.frozen 0; replace K1 := hid K1; have b2 := hid (((Below.refl wr.heap.size wr).alloc (Nat.le_refl _) _).trans (b1.mono (by simp))); clear b1)
    | (go_at_call 27; with_reducible refine (H7.out _).mono ?_; rintro e w2 ⟨rfl, b3⟩; have K2 : Blk w2 wr.heap.size 40 #[.int .i64 2, .int .i64 p, .int .i64 0, .string ⟨#[]⟩] := (kind_set K1.out (.int .i64 2)).below b3 (by have := K1.out.lt; simpa [World.setCell] using this); have b4 := hid ((b2.out.setCell (p := ⟨wr.heap.size, 0, none⟩) (Nat.le_refl _) (.int .i64 2)).trans (b3.mono (by have := K1.out.lt; simp [World.setCell]; omega))); clear b3 c0 f0; have c0 := K2.cell 0; have c1 := K2.cell 1; have c2 := K2.cell 2; have f2 := K2.frozen 2; have c3 := K2.cell 3; have f3 := K2.frozen 3; clear K2)
    | (at_builtin; go_must (refine wpList_appt _ rfl _ _ rfl w.heap.size _ T rfl (HA.out.2.2.2.1.on (far2 b4.out _ _ _ _ _)) _ _ _ ⟨2, p, N, (x :: r).take k⟩ rfl (shows_tok' _ ⟨2, p, N, (x :: r).take k⟩ _ (by simp)) (by have := HA.out.2.1; omega) (by have := b4.out.size; have := HA.out.2.2.1.size; simp; omega) ?_); intro v4 w4 ho4 hg4 _; replace ho4 := hid ho4; replace hg4 := hid hg4))
    have hlen := HN.out
    go_roundw
    case rel => exact ⟨p + k, _, by first | exact lex_pos s.length p k (by omega) (by omega) | exact lex_pos' p k, lex_pushed HA.out HRD.out HS.out (far2 b4.out _ _ _ _ _) ho4.out hg4.out⟩
    case measure => first | exact lex_meas s.length p k (by omega) (by omega) hk0 | exact lex_meas' s.length p k (by omega) hk0
   have H4 := hid fun w => hasD w x false (by simpa using hx4)
   have HX4 := hid hx4
   clear hx4
   by_cases hx5 : isMark x = true
   ·
    have H5 := hid fun w => hasM w x true hx5
    have HS : Hid (lexStep (x :: r) = .tok 3 0 1) := by
     show _ = _
     simp only [lexStep]
     rw [if_neg HX.out, if_neg (by rw [hq]; decide), if_neg HX3.out, if_neg HX4.out, if_pos hx5]
    clear hx5
    have b2 := hid (((Below.refl wr.heap.size wr).alloc (Nat.le_refl _) (.cells #[.int .i64 3, .int .i64 p, .int .i64 0, str [x]] 40)).alloc (by simp) (.cells #[.int .i64 3, .int .i64 p, .int .i64 0, str [x]] 40))
    go_wp2_with (first
      | (go_at_call 24; with_reducible refine (H1.out _).mono ?_; rintro e w1 ⟨rfl, rfl⟩)
      | (go_at_call 24; with_reducible refine (H3.out _).mono ?_; rintro e w1 ⟨rfl, rfl⟩)
      | (go_at_call 24; with_reducible refine (H4.out _).mono ?_; rintro e w1 ⟨rfl, rfl⟩)
      | (go_at_call 24; with_reducible refine (H5.out _).mono ?_; rintro e w1 ⟨rfl, rfl⟩)
      | (at_builtin; go_must (refine wpList_appt _ rfl _ _ rfl w.heap.size _ T rfl (HA.out.2.2.2.1.on b2.out) _ _ _ ⟨3, p, 0, [x]⟩ rfl (shows_tok' _ ⟨3, p, 0, [x]⟩ _ (by simp)) (by have := HA.out.2.1; omega) (by have := b2.out.size; have := HA.out.2.2.1.size; simp; omega) ?_); intro v4 w4 ho4 hg4 _; replace ho4 := hid ho4; replace hg4 := hid hg4))
    have hlen := HN.out
    go_roundw
    case rel => exact ⟨p + 1, _, by first | exact lex_pos s.length p 1 (by omega) (by omega) | exact lex_pos' p 1 | (refine congrArg _ ?_; omega), lex_pushed HA.out HRD.out HS.out b2.out ho4.out hg4.out⟩
    case measure => first | exact lex_meas s.length p 1 (by omega) (by omega) (by omega) | exact lex_meas' s.length p 1 (by omega) (by omega) | (simp only [intOf]; omega)
   have H5 := hid fun w => hasM w x false (by simpa using hx5)
   have HS : Hid (lexStep (x :: r) = .bad) := by
    show _ = _
    simp only [lexStep]
    rw [if_neg HX.out, if_neg (by rw [hq]; decide), if_neg HX3.out, if_neg HX4.out, if_neg hx5]
   clear hx5
   go_wp2_with (first
     | (go_at_call 24; with_reducible refine (H1.out _).mono ?_; rintro e w1 ⟨rfl, rfl⟩)
     | (go_at_call 24; with_reducible refine (H3.out _).mono ?_; rintro e w1 ⟨rfl, rfl⟩)
     | (go_at_call 24; with_reducible refine (H4.out _).mono ?_; rintro e w1 ⟨rfl, rfl⟩)
     | (go_at_call 24; with_reducible refine (H5.out _).mono ?_; rintro e w1 ⟨rfl, rfl⟩))
   go_ret3
   exact lex_bad_ends HA.out HRD.out HS.out H8.out ((Below.refl wr.heap.size wr).alloc (Nat.le_refl _) _)
  have hlti : ¬ (p : Int) < (s.length : Int) := by omega
  have HLT := hid hlt
  clear hlt
  go_wp2
  go_ret3
  exact lex_end_ends HA.out HLT.out H8.out
end Go.Proofs.YtcjhihmaegagdaaGreatDoor
