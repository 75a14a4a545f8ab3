/- Texts of the Notation chapter, together: Ra, Rb, Rc, Rd, Re, Rf, Rg. -/
import Derived.Test.YtcjhihmaegagdaaGreatDoorG3
import Derived.Test.YtcjhihmaegagdaaGreatDoorG1
import Derived.Maps.OwnSet
import Derived.Maps.OwnOps
import Derived.Maps.Views
import Derived.Deep.Quiet
import Derived.Deep.QuietTactic
set_option maxRecDepth 100000
set_option maxHeartbeats 8000000
set_option linter.unusedSimpArgs false
set_option linter.unusedVariables false
set_option linter.unusedSectionVars false
set_option linter.unnecessarySimpa false
namespace Go.Proofs.YtcjhihmaegagdaaGreatDoor
open Go.RowKit Go.Deep
structure Only (g : Nat) (w w' : World) : Prop where
 os : w'.os = w.os
 tape : w'.tape = w.tape
 output : w'.output = w.output
 size : w.heap.size ≤ w'.heap.size
 block : ∀ k, k ≠ g → k < w.heap.size → w'.heap[k]? = w.heap[k]?
theorem Only.refl (g : Nat) (w : World) : Only g w w := ⟨rfl, rfl, rfl, Nat.le_refl _, fun _ _ _ => rfl⟩
theorem Only.trans {g : Nat} {a b c : World} (h : Only g a b) (k : Only g b c) : Only g a c :=
 ⟨k.os.trans h.os, k.tape.trans h.tape, k.output.trans h.output, Nat.le_trans h.size k.size, fun i hi hl => (k.block i hi (Nat.lt_of_lt_of_le hl h.size)).trans (h.block i hi hl)⟩
theorem Only.setCell {g : Nat} {a w : World} (h : Only g a w) (i : Nat) (v : Value) : Only g a (w.setCell ⟨g, i, none⟩ v) :=
 ⟨h.os, h.tape, h.output, by rw [show (w.setCell ⟨g, i, none⟩ v).heap.size = w.heap.size from by simp]; exact h.size, fun k hk hl => (heap_setCell_other w ⟨g, i, none⟩ k v hk).trans (h.block k hk hl)⟩
theorem Only.below {g B : Nat} {w w' : World} (h : Only g w w') (hB : B ≤ g) (hs : B ≤ w.heap.size) : Below B w w' := ⟨h.os, h.tape, h.output, h.size, fun k hk => h.block k (by omega) (by omega)⟩
theorem Only.cell {g : Nat} {w w' : World} (h : Only g w w') {p : Addr} (hp : p.block ≠ g) (hl : p.block < w.heap.size) : w'.cell? p = w.cell? p := World.cell?_of_block (h.block p.block hp hl)
theorem Only.drew {g : Nat} {a w : World} (h : Only g a w) : Only g a w.drew := ⟨h.os, h.tape, h.output, h.size, h.block⟩
theorem Only.of_below {g : Nat} {w w' : World} (h : Below w.heap.size w w') : Only g w w' := ⟨h.os, h.tape, h.output, h.size, fun k _ hl => h.block k hl⟩
theorem Only.blk {g x : Nat} {w w' : World} {t : TypeId} {cs : Array Value} (h : Only g w w') (hb : Blk w x t cs) (hx : x ≠ g) : Blk w' x t cs := (h.block x hx hb.lt).trans hb
abbrev failed (p k : Nat) : Ending := .panicked [{ v := .iface 70 (.agg #[.int .i64 p, .int .i64 k]), recovered := false }]
structure Rc where
 m : Value
 v : Value
 n : Value
 p : Value
 q : Value
def TkAt (W : World) (g en : Nat) (x : Rc) (ts : List Tok) : Prop :=
 ∃ A c, Blk W g 68 #[.slice A ts.length c, .int .i64 en, x.m, x.v, x.n, x.p, x.q] ∧ RdT W (g - 1) A ts ∧ ts.length ≤ c
theorem TkAt.lt {W : World} {g en : Nat} {x : Rc} {ts : List Tok} (h : TkAt W g en x ts) : g < W.heap.size := by
 obtain ⟨A, c, h, _⟩ := h
 exact h.lt
theorem TkAt.alloc {W : World} {g en : Nat} {x : Rc} {ts : List Tok} (h : TkAt W g en x ts) (o : Obj) : TkAt (W.alloc o) g en x ts := by
 have hl := h.lt
 obtain ⟨A, c, h1, h2, h3⟩ := h
 exact ⟨A, c, h1.alloc o, h2.alloc (by omega) o, h3⟩
theorem Only.alloc {g : Nat} {a w : World} (h : Only g a w) (o : Obj) : Only g a (w.alloc o) := h.trans (Only.of_below ((Below.refl w.heap.size w).alloc (Nat.le_refl _) o))
theorem TkAt.below {W W' : World} {g en : Nat} {x : Rc} {ts : List Tok} (h : TkAt W g en x ts) (b : Below W.heap.size W W') : TkAt W' g en x ts := by
 have hl := h.lt
 obtain ⟨A, c, h1, h2, h3⟩ := h
 exact ⟨A, c, h1.below b hl, h2.below (b.mono (by omega)), h3⟩
theorem blk_load {W : World} {g : Nat} {t : TypeId} {cs : Array Value} (h : Blk W g t cs) : ∀ j v, cs.toList[j]? = some v → W.cell? ((⟨g, 0, none⟩ : Addr).add j) = some v := by
 intro j v hv
 have e : (⟨g, 0, none⟩ : Addr).add j = ⟨g, j, none⟩ := by unfold Addr.add; split <;> simp_all
 rw [e, h.cell j]
 simpa using hv
theorem size_tok : (Tryz.prog.info? 40).map (·.size) = some 4 := by kernel_rfl
def nextT : List Tok → Tok
 | [] => ⟨0, 0, 0, []⟩
 | t :: _ => t
def TEnds {α : Type} (W : World) (g en : Nat) (x : Rc) (val : α → Value) (q : Rs α) (e : Ending) (w' : World) : Prop :=
 Only g W w' ∧ match q with
 | .ok a r => e = .returned (val a) ∧ TkAt w' g en x r
 | .err r k => e = failed (offR en r) k
theorem TEnds.ok {α : Type} {W w' : World} {g en : Nat} {x : Rc} {val : α → Value} {a : α} {r : List Tok} (h : Only g W w') (k : TkAt w' g en x r) : TEnds W g en x val (.ok a r) (.returned (val a)) w' := ⟨h, rfl, k⟩
theorem TEnds.err {α : Type} {W w' : World} {g en : Nat} {x : Rc} {val : α → Value} {k : Nat} {r : List Tok} (h : Only g W w') : TEnds (α := α) W g en x val (.err r k) (failed (offR en r) k) w' := ⟨h, rfl⟩
theorem at_any (W : World) (g en : Nat) (x : Rc) (ts : List Tok) (h : TkAt W g en x ts) :
  Calls Tryz.prog 109 #[.pointer (some ⟨g, 0, none⟩)] W fun e w' => e = .returned (.int .i64 (offR en ts : Nat)) ∧ w' = W := by
 obtain ⟨A, c, hb, hr, hc⟩ := h
 have c0 := hb.cell 0
 have c1 := hb.cell 1
 cases ts with
 | nil =>
  clear hb hr hc
  go_enter Tryz.func109, Tryz.ntmps109
  go_wp2
  go_ret
  exact ⟨rfl, rfl⟩
 | cons t r =>
  obtain ⟨ad, rfl, hlt, q0, q1, q2, q3⟩ := hr.at (i := 0) (by simp)
  rw [show ad.add (0 * 4) = ad from by simp [Addr.add]] at q0 q1 q2 q3
  simp only [List.getElem_cons_zero] at q0 q1 q2 q3
  simp only [List.length_cons] at c0
  clear hb hr hc q0 q2 q3
  go_enter Tryz.func109, Tryz.ntmps109
  go_wp2
  go_ret
  exact ⟨rfl, rfl⟩
theorem next_any (W : World) (g en : Nat) (x : Rc) (ts : List Tok) (h : TkAt W g en x ts) :
  Calls Tryz.prog 62 #[.pointer (some ⟨g, 0, none⟩)] W fun e w' => e = .returned (.agg (nextT ts).cells) ∧ Below W.heap.size W w' := by
 have hl := h.lt
 obtain ⟨A, c, hb, hr, hc⟩ := h
 have c0 := hb.cell 0
 have hbl (o : Obj) := (Below.refl W.heap.size W).alloc (Nat.le_refl _) o
 have HBL := hid hbl
 cases ts with
 | nil =>
  clear hb hr hc hbl
  go_enter Tryz.func62, Tryz.ntmps62
  go_wp2
  refine bodyPost_ret (results_cell rfl _ ⟨W.heap.size, 0, none⟩ rfl _ Tryz.underlying40 rfl _ (nextT []).cells size_tok (blk_load (Blk.new W 40 (nextT []).cells))) rfl ?_
  exact ⟨rfl, HBL.out _⟩
 | cons t r =>
  obtain ⟨ad, rfl, hlt, q0, q1, q2, q3⟩ := hr.at (i := 0) (by simp)
  rw [show ad.add (0 * 4) = ad from by simp [Addr.add]] at q0 q1 q2 q3
  simp only [List.getElem_cons_zero] at q0 q1 q2 q3
  simp only [List.length_cons] at c0
  have hla : ad.block < W.heap.size := by omega
  clear hb hr hc hbl
  go_enter Tryz.func62, Tryz.ntmps62
  go_wp2
  refine bodyPost_ret (results_cell rfl _ ⟨W.heap.size, 0, none⟩ rfl _ Tryz.underlying40 rfl _ t.cells size_tok (blk_load (Blk.new W 40 t.cells))) rfl ?_
  exact ⟨rfl, HBL.out _⟩
theorem fail_any (W : World) (g en : Nat) (x : Rc) (ts : List Tok) (k : Nat) (h : TkAt W g en x ts) :
  Calls Tryz.prog 63 #[.pointer (some ⟨g, 0, none⟩), .int .i64 k] W fun e w' => e = failed (offR en ts) k ∧ w' = W := by
 have HA := hid (at_any W g en x ts h)
 clear h
 go_enter Tryz.func63, Tryz.ntmps63
 go_wp2_with (go_at_call 109; refine HA.out.mono ?_; rintro e w' ⟨rfl, rfl⟩)
 exact ⟨rfl, rfl, rfl⟩
theorem next_some (W : World) (g en : Nat) (x : Rc) (t : Tok) (r : List Tok) (h : TkAt W g en x (t :: r)) :
  Calls Tryz.prog 62 #[.pointer (some ⟨g, 0, none⟩)] W fun e w' => e = .returned (.agg #[.int .i64 t.kind, .int .i64 t.pos, .int .i64 t.n, str t.text]) ∧ Below W.heap.size W w' := next_any W g en x (t :: r) h
theorem next_none (W : World) (g en : Nat) (x : Rc) (h : TkAt W g en x []) :
  Calls Tryz.prog 62 #[.pointer (some ⟨g, 0, none⟩)] W fun e w' => e = .returned (.agg #[.int .i64 0, .int .i64 0, .int .i64 0, .string ⟨#[]⟩]) ∧ Below W.heap.size W w' := next_any W g en x [] h
theorem TkAt.step {W : World} {g en : Nat} {x : Rc} {t : Tok} {r : List Tok} {A : Option Addr} {c : Nat} (hb : Blk W g 68 #[.slice A (r.length + 1) c, .int .i64 en, x.m, x.v, x.n, x.p, x.q]) (hr : RdT W (g - 1) A (t :: r)) (hc : r.length + 1 ≤ c) :
  TkAt (W.setCell ⟨g, 0, none⟩ (.slice (if c = 1 then A else A.map (·.add 4)) r.length (c - 1))) g en x r := by
 have h1 := hb.set_ 0 (.slice (if c = 1 then A else A.map (·.add 4)) r.length (c - 1))
 exact ⟨_, c - 1, by simpa using h1, (hr.tail hc).setCell (p := ⟨g, 0, none⟩) (Nat.sub_le g 1) _, by omega⟩
theorem TkAt.pop1 {W : World} {g en : Nat} {x : Rc} {t : Tok} {r : List Tok} {A : Option Addr} {c : Nat} (hb : Blk W g 68 #[.slice A (t :: r).length c, .int .i64 en, x.m, x.v, x.n, x.p, x.q]) (hr : RdT W (g - 1) A (t :: r)) (hc : r.length + 1 ≤ c) (h1 : c = 1) :
  TkAt (W.setCell ⟨g, 0, none⟩ (.slice A r.length 0)) g en x r := by
 have := TkAt.step hb hr hc
 rw [if_pos h1, h1] at this
 exact this
theorem TkAt.popn {W : World} {g en : Nat} {x : Rc} {t : Tok} {r : List Tok} {A : Option Addr} {c : Nat} (hb : Blk W g 68 #[.slice A (t :: r).length c, .int .i64 en, x.m, x.v, x.n, x.p, x.q]) (hr : RdT W (g - 1) A (t :: r)) (hc : r.length + 1 ≤ c) (h1 : ¬ c = 1) :
  TkAt (W.setCell ⟨g, 0, none⟩ (.slice (Option.map (fun x => { block := x.block, off := x.off + 4 }) A) r.length (c - 1))) g en x r := by
 have := TkAt.step hb hr hc
 rw [if_neg h1] at this
 exact this
theorem only_of {W w' : World} {g : Nat} (b : Below W.heap.size W w') (v : Value) : Only g W (w'.setCell ⟨g, 0, none⟩ v) := (Only.of_below b).setCell 0 v
theorem tok_field3 (a b c d : Value) (w : World) : (Instr.field 40 (.agg #[a, b, c, d]) 3).run Tryz.prog w = .ok d w := by kernel_rfl
theorem bytes_beq {s t : List UInt8} (h : s ≠ t) : ((⟨s.toArray⟩ : ByteArray) == ⟨t.toArray⟩) = false := by
 show (s.toArray == t.toArray) = false
 rw [beq_eq_false_iff_ne]
 intro e
 exact h (by simpa using e)
theorem has_tok (W : World) (g en : Nat) (x : Rc) (ts : List Tok) (s : List UInt8) (hs : s ≠ []) (h : TkAt W g en x ts) :
  Calls Tryz.prog 106 #[.pointer (some ⟨g, 0, none⟩), str s] W fun e w' => e = .returned (.bool (hasR s ts).isSome) ∧ Only g W w' ∧ TkAt w' g en x ((hasR s ts).getD ts) := by
 have H := hid h
 have hf3 := tok_field3
 cases ts with
 | nil =>
  have HN := hid (next_none W g en x h)
  have hse : s.isEmpty = false := by cases s with | nil => exact absurd rfl hs | cons y l => rfl
  clear hs h
  go_enter Tryz.func106, Tryz.ntmps106
  go_wp2_with (go_at_call 62; refine HN.out.mono ?_; rintro e w' ⟨rfl, b1⟩; replace b1 := hid b1)
  go_ret
  exact ⟨rfl, Only.of_below b1.out, H.out.below b1.out⟩
 | cons t r =>
  have HN := hid (next_some W g en x t r h)
  by_cases hq : t.text = s
  ·
   have hh : hasR s (t :: r) = some r := if_pos hq
   rw [hh]
   simp only [Option.isSome_some, Option.getD_some]
   subst hq
   clear hh hs h
   go_enter Tryz.func106, Tryz.ntmps106
   go_wp2_with (go_at_call 62; refine HN.out.mono ?_; rintro e w' ⟨rfl, b1⟩; obtain ⟨A, c, hb, hr, hc⟩ := H.out.below b1; replace b1 := hid b1; have HB := hid hb; have HR := hid hr; have c0 := hb.cell 0; have f0 := hb.frozen 0; have hcl : r.length + 1 ≤ c := (by simpa using hc); have hcz : ¬ (c : Int) < 1 := (by omega); clear hb hr hc)
   all_goals go_ret
   ·
    exact ⟨rfl, only_of b1.out _, TkAt.pop1 HB.out HR.out hcl h⟩
   exact ⟨rfl, only_of b1.out _, TkAt.popn HB.out HR.out hcl h⟩
  have hh : hasR s (t :: r) = none := if_neg hq
  rw [hh]
  simp only [Option.isSome_none, Option.getD_none]
  have hq1 : (t.text == s) = false := by rw [beq_eq_false_iff_ne]; exact hq
  clear hh hs hq h
  go_enter Tryz.func106, Tryz.ntmps106
  go_wp2_with (go_at_call 62; refine HN.out.mono ?_; rintro e w' ⟨rfl, b1⟩; replace b1 := hid b1)
  go_ret
  exact ⟨rfl, Only.of_below b1.out, H.out.below b1.out⟩
theorem number_any (W : World) (g en : Nat) (x : Rc) (ts : List Tok) (h : TkAt W g en x ts) :
  Calls Tryz.prog 61 #[.pointer (some ⟨g, 0, none⟩)] W (TEnds W g en x (fun n : Nat => .int .i64 n) (numR ts)) := by
 have H := hid h
 have hl := h.lt
 cases ts with
 | nil =>
  have HN := hid (next_none W g en x h)
  rw [show numR [] = .err [] 10 from rfl]
  clear h
  go_enter Tryz.func61, Tryz.ntmps61
  go_wp2_with (first
   | (go_at_call 62; refine HN.out.mono ?_; rintro e w1 ⟨rfl, b1⟩; have hz := b1.size; have H1 := hid (H.out.below b1); replace b1 := hid b1)
   | (go_at_call 63; refine (fail_any _ g en x [] 10 (H1.out.alloc _)).mono ?_; rintro e w2 ⟨rfl, rfl⟩))
  exact ⟨rfl, TEnds.err (r := []) ((Only.of_below b1.out).alloc _)⟩
 | cons t r =>
  have HN := hid (next_some W g en x t r h)
  clear h
  by_cases hk : t.kind = 2
  ·
   have hk2 : ((t.kind : Int) == 2) = true := by rw [hk]; rfl
   have hq : numR (t :: r) = .ok t.n r := if_pos hk
   rw [hq]
   clear hk hq
   go_enter Tryz.func61, Tryz.ntmps61
   go_wp2_with (first
    | (go_at_call 62; refine HN.out.mono ?_; rintro e w1 ⟨rfl, b1⟩; have hz := b1.size; obtain ⟨A, c, hb, hr, hc⟩ := H.out.below b1; replace b1 := hid b1; have HB := hid hb; have HR := hid hr; have c0 := hb.cell 0; have f0 := hb.frozen 0; have hcl : r.length + 1 ≤ c := (by simpa using hc); have hcz : ¬ (c : Int) < 1 := (by omega); have hgl := hb.lt; have hgn : g ≠ w1.heap.size := (by omega); clear hb hr hc))
   all_goals go_ret
   ·
    exact TEnds.ok ((only_of b1.out _).alloc _) ((TkAt.pop1 HB.out HR.out hcl h).alloc _)
   exact TEnds.ok ((only_of b1.out _).alloc _) ((TkAt.popn HB.out HR.out hcl h).alloc _)
  have hk2 : ((t.kind : Int) == 2) = false := by rw [beq_eq_false_iff_ne]; omega
  have hq : numR (t :: r) = .err (t :: r) 10 := if_neg hk
  rw [hq]
  clear hk hq
  go_enter Tryz.func61, Tryz.ntmps61
  go_wp2_with (first
   | (go_at_call 62; refine HN.out.mono ?_; rintro e w1 ⟨rfl, b1⟩; have hz := b1.size; have H1 := hid (H.out.below b1); replace b1 := hid b1)
   | (go_at_call 63; refine (fail_any _ g en x (t :: r) 10 (H1.out.alloc _)).mono ?_; rintro e w2 ⟨rfl, rfl⟩))
  exact ⟨rfl, TEnds.err ((Only.of_below b1.out).alloc _)⟩
end Go.Proofs.YtcjhihmaegagdaaGreatDoor
namespace Go.Proofs.YtcjhihmaegagdaaGreatDoor
open Go.RowKit Go.Deep
theorem wants_some {s : List UInt8} {l : List (List UInt8)} {r r' : List Tok} (h : hasR s r = some r') : wantsR (s :: l) r = wantsR l r' := by
 simp only [wantsR, wantR, h, Rs.bind]
theorem wants_none {s : List UInt8} {l : List (List UInt8)} {r : List Tok} (h : hasR s r = none) : wantsR (s :: l) r = .err r 10 := by
 simp only [wantsR, wantR, h, Rs.bind]
theorem want_any (W : World) (g en h : Nat) (x : Rc) (ts : List Tok) (l : List (List UInt8)) (hs : ∀ s ∈ l, s ≠ []) (hb : Blk W h 9 (l.map str).toArray) (hne : h ≠ g) (hl : l.length ≤ 1000) (ht : TkAt W g en x ts) :
  Calls Tryz.prog 60 #[.pointer (some ⟨g, 0, none⟩), .slice (some ⟨h, 0, none⟩) l.length l.length] W (TEnds W g en x (fun _ : Unit => .tuple #[]) (wantsR l ts)) := by
 have HS := hid hs
 have HBK := hid hb
 have HT := hid ht
 clear hs hb ht
 go_enter Tryz.func60, Tryz.ntmps60
 go_wp2
 go_loopw [8] (fun i wx => ∃ (j : Nat) (r : List Tok), j ≤ l.length ∧ i = .int .i64 j ∧ Hid (Only g W wx) ∧ Hid (TkAt wx g en x r) ∧ Hid (wantsR l ts = wantsR (l.drop j) r)) (fun i _ => l.length - (intOf i).toNat)
 case atStart => exact ⟨0, ts, Nat.zero_le _, rfl, Only.refl _ _, HT, rfl⟩
 case round =>
  obtain ⟨j, r, hj, rfl, HO, HR, HW⟩ := hrel
  by_cases hlt : j < l.length
  ·
   have hbx := HO.out.blk HBK.out hne
   have c0 := hbx.cell j
   rw [show (l.map str).toArray[j]? = some (str l[j]) by simp [hlt]] at c0
   have hsn := HS.out l[j] (List.getElem_mem hlt)
   have HX := hid (has_tok wr g en x r l[j] hsn HR.out)
   rw [List.drop_eq_getElem_cons hlt] at HW
   have hll := hl
   generalize l[j] = s at *
   clear hbx hsn
   rcases hq : hasR s r with _ | r'
   ·
    rw [hq] at HX
    rw [wants_none hq] at HW
    simp only [Option.isSome_none, Option.getD_none] at HX
    clear hq
    go_wp2_with (first
     | (go_at_call 106; refine HX.out.mono ?_; rintro e w1 ⟨rfl, o1, t1⟩; replace o1 := hid o1; replace t1 := hid t1)
     | (go_at_call 63; refine (fail_any _ g en x r 10 t1.out).mono ?_; rintro e w2 ⟨rfl, rfl⟩))
    refine ⟨rfl, ?_⟩
    rw [HW.out]
    exact TEnds.err (HO.out.trans o1.out)
   rw [hq] at HX
   rw [wants_some hq] at HW
   simp only [Option.isSome_some, Option.getD_some] at HX
   clear hq
   go_wp2_with (first
    | (go_at_call 106; refine HX.out.mono ?_; rintro e w1 ⟨rfl, o1, t1⟩; replace o1 := hid o1; replace t1 := hid t1))
   go_roundw
   case rel => exact ⟨j + 1, r', by omega, by go_num, HO.out.trans o1.out, t1.out, HW.out⟩
   case measure => simp [intOf]; omega
  obtain rfl : j = l.length := by omega
  rw [List.drop_length] at HW
  go_wp2
  go_end0
  rw [HW.out]
  exact TEnds.ok (val := fun _ : Unit => .tuple #[]) (a := ()) HO.out HR.out
theorem TEnds.before {α : Type} {W W1 w' : World} {g en : Nat} {x : Rc} {val : α → Value} {q : Rs α} {e : Ending} (o : Only g W W1) (h : TEnds W1 g en x val q e w') : TEnds W g en x val q e w' := ⟨o.trans h.1, h.2⟩
theorem want_one (W : World) (g en : Nat) (x : Rc) (ts : List Tok) (s : List UInt8) (hs : s ≠ []) (q : Rs Unit) (hq : wantsR [s] ts = q) (ht : TkAt W g en x ts) :
  Calls Tryz.prog 60 #[.pointer (some ⟨g, 0, none⟩), .slice (some ⟨W.heap.size, 0, none⟩) 1 1] (W.alloc (.cells #[str s] 9)) (TEnds W g en x (fun _ : Unit => .tuple #[]) q) := by
 subst hq
 have hl := ht.lt
 exact (want_any (W.alloc (.cells #[str s] 9)) g en W.heap.size x ts [s] (by intro y hy; simp at hy; subst hy; exact hs) (Blk.new W 9 #[str s]) (by omega) (by simp) (ht.alloc _)).mono fun e w' h => TEnds.before (Only.alloc (Only.refl g W) _) h
theorem want_two (W : World) (g en : Nat) (x : Rc) (ts : List Tok) (s u : List UInt8) (hs : s ≠ []) (hu : u ≠ []) (q : Rs Unit) (hq : wantsR [s, u] ts = q) (ht : TkAt W g en x ts) :
  Calls Tryz.prog 60 #[.pointer (some ⟨g, 0, none⟩), .slice (some ⟨W.heap.size, 0, none⟩) 2 2] (W.alloc (.cells #[str s, str u] 9)) (TEnds W g en x (fun _ : Unit => .tuple #[]) q) := by
 subst hq
 have hl := ht.lt
 exact (want_any (W.alloc (.cells #[str s, str u] 9)) g en W.heap.size x ts [s, u] (by intro y hy; simp at hy; rcases hy with rfl | rfl <;> assumption) (Blk.new W 9 #[str s, str u]) (by omega) (by simp) (ht.alloc _)).mono fun e w' h => TEnds.before (Only.alloc (Only.refl g W) _) h
end Go.Proofs.YtcjhihmaegagdaaGreatDoor
namespace Go.Proofs.YtcjhihmaegagdaaGreatDoor
open Go.RowKit Go.Deep
def Primes (w : World) : Prop := ∀ j, j < 6 → w.cell? ⟨3, j, none⟩ = some (.int .i64 (primeAt j))
theorem Primes.below {w w' : World} (h : Primes w) (hb : Below w.heap.size w w') : Primes w' := fun j hj => (hb.cell (World.block_lt_of_cell? w _ (h j hj))).trans (h j hj)
theorem vec_put (v : Vc) (k : Nat) (hk : k < 6) (x : Int) : v.cells.setIfInBounds k (.int .i64 x) = (v.put k x).cells := by
 rcases (show k = 0 ∨ k = 1 ∨ k = 2 ∨ k = 3 ∨ k = 4 ∨ k = 5 by omega) with rfl | rfl | rfl | rfl | rfl | rfl <;> rfl
theorem put_put (v : Vc) (k : Nat) (x y : Int) : (v.put k x).put k y = v.put k y := by
 unfold Vc.put
 simp only
 congr 1 <;> split <;> rfl
theorem put_at (v : Vc) (k : Nat) (hk : k < 6) (x : Int) : (v.put k x).at k = x := by
 rcases (show k = 0 ∨ k = 1 ∨ k = 2 ∨ k = 3 ∨ k = 4 ∨ k = 5 by omega) with rfl | rfl | rfl | rfl | rfl | rfl <;> rfl
theorem put_far (v : Vc) (k j : Nat) (hk : k < 6) (hj : j < 6) (h : j ≠ k) (x : Int) : (v.put k x).at j = v.at j := by
 rcases (show k = 0 ∨ k = 1 ∨ k = 2 ∨ k = 3 ∨ k = 4 ∨ k = 5 by omega) with rfl | rfl | rfl | rfl | rfl | rfl <;>
 rcases (show j = 0 ∨ j = 1 ∨ j = 2 ∨ j = 3 ∨ j = 4 ∨ j = 5 by omega) with rfl | rfl | rfl | rfl | rfl | rfl <;> first | rfl | exact absurd rfl h
theorem put_self (v : Vc) (k : Nat) (hk : k < 6) : v.put k (v.at k) = v := by
 rcases (show k = 0 ∨ k = 1 ∨ k = 2 ∨ k = 3 ∨ k = 4 ∨ k = 5 by omega) with rfl | rfl | rfl | rfl | rfl | rfl <;> rfl
theorem primeAt_two (i : Nat) : 2 ≤ primeAt i ∧ primeAt i ≤ 13 := by
 rcases (show i = 0 ∨ i = 1 ∨ i = 2 ∨ i = 3 ∨ i = 4 ∨ 5 ≤ i by omega) with rfl | rfl | rfl | rfl | rfl | h
 ·
  decide
 ·
  decide
 ·
  decide
 ·
  decide
 ·
  decide
 obtain ⟨j, rfl⟩ : ∃ j, i = j + 5 := ⟨i - 5, by omega⟩
 exact ⟨by show 2 ≤ 13; decide, Nat.le_refl _⟩
def StripAt (p n m c : Nat) : Prop := 1 ≤ m ∧ m * 2 ^ c ≤ n ∧ ∃ f, m < 2 ^ f ∧ strip p 64 n = ((strip p f m).1, (strip p f m).2 + c)
theorem strip_start (p n : Nat) (h1 : 1 ≤ n) (h2 : n < 2 ^ 64) : StripAt p n n 0 := ⟨h1, by simp, 64, h2, rfl⟩
theorem StripAt.le {p n m c : Nat} (h : StripAt p n m c) : m ≤ n := Nat.le_trans (by have := Nat.mul_le_mul_left m (Nat.one_le_two_pow (n := c)); omega) h.2.1
theorem StripAt.small {p n m c : Nat} (h : StripAt p n m c) (hn : n ≤ 1000000000) : c < 30 := by
 have h1 := h.1
 have h2 := h.2.1
 have h3 : 2 ^ c ≤ n := Nat.le_trans (by have := Nat.mul_le_mul_right (2 ^ c) h1; omega) h2
 have h4 : 2 ^ c < 2 ^ 30 := by omega
 exact (Nat.pow_lt_pow_iff_right (by decide)).1 h4
theorem strip_step {p n m c : Nat} (hp : 2 ≤ p) (h : StripAt p n m c) (hm : m % p = 0) : StripAt p n (m / p) (c + 1) ∧ m / p < m := by
 obtain ⟨h1, h2, f, h3, h4⟩ := h
 have hd := Nat.div_add_mod m p
 rw [hm, Nat.add_zero] at hd
 have hm1 : 1 ≤ m / p := by
  rcases Nat.eq_zero_or_pos (m / p) with h0 | h0
  ·
   rw [h0, Nat.mul_zero] at hd; omega
  exact h0
 have hm2 : m / p * 2 ≤ m := by
  have := Nat.mul_le_mul_right (m / p) hp
  omega
 have hm3 : m / p * 2 ^ (c + 1) ≤ n := by
  rw [Nat.pow_succ, Nat.mul_comm (2 ^ c) 2, ← Nat.mul_assoc]
  exact Nat.le_trans (Nat.mul_le_mul_right _ hm2) h2
 cases f with
 | zero => simp at h3; omega
 | succ f =>
  refine ⟨⟨hm1, hm3, f, by rw [Nat.pow_succ] at h3; omega, ?_⟩, by omega⟩
  rw [h4]
  simp only [strip]
  rw [if_pos hm]
  simp only
  congr 1
  omega
theorem blk_new2 (w : World) (o : Obj) (t : TypeId) (cs : Array Value) (g : Nat) (h : g = w.heap.size + 1) : Blk ((w.alloc o).alloc (.cells cs t)) g t cs := by
 subst h
 have := Blk.new (w.alloc o) t cs
 simpa using this
theorem put_set {W : World} {g k : Nat} {v : Vc} {c : Int} (h : Blk W g 53 (v.put k c).cells) (hk : k < 6) (x : Int) : Blk (W.setCell ⟨g, k, none⟩ (.int .i64 x)) g 53 (v.put k x).cells := by
 have := h.set_ k (.int .i64 x)
 rwa [vec_put _ _ hk, put_put] at this
theorem put_cell {W : World} {g k : Nat} {v : Vc} {c : Int} (h : Blk W g 53 (v.put k c).cells) (hk : k < 6) : W.cell? ⟨g, k, none⟩ = some (.int .i64 c) := by
 rw [h.cell k, Vc.cell _ _ hk, put_at _ _ hk]
theorem strip_end {p n m c : Nat} (h : StripAt p n m c) (hm : m % p ≠ 0) : strip p 64 n = (m, c) := by
 obtain ⟨h1, h2, f, h3, h4⟩ := h
 rw [h4]
 cases f with
 | zero => simp [strip]
 | succ f => simp only [strip]; rw [if_neg hm]; simp
theorem strip_le (p : Nat) (f n : Nat) (hp : 2 ≤ p) (hn : 1 ≤ n) : 1 ≤ (strip p f n).1 ∧ (strip p f n).1 ≤ n := by
 induction f generalizing n with
 | zero => exact ⟨hn, Nat.le_refl _⟩
 | succ f ih =>
  simp only [strip]
  split
  case isTrue h =>
   have hd := Nat.div_add_mod n p
   rw [h, Nat.add_zero] at hd
   have h1 : 1 ≤ n / p := by
    rcases Nat.eq_zero_or_pos (n / p) with h0 | h0
    ·
     rw [h0, Nat.mul_zero] at hd; omega
    exact h0
   have := ih _ h1
   exact ⟨this.1, Nat.le_trans this.2 (Nat.div_le_self _ _)⟩
  case isFalse => exact ⟨hn, Nat.le_refl _⟩
theorem ratioN_succ (n d k : Nat) : ratioN n d (k + 1) = ((strip (primeAt k) 64 (ratioN n d k).1).1, (strip (primeAt k) 64 (ratioN n d k).2.1).1, (ratioN n d k).2.2.put k (((strip (primeAt k) 64 (ratioN n d k).1).2 : Int) - (strip (primeAt k) 64 (ratioN n d k).2.1).2)) := rfl
theorem ratioN_ok (n d k : Nat) (hn : 1 ≤ n) (hd : 1 ≤ d) : 1 ≤ (ratioN n d k).1 ∧ (ratioN n d k).1 ≤ n ∧ 1 ≤ (ratioN n d k).2.1 ∧ (ratioN n d k).2.1 ≤ d := by
 induction k with
 | zero => exact ⟨hn, Nat.le_refl _, hd, Nat.le_refl _⟩
 | succ k ih =>
  obtain ⟨h1, h2, h3, h4⟩ := ih
  have hp := (primeAt_two k).1
  have a := strip_le (primeAt k) 64 _ hp h1
  have b := strip_le (primeAt k) 64 _ hp h3
  rw [ratioN_succ]
  simp only
  omega
theorem ratioN_at (n d k j : Nat) (hj : k ≤ j) (hj6 : j < 6) : (ratioN n d k).2.2.at j = 0 := by
 induction k with
 | zero => rcases (show j = 0 ∨ j = 1 ∨ j = 2 ∨ j = 3 ∨ j = 4 ∨ j = 5 by omega) with rfl | rfl | rfl | rfl | rfl | rfl <;> rfl
 | succ k ih =>
  rw [ratioN_succ]
  simp only
  rw [put_far _ _ _ (by omega) hj6 (by omega)]
  exact ih (by omega)
theorem index_prm (k : Nat) (hk : k < 6) (w : World) : (Instr.index 52 (.agg #[.int .i64 2, .int .i64 3, .int .i64 5, .int .i64 7, .int .i64 11, .int .i64 13]) (.int .i64 (k : Int))).run Tryz.prog w = .ok (.int .i64 (primeAt k)) w :=
 (index_six ⟨2, 3, 5, 7, 11, 13⟩ k hk w).trans (by rcases (show k = 0 ∨ k = 1 ∨ k = 2 ∨ k = 3 ∨ k = 4 ∨ k = 5 by omega) with rfl | rfl | rfl | rfl | rfl | rfl <;> rfl)
theorem size_vec : (Tryz.prog.info? 53).map (·.size) = some 6 := by kernel_rfl
theorem set6 {W : World} {g : Nat} {t : TypeId} {a0 a1 a2 a3 a4 a5 : Value} (h : Blk W g t #[a0, a1, a2, a3, a4, a5]) (b0 b1 b2 b3 b4 b5 : Value) :
  Blk ((((((W.setCell ⟨g, 0, none⟩ b0).setCell ⟨g, 1, none⟩ b1).setCell ⟨g, 2, none⟩ b2).setCell ⟨g, 3, none⟩ b3).setCell ⟨g, 4, none⟩ b4).setCell ⟨g, 5, none⟩ b5) g t #[b0, b1, b2, b3, b4, b5] := by
 have := (((((h.set_ 0 b0).set_ 1 b1).set_ 2 b2).set_ 3 b3).set_ 4 b4).set_ 5 b5
 simpa using this
theorem below6 {B : Nat} {a W : World} {g : Nat} (h : Below B a W) (hg : B ≤ g) (b0 b1 b2 b3 b4 b5 : Value) :
  Below B a ((((((W.setCell ⟨g, 0, none⟩ b0).setCell ⟨g, 1, none⟩ b1).setCell ⟨g, 2, none⟩ b2).setCell ⟨g, 3, none⟩ b3).setCell ⟨g, 4, none⟩ b4).setCell ⟨g, 5, none⟩ b5) :=
 (((((h.setCell (p := ⟨g, 0, none⟩) hg b0).setCell (p := ⟨g, 1, none⟩) hg b1).setCell (p := ⟨g, 2, none⟩) hg b2).setCell (p := ⟨g, 3, none⟩) hg b3).setCell (p := ⟨g, 4, none⟩) hg b4).setCell (p := ⟨g, 5, none⟩) hg b5
def ratE (n d : Nat) : Int := if n < 1 ∨ 1000000000 < n ∨ d < 1 ∨ 1000000000 < d then 1 else if (ratioV n d).isSome then 0 else 9
def ratV (n d : Nat) : Vc := (ratioV n d).getD vc0
theorem ratio_any (w : World) (n d : Nat) (hn : n ≤ 9223372036854775807) (hd : d ≤ 9223372036854775807) (hP : Primes w) :
  Calls Tryz.prog 142 #[.int .i64 n, .int .i64 d] w fun e w' => e = .returned (.tuple #[.agg (ratV n d).cells, .int .i64 (ratE n d)]) ∧ Below w.heap.size w w' := by
 by_cases hok : n < 1 ∨ 1000000000 < n ∨ d < 1 ∨ 1000000000 < d
 ·
  have hE : ratE n d = 1 := if_pos hok
  have hV : ratV n d = vc0 := by unfold ratV ratioV; rw [if_pos hok]; rfl
  rw [hE, hV]
  have HBL := hid ((Below.refl w.heap.size w).alloc (Nat.le_refl _) (.cells vc0.cells 53))
  clear hE hV hP
  by_cases h0 : n < 1
  ·
   have b0 : (n : Int) < 1 := by omega
   clear hok h0
   go_enter Tryz.func142, Tryz.ntmps142
   go_wp2
   refine bodyPost_ret (results_cell_tmp rfl _ ⟨w.heap.size, 0, none⟩ rfl _ Tryz.underlying53 rfl _ vc0.cells size_vec (blk_load (Blk.new w 53 vc0.cells))) rfl ?_
   exact ⟨rfl, HBL.out⟩
  by_cases h1 : 1000000000 < n
  ·
   have b0 : ¬ (n : Int) < 1 := by omega
   have b1 : (1000000000 : Int) < n := by omega
   clear hok h0 h1
   go_enter Tryz.func142, Tryz.ntmps142
   go_wp2
   refine bodyPost_ret (results_cell_tmp rfl _ ⟨w.heap.size, 0, none⟩ rfl _ Tryz.underlying53 rfl _ vc0.cells size_vec (blk_load (Blk.new w 53 vc0.cells))) rfl ?_
   exact ⟨rfl, HBL.out⟩
  by_cases h2 : d < 1
  ·
   have b0 : ¬ (n : Int) < 1 := by omega
   have b1 : ¬ (1000000000 : Int) < n := by omega
   have b2 : (d : Int) < 1 := by omega
   clear hok h0 h1 h2
   go_enter Tryz.func142, Tryz.ntmps142
   go_wp2
   refine bodyPost_ret (results_cell_tmp rfl _ ⟨w.heap.size, 0, none⟩ rfl _ Tryz.underlying53 rfl _ vc0.cells size_vec (blk_load (Blk.new w 53 vc0.cells))) rfl ?_
   exact ⟨rfl, HBL.out⟩
  have b0 : ¬ (n : Int) < 1 := by omega
  have b1 : ¬ (1000000000 : Int) < n := by omega
  have b2 : ¬ (d : Int) < 1 := by omega
  have b3 : (1000000000 : Int) < d := by omega
  clear hok h0 h1 h2
  go_enter Tryz.func142, Tryz.ntmps142
  go_wp2
  refine bodyPost_ret (results_cell_tmp rfl _ ⟨w.heap.size, 0, none⟩ rfl _ Tryz.underlying53 rfl _ vc0.cells size_vec (blk_load (Blk.new w 53 vc0.cells))) rfl ?_
  exact ⟨rfl, HBL.out⟩
 have hn1 : 1 ≤ n := by omega
 have hn2 : n ≤ 1000000000 := by omega
 have hd1 : 1 ≤ d := by omega
 have hd2 : d ≤ 1000000000 := by omega
 have b0 : ¬ (n : Int) < 1 := by omega
 have b1 : ¬ (1000000000 : Int) < n := by omega
 have b2 : ¬ (d : Int) < 1 := by omega
 have b3 : ¬ (1000000000 : Int) < d := by omega
 have g0 : w.cell? ⟨3, 0, none⟩ = some (.int .i64 2) := hP 0 (by omega)
 have g1 : w.cell? ⟨3, 1, none⟩ = some (.int .i64 3) := hP 1 (by omega)
 have g2 : w.cell? ⟨3, 2, none⟩ = some (.int .i64 5) := hP 2 (by omega)
 have g3 : w.cell? ⟨3, 3, none⟩ = some (.int .i64 7) := hP 3 (by omega)
 have g4 : w.cell? ⟨3, 4, none⟩ = some (.int .i64 11) := hP 4 (by omega)
 have g5 : w.cell? ⟨3, 5, none⟩ = some (.int .i64 13) := hP 5 (by omega)
 have hgl : 3 < w.heap.size := World.block_lt_of_cell? w _ g0
 clear hok
 go_enter Tryz.func142, Tryz.ntmps142
 go_wp2
 go_loopw [0, 1, 25] (fun sn sd si wx => ∃ k : Nat, k ≤ 6 ∧ sn = .int .i64 (ratioN n d k).1 ∧ sd = .int .i64 (ratioN n d k).2.1 ∧ si = .int .i64 k ∧ Hid (Below w.heap.size w wx) ∧ Hid (Blk wx w.heap.size 53 vc0.cells) ∧ Hid (Blk wx (w.heap.size + 1) 53 (ratioN n d k).2.2.cells)) (fun _ _ i _ => 6 - (intOf i).toNat)
 case atStart => exact ⟨0, by omega, rfl, rfl, rfl, ((Below.refl _ _).alloc (Nat.le_refl _) _).alloc (by simp) _, (Blk.new w 53 vc0.cells).alloc _, blk_new2 w _ 53 vc0.cells _ rfl⟩
 case round =>
  obtain ⟨k, hk, rfl, rfl, rfl, HB, HZ, HV⟩ := hrel
  by_cases hlt : k < 6
  ·
   have hix := index_prm k hlt
   obtain ⟨p2, p13⟩ := primeAt_two k
   obtain ⟨a1, a2, a3, a4⟩ := ratioN_ok n d k hn1 hd1
   have hat := ratioN_at n d k k (Nat.le_refl _) hlt
   have HSU := hid (ratioN_succ n d k)
   generalize hpv : ratioN n d k = R at *
   obtain ⟨a, b, v⟩ := R
   simp only at a1 a2 a3 a4 hat HSU HV ⊢
   generalize primeAt k = p at *
   have hp0 : ¬ (p : Int) = 0 := by omega
   have hpb : ((p : Int) == 0) = false := by rw [beq_eq_false_iff_ne]; omega
   clear hpv
   have HS0 := hid (strip_start p a a1 (by omega))
   have HS1 := hid (strip_start p b a3 (by omega))
   have HV0 : Hid (Blk wr (w.heap.size + 1) 53 (v.put k ((0 : Nat) : Int)).cells) := by
    have := HV.out
    rw [← put_self v k hlt, hat] at this
    exact this
   have hai : (a : Int) ≤ 1000000000 := by omega
   have hbi : (b : Int) ≤ 1000000000 := by omega
   go_wp2
   go_loopw [0] (fun s0 wx => ∃ m c : Nat, s0 = .int .i64 m ∧ Hid (StripAt p a m c) ∧ Hid (Below w.heap.size w wx) ∧ Hid (Blk wx w.heap.size 53 vc0.cells) ∧ Hid (Blk wx (w.heap.size + 1) 53 (v.put k (c : Int)).cells)) (fun s0 _ => (intOf s0).toNat)
   case atStart => exact ⟨a, 0, rfl, HS0, HB, HZ, HV0⟩
   case round =>
    obtain ⟨m, c, rfl, HSA, HB, HZ, HV⟩ := hrel
    have hml := HSA.out.le
    have hcl := HSA.out.small (by omega)
    have hmi : (m : Int) ≤ 1000000000 := by omega
    by_cases hm : m % p = 0
    ·
     have HST := hid (strip_step p2 HSA.out hm)
     have hq1 : (m : Int) % (p : Int) = 0 := by rw [← Int.natCast_emod, hm]; rfl
     have hq2 : (m : Int).tmod (p : Int) = 0 := by rw [Int.tmod_eq_emod_of_nonneg (by omega)]; exact hq1
     have he1 : (m : Int) / (p : Int) = ((m / p : Nat) : Int) := by rw [Int.natCast_ediv]
     have he2 : (m : Int).tdiv (p : Int) = ((m / p : Nat) : Int) := by rw [Int.tdiv_eq_ediv_of_nonneg (by omega)]; exact he1
     have hdl : m / p ≤ 1000000000 := Nat.le_trans (Nat.div_le_self _ _) (by omega)
     have cv := put_cell HV.out hlt
     have fv := HV.out.frozen k
     have HV2 := hid (put_set HV.out hlt ((c : Int) + 1))
     generalize m / p = m2 at *
     have hm2i : (m2 : Int) ≤ 1000000000 := by omega
     clear hm
     go_wp2
     go_roundw
     case rel => exact ⟨m2, c + 1, rfl, HST.out.1, HB.out.setCell (p := ⟨w.heap.size + 1, k, none⟩) (by simp) _, HZ.out.far (by simp) _, HV2.out⟩
     case measure => have := HST.out.2; simp only [intOf]; omega
    obtain ⟨q, hq⟩ : ∃ q, m % p = q := ⟨_, rfl⟩
    have hq1 : (m : Int) % (p : Int) = (q : Int) := by rw [← Int.natCast_emod, hq]
    have hq2 : (m : Int).tmod (p : Int) = (q : Int) := by rw [Int.tmod_eq_emod_of_nonneg (by omega)]; exact hq1
    have hq0 : ¬ (q : Int) = 0 := by omega
    have hqb : ((q : Int) == 0) = false := by rw [beq_eq_false_iff_ne]; omega
    have HE1 := hid (strip_end HSA.out hm)
    have HCL := hid hcl
    clear hm hq hcl
    go_wp2
    have HV3 : Hid (Blk wr (w.heap.size + 1) 53 (v.put k ((c : Int) - ((0 : Nat) : Int))).cells) := by
     have := HV.out
     rwa [show (c : Int) = (c : Int) - ((0 : Nat) : Int) by omega] at this
    clear hq1 hq2 hq0 hqb HV
    go_loopw [1] (fun s1 wx => ∃ m' c' : Nat, s1 = .int .i64 m' ∧ Hid (StripAt p b m' c') ∧ Hid (Below w.heap.size w wx) ∧ Hid (Blk wx w.heap.size 53 vc0.cells) ∧ Hid (Blk wx (w.heap.size + 1) 53 (v.put k ((c : Int) - (c' : Int))).cells)) (fun s1 _ => (intOf s1).toNat)
    case atStart => exact ⟨b, 0, rfl, HS1, HB, HZ, HV3⟩
    case round =>
     obtain ⟨m', c', rfl, HSB, HB, HZ, HV⟩ := hrel
     have hml' := HSB.out.le
     have hcl' := HSB.out.small (by omega)
     have hcl := HCL.out
     have hmi' : (m' : Int) ≤ 1000000000 := by omega
     by_cases hm : m' % p = 0
     ·
      have HST := hid (strip_step p2 HSB.out hm)
      have hq1 : (m' : Int) % (p : Int) = 0 := by rw [← Int.natCast_emod, hm]; rfl
      have hq2 : (m' : Int).tmod (p : Int) = 0 := by rw [Int.tmod_eq_emod_of_nonneg (by omega)]; exact hq1
      have he1 : (m' : Int) / (p : Int) = ((m' / p : Nat) : Int) := by rw [Int.natCast_ediv]
      have he2 : (m' : Int).tdiv (p : Int) = ((m' / p : Nat) : Int) := by rw [Int.tdiv_eq_ediv_of_nonneg (by omega)]; exact he1
      have hdl : m' / p ≤ 1000000000 := Nat.le_trans (Nat.div_le_self _ _) (by omega)
      obtain ⟨z, hz⟩ : ∃ z : Int, (c : Int) - (c' : Int) = z := ⟨_, rfl⟩
      have HZZ := hid hz
      rw [hz] at HV
      have hz1 : -30 ≤ z := by omega
      have hz2 : z ≤ 30 := by omega
      have cv := put_cell HV.out hlt
      have fv := HV.out.frozen k
      have HV2 := hid (put_set HV.out hlt (z - 1))
      generalize m' / p = m2 at *
      have hm2i : (m2 : Int) ≤ 1000000000 := by omega
      clear hm hz hcl hcl'
      go_wp2
      go_roundw
      case rel => exact ⟨m2, c' + 1, rfl, HST.out.1, HB.out.setCell (p := ⟨w.heap.size + 1, k, none⟩) (by simp) _, HZ.out.far (by simp) _, by
       rw [show (c : Int) - ((c' + 1 : Nat) : Int) = z - 1 by have := HZZ.out; omega]
       exact HV2⟩
      case measure => have := HST.out.2; simp only [intOf]; omega
     obtain ⟨q, hq⟩ : ∃ q, m' % p = q := ⟨_, rfl⟩
     have hq1 : (m' : Int) % (p : Int) = (q : Int) := by rw [← Int.natCast_emod, hq]
     have hq2 : (m' : Int).tmod (p : Int) = (q : Int) := by rw [Int.tmod_eq_emod_of_nonneg (by omega)]; exact hq1
     have hq0 : ¬ (q : Int) = 0 := by omega
     have hqb : ((q : Int) == 0) = false := by rw [beq_eq_false_iff_ne]; omega
     have HE2 := hid (strip_end HSB.out hm)
     have HF : Hid (ratioN n d (k + 1) = (m, m', v.put k ((c : Int) - (c' : Int)))) := by
      show _ = _
      rw [HSU.out, HE1.out, HE2.out]
     clear hm hq hcl hcl'
     go_wp2
     go_roundw
     case rel => exact ⟨k + 1, by omega, by rw [HF.out], by rw [HF.out], by go_num, HB, HZ, by rw [HF.out]; exact HV⟩
     case measure => simp [intOf]; omega
  obtain rfl : k = 6 := by omega
  have hE : Hid (ratE n d = if (ratioN n d 6).1 = (ratioN n d 6).2.1 then 0 else 9) := by
   show _ = _
   unfold ratE
   rw [if_neg (by omega)]
   have : ratioV n d = if (ratioN n d 6).1 = (ratioN n d 6).2.1 then some (ratioN n d 6).2.2 else none := if_neg (by omega)
   rw [this]
   by_cases h : (ratioN n d 6).1 = (ratioN n d 6).2.1
   ·
    rw [if_pos h, if_pos h]; rfl
   rw [if_neg h, if_neg h]; rfl
  have hV : Hid (ratV n d = if (ratioN n d 6).1 = (ratioN n d 6).2.1 then (ratioN n d 6).2.2 else vc0) := by
   show _ = _
   have : ratioV n d = if (ratioN n d 6).1 = (ratioN n d 6).2.1 then some (ratioN n d 6).2.2 else none := if_neg (by omega)
   unfold ratV
   rw [this]
   by_cases h : (ratioN n d 6).1 = (ratioN n d 6).2.1
   ·
    rw [if_pos h, if_pos h]; rfl
   rw [if_neg h, if_neg h]; rfl
  obtain ⟨a1, a2, a3, a4⟩ := ratioN_ok n d 6 hn1 hd1
  generalize ratioN n d 6 = R at *
  obtain ⟨a, b, v⟩ := R
  simp only at a1 a2 a3 a4 HV hE hV ⊢
  have c0 := HV.out.cell 0
  have c1 := HV.out.cell 1
  have c2 := HV.out.cell 2
  have c3 := HV.out.cell 3
  have c4 := HV.out.cell 4
  have c5 := HV.out.cell 5
  have z0 := HZ.out.cell 0
  have z1 := HZ.out.cell 1
  have z2 := HZ.out.cell 2
  have z3 := HZ.out.cell 3
  have z4 := HZ.out.cell 4
  have z5 := HZ.out.cell 5
  have f0 := HZ.out.frozen 0
  have f1 := HZ.out.frozen 1
  have f2 := HZ.out.frozen 2
  have f3 := HZ.out.frozen 3
  have f4 := HZ.out.frozen 4
  have f5 := HZ.out.frozen 5
  by_cases hab : a = b
  ·
   rw [if_pos hab] at hE hV
   subst hab
   have hq : ((a : Int) == (a : Int)) = true := beq_self_eq_true _
   go_wp2
   refine bodyPost_ret (results_cell_tmp rfl _ ⟨w.heap.size, 0, none⟩ rfl _ Tryz.underlying53 rfl _ v.cells size_vec (blk_load (set6 HZ.out _ _ _ _ _ _))) rfl ?_
   rw [hE.out, hV.out]
   exact ⟨rfl, below6 HB.out (Nat.le_refl _) _ _ _ _ _ _⟩
  rw [if_neg hab] at hE hV
  have hq : ((a : Int) == (b : Int)) = false := by rw [beq_eq_false_iff_ne]; omega
  clear hab
  go_wp2
  refine bodyPost_ret (results_cell_tmp rfl _ ⟨w.heap.size, 0, none⟩ rfl _ Tryz.underlying53 rfl _ vc0.cells size_vec (blk_load (set6 HZ.out _ _ _ _ _ _))) rfl ?_
  rw [hE.out, hV.out]
  exact ⟨rfl, below6 HB.out (Nat.le_refl _) _ _ _ _ _ _⟩
end Go.Proofs.YtcjhihmaegagdaaGreatDoor
namespace Go.Proofs.YtcjhihmaegagdaaGreatDoor
open Go.RowKit Go.Deep
def NumOk (ts : List Tok) : Prop := ∀ t ∈ ts, t.n ≤ 9999999
theorem NumOk.has {s : List UInt8} {ts r : List Tok} (h : NumOk ts) (e : hasR s ts = some r) : NumOk r := by
 cases ts with
 | nil => cases e
 | cons t l =>
  simp only [hasR] at e
  split at e
  ·
   injection e with e; subst e; exact fun u hu => h u (List.mem_cons_of_mem _ hu)
  cases e
theorem NumOk.num {ts r : List Tok} {n : Nat} (h : NumOk ts) (e : numR ts = .ok n r) : NumOk r ∧ n ≤ 9999999 := by
 cases ts with
 | nil => cases e
 | cons t l =>
  simp only [numR] at e
  split at e
  ·
   injection e with e1 e2; subst e1 e2; exact ⟨fun u hu => h u (List.mem_cons_of_mem _ hu), h t (List.mem_cons_self ..)⟩
  cases e
theorem has_one (W : World) (g en : Nat) (x : Rc) (ts : List Tok) (s : List UInt8) (hs : s ≠ []) (q : Option (List Tok)) (hq : hasR s ts = q) (h : TkAt W g en x ts) :
  Calls Tryz.prog 106 #[.pointer (some ⟨g, 0, none⟩), str s] W fun e w' => e = .returned (.bool q.isSome) ∧ Only g W w' ∧ TkAt w' g en x (q.getD ts) := by
 have := has_tok W g en x ts s hs h
 rwa [hq] at this
theorem number_one (W : World) (g en : Nat) (x : Rc) (ts : List Tok) (q : Rs Nat) (hq : numR ts = q) (h : TkAt W g en x ts) :
  Calls Tryz.prog 61 #[.pointer (some ⟨g, 0, none⟩)] W (TEnds W g en x (fun n : Nat => .int .i64 n) q) := hq ▸ number_any W g en x ts h
theorem NumOk.wants {l : List (List UInt8)} {ts r : List Tok} {u : Unit} (h : NumOk ts) (e : wantsR l ts = .ok u r) : NumOk r := by
 induction l generalizing ts with
 | nil => injection e with _ e; subst e; exact h
 | cons s l ih =>
  rcases hq : hasR s ts with _ | r1
  ·
   rw [wants_none hq] at e; cases e
  rw [wants_some hq] at e; exact ih (h.has hq) e
theorem wants_single (s : List UInt8) (ts : List Tok) : wantsR [s] ts = wantR s ts := by
 rcases hq : hasR s ts with _ | r
 ·
  rw [wants_none hq]; simp only [wantR, hq]
 rw [wants_some hq]; simp only [wantR, hq, wantsR]
theorem ival_ratio {ts : List Tok} (h : hasR mOpen ts = none) : ivalR ts = (numR ts).bind fun n r => (wantsR [mSlash] r).bind fun _ r => (numR r).bind fun d r => match ratioV n d with | some v => .ok v r | none => .err ts 9 := by
 simp only [wants_single, ivalR, h]
 rfl
theorem brk_close {m : Nat} {v : Vc} {ts r : List Tok} (h : hasR mClose ts = some r) : brkR m v ts = .ok v r := by
 cases m <;> simp only [brkR, h]
theorem brk_full {v : Vc} {ts : List Tok} (h : hasR mClose ts = none) : brkR 0 v ts = .err ts 10 := by simp only [brkR, h]
theorem brk_minus {m : Nat} {v : Vc} {ts r : List Tok} (h : hasR mClose ts = none) (h2 : hasR mMinus ts = some r) : brkR (m + 1) v ts = (numR r).bind fun n r' => brkR m (v.put (5 - m) (-(n : Int))) r' := by simp only [brkR, h, h2]
theorem brk_plus {m : Nat} {v : Vc} {ts : List Tok} (h : hasR mClose ts = none) (h2 : hasR mMinus ts = none) : brkR (m + 1) v ts = (numR ts).bind fun n r' => brkR m (v.put (5 - m) (n : Int)) r' := by simp only [brkR, h, h2]
theorem vec_set {W : World} {g k : Nat} {v : Vc} (h : Blk W g 53 v.cells) (hk : k < 6) (x : Int) : Blk (W.setCell ⟨g, k, none⟩ (.int .i64 x)) g 53 (v.put k x).cells := by
 have := h.set_ k (.int .i64 x)
 rwa [vec_put _ _ hk] at this
structure IvAt (W : World) (g en : Nat) (x : Rc) (r : List Tok) (v : Vc) (wx : World) : Prop where
 only : Only g W wx
 tk : TkAt wx g en x r
 z : Blk wx W.heap.size 53 vc0.cells
 vec : Blk wx (W.heap.size + 1) 53 v.cells
 num : NumOk r
 lt : g < W.heap.size
theorem IvAt.on {W : World} {g en : Nat} {x : Rc} {r r' : List Tok} {v : Vc} {wx w1 : World} (h : IvAt W g en x r v wx) (o : Only g wx w1) (t : TkAt w1 g en x r') (n : NumOk r') : IvAt W g en x r' v w1 :=
 ⟨h.only.trans o, t, o.blk h.z (by have := h.lt; omega), o.blk h.vec (by have := h.lt; omega), n, h.lt⟩
theorem TkAt.far {W : World} {g en : Nat} {x : Rc} {r : List Tok} (h : TkAt W g en x r) {b : Nat} (hb : g < b) (i : Nat) (v : Value) : TkAt (W.setCell ⟨b, i, none⟩ v) g en x r := by
 obtain ⟨A, c, h1, h2, h3⟩ := h
 exact ⟨A, c, h1.far (p := ⟨b, i, none⟩) (by show g ≠ b; omega) v, h2.setCell (p := ⟨b, i, none⟩) (by show g - 1 ≤ b; omega) v, h3⟩
theorem Only.far {g : Nat} {W wx : World} (h : Only g W wx) {b : Nat} (hb : W.heap.size ≤ b) (i : Nat) (v : Value) : Only g W (wx.setCell ⟨b, i, none⟩ v) :=
 ⟨h.os, h.tape, h.output, by simpa [World.setCell] using h.size, fun k hk1 hk2 => by
  rw [heap_setCell_other _ ⟨b, i, none⟩ _ _ (by show k ≠ b; omega)]
  exact h.block k hk1 hk2⟩
theorem IvAt.put {W : World} {g en : Nat} {x : Rc} {r : List Tok} {v : Vc} {wx : World} (h : IvAt W g en x r v wx) {k : Nat} (hk : k < 6) (y : Int) : IvAt W g en x r (v.put k y) (wx.setCell ⟨W.heap.size + 1, k, none⟩ (.int .i64 y)) := by
 have hl := h.lt
 exact ⟨h.only.far (by omega) _ _, h.tk.far (by omega) _ _, h.z.far (p := ⟨W.heap.size + 1, k, none⟩) (by show W.heap.size ≠ W.heap.size + 1; omega) _, vec_set h.vec hk y, h.num, hl⟩
theorem Primes.only {W : World} {g en : Nat} {x : Rc} {r : List Tok} {v : Vc} {wx : World} (h : Primes W ∧ 3 < g) (k : IvAt W g en x r v wx) : Primes wx := fun j hj => by
 rw [k.only.cell (p := ⟨3, j, none⟩) (Nat.ne_of_lt h.2) (World.block_lt_of_cell? W _ (h.1 j hj))]
 exact h.1 j hj
theorem only_row {g b : Nat} {W wx w' : World} (h : Only g W wx) (k : wx.grownBy w' (some b)) (hb : W.heap.size ≤ b) : Only g W w' :=
 ⟨k.os.trans h.os, k.tape.trans h.tape, k.output.trans h.output, Nat.le_trans h.size k.size, fun i hi hl => (k.block i (by have := h.size; omega) (by intro e; injection e with e; omega)).trans (h.block i hi hl)⟩
theorem tk_row {W w' : World} {g en : Nat} {x : Rc} {r : List Tok} {b : Nat} (h : TkAt W g en x r) (k : W.grownBy w' (some b)) (hb : g < b) : TkAt w' g en x r := by
 have hl := h.lt
 obtain ⟨A, c, h1, h2, h3⟩ := h
 exact ⟨A, c, h1.grown k (by intro e; injection e with e; omega), h2.grown k (by omega) (fun i e => by injection e with e; omega), h3⟩
theorem IvAt.swapped {W : World} {g en : Nat} {x : Rc} {r : List Tok} {v v' : Vc} {wx w' : World} (h : IvAt W g en x r v wx) (hb : Blk w' (W.heap.size + 1) 53 v'.cells) (hg : wx.grownBy w' (some (W.heap.size + 1))) : IvAt W g en x r v' w' := by
 have hl := h.lt
 exact ⟨only_row h.only hg (by omega), tk_row h.tk hg (by omega), h.z.grown hg (by intro e; injection e with e; omega), hb, h.num, hl⟩
theorem IvAt.result {W : World} {g en : Nat} {x : Rc} {r : List Tok} {v : Vc} {wx w' : World} (h : IvAt W g en x r v wx) (hg : wx.grownBy w' (some W.heap.size)) : Only g W w' ∧ TkAt w' g en x r :=
 ⟨only_row h.only hg (Nat.le_refl _), tk_row h.tk hg h.lt⟩
theorem cells_one6 (v : Vc) : (#[.int .i64 v.a, .int .i64 v.b, .int .i64 v.c, .int .i64 v.d, .int .i64 v.e, .int .i64 v.f] : Array Value).all (·.oneCell') = true := by simp [Value.oneCell']
theorem ratio_lit (w : World) (n d : Nat) (hn : n ≤ 9223372036854775807) (hd : d ≤ 9223372036854775807) (hP : Primes w) (v : Vc) (k : Int) (hv : ratV n d = v) (hk : ratE n d = k) :
  Calls Tryz.prog 142 #[.int .i64 n, .int .i64 d] w fun e w' => e = .returned (.tuple #[.agg #[.int .i64 v.a, .int .i64 v.b, .int .i64 v.c, .int .i64 v.d, .int .i64 v.e, .int .i64 v.f], .int .i64 k]) ∧ Below w.heap.size w w' := by
 subst hv hk
 exact ratio_any w n d hn hd hP
theorem IvAt.start {W : World} {g en : Nat} {x : Rc} {r : List Tok} (h : TkAt W g en x r) (n : NumOk r) : IvAt W g en x r vc0 ((W.alloc (.cells vc0.cells 53)).alloc (.cells vc0.cells 53)) :=
 ⟨((Only.refl g W).alloc _).alloc _, (h.alloc _).alloc _, (Blk.new W _ _).alloc _, blk_new2 W _ _ _ _ rfl, n, h.lt⟩
theorem IvAt.done {W : World} {g en : Nat} {x : Rc} {r : List Tok} {v : Vc} {wx : World} (h : IvAt W g en x r v wx) (b0 b1 b2 b3 b4 b5 : Value) :
  Only g W ((((((wx.setCell ⟨W.heap.size, 0, none⟩ b0).setCell ⟨W.heap.size, 1, none⟩ b1).setCell ⟨W.heap.size, 2, none⟩ b2).setCell ⟨W.heap.size, 3, none⟩ b3).setCell ⟨W.heap.size, 4, none⟩ b4).setCell ⟨W.heap.size, 5, none⟩ b5) ∧
  TkAt ((((((wx.setCell ⟨W.heap.size, 0, none⟩ b0).setCell ⟨W.heap.size, 1, none⟩ b1).setCell ⟨W.heap.size, 2, none⟩ b2).setCell ⟨W.heap.size, 3, none⟩ b3).setCell ⟨W.heap.size, 4, none⟩ b4).setCell ⟨W.heap.size, 5, none⟩ b5) g en x r := by
 have hl := h.lt
 exact ⟨(((((h.only.far (Nat.le_refl _) 0 b0).far (Nat.le_refl _) 1 b1).far (Nat.le_refl _) 2 b2).far (Nat.le_refl _) 3 b3).far (Nat.le_refl _) 4 b4).far (Nat.le_refl _) 5 b5,
  (((((h.tk.far hl 0 b0).far hl 1 b1).far hl 2 b2).far hl 3 b3).far hl 4 b4).far hl 5 b5⟩
theorem ival_any (W : World) (g en : Nat) (x : Rc) (ts : List Tok) (h : TkAt W g en x ts) (hN : NumOk ts) (hP : Primes W) (hg : 3 < g) :
  Calls Tryz.prog 107 #[.pointer (some ⟨g, 0, none⟩)] W (TEnds W g en x (fun v : Vc => .agg v.cells) (ivalR ts)) := by
 have HI := hid (IvAt.start h hN)
 have HNO := hid hN
 have HPR := hid (And.intro hP hg)
 have hlg := h.lt
 clear h hN hP
 rcases hq0 : hasR mOpen ts with _ | r0
 ·
  have HH := hid fun w t => has_one w g en x ts [91] (by decide) none hq0 t
  simp only [Option.isSome_none, Option.getD_none] at HH
  have HIV := hid (ival_ratio hq0)
  clear hq0
  have tk1 := hid trivial
  rcases hq1 : numR ts with ⟨n, r1⟩ | ⟨r1, k⟩
  ·
   have H1 := hid fun w t => number_one w g en x ts _ hq1 t
   have hn9 := (HNO.out.num hq1).2
   have HN1 := hid (HNO.out.num hq1).1
   rw [hq1] at HIV
   simp only [Rs.bind] at HIV
   clear hq1
   rcases hq2 : wantsR [mSlash] r1 with ⟨u, r2⟩ | ⟨r2, k⟩
   ·
    have H2 := hid fun w t => want_one w g en x r1 [47] (by decide) _ hq2 t
    have HN2 := hid (HN1.out.wants hq2)
    rw [hq2] at HIV
    simp only [Rs.bind] at HIV
    clear hq2
    rcases hq3 : numR r2 with ⟨d, r3⟩ | ⟨r3, k⟩
    ·
     have H3 := hid fun w t => number_one w g en x r2 _ hq3 t
     have hd9 := (HN2.out.num hq3).2
     have HN3 := hid (HN2.out.num hq3).1
     rw [hq3] at HIV
     simp only [Rs.bind] at HIV
     clear hq3
     rcases hq4 : ratioV n d with _ | v
     ·
      have HE0 : ∃ k : Int, ratE n d = k ∧ (k == 0) = false := by
       unfold ratE
       rw [hq4]
       by_cases hc : n < 1 ∨ 1000000000 < n ∨ d < 1 ∨ 1000000000 < d
       ·
        rw [if_pos hc]; exact ⟨1, rfl, by decide⟩
       rw [if_neg hc]; exact ⟨9, rfl, by decide⟩
      obtain ⟨k, hk, hk0⟩ := HE0
      have HE := hid hk
      have HV : Hid (ratV n d = vc0) := by show _ = _; unfold ratV; rw [hq4]; rfl
      rw [hq4] at HIV
      simp only at HIV
      clear hq4 hk
      go_enter Tryz.func107, Tryz.ntmps107
      go_wp2_with (first
      | (go_at_call 106; refine (HH.out _ HI.out.tk).mono ?_; rintro e w1 ⟨rfl, o1, t1⟩; have HI1 := hid (HI.out.on o1 t1 HNO.out); clear o1 t1)
      | (go_at_call 109; refine (at_any _ g en x ts HI1.out.tk).mono ?_; rintro e w2 ⟨rfl, rfl⟩)
      | (have _t := tk1; go_at_call 61; refine (H1.out _ HI1.out.tk).mono ?_; rintro e w3 ⟨o1, rfl, t1⟩; have HI2 := hid (HI1.out.on o1 t1 HN1.out); clear o1 t1 tk1 _t)
      | (go_at_call 60; refine (H2.out _ HI2.out.tk).mono ?_; rintro e w4 ⟨o1, rfl, t1⟩; have HI3 := hid (HI2.out.on o1 t1 HN2.out); clear o1 t1)
      | (go_at_call 61; refine (H3.out _ HI3.out.tk).mono ?_; rintro e w5 ⟨o1, rfl, t1⟩; have HI4 := hid (HI3.out.on o1 t1 HN3.out); clear o1 t1)
      | (go_at_call 142; refine (ratio_lit _ n d (by omega) (by omega) (Primes.only HPR.out HI4.out) _ _ HV.out HE.out).mono ?_; rintro e w6 ⟨rfl, b6⟩; have HA1 := hid (HI4.out.on (Only.of_below b6) (HI4.out.tk.below b6) HI4.out.num); clear b6)
      | (refine wpList_put rfl 53 (.tmp 3) (.tmp 41) rfl _ _ rfl rfl _ _ HA1.out.vec size_vec rfl (cells_one6 _) ?_; intro w7 B7 q7 s7; have HA2 := hid (HA1.out.swapped B7 q7); clear B7 q7; replace s7 := hid s7)
      | (refine wpList_get rfl 53 (.tmp 3) rfl _ rfl _ _ _ HA2.out.vec Tryz.underlying53 rfl size_vec ?_)
      | (refine wpList_put rfl 53 (.tmp 2) (.tmp 48) rfl _ _ rfl rfl _ _ HA2.out.z size_vec rfl (cells_one6 _) ?_; intro w8 B8 q8 s8; replace B8 := hid B8; replace q8 := hid q8; replace s8 := hid s8))
      refine ⟨rfl, ?_⟩
      rw [HIV.out]
      exact TEnds.err HA2.out.only
     have HE : Hid (ratE n d = 0) := by
      show _ = _
      have hc : ¬ (n < 1 ∨ 1000000000 < n ∨ d < 1 ∨ 1000000000 < d) := by
       intro hc
       unfold ratioV at hq4
       rw [if_pos hc] at hq4
       cases hq4
      unfold ratE
      rw [if_neg hc, hq4]
      rfl
     have HV : Hid (ratV n d = v) := by show _ = _; unfold ratV; rw [hq4]; rfl
     rw [hq4] at HIV
     simp only at HIV
     clear hq4
     go_enter Tryz.func107, Tryz.ntmps107
     go_wp2_with (first
     | (go_at_call 106; refine (HH.out _ HI.out.tk).mono ?_; rintro e w1 ⟨rfl, o1, t1⟩; have HI1 := hid (HI.out.on o1 t1 HNO.out); clear o1 t1)
     | (go_at_call 109; refine (at_any _ g en x ts HI1.out.tk).mono ?_; rintro e w2 ⟨rfl, rfl⟩)
     | (have _t := tk1; go_at_call 61; refine (H1.out _ HI1.out.tk).mono ?_; rintro e w3 ⟨o1, rfl, t1⟩; have HI2 := hid (HI1.out.on o1 t1 HN1.out); clear o1 t1 tk1 _t)
     | (go_at_call 60; refine (H2.out _ HI2.out.tk).mono ?_; rintro e w4 ⟨o1, rfl, t1⟩; have HI3 := hid (HI2.out.on o1 t1 HN2.out); clear o1 t1)
     | (go_at_call 61; refine (H3.out _ HI3.out.tk).mono ?_; rintro e w5 ⟨o1, rfl, t1⟩; have HI4 := hid (HI3.out.on o1 t1 HN3.out); clear o1 t1)
     | (go_at_call 142; refine (ratio_lit _ n d (by omega) (by omega) (Primes.only HPR.out HI4.out) _ _ HV.out HE.out).mono ?_; rintro e w6 ⟨rfl, b6⟩; have HA1 := hid (HI4.out.on (Only.of_below b6) (HI4.out.tk.below b6) HI4.out.num); clear b6)
     | (refine wpList_put rfl 53 (.tmp 3) (.tmp 41) rfl _ _ rfl rfl _ _ HA1.out.vec size_vec rfl (cells_one6 _) ?_; intro w7 B7 q7 s7; have HA2 := hid (HA1.out.swapped B7 q7); clear B7 q7; replace s7 := hid s7)
     | (refine wpList_get rfl 53 (.tmp 3) rfl _ rfl _ _ _ HA2.out.vec Tryz.underlying53 rfl size_vec ?_)
     | (refine wpList_put rfl 53 (.tmp 2) (.tmp 48) rfl _ _ rfl rfl _ _ HA2.out.z size_vec rfl (cells_one6 _) ?_; intro w8 B8 q8 s8; replace B8 := hid B8; replace q8 := hid q8; replace s8 := hid s8))
     refine bodyPost_ret (results_cell rfl _ ⟨W.heap.size, 0, none⟩ rfl _ Tryz.underlying53 rfl _ v.cells size_vec (blk_load B8.out)) rfl ?_
     rw [HIV.out]
     exact TEnds.ok (val := fun v : Vc => .agg v.cells) (HA2.out.result q8.out).1 (HA2.out.result q8.out).2
    have H3 := hid fun w t => number_one w g en x r2 _ hq3 t
    rw [hq3] at HIV
    simp only [Rs.bind] at HIV
    clear hq3
    go_enter Tryz.func107, Tryz.ntmps107
    go_wp2_with (first
     | (go_at_call 106; refine (HH.out _ HI.out.tk).mono ?_; rintro e w1 ⟨rfl, o1, t1⟩; have HI1 := hid (HI.out.on o1 t1 HNO.out); clear o1 t1)
     | (go_at_call 109; refine (at_any _ g en x ts HI1.out.tk).mono ?_; rintro e w2 ⟨rfl, rfl⟩)
     | (have _t := tk1; go_at_call 61; refine (H1.out _ HI1.out.tk).mono ?_; rintro e w3 ⟨o1, rfl, t1⟩; have HI2 := hid (HI1.out.on o1 t1 HN1.out); clear o1 t1 tk1 _t)
     | (go_at_call 60; refine (H2.out _ HI2.out.tk).mono ?_; rintro e w4 ⟨o1, rfl, t1⟩; have HI3 := hid (HI2.out.on o1 t1 HN2.out); clear o1 t1)
     | (go_at_call 61; refine (H3.out _ HI3.out.tk).mono ?_; rintro e w5 ⟨o1, rfl⟩; replace o1 := hid o1))
    refine ⟨rfl, ?_⟩
    rw [HIV.out]
    exact TEnds.err (HI3.out.only.trans o1.out)
   have H2 := hid fun w t => want_one w g en x r1 [47] (by decide) _ hq2 t
   rw [hq2] at HIV
   simp only [Rs.bind] at HIV
   clear hq2
   go_enter Tryz.func107, Tryz.ntmps107
   go_wp2_with (first
     | (go_at_call 106; refine (HH.out _ HI.out.tk).mono ?_; rintro e w1 ⟨rfl, o1, t1⟩; have HI1 := hid (HI.out.on o1 t1 HNO.out); clear o1 t1)
     | (go_at_call 109; refine (at_any _ g en x ts HI1.out.tk).mono ?_; rintro e w2 ⟨rfl, rfl⟩)
     | (have _t := tk1; go_at_call 61; refine (H1.out _ HI1.out.tk).mono ?_; rintro e w3 ⟨o1, rfl, t1⟩; have HI2 := hid (HI1.out.on o1 t1 HN1.out); clear o1 t1 tk1 _t)
     | (go_at_call 60; refine (H2.out _ HI2.out.tk).mono ?_; rintro e w4 ⟨o1, rfl⟩; replace o1 := hid o1))
   refine ⟨rfl, ?_⟩
   rw [HIV.out]
   exact TEnds.err (HI2.out.only.trans o1.out)
  have H1 := hid fun w t => number_one w g en x ts _ hq1 t
  rw [hq1] at HIV
  simp only [Rs.bind] at HIV
  clear hq1
  go_enter Tryz.func107, Tryz.ntmps107
  go_wp2_with (first
     | (go_at_call 106; refine (HH.out _ HI.out.tk).mono ?_; rintro e w1 ⟨rfl, o1, t1⟩; have HI1 := hid (HI.out.on o1 t1 HNO.out); clear o1 t1)
     | (go_at_call 109; refine (at_any _ g en x ts HI1.out.tk).mono ?_; rintro e w2 ⟨rfl, rfl⟩)
     | (have _t := tk1; go_at_call 61; refine (H1.out _ HI1.out.tk).mono ?_; rintro e w3 ⟨o1, rfl⟩; replace o1 := hid o1; clear tk1 _t))
  refine ⟨rfl, ?_⟩
  rw [HIV.out]
  exact TEnds.err (HI1.out.only.trans o1.out)
 have hI : ivalR ts = brkR 6 vc0 r0 := by unfold ivalR; rw [hq0]
 have HH := hid fun w t => has_one w g en x ts [91] (by decide) (some r0) hq0 t
 simp only [Option.isSome_some, Option.getD_some] at HH
 have HN0 := hid (HNO.out.has hq0)
 have HIV := hid hI
 clear hq0 hI
 go_enter Tryz.func107, Tryz.ntmps107
 go_wp2_with (first
  | (go_at_call 106; refine (HH.out _ HI.out.tk).mono ?_; rintro e w1 ⟨rfl, o1, t1⟩; have HI1 := hid (HI.out.on o1 t1 HN0.out); clear o1 t1))
 go_loopw [4, 5] (fun sj _ wx => ∃ (j : Nat) (r : List Tok) (v : Vc), j ≤ 6 ∧ sj = .int .i64 j ∧ Hid (IvAt W g en x r v wx) ∧ Hid (ivalR ts = brkR (6 - j) v r)) (fun sj _ _ => 7 - (intOf sj).toNat)
 case atStart => exact ⟨0, r0, vc0, by omega, rfl, HI1, HIV⟩
 case round =>
  obtain ⟨j, r, v, hj, rfl, HA, HB⟩ := hrel
  rcases hq1 : hasR mClose r with _ | r1
  ·
   have H1 := hid fun w t => has_one w g en x r [93] (by decide) none hq1 t
   simp only [Option.isSome_none, Option.getD_none] at H1
   have HQ1 := hid hq1
   clear hq1
   by_cases h6 : j = 6
   ·
    subst h6
    rw [show 6 - 6 = 0 from rfl, brk_full HQ1.out] at HB
    go_wp2_with (first
     | (go_at_call 106; refine (H1.out _ HA.out.tk).mono ?_; rintro e w1 ⟨rfl, o1, t1⟩; have HA1 := hid (HA.out.on o1 t1 HA.out.num); clear o1 t1)
     | (go_at_call 63; refine (fail_any _ g en x r 10 HA1.out.tk).mono ?_; rintro e w2 ⟨rfl, rfl⟩))
    refine ⟨rfl, ?_⟩
    rw [HB.out]
    exact TEnds.err HA1.out.only
   have hj6 : ((j : Int) == 6) = false := by rw [beq_eq_false_iff_ne]; omega
   have hj5 : j < 6 := by omega
   have hm : 6 - j = (5 - j) + 1 := by omega
   have hm5 : 5 - (5 - j) = j := by omega
   clear h6
   rcases hq2 : hasR mMinus r with _ | r2
   ·
    rw [hm, brk_plus HQ1.out hq2, hm5] at HB
    have H2 := hid fun w t => has_one w g en x r [45] (by decide) none hq2 t
    simp only [Option.isSome_none, Option.getD_none] at H2
    have HN2 := hid HA.out.num
    clear hq2
    rcases hq3 : numR r with ⟨n, r3⟩ | ⟨r3, k⟩
    ·
     have H3 := hid fun w t => number_one w g en x r _ hq3 t
     have hn9 := (HN2.out.num hq3).2
     have HN3 := hid (HN2.out.num hq3).1
     rw [hq3] at HB
     simp only [Rs.bind] at HB
     have hni : (n : Int) ≤ 9999999 := by omega
     clear hq3
     go_wp2_with (first
      | (have _t := H1; go_at_call 106; refine (H1.out _ HA.out.tk).mono ?_; rintro e w1 ⟨rfl, o1, t1⟩; have HA1 := hid (HA.out.on o1 t1 HA.out.num); clear o1 t1 H1 _t)
      | (go_at_call 106; refine (H2.out _ HA1.out.tk).mono ?_; rintro e w2 ⟨rfl, o1, t1⟩; have HA2 := hid (HA1.out.on o1 t1 HN2.out); clear o1 t1)
      | (go_at_call 61; refine (H3.out _ HA2.out.tk).mono ?_; rintro e w3 ⟨o1, rfl, t1⟩; have HA3 := hid (HA2.out.on o1 t1 HN3.out); clear o1 t1; have cj := HA3.out.vec.cell j; rw [Vc.cell _ j hj5] at cj; have fj := HA3.out.vec.frozen j))
     go_roundw
     case rel => exact ⟨j + 1, r3, v.put j (n : Int), by omega, by go_num, by first | exact HA3.out.put hj5 (n : Int) | (rw [show (1 : Int) * (n : Int) = (n : Int) by omega]; exact HA3.out.put hj5 (n : Int)), by rw [show 6 - (j + 1) = 5 - j by omega]; exact HB⟩
     case measure => simp [intOf]; omega
    have H3 := hid fun w t => number_one w g en x r _ hq3 t
    rw [hq3] at HB
    simp only [Rs.bind] at HB
    clear hq3
    go_wp2_with (first
     | (have _t := H1; go_at_call 106; refine (H1.out _ HA.out.tk).mono ?_; rintro e w1 ⟨rfl, o1, t1⟩; have HA1 := hid (HA.out.on o1 t1 HA.out.num); clear o1 t1 H1 _t)
     | (go_at_call 106; refine (H2.out _ HA1.out.tk).mono ?_; rintro e w2 ⟨rfl, o1, t1⟩; have HA2 := hid (HA1.out.on o1 t1 HN2.out); clear o1 t1)
     | (go_at_call 61; refine (H3.out _ HA2.out.tk).mono ?_; rintro e w3 ⟨o1, rfl⟩; replace o1 := hid o1))
    refine ⟨rfl, ?_⟩
    rw [HB.out]
    exact TEnds.err (HA2.out.only.trans o1.out)
   rw [hm, brk_minus HQ1.out hq2, hm5] at HB
   have H2 := hid fun w t => has_one w g en x r [45] (by decide) (some r2) hq2 t
   simp only [Option.isSome_some, Option.getD_some] at H2
   have HN2 := hid (HA.out.num.has hq2)
   clear hq2
   rcases hq3 : numR r2 with ⟨n, r3⟩ | ⟨r3, k⟩
   ·
    have H3 := hid fun w t => number_one w g en x r2 _ hq3 t
    have hn9 := (HN2.out.num hq3).2
    have HN3 := hid (HN2.out.num hq3).1
    rw [hq3] at HB
    simp only [Rs.bind] at HB
    have hni : (n : Int) ≤ 9999999 := by omega
    clear hq3
    go_wp2_with (first
     | (have _t := H1; go_at_call 106; refine (H1.out _ HA.out.tk).mono ?_; rintro e w1 ⟨rfl, o1, t1⟩; have HA1 := hid (HA.out.on o1 t1 HA.out.num); clear o1 t1 H1 _t)
     | (go_at_call 106; refine (H2.out _ HA1.out.tk).mono ?_; rintro e w2 ⟨rfl, o1, t1⟩; have HA2 := hid (HA1.out.on o1 t1 HN2.out); clear o1 t1)
     | (go_at_call 61; refine (H3.out _ HA2.out.tk).mono ?_; rintro e w3 ⟨o1, rfl, t1⟩; have HA3 := hid (HA2.out.on o1 t1 HN3.out); clear o1 t1; have cj := HA3.out.vec.cell j; rw [Vc.cell _ j hj5] at cj; have fj := HA3.out.vec.frozen j))
    go_roundw
    case rel => exact ⟨j + 1, r3, v.put j (-(n : Int)), by omega, by go_num, by first | exact HA3.out.put hj5 (-(n : Int)) | (rw [show (-1 : Int) * (n : Int) = -(n : Int) by omega]; exact HA3.out.put hj5 (-(n : Int))), by rw [show 6 - (j + 1) = 5 - j by omega]; exact HB⟩
    case measure => simp [intOf]; omega
   have H3 := hid fun w t => number_one w g en x r2 _ hq3 t
   rw [hq3] at HB
   simp only [Rs.bind] at HB
   clear hq3
   go_wp2_with (first
    | (have _t := H1; go_at_call 106; refine (H1.out _ HA.out.tk).mono ?_; rintro e w1 ⟨rfl, o1, t1⟩; have HA1 := hid (HA.out.on o1 t1 HA.out.num); clear o1 t1 H1 _t)
    | (go_at_call 106; refine (H2.out _ HA1.out.tk).mono ?_; rintro e w2 ⟨rfl, o1, t1⟩; have HA2 := hid (HA1.out.on o1 t1 HN2.out); clear o1 t1)
    | (go_at_call 61; refine (H3.out _ HA2.out.tk).mono ?_; rintro e w3 ⟨o1, rfl⟩; replace o1 := hid o1))
   refine ⟨rfl, ?_⟩
   rw [HB.out]
   exact TEnds.err (HA2.out.only.trans o1.out)
  have H1 := hid fun w t => has_one w g en x r [93] (by decide) (some r1) hq1 t
  simp only [Option.isSome_some, Option.getD_some] at H1
  have HN1 := hid (HA.out.num.has hq1)
  rw [brk_close hq1] at HB
  clear hq1
  go_wp2_with (first
   | (go_at_call 106; refine (H1.out _ HA.out.tk).mono ?_; rintro e w1 ⟨rfl, o1, t1⟩; have HA1 := hid (HA.out.on o1 t1 HN1.out); clear o1 t1; have c0 := HA1.out.vec.cell 0; have c1 := HA1.out.vec.cell 1; have c2 := HA1.out.vec.cell 2; have c3 := HA1.out.vec.cell 3; have c4 := HA1.out.vec.cell 4; have c5 := HA1.out.vec.cell 5; have z0 := HA1.out.z.cell 0; have z1 := HA1.out.z.cell 1; have z2 := HA1.out.z.cell 2; have z3 := HA1.out.z.cell 3; have z4 := HA1.out.z.cell 4; have z5 := HA1.out.z.cell 5; have f0 := HA1.out.z.frozen 0; have f1 := HA1.out.z.frozen 1; have f2 := HA1.out.z.frozen 2; have f3 := HA1.out.z.frozen 3; have f4 := HA1.out.z.frozen 4; have f5 := HA1.out.z.frozen 5))
  refine bodyPost_ret (results_cell rfl _ ⟨W.heap.size, 0, none⟩ rfl _ Tryz.underlying53 rfl _ v.cells size_vec (blk_load (set6 HA1.out.z _ _ _ _ _ _))) rfl ?_
  rw [HB.out]
  exact TEnds.ok (val := fun v : Vc => .agg v.cells) (HA1.out.done _ _ _ _ _ _).1 (HA1.out.done _ _ _ _ _ _).2
end Go.Proofs.YtcjhihmaegagdaaGreatDoor
namespace Go.Proofs.YtcjhihmaegagdaaGreatDoor
open Go.RowKit Go.Maps Go.WideMaps
def nkey (s : List UInt8) : Lit := .string s
def namesK (ns : List (List UInt8)) (k : Nat) : DataW Unit := (List.range k).foldl (fun D i => D.put (nkey (ns.getD i [])) (.lit (.int .i64 i))) (.map [])
theorem namesK_succ (ns : List (List UInt8)) (k : Nat) : namesK ns (k + 1) = (namesK ns k).put (nkey (ns.getD k [])) (.lit (.int .i64 k)) := by
 simp [namesK, List.range_succ, List.foldl_append]
theorem nkey_ok (s : List UInt8) : WideAt.IsKeyLit (nkey s) := trivial
theorem nkey_inj {s t : List UInt8} (h : nkey s = nkey t) : s = t := by injection h
theorem namesK_tidy (ns : List (List UInt8)) (k : Nat) : Tidy (namesK ns k) := by
 induction k with
 | zero => exact tidy_empty
 | succ k ih => rw [namesK_succ]; exact ih.put (nkey_ok _) _
theorem namesK_has (ns : List (List UInt8)) (k : Nat) (s : List UInt8) : has (namesK ns k) (nkey s) = true ↔ ∃ i, i < k ∧ ns.getD i [] = s := by
 induction k with
 | zero => exact Iff.intro (fun h => by cases h) (fun h => by obtain ⟨i, h, _⟩ := h; omega)
 | succ k ih =>
  rw [namesK_succ]
  by_cases h : s = ns.getD k []
  ·
   rw [h, has_put_same (namesK_tidy ns k).isMap (nkey_ok _)]
   exact ⟨fun _ => ⟨k, by omega, rfl⟩, fun _ => rfl⟩
  rw [has_put_other (fun e => h (nkey_inj e)), ih]
  constructor
  ·
   rintro ⟨i, h1, h2⟩; exact ⟨i, by omega, h2⟩
  rintro ⟨i, h1, h2⟩
  refine ⟨i, ?_, h2⟩
  rcases Nat.lt_or_ge i k with h3 | h3
  ·
   exact h3
  exact absurd (by rw [show i = k by omega] at h2; exact h2.symm) h
theorem namesK_at (ns : List (List UInt8)) (k i : Nat) (hi : i < k) (hn : ∀ j, i < j → j < k → ns.getD j [] ≠ ns.getD i []) (z : DataW Unit) : (namesK ns k).atKey (nkey (ns.getD i [])) z = .lit (.int .i64 i) := by
 induction k with
 | zero => omega
 | succ k ih =>
  rw [namesK_succ]
  by_cases h : i = k
  ·
   rw [h, atKey_put_same (namesK_tidy ns k).isMap (nkey_ok _)]
  rw [atKey_put_other (fun e => hn k (by omega) (by omega) (nkey_inj e).symm)]
  exact ih (by omega) (fun j h1 h2 => hn j h1 (by omega))
def NamesAt (w : World) (g : Nat) (ns : List (List UInt8)) (k : Nat) : Prop := w.ownsMap Tryz.prog 9 (plainElem (H := Unit) Tryz.prog 3) g k (namesK ns k)
theorem NamesAt.up {w w' : World} {g : Nat} {ns : List (List UInt8)} {k : Nat} (h : NamesAt w g ns k) (hb : Below w.heap.size w w') : NamesAt w' g ns k :=
 World.ownsMap.kept (row := none) h (grown_below hb none) (by simp)
theorem lawS : Keyed Tryz.prog 9 := string_keyed Tryz.underlying9
theorem zeroI (w : World) : (zeroValue 3).run Tryz.prog w = .ok (.int .i64 0) w := by kernel_rfl
theorem key_str (s : List UInt8) (hs : s.length ≤ 9223372036854775807) : keyOf Tryz.prog 9 (str s) = some (nkey s) := by
 have := keyOf_string_mk Tryz.underlying9 (s := ⟨s.toArray⟩) (by simpa [ByteArray.size, maxLen] using hs)
 exact this
def Names (w : World) (g : Nat) (ns : List (List UInt8)) : Prop := NamesAt w g ns ns.length ∧ ns.Nodup
theorem namesK_snoc (ns : List (List UInt8)) (s : List UInt8) (k : Nat) (hk : k ≤ ns.length) : namesK (ns ++ [s]) k = namesK ns k := by
 induction k with
 | zero => rfl
 | succ k ih =>
  rw [namesK_succ, namesK_succ, ih (by omega)]
  congr 2
  simp [List.getD_eq_getElem?_getD, List.getElem?_append_left (show k < ns.length by omega)]
theorem idxR_some {ns : List (List UInt8)} {s : List UInt8} {i : Nat} (h : idxR ns s = some i) : i < ns.length ∧ ns.getD i [] = s := by
 unfold idxR at h
 obtain ⟨h1, h2, _⟩ := List.findIdx?_eq_some_iff_getElem.1 h
 refine ⟨h1, ?_⟩
 rw [List.getD_eq_getElem?_getD, List.getElem?_eq_getElem h1]
 simpa using h2
theorem idxR_none {ns : List (List UInt8)} {s : List UInt8} : idxR ns s = none ↔ s ∉ ns := by
 unfold idxR
 rw [List.findIdx?_eq_none_iff]
 constructor
 ·
  intro h hs; have := h s hs; simp at this
 intro h x hx
 by_cases e : x = s
 ·
  exact absurd (e ▸ hx) h
 simpa using e
theorem names_has {ns : List (List UInt8)} {s : List UInt8} : has (namesK ns ns.length) (nkey s) = (idxR ns s).isSome := by
 rcases hq : idxR ns s with _ | i
 ·
  rw [Option.isSome_none, Bool.eq_false_iff]
  intro h
  obtain ⟨i, hi, e⟩ := (namesK_has _ _ _).1 h
  refine idxR_none.1 hq ?_
  rw [← e, List.getD_eq_getElem?_getD, List.getElem?_eq_getElem hi]
  exact List.getElem_mem hi
 obtain ⟨h1, h2⟩ := idxR_some hq
 exact (namesK_has _ _ _).2 ⟨i, h1, h2⟩
theorem names_at {ns : List (List UInt8)} {s : List UInt8} {i : Nat} (hn : ns.Nodup) (hq : idxR ns s = some i) (z : DataW Unit) : (namesK ns ns.length).atKey (nkey s) z = .lit (.int .i64 i) := by
 obtain ⟨h1, h2⟩ := idxR_some hq
 have := namesK_at ns ns.length i h1 (fun j h3 h4 e => by
  have hp := List.pairwise_iff_getElem.1 hn i j h1 h4 h3
  rw [List.getD_eq_getElem?_getD, List.getD_eq_getElem?_getD, List.getElem?_eq_getElem h1, List.getElem?_eq_getElem h4] at e
  exact hp e.symm) z
 rwa [h2] at this
theorem Names.kept {w w' : World} {g : Nat} {ns : List (List UInt8)} {row : Option Nat} (h : Names w g ns) (hg : w.grownBy w' row) (hr : row ≠ some g) : Names w' g ns := ⟨World.ownsMap.kept h.1 hg (fun e => hr e.symm), h.2⟩
theorem Names.only {w w' : World} {g b : Nat} {ns : List (List UInt8)} (h : Names w g ns) (o : Only b w w') (hne : b ≠ g) : Names w' g ns :=
 h.kept (row := some b) ⟨o.os, o.tape, o.output, o.size, fun k hk e => o.block k (fun e' => e (by rw [e'])) hk⟩ (by intro e; injection e with e; exact hne e)
theorem Names.up {w w' : World} {g : Nat} {ns : List (List UInt8)} (h : Names w g ns) (hb : Below w.heap.size w w') : Names w' g ns := h.kept (row := none) (grown_below hb none) (by simp)
theorem look_names {w : World} {g : Nat} {ns : List (List UInt8)} (h : Names w g ns) (s : List UInt8) (hs : s.length ≤ 9223372036854775807) (b : Bool) (hb : (idxR ns s).isSome = b) :
  ∃ c : Int, ∀ k, (Instr.lookup 66 (.map (some g)) (str s) true).run Tryz.prog (w.drewN k) = .ok (.tuple #[.int .i64 c, .bool b]) (w.drewN k) := by
 subst hb
 have key : ∀ w, Names w g ns → ∃ c : Int, (Instr.lookup 66 (.map (some g)) (str s) true).run Tryz.prog w = .ok (.tuple #[.int .i64 c, .bool (idxR ns s).isSome]) w ∧ (namesK ns ns.length).atKey (nkey s) (.lit (.int .i64 0)) = .lit (.int .i64 c) := by
  intro w h
  obtain ⟨v, ps, hrun, hv⟩ := World.ownsMap.look_ok h.1 lawS Tryz.underlying66 (zeroI w) (plainElem_int (H := Unit) Tryz.underlying3 (by decide)) (key_str s hs)
  obtain ⟨c, rfl, hc, hwc⟩ := plainElem_int_inv Tryz.underlying3 hv
  refine ⟨c, by rw [hrun, names_has], ?_⟩
  simp only [Prod.mk.injEq] at hc
  exact hc.1
 obtain ⟨c, h1, h2⟩ := key w h
 refine ⟨c, fun k => ?_⟩
 obtain ⟨c', h3, h4⟩ := key (w.drewN k) h
 rw [h2] at h4
 injection h4 with h4
 injection h4 with _ h4
 rw [h3, h4]
theorem look_plain {w : World} {g : Nat} {ns : List (List UInt8)} (h : Names w g ns) (s : List UInt8) (hs : s.length ≤ 9223372036854775807) (i : Nat) (hi : idxR ns s = some i) :
  (Instr.lookup 66 (.map (some g)) (str s) false).run Tryz.prog w = .ok (.int .i64 i) w := by
 obtain ⟨c, hrun, hat, hwc⟩ := World.ownsMap.lookup_int h.1 lawS Tryz.underlying66 Tryz.underlying3 (zeroI w) (key_str s hs)
 rw [names_at h.2 hi] at hat
 simp at hat
 rw [hrun, hat]
end Go.Proofs.YtcjhihmaegagdaaGreatDoor
namespace Go.Proofs.YtcjhihmaegagdaaGreatDoor
open Go.RowKit Go.Deep
theorem index_ge (l sub : List UInt8) : -1 ≤ Lib.index l sub := by
 induction l with
 | nil => unfold Lib.index; split <;> omega
 | cons b l ih =>
  unfold Lib.index
  split
  ·
   omega
  split
  ·
   omega
  omega
theorem contains_cons (b : UInt8) (l sub : List UInt8) : Lib.contains (b :: l) sub = (sub.isPrefixOf (b :: l) || Lib.contains l sub) := by
 have hg := index_ge l sub
 unfold Lib.contains
 rw [Lib.index]
 by_cases h : sub.isPrefixOf (b :: l) = true
 ·
  rw [if_pos h, h]; rfl
 rw [if_neg h, show sub.isPrefixOf (b :: l) = false from Bool.eq_false_iff.2 h, Bool.false_or]
 by_cases h2 : Lib.index l sub = -1
 ·
  rw [if_pos (by simpa using h2), h2]
 rw [if_neg (by simpa using h2), decide_eq_true (by omega), decide_eq_true (by omega)]
theorem contains_skip (w t sub : List UInt8) (hw : ∀ y ∈ w, y ≠ 32) : Lib.contains (w ++ t) (32 :: sub) = Lib.contains t (32 :: sub) := by
 induction w with
 | nil => rfl
 | cons b w ih =>
  rw [List.cons_append, contains_cons, ih (fun y hy => hw y (List.mem_cons_of_mem _ hy))]
  have hb := hw b (List.mem_cons_self ..)
  rw [show (32 :: sub).isPrefixOf (b :: (w ++ t)) = false by rw [List.isPrefixOf]; simp; intro e; exact absurd e.symm hb, Bool.false_or]
theorem prefix_word (s w r : List UInt8) (hs : ∀ y ∈ s, y ≠ 32) (hw : ∀ y ∈ w, y ≠ 32) : (s ++ [32]).isPrefixOf (w ++ 32 :: r) = decide (s = w) := by
 induction s generalizing w with
 | nil =>
  cases w with
  | nil => simp [List.isPrefixOf]
  | cons b w =>
   have hb := hw b (List.mem_cons_self ..)
   simp only [List.nil_append, List.cons_append, List.isPrefixOf]
   rw [show ((32 : UInt8) == b) = false by rw [beq_eq_false_iff_ne]; exact fun e => hb e.symm]
   simp
 | cons a s ih =>
  have ha := hs a (List.mem_cons_self ..)
  cases w with
  | nil =>
   simp only [List.nil_append, List.cons_append, List.isPrefixOf]
   rw [show (a == (32 : UInt8)) = false by rw [beq_eq_false_iff_ne]; exact ha]
   simp
  | cons b w =>
   simp only [List.cons_append, List.isPrefixOf]
   rw [ih w (fun y hy => hs y (List.mem_cons_of_mem _ hy)) (fun y hy => hw y (List.mem_cons_of_mem _ hy))]
   by_cases e : a = b
   ·
    subst e; simp
   rw [show (a == b) = false by rw [beq_eq_false_iff_ne]; exact e]
   simp [e]
theorem contains_words (ws : List (List UInt8)) (s : List UInt8) (hs : ∀ y ∈ s, y ≠ 32) (hw : ∀ w ∈ ws, w ≠ [] ∧ ∀ y ∈ w, y ≠ 32) : Lib.contains (32 :: ws.flatMap (· ++ [32])) (32 :: (s ++ [32])) = decide (s ∈ ws) := by
 induction ws with
 | nil =>
  rw [contains_cons]
  have : (32 :: (s ++ [32])).isPrefixOf [32] = false := by
   simp only [List.isPrefixOf, beq_self_eq_true, Bool.true_and]
   cases s <;> rfl
  rw [List.flatMap_nil, this]
  simp [Lib.contains, Lib.index]
 | cons w ws ih =>
  obtain ⟨hn, hy⟩ := hw w (List.mem_cons_self ..)
  rw [contains_cons, List.flatMap_cons, List.append_assoc, List.singleton_append, contains_skip _ _ _ hy, ih (fun w hw' => hw w (List.mem_cons_of_mem _ hw'))]
  rw [show (32 :: (s ++ [32])).isPrefixOf (32 :: (w ++ 32 :: ws.flatMap (· ++ [32]))) = (s ++ [32]).isPrefixOf (w ++ 32 :: ws.flatMap (· ++ [32])) by simp [List.isPrefixOf], prefix_word s w _ hs hy]
  by_cases e : s = w
  ·
   subst e; simp
  simp [e]
def keysB : List UInt8 := [32, 118, 111, 105, 99, 101, 115, 32, 99, 97, 100, 101, 110, 99, 101, 32, 110, 111, 116, 101, 32, 116, 105, 101, 100, 32, 112, 97, 105, 114, 32, 118, 111, 105, 99, 101, 32, 102, 114, 111, 109, 32, 116, 111, 32, 97, 116, 32, 98, 121, 32, 119, 105, 116, 104, 105, 110, 32]
theorem keys_words : keysB = 32 :: keyWords.flatMap (· ++ [32]) := by decide
theorem keys_ok : ∀ w ∈ keyWords, w ≠ [] ∧ ∀ y ∈ w, y ≠ 32 := by decide
theorem key_any (W : World) (m : Int) (s : List UInt8) (hs : ∀ y ∈ s, y ≠ 32) (hm : W.cell? ⟨0, 0, none⟩ = some (.int .i64 m)) (b : Bool) (hb : decide (s ∈ keyWords) = b) :
  Calls Tryz.prog 24 #[.string ⟨keysB.toArray⟩, .string ⟨(32 :: (s ++ [32])).toArray⟩] W fun e w' => e = .returned (.bool b) ∧ w' = W := by
 have h := Tryz.strings_Contains ⟨keysB.toArray⟩ ⟨(32 :: (s ++ [32])).toArray⟩ m W (by decide) hm
 have e : Lib.contains keysB (32 :: (s ++ [32])) = b := by rw [keys_words, contains_words _ _ hs keys_ok, hb]
 rw [show Lib.contains (⟨keysB.toArray⟩ : ByteArray).data.toList (⟨(32 :: (s ++ [32])).toArray⟩ : ByteArray).data.toList = b from e] at h
 exact h
def TsOk (ts : List Tok) : Prop := ∀ t ∈ ts, t.n ≤ 9999999 ∧ t.text.length ≤ 8000 ∧ (t.kind = 1 → ∀ y ∈ t.text, y ≠ 32)
theorem TsOk.num {ts : List Tok} (h : TsOk ts) : NumOk ts := fun t ht => (h t ht).1
def MaxL (w : World) : Prop := ∃ m : Int, w.cell? ⟨0, 0, none⟩ = some (.int .i64 m)
theorem MaxL.below {w w' : World} (h : MaxL w) (hb : Below w.heap.size w w') : MaxL w' := by
 obtain ⟨m, h⟩ := h
 exact ⟨m, (hb.cell (World.block_lt_of_cell? w _ h)).trans h⟩
theorem MaxL.only {g : Nat} {w w' : World} (h : MaxL w) (hb : Only g w w') (hg : 0 < g) : MaxL w' := by
 obtain ⟨m, h⟩ := h
 exact ⟨m, (hb.cell (p := ⟨0, 0, none⟩) (Nat.ne_of_lt hg) (World.block_lt_of_cell? w _ h)).trans h⟩
def seenR (known : Bool) (ns : List (List UInt8)) (ts : List Tok) : Rs (List UInt8) := (wordR ts).bind fun s r => if (idxR ns s).isSome = known then .ok s r else .err ts 11
theorem TkAt.drewN {W : World} {g en : Nat} {x : Rc} {ts : List Tok} (h : TkAt W g en x ts) (k : Nat) : TkAt (W.drewN k) g en x ts := h
theorem Only.drewN {g : Nat} {a w : World} (h : Only g a w) (k : Nat) : Only g a (w.drewN k) := ⟨h.os, h.tape, h.output, h.size, h.block⟩
theorem seen_bad {known : Bool} {ns : List (List UInt8)} {t : Tok} {r : List Tok} (h : ¬ (t.kind = 1 ∧ t.text ∉ keyWords)) : seenR known ns (t :: r) = .err (t :: r) 10 := by simp only [seenR, wordR, if_neg h, Rs.bind]
theorem seen_word {known : Bool} {ns : List (List UInt8)} {t : Tok} {r : List Tok} (h : t.kind = 1 ∧ t.text ∉ keyWords) : seenR known ns (t :: r) = if (idxR ns t.text).isSome = known then .ok t.text r else .err (t :: r) 11 := by simp only [seenR, wordR, if_pos h, Rs.bind]
theorem new_test (W : World) (b : Bool) : Calls Tryz.prog 105 #[.bool b] W fun e w' => e = .returned (.bool (!b)) ∧ w' = W := by
 go_enter Tryz.func105, Tryz.ntmps105
 go_wp2
 go_ret
 exact ⟨rfl, rfl⟩
theorem old_test (W : World) (b : Bool) : Calls Tryz.prog 108 #[.bool b] W fun e w' => e = .returned (.bool b) ∧ w' = W := by
 go_enter Tryz.func108, Tryz.ntmps108
 go_wp2
 go_ret
 exact ⟨rfl, rfl⟩
theorem name_new (W : World) (g en gm : Nat) (x : Rc) (ts : List Tok) (ns : List (List UInt8)) (hx : x.m = .map (some gm)) (hne : g ≠ gm) (h : TkAt W g en x ts) (hN : TsOk ts) (hM : MaxL W) (hg : 0 < g) (hns : Names W gm ns) :
  Calls Tryz.prog 104 #[.pointer (some ⟨g, 0, none⟩), .func (.func 105) #[] #[]] W (TEnds W g en x str (seenR false ns ts)) := by
 have H := hid h
 have HNS := hid hns
 have HM := hid hM
 have hl := h.lt
 cases ts with
 | nil =>
  have HN := hid (next_none W g en x h)
  rw [show seenR false ns [] = .err [] 10 from rfl]
  clear h hns hM hN
  go_enter Tryz.func104, Tryz.ntmps104
  go_wp2_with (first
   | (go_at_call 62; refine HN.out.mono ?_; rintro e w1 ⟨rfl, b1⟩; have hz := b1.size; have H1 := hid (H.out.below b1); replace b1 := hid b1)
   | (go_at_call 63; refine (fail_any _ g en x [] 10 (H1.out.alloc _)).mono ?_; rintro e w2 ⟨rfl, rfl⟩))
  exact ⟨rfl, TEnds.err (r := []) ((Only.of_below b1.out).alloc _)⟩
 | cons t r =>
  have HN := hid (next_some W g en x t r h)
  obtain ⟨_, ht8, htw⟩ := hN t (List.mem_cons_self ..)
  clear h hns hM hN
  by_cases hk : t.kind = 1
  ·
   have hk2 : ((t.kind : Int) == 1) = true := by rw [hk]; rfl
   have hk3 : ((t.kind : Int) != 1) = false := by unfold bne; rw [hk2]; rfl
   have hy := htw hk
   have hcat : ((⟨#[32]⟩ : ByteArray) ++ ⟨t.text.toArray⟩) ++ ⟨#[32]⟩ = ⟨(32 :: (t.text ++ [32])).toArray⟩ := by
    apply ByteArray.ext
    simp [ByteArray.data_append]
   by_cases hkey : t.text ∈ keyWords
   ·
    have hq : seenR false ns (t :: r) = .err (t :: r) 10 := seen_bad (fun c => c.2 hkey)
    rw [hq]
    have HKY := hid fun W m hm => key_any W m t.text hy hm true (decide_eq_true hkey)
    clear hk hq hkey hy htw
    go_enter Tryz.func104, Tryz.ntmps104
    go_wp2_with (first
     | (go_at_call 62; refine HN.out.mono ?_; rintro e w1 ⟨rfl, b1⟩; have hz := b1.size; obtain ⟨m1, hm1⟩ := (HM.out.below b1).below ((Below.refl w1.heap.size w1).alloc (Nat.le_refl _) (.cells #[.int .i64 t.kind, .int .i64 t.pos, .int .i64 t.n, str t.text] 40)); have H1 := hid (H.out.below b1); replace b1 := hid b1; replace hm1 := hid hm1)
     | (go_at_call 24; refine (HKY.out _ m1 hm1.out).mono ?_; rintro e w2 ⟨rfl, rfl⟩)
     | (go_at_call 63; refine (fail_any _ g en x (t :: r) 10 (H1.out.alloc _)).mono ?_; rintro e w2 ⟨rfl, rfl⟩))
    exact ⟨rfl, TEnds.err ((Only.of_below b1.out).alloc _)⟩
   have HKY := hid fun W m hm => key_any W m t.text hy hm false (decide_eq_false hkey)
   have hw : seenR false ns (t :: r) = if (idxR ns t.text).isSome = false then .ok t.text r else .err (t :: r) 11 := seen_word ⟨hk, hkey⟩
   have hlen : t.text.length ≤ 9223372036854775807 := by omega
   rcases hs : (idxR ns t.text).isSome with _ | _
   ·
    rw [hw, hs, if_pos rfl]
    have HS := hid hs
    clear hk hw hkey hs hy htw
    go_enter Tryz.func104, Tryz.ntmps104
    have HSI := hid HS.out
    go_wp2_with (first
     | (go_at_call 62; refine HN.out.mono ?_; rintro e w1 ⟨rfl, b1⟩; have hz := b1.size; obtain ⟨m1, hm1⟩ := (HM.out.below b1).below ((Below.refl w1.heap.size w1).alloc (Nat.le_refl _) (.cells #[.int .i64 t.kind, .int .i64 t.pos, .int .i64 t.n, str t.text] 40)); have HNW := hid ((HNS.out.up b1).up ((Below.refl w1.heap.size w1).alloc (Nat.le_refl _) (.cells #[.int .i64 t.kind, .int .i64 t.pos, .int .i64 t.n, str t.text] 40))); have H1 := hid (H.out.below b1); obtain ⟨A, c, hb, hr, hc⟩ := H1.out; replace b1 := hid b1; replace hm1 := hid hm1; have HB := hid hb; have HR := hid hr; have c0 := hb.cell 0; have f0 := hb.frozen 0; have c2 := hb.cell 2; rw [show (#[Value.slice A (t :: r).length c, .int .i64 en, x.m, x.v, x.n, x.p, x.q] : Array Value)[2]? = some (.map (some gm)) by rw [← hx]; rfl] at c2; have hcl : r.length + 1 ≤ c := (by simpa using hc); have hcz : ¬ (c : Int) < 1 := (by omega); have hgl := hb.lt; have hgn : g ≠ w1.heap.size := (by omega); clear hb hr hc)
     | (go_at_call 24; refine (HKY.out _ m1 hm1.out).mono ?_; rintro e w2 ⟨rfl, rfl⟩))
    obtain ⟨cv, hlk⟩ := look_names HNW.out t.text hlen false HS.out
    go_quiet (fail)
    clear hlk
    go_wp2_with (first
     | (go_at_call 105; refine (new_test _ false).mono ?_; rintro e w2 ⟨rfl, rfl⟩))
    all_goals go_ret
    ·
     exact TEnds.ok ((((Only.of_below b1.out).alloc _).drewN nq).setCell 0 _) (TkAt.pop1 ((HB.out.alloc _).drewN nq) (Shows.drewN (Shows.alloc HR.out (by omega) _) nq) hcl h)
    exact TEnds.ok ((((Only.of_below b1.out).alloc _).drewN nq).setCell 0 _) (TkAt.popn ((HB.out.alloc _).drewN nq) (Shows.drewN (Shows.alloc HR.out (by omega) _) nq) hcl h)
   rw [hw, hs, if_neg (by decide)]
   have HS := hid hs
   clear hk hw hkey hs hy htw
   go_enter Tryz.func104, Tryz.ntmps104
   have HSI := hid HS.out
   go_wp2_with (first
    | (go_at_call 62; refine HN.out.mono ?_; rintro e w1 ⟨rfl, b1⟩; have hz := b1.size; obtain ⟨m1, hm1⟩ := (HM.out.below b1).below ((Below.refl w1.heap.size w1).alloc (Nat.le_refl _) (.cells #[.int .i64 t.kind, .int .i64 t.pos, .int .i64 t.n, str t.text] 40)); have HNW := hid ((HNS.out.up b1).up ((Below.refl w1.heap.size w1).alloc (Nat.le_refl _) (.cells #[.int .i64 t.kind, .int .i64 t.pos, .int .i64 t.n, str t.text] 40))); have H1 := hid (H.out.below b1); obtain ⟨A, c, hb, hr, hc⟩ := H1.out; replace b1 := hid b1; replace hm1 := hid hm1; have HB := hid hb; have HR := hid hr; have c0 := hb.cell 0; have f0 := hb.frozen 0; have c2 := hb.cell 2; rw [show (#[Value.slice A (t :: r).length c, .int .i64 en, x.m, x.v, x.n, x.p, x.q] : Array Value)[2]? = some (.map (some gm)) by rw [← hx]; rfl] at c2; have hcl : r.length + 1 ≤ c := (by simpa using hc); have hcz : ¬ (c : Int) < 1 := (by omega); have hgl := hb.lt; have hgn : g ≠ w1.heap.size := (by omega); clear hb hr hc)
    | (go_at_call 24; refine (HKY.out _ m1 hm1.out).mono ?_; rintro e w2 ⟨rfl, rfl⟩))
   obtain ⟨cv, hlk⟩ := look_names HNW.out t.text hlen true HS.out
   go_quiet (fail)
   clear hlk
   go_wp2_with (first
    | (go_at_call 105; refine (new_test _ true).mono ?_; rintro e w2 ⟨rfl, rfl⟩)
    | (go_at_call 63; refine (fail_any _ g en x (t :: r) 11 ((H1.out.alloc _).drewN nq)).mono ?_; rintro e w2 ⟨rfl, rfl⟩))
   exact ⟨rfl, TEnds.err (((Only.of_below b1.out).alloc _).drewN nq)⟩
  have hk2 : ((t.kind : Int) == 1) = false := by rw [beq_eq_false_iff_ne]; omega
  have hk3 : ((t.kind : Int) != 1) = true := by unfold bne; rw [hk2]; rfl
  have hq : seenR false ns (t :: r) = .err (t :: r) 10 := seen_bad (fun c => hk c.1)
  rw [hq]
  clear hk hq
  go_enter Tryz.func104, Tryz.ntmps104
  go_wp2_with (first
   | (go_at_call 62; refine HN.out.mono ?_; rintro e w1 ⟨rfl, b1⟩; have hz := b1.size; have H1 := hid (H.out.below b1); replace b1 := hid b1)
   | (go_at_call 63; refine (fail_any _ g en x (t :: r) 10 (H1.out.alloc _)).mono ?_; rintro e w2 ⟨rfl, rfl⟩))
  exact ⟨rfl, TEnds.err ((Only.of_below b1.out).alloc _)⟩
theorem name_old (W : World) (g en gm : Nat) (x : Rc) (ts : List Tok) (ns : List (List UInt8)) (hx : x.m = .map (some gm)) (hne : g ≠ gm) (h : TkAt W g en x ts) (hN : TsOk ts) (hM : MaxL W) (hg : 0 < g) (hns : Names W gm ns) :
  Calls Tryz.prog 104 #[.pointer (some ⟨g, 0, none⟩), .func (.func 108) #[] #[]] W (TEnds W g en x str (seenR true ns ts)) := by
 have H := hid h
 have HNS := hid hns
 have HM := hid hM
 have hl := h.lt
 cases ts with
 | nil =>
  have HN := hid (next_none W g en x h)
  rw [show seenR true ns [] = .err [] 10 from rfl]
  clear h hns hM hN
  go_enter Tryz.func104, Tryz.ntmps104
  go_wp2_with (first
   | (go_at_call 62; refine HN.out.mono ?_; rintro e w1 ⟨rfl, b1⟩; have hz := b1.size; have H1 := hid (H.out.below b1); replace b1 := hid b1)
   | (go_at_call 63; refine (fail_any _ g en x [] 10 (H1.out.alloc _)).mono ?_; rintro e w2 ⟨rfl, rfl⟩))
  exact ⟨rfl, TEnds.err (r := []) ((Only.of_below b1.out).alloc _)⟩
 | cons t r =>
  have HN := hid (next_some W g en x t r h)
  obtain ⟨_, ht8, htw⟩ := hN t (List.mem_cons_self ..)
  clear h hns hM hN
  by_cases hk : t.kind = 1
  ·
   have hk2 : ((t.kind : Int) == 1) = true := by rw [hk]; rfl
   have hk3 : ((t.kind : Int) != 1) = false := by unfold bne; rw [hk2]; rfl
   have hy := htw hk
   have hcat : ((⟨#[32]⟩ : ByteArray) ++ ⟨t.text.toArray⟩) ++ ⟨#[32]⟩ = ⟨(32 :: (t.text ++ [32])).toArray⟩ := by
    apply ByteArray.ext
    simp [ByteArray.data_append]
   by_cases hkey : t.text ∈ keyWords
   ·
    have hq : seenR true ns (t :: r) = .err (t :: r) 10 := seen_bad (fun c => c.2 hkey)
    rw [hq]
    have HKY := hid fun W m hm => key_any W m t.text hy hm true (decide_eq_true hkey)
    clear hk hq hkey hy htw
    go_enter Tryz.func104, Tryz.ntmps104
    go_wp2_with (first
     | (go_at_call 62; refine HN.out.mono ?_; rintro e w1 ⟨rfl, b1⟩; have hz := b1.size; obtain ⟨m1, hm1⟩ := (HM.out.below b1).below ((Below.refl w1.heap.size w1).alloc (Nat.le_refl _) (.cells #[.int .i64 t.kind, .int .i64 t.pos, .int .i64 t.n, str t.text] 40)); have H1 := hid (H.out.below b1); replace b1 := hid b1; replace hm1 := hid hm1)
     | (go_at_call 24; refine (HKY.out _ m1 hm1.out).mono ?_; rintro e w2 ⟨rfl, rfl⟩)
     | (go_at_call 63; refine (fail_any _ g en x (t :: r) 10 (H1.out.alloc _)).mono ?_; rintro e w2 ⟨rfl, rfl⟩))
    exact ⟨rfl, TEnds.err ((Only.of_below b1.out).alloc _)⟩
   have HKY := hid fun W m hm => key_any W m t.text hy hm false (decide_eq_false hkey)
   have hw : seenR true ns (t :: r) = if (idxR ns t.text).isSome = true then .ok t.text r else .err (t :: r) 11 := seen_word ⟨hk, hkey⟩
   have hlen : t.text.length ≤ 9223372036854775807 := by omega
   rcases hs : (idxR ns t.text).isSome with _ | _
   ·
    rw [hw, hs, if_neg (by decide)]
    have HS := hid hs
    clear hk hw hkey hs hy htw
    go_enter Tryz.func104, Tryz.ntmps104
    have HSI := hid HS.out
    go_wp2_with (first
     | (go_at_call 62; refine HN.out.mono ?_; rintro e w1 ⟨rfl, b1⟩; have hz := b1.size; obtain ⟨m1, hm1⟩ := (HM.out.below b1).below ((Below.refl w1.heap.size w1).alloc (Nat.le_refl _) (.cells #[.int .i64 t.kind, .int .i64 t.pos, .int .i64 t.n, str t.text] 40)); have HNW := hid ((HNS.out.up b1).up ((Below.refl w1.heap.size w1).alloc (Nat.le_refl _) (.cells #[.int .i64 t.kind, .int .i64 t.pos, .int .i64 t.n, str t.text] 40))); have H1 := hid (H.out.below b1); obtain ⟨A, c, hb, hr, hc⟩ := H1.out; replace b1 := hid b1; replace hm1 := hid hm1; have HB := hid hb; have HR := hid hr; have c0 := hb.cell 0; have f0 := hb.frozen 0; have c2 := hb.cell 2; rw [show (#[Value.slice A (t :: r).length c, .int .i64 en, x.m, x.v, x.n, x.p, x.q] : Array Value)[2]? = some (.map (some gm)) by rw [← hx]; rfl] at c2; have hcl : r.length + 1 ≤ c := (by simpa using hc); have hcz : ¬ (c : Int) < 1 := (by omega); have hgl := hb.lt; have hgn : g ≠ w1.heap.size := (by omega); clear hb hr hc)
     | (go_at_call 24; refine (HKY.out _ m1 hm1.out).mono ?_; rintro e w2 ⟨rfl, rfl⟩))
    obtain ⟨cv, hlk⟩ := look_names HNW.out t.text hlen false HS.out
    go_quiet (fail)
    clear hlk
    go_wp2_with (first
     | (go_at_call 108; refine (old_test _ false).mono ?_; rintro e w2 ⟨rfl, rfl⟩)
     | (go_at_call 63; refine (fail_any _ g en x (t :: r) 11 ((H1.out.alloc _).drewN nq)).mono ?_; rintro e w2 ⟨rfl, rfl⟩))
    exact ⟨rfl, TEnds.err (((Only.of_below b1.out).alloc _).drewN nq)⟩
   rw [hw, hs, if_pos rfl]
   have HS := hid hs
   clear hk hw hkey hs hy htw
   go_enter Tryz.func104, Tryz.ntmps104
   have HSI := hid HS.out
   go_wp2_with (first
    | (go_at_call 62; refine HN.out.mono ?_; rintro e w1 ⟨rfl, b1⟩; have hz := b1.size; obtain ⟨m1, hm1⟩ := (HM.out.below b1).below ((Below.refl w1.heap.size w1).alloc (Nat.le_refl _) (.cells #[.int .i64 t.kind, .int .i64 t.pos, .int .i64 t.n, str t.text] 40)); have HNW := hid ((HNS.out.up b1).up ((Below.refl w1.heap.size w1).alloc (Nat.le_refl _) (.cells #[.int .i64 t.kind, .int .i64 t.pos, .int .i64 t.n, str t.text] 40))); have H1 := hid (H.out.below b1); obtain ⟨A, c, hb, hr, hc⟩ := H1.out; replace b1 := hid b1; replace hm1 := hid hm1; have HB := hid hb; have HR := hid hr; have c0 := hb.cell 0; have f0 := hb.frozen 0; have c2 := hb.cell 2; rw [show (#[Value.slice A (t :: r).length c, .int .i64 en, x.m, x.v, x.n, x.p, x.q] : Array Value)[2]? = some (.map (some gm)) by rw [← hx]; rfl] at c2; have hcl : r.length + 1 ≤ c := (by simpa using hc); have hcz : ¬ (c : Int) < 1 := (by omega); have hgl := hb.lt; have hgn : g ≠ w1.heap.size := (by omega); clear hb hr hc)
    | (go_at_call 24; refine (HKY.out _ m1 hm1.out).mono ?_; rintro e w2 ⟨rfl, rfl⟩))
   obtain ⟨cv, hlk⟩ := look_names HNW.out t.text hlen true HS.out
   go_quiet (fail)
   clear hlk
   go_wp2_with (first
    | (go_at_call 108; refine (old_test _ true).mono ?_; rintro e w2 ⟨rfl, rfl⟩))
   all_goals go_ret
   ·
    exact TEnds.ok ((((Only.of_below b1.out).alloc _).drewN nq).setCell 0 _) (TkAt.pop1 ((HB.out.alloc _).drewN nq) (Shows.drewN (Shows.alloc HR.out (by omega) _) nq) hcl h)
   exact TEnds.ok ((((Only.of_below b1.out).alloc _).drewN nq).setCell 0 _) (TkAt.popn ((HB.out.alloc _).drewN nq) (Shows.drewN (Shows.alloc HR.out (by omega) _) nq) hcl h)
  have hk2 : ((t.kind : Int) == 1) = false := by rw [beq_eq_false_iff_ne]; omega
  have hk3 : ((t.kind : Int) != 1) = true := by unfold bne; rw [hk2]; rfl
  have hq : seenR true ns (t :: r) = .err (t :: r) 10 := seen_bad (fun c => hk c.1)
  rw [hq]
  clear hk hq
  go_enter Tryz.func104, Tryz.ntmps104
  go_wp2_with (first
   | (go_at_call 62; refine HN.out.mono ?_; rintro e w1 ⟨rfl, b1⟩; have hz := b1.size; have H1 := hid (H.out.below b1); replace b1 := hid b1)
   | (go_at_call 63; refine (fail_any _ g en x (t :: r) 10 (H1.out.alloc _)).mono ?_; rintro e w2 ⟨rfl, rfl⟩))
  exact ⟨rfl, TEnds.err ((Only.of_below b1.out).alloc _)⟩
end Go.Proofs.YtcjhihmaegagdaaGreatDoor
namespace Go.Proofs.YtcjhihmaegagdaaGreatDoor
open Go.RowKit Go.Deep
theorem own_apart {w : World} {base : Nat} {e t : TypeId} {size n b : Nat} {v : Value} {xs : List Value} {cs : Array Value} (h : w.ownsRow base e size v n xs) (hb : Blk w b t cs) (ht : t ≠ e) : v.ownBlock ≠ some b := by
 rcases h.2 with ⟨rfl, _⟩ | ⟨g, cap, cur, rfl, _, hg, _⟩
 ·
  simp [Value.ownBlock]
 intro e1
 simp only [Value.ownBlock, Option.some.injEq] at e1
 subst e1
 have hb' : w.heap[g]? = some (.cells cs t (0, 0)) := hb
 rw [hg] at hb'
 simp only [Option.some.injEq, Obj.cells.injEq] at hb'
 exact ht hb'.2.1.symm
abbrev Nte.cells (t : Nte) : Array Value := #[.int .i64 t.voice, .int .i64 t.start, .int .i64 t.stop, .int .i64 t.place.a, .int .i64 t.place.b, .int .i64 t.place.c, .int .i64 t.place.d, .int .i64 t.place.e, .int .i64 t.place.f, .bool t.tied]
def Nte.cs (t : Nte) : List Value := t.cells.toList
theorem Nte.cs_len (t : Nte) : t.cs.length = 10 := rfl
theorem Nte.cs_one (t : Nte) : ∀ u ∈ t.cs, u.oneCell' = true := by
 intro u hu
 simp [Nte.cs] at hu
 rcases hu with rfl | rfl | rfl | rfl | rfl | rfl | rfl | rfl | rfl | rfl <;> rfl
theorem Nte.all_one (t : Nte) : t.cells.all (·.oneCell') = true := by simp [Value.oneCell']
theorem size_N : (Tryz.prog.info? 55).map (·.size) = some 10 := by kernel_rfl
theorem info_N : (Tryz.prog.info? 55).map (fun i => (i.zero, i.size, i.bytes)) = some (some (.agg #[.int .i64 0, .int .i64 0, .int .i64 0, .int .i64 0, .int .i64 0, .int .i64 0, .int .i64 0, .int .i64 0, .int .i64 0, .bool false]), 10, 80) := by kernel_rfl
def RdN (w : World) (B : Nat) (A : Option Addr) (l : List Nte) : Prop := Shows w B 10 A l.length (rcells Nte.cs l)
theorem RdN.nil (w : World) (B : Nat) (A : Option Addr) : RdN w B A [] := Shows.nil_
theorem RdN.up {w w' : World} {A : Option Addr} {l : List Nte} (h : RdN w w.heap.size A l) (hb : Below w.heap.size w w') : RdN w' w'.heap.size A l := (h.below hb).wider hb.size
structure Nte.At (w : World) (p : Addr) (x : Nte) : Prop where
 c0 : w.cell? p = x.cells[0]?
 c1 : w.cell? ⟨p.block, p.off + 1, none⟩ = x.cells[1]?
 c2 : w.cell? ⟨p.block, p.off + 2, none⟩ = x.cells[2]?
 c3 : w.cell? ⟨p.block, p.off + 3, none⟩ = x.cells[3]?
 c4 : w.cell? ⟨p.block, p.off + 4, none⟩ = x.cells[4]?
 c5 : w.cell? ⟨p.block, p.off + 5, none⟩ = x.cells[5]?
 c6 : w.cell? ⟨p.block, p.off + 6, none⟩ = x.cells[6]?
 c7 : w.cell? ⟨p.block, p.off + 7, none⟩ = x.cells[7]?
 c8 : w.cell? ⟨p.block, p.off + 8, none⟩ = x.cells[8]?
 c9 : w.cell? ⟨p.block, p.off + 9, none⟩ = x.cells[9]?
theorem RdN.at {w : World} {B : Nat} {A : Option Addr} {l : List Nte} (h : RdN w B A l) {i : Nat} (hi : i < l.length) : ∃ ad, A = some ad ∧ ad.block < B ∧ Nte.At w (ad.add (i * 10)) l[i] := by
 obtain ⟨ad, rfl, hb, hc⟩ := Shows.rec Nte.cs 10 Nte.cs_len h rfl hi
 have h0 := hc 0 (by omega)
 rw [show (ad.add (i * 10)).add 0 = ad.add (i * 10) from by simp [Addr.add]] at h0
 have hj : ∀ j, j < 9 → w.cell? ⟨(ad.add (i * 10)).block, (ad.add (i * 10)).off + (j + 1), none⟩ = l[i].cs[j + 1]? := fun j hj => by rw [← add_off]; exact hc (j + 1) (by omega)
 exact ⟨ad, rfl, hb, h0, hj 0 (by omega), hj 1 (by omega), hj 2 (by omega), hj 3 (by omega), hj 4 (by omega), hj 5 (by omega), hj 6 (by omega), hj 7 (by omega), hj 8 (by omega)⟩
def OwnN (w : World) (base : Nat) (v : Value) (l : List Nte) : Prop := w.ownsRow base 55 10 v l.length (rcells Nte.cs l)
theorem OwnN.start (w : World) (base : Nat) : OwnN w base (.slice none 0 0) [] := ⟨rfl, Or.inl ⟨rfl, rfl⟩⟩
theorem OwnN.form {w : World} {base : Nat} {v : Value} {l : List Nte} (h : OwnN w base v l) : ∃ A c, v = .slice A l.length c ∧ l.length ≤ c ∧ RdN w w.heap.size A l := by
 have h' := h
 rcases h'.2 with ⟨rfl, h0⟩ | ⟨g, cap, cur, rfl, -, -, hc, -⟩
 ·
  obtain rfl := List.eq_nil_of_length_eq_zero h0
  exact ⟨none, 0, rfl, Nat.le_refl _, Shows.nil_⟩
 exact ⟨_, cap, rfl, hc, Shows.of_own h⟩
theorem OwnN.kept {w w' : World} {base : Nat} {v : Value} {l : List Nte} {r : Option Nat} (h : OwnN w base v l) (hg : w.grownBy w' r) (hne : v.ownBlock = none ∨ v.ownBlock ≠ r) : OwnN w' base v l := World.ownsRow.kept h hg hne
theorem OwnN.on {w w' : World} {base : Nat} {v : Value} {l : List Nte} (h : OwnN w base v l) (hb : Below w.heap.size w w') : OwnN w' base v l :=
 OwnN.kept (r := some w.heap.size) h (grown_below hb _) (by
  rcases hv : v.ownBlock with _ | g
  ·
   exact Or.inl rfl
  right; intro e; injection e with e; have := (World.ownsRow.lt h g hv).2; omega)
theorem OwnN.snoc {w : World} {base : Nat} {v : Value} {l : List Nte} {x : Nte} (h : w.ownsRow base 55 10 v (l.length + 1) (rcells Nte.cs l ++ x.cs)) : OwnN w base v (l ++ [x]) := by
 unfold OwnN
 rw [List.length_append, rcells_append, rcells_single]
 exact h
theorem OwnN.apart {w : World} {base b : Nat} {v : Value} {l : List Nte} (h : OwnN w base v l) {t : TypeId} {cs : Array Value} (hb : Blk w b t cs) (ht : t ≠ 55) : v.ownBlock ≠ some b := own_apart h hb ht
theorem OwnN.only {w w' : World} {base b : Nat} {v : Value} {l : List Nte} (h : OwnN w base v l) (o : Only b w w') (hne : v.ownBlock ≠ some b) : OwnN w' base v l :=
 h.kept (r := some b) ⟨o.os, o.tape, o.output, o.size, fun k hk e => o.block k (fun e' => e (by rw [e'])) hk⟩ (.inr hne)
theorem shows_N (w : World) (x : Nte) (g : Nat) (hg : g = w.heap.size) : Shows (w.alloc (.cells x.cells 55)) (g + 1) 10 (some ⟨g, 0, none⟩) 1 x.cs := hg ▸ shows_new w x.cells 55 1 10 rfl
abbrev Par.cells (t : Par) : Array Value := #[.int .i64 t.a, .int .i64 t.b, .int .i64 t.wish.a, .int .i64 t.wish.b, .int .i64 t.wish.c, .int .i64 t.wish.d, .int .i64 t.wish.e, .int .i64 t.wish.f, .int .i64 t.bound]
def Par.cs (t : Par) : List Value := t.cells.toList
theorem Par.cs_len (t : Par) : t.cs.length = 9 := rfl
theorem Par.cs_one (t : Par) : ∀ u ∈ t.cs, u.oneCell' = true := by
 intro u hu
 simp [Par.cs] at hu
 rcases hu with rfl | rfl | rfl | rfl | rfl | rfl | rfl | rfl | rfl <;> rfl
theorem Par.all_one (t : Par) : t.cells.all (·.oneCell') = true := by simp [Value.oneCell']
theorem size_P : (Tryz.prog.info? 57).map (·.size) = some 9 := by kernel_rfl
theorem info_P : (Tryz.prog.info? 57).map (fun i => (i.zero, i.size, i.bytes)) = some (some (.agg #[.int .i64 0, .int .i64 0, .int .i64 0, .int .i64 0, .int .i64 0, .int .i64 0, .int .i64 0, .int .i64 0, .int .i64 0]), 9, 72) := by kernel_rfl
def RdP (w : World) (B : Nat) (A : Option Addr) (l : List Par) : Prop := Shows w B 9 A l.length (rcells Par.cs l)
theorem RdP.nil (w : World) (B : Nat) (A : Option Addr) : RdP w B A [] := Shows.nil_
theorem RdP.up {w w' : World} {A : Option Addr} {l : List Par} (h : RdP w w.heap.size A l) (hb : Below w.heap.size w w') : RdP w' w'.heap.size A l := (h.below hb).wider hb.size
structure Par.At (w : World) (p : Addr) (x : Par) : Prop where
 c0 : w.cell? p = x.cells[0]?
 c1 : w.cell? ⟨p.block, p.off + 1, none⟩ = x.cells[1]?
 c2 : w.cell? ⟨p.block, p.off + 2, none⟩ = x.cells[2]?
 c3 : w.cell? ⟨p.block, p.off + 3, none⟩ = x.cells[3]?
 c4 : w.cell? ⟨p.block, p.off + 4, none⟩ = x.cells[4]?
 c5 : w.cell? ⟨p.block, p.off + 5, none⟩ = x.cells[5]?
 c6 : w.cell? ⟨p.block, p.off + 6, none⟩ = x.cells[6]?
 c7 : w.cell? ⟨p.block, p.off + 7, none⟩ = x.cells[7]?
 c8 : w.cell? ⟨p.block, p.off + 8, none⟩ = x.cells[8]?
theorem RdP.at {w : World} {B : Nat} {A : Option Addr} {l : List Par} (h : RdP w B A l) {i : Nat} (hi : i < l.length) : ∃ ad, A = some ad ∧ ad.block < B ∧ Par.At w (ad.add (i * 9)) l[i] := by
 obtain ⟨ad, rfl, hb, hc⟩ := Shows.rec Par.cs 9 Par.cs_len h rfl hi
 have h0 := hc 0 (by omega)
 rw [show (ad.add (i * 9)).add 0 = ad.add (i * 9) from by simp [Addr.add]] at h0
 have hj : ∀ j, j < 8 → w.cell? ⟨(ad.add (i * 9)).block, (ad.add (i * 9)).off + (j + 1), none⟩ = l[i].cs[j + 1]? := fun j hj => by rw [← add_off]; exact hc (j + 1) (by omega)
 exact ⟨ad, rfl, hb, h0, hj 0 (by omega), hj 1 (by omega), hj 2 (by omega), hj 3 (by omega), hj 4 (by omega), hj 5 (by omega), hj 6 (by omega), hj 7 (by omega)⟩
def OwnP (w : World) (base : Nat) (v : Value) (l : List Par) : Prop := w.ownsRow base 57 9 v l.length (rcells Par.cs l)
theorem OwnP.start (w : World) (base : Nat) : OwnP w base (.slice none 0 0) [] := ⟨rfl, Or.inl ⟨rfl, rfl⟩⟩
theorem OwnP.form {w : World} {base : Nat} {v : Value} {l : List Par} (h : OwnP w base v l) : ∃ A c, v = .slice A l.length c ∧ l.length ≤ c ∧ RdP w w.heap.size A l := by
 have h' := h
 rcases h'.2 with ⟨rfl, h0⟩ | ⟨g, cap, cur, rfl, -, -, hc, -⟩
 ·
  obtain rfl := List.eq_nil_of_length_eq_zero h0
  exact ⟨none, 0, rfl, Nat.le_refl _, Shows.nil_⟩
 exact ⟨_, cap, rfl, hc, Shows.of_own h⟩
theorem OwnP.kept {w w' : World} {base : Nat} {v : Value} {l : List Par} {r : Option Nat} (h : OwnP w base v l) (hg : w.grownBy w' r) (hne : v.ownBlock = none ∨ v.ownBlock ≠ r) : OwnP w' base v l := World.ownsRow.kept h hg hne
theorem OwnP.on {w w' : World} {base : Nat} {v : Value} {l : List Par} (h : OwnP w base v l) (hb : Below w.heap.size w w') : OwnP w' base v l :=
 OwnP.kept (r := some w.heap.size) h (grown_below hb _) (by
  rcases hv : v.ownBlock with _ | g
  ·
   exact Or.inl rfl
  right; intro e; injection e with e; have := (World.ownsRow.lt h g hv).2; omega)
theorem OwnP.snoc {w : World} {base : Nat} {v : Value} {l : List Par} {x : Par} (h : w.ownsRow base 57 9 v (l.length + 1) (rcells Par.cs l ++ x.cs)) : OwnP w base v (l ++ [x]) := by
 unfold OwnP
 rw [List.length_append, rcells_append, rcells_single]
 exact h
theorem OwnP.apart {w : World} {base b : Nat} {v : Value} {l : List Par} (h : OwnP w base v l) {t : TypeId} {cs : Array Value} (hb : Blk w b t cs) (ht : t ≠ 57) : v.ownBlock ≠ some b := own_apart h hb ht
theorem OwnP.only {w w' : World} {base b : Nat} {v : Value} {l : List Par} (h : OwnP w base v l) (o : Only b w w') (hne : v.ownBlock ≠ some b) : OwnP w' base v l :=
 h.kept (r := some b) ⟨o.os, o.tape, o.output, o.size, fun k hk e => o.block k (fun e' => e (by rw [e'])) hk⟩ (.inr hne)
theorem shows_P (w : World) (x : Par) (g : Nat) (hg : g = w.heap.size) : Shows (w.alloc (.cells x.cells 57)) (g + 1) 9 (some ⟨g, 0, none⟩) 1 x.cs := hg ▸ shows_new w x.cells 57 1 9 rfl
structure Itg where
 x : Int
def itg (l : List Int) : List Itg := l.map Itg.mk
abbrev Itg.cells (t : Itg) : Array Value := #[.int .i64 t.x]
def Itg.cs (t : Itg) : List Value := t.cells.toList
theorem Itg.cs_len (t : Itg) : t.cs.length = 1 := rfl
theorem Itg.cs_one (t : Itg) : ∀ u ∈ t.cs, u.oneCell' = true := by
 intro u hu
 simp [Itg.cs] at hu
 rcases hu with rfl <;> rfl
theorem Itg.all_one (t : Itg) : t.cells.all (·.oneCell') = true := by simp [Value.oneCell']
theorem info_C : (Tryz.prog.info? 3).map (fun i => (i.zero, i.size, i.bytes)) = some (some (.int .i64 0), 1, 8) := by kernel_rfl
def RdC (w : World) (B : Nat) (A : Option Addr) (l : List Itg) : Prop := Shows w B 1 A l.length (rcells Itg.cs l)
theorem RdC.nil (w : World) (B : Nat) (A : Option Addr) : RdC w B A [] := Shows.nil_
theorem RdC.up {w w' : World} {A : Option Addr} {l : List Itg} (h : RdC w w.heap.size A l) (hb : Below w.heap.size w w') : RdC w' w'.heap.size A l := (h.below hb).wider hb.size
structure Itg.At (w : World) (p : Addr) (x : Itg) : Prop where
 c0 : w.cell? p = x.cells[0]?
theorem RdC.at {w : World} {B : Nat} {A : Option Addr} {l : List Itg} (h : RdC w B A l) {i : Nat} (hi : i < l.length) : ∃ ad, A = some ad ∧ ad.block < B ∧ Itg.At w (ad.add (i * 1)) l[i] := by
 obtain ⟨ad, rfl, hb, hc⟩ := Shows.rec Itg.cs 1 Itg.cs_len h rfl hi
 have h0 := hc 0 (by omega)
 rw [show (ad.add (i * 1)).add 0 = ad.add (i * 1) from by simp [Addr.add]] at h0
 exact ⟨ad, rfl, hb, ⟨h0⟩⟩
def OwnC (w : World) (base : Nat) (v : Value) (l : List Itg) : Prop := w.ownsRow base 3 1 v l.length (rcells Itg.cs l)
theorem OwnC.start (w : World) (base : Nat) : OwnC w base (.slice none 0 0) [] := ⟨rfl, Or.inl ⟨rfl, rfl⟩⟩
theorem OwnC.form {w : World} {base : Nat} {v : Value} {l : List Itg} (h : OwnC w base v l) : ∃ A c, v = .slice A l.length c ∧ l.length ≤ c ∧ RdC w w.heap.size A l := by
 have h' := h
 rcases h'.2 with ⟨rfl, h0⟩ | ⟨g, cap, cur, rfl, -, -, hc, -⟩
 ·
  obtain rfl := List.eq_nil_of_length_eq_zero h0
  exact ⟨none, 0, rfl, Nat.le_refl _, Shows.nil_⟩
 exact ⟨_, cap, rfl, hc, Shows.of_own h⟩
theorem OwnC.kept {w w' : World} {base : Nat} {v : Value} {l : List Itg} {r : Option Nat} (h : OwnC w base v l) (hg : w.grownBy w' r) (hne : v.ownBlock = none ∨ v.ownBlock ≠ r) : OwnC w' base v l := World.ownsRow.kept h hg hne
theorem OwnC.on {w w' : World} {base : Nat} {v : Value} {l : List Itg} (h : OwnC w base v l) (hb : Below w.heap.size w w') : OwnC w' base v l :=
 OwnC.kept (r := some w.heap.size) h (grown_below hb _) (by
  rcases hv : v.ownBlock with _ | g
  ·
   exact Or.inl rfl
  right; intro e; injection e with e; have := (World.ownsRow.lt h g hv).2; omega)
theorem OwnC.snoc {w : World} {base : Nat} {v : Value} {l : List Itg} {x : Itg} (h : w.ownsRow base 3 1 v (l.length + 1) (rcells Itg.cs l ++ x.cs)) : OwnC w base v (l ++ [x]) := by
 unfold OwnC
 rw [List.length_append, rcells_append, rcells_single]
 exact h
theorem OwnC.apart {w : World} {base b : Nat} {v : Value} {l : List Itg} (h : OwnC w base v l) {t : TypeId} {cs : Array Value} (hb : Blk w b t cs) (ht : t ≠ 3) : v.ownBlock ≠ some b := own_apart h hb ht
theorem OwnC.only {w w' : World} {base b : Nat} {v : Value} {l : List Itg} (h : OwnC w base v l) (o : Only b w w') (hne : v.ownBlock ≠ some b) : OwnC w' base v l :=
 h.kept (r := some b) ⟨o.os, o.tape, o.output, o.size, fun k hk e => o.block k (fun e' => e (by rw [e'])) hk⟩ (.inr hne)
theorem shows_C (w : World) (x : Itg) (g : Nat) (hg : g = w.heap.size) : Shows (w.alloc (.cells x.cells 3)) (g + 1) 1 (some ⟨g, 0, none⟩) 1 x.cs := hg ▸ shows_new w x.cells 3 1 1 rfl
end Go.Proofs.YtcjhihmaegagdaaGreatDoor
