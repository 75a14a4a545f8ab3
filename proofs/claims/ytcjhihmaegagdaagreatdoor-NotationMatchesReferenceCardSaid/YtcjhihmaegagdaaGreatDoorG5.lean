/- Texts of the Notation chapter, together: Rh, Ri, Rj. -/
import Derived.Test.YtcjhihmaegagdaaGreatDoorG1
import Derived.Test.YtcjhihmaegagdaaGreatDoorG3
import Derived.Deep.Cut
set_option maxRecDepth 100000
set_option maxHeartbeats 8000000
set_option linter.unusedSimpArgs false
set_option linter.unusedVariables false
set_option linter.unusedSectionVars false
set_option linter.unnecessarySimpa false
namespace Go.Proofs.YtcjhihmaegagdaaGreatDoor
open Go.RowKit Go.Deep
theorem zU.drew {W : World} {g en : Nat} {x : Rc} {ts : List Tok} (h : zU W g en x ts) : zU W.drew g en x ts := h
theorem zH.undrew {g : Nat} {W w1 : World} (h : zH g W.drew w1) : zH g W w1 := ⟨h.os, h.tape, h.output, h.size, h.block⟩
theorem zU.c2 {W : World} {g en : Nat} {x : Rc} {ts : List Tok} (h : zU W g en x ts) : W.cell? ⟨g, 2, none⟩ = some x.m := by obtain ⟨A, c, h, _⟩ := h; exact h.cell 2
theorem zU.c3 {W : World} {g en : Nat} {x : Rc} {ts : List Tok} (h : zU W g en x ts) : W.cell? ⟨g, 3, none⟩ = some x.v := by obtain ⟨A, c, h, _⟩ := h; exact h.cell 3
theorem zU.c4 {W : World} {g en : Nat} {x : Rc} {ts : List Tok} (h : zU W g en x ts) : W.cell? ⟨g, 4, none⟩ = some x.n := by obtain ⟨A, c, h, _⟩ := h; exact h.cell 4
theorem zU.c5 {W : World} {g en : Nat} {x : Rc} {ts : List Tok} (h : zU W g en x ts) : W.cell? ⟨g, 5, none⟩ = some x.p := by obtain ⟨A, c, h, _⟩ := h; exact h.cell 5
theorem zU.c6 {W : World} {g en : Nat} {x : Rc} {ts : List Tok} (h : zU W g en x ts) : W.cell? ⟨g, 6, none⟩ = some x.q := by obtain ⟨A, c, h, _⟩ := h; exact h.cell 6
theorem zU.fr {W : World} {g en : Nat} {x : Rc} {ts : List Tok} (h : zU W g en x ts) (i : Nat) : W.frozen? ⟨g, i, none⟩ = false := by obtain ⟨A, c, h, _⟩ := h; exact h.frozen i
theorem zU.blk {W : World} {g en : Nat} {x : Rc} {ts : List Tok} (h : zU W g en x ts) : ∃ cs, Blk W g 68 cs := by
 obtain ⟨A, c, h, _⟩ := h;exact ⟨_, h⟩
theorem zU.grown {W w' : World} {g en : Nat} {x : Rc} {ts : List Tok} {row : Option Nat} (h : zU W g en x ts) (k : W.grownBy w' row) (hr : ∀ b, row = some b → g < b) : zU w' g en x ts := by
 have hl := h.lt;obtain ⟨A, c, h1, h2, h3⟩ := h;exact ⟨A, c, h1.grown k (fun e => by have := hr _ e; omega), h2.grown k (by omega) (fun b e => by have := hr _ e; omega), h3⟩
theorem zU.grownm {W W' : World} {g en gm : Nat} {x : Rc} {ts : List Tok} (h : zU W g en x ts) (k : W.grownBy W' (some gm)) (hr : g ≠ gm ∧ g ≤ gm + 1) : zU W' g en x ts := by
 have hl := h.lt;obtain ⟨A, c, h1, h2, h3⟩ := h;exact ⟨A, c, h1.grown k (fun e => by injection e with e; exact hr.1 e.symm), h2.grown k (by omega) (fun b e => by injection e with e; omega), h3⟩
structure Dr (W : World) (g gm : Nat) (d : Drf) (x : Rc) : Prop where
 m : x.m = .map (some gm)
 v : x.v = .int .i64 d.sc.voices
 n : yY W (g + 1) x.n d.sc.notes
 p : zn W (g + 1) x.p d.sc.pairs
 q : yO W (g + 1) x.q (itg d.sc.cad)
 names : xk W gm d.names
 len : d.names.length = d.sc.notes.length
 gm : g ≠ gm ∧ g ≤ gm + 1
structure Far (g gm : Nat) (x : Rc) (W w : World) : Prop where
 os : w.os = W.os
 tape : w.tape = W.tape
 output : w.output = W.output
 size : W.heap.size ≤ w.heap.size
 block : ∀ k, k ≠ g → k ≠ gm → x.n.ownBlock ≠ some k → x.p.ownBlock ≠ some k → x.q.ownBlock ≠ some k → k < W.heap.size → w.heap[k]? = W.heap[k]?
theorem Far.refl (g gm : Nat) (x : Rc) (W : World) : Far g gm x W W := ⟨rfl, rfl, rfl, Nat.le_refl _, fun _ _ _ _ _ _ _ => rfl⟩
theorem Far.trans {g gm : Nat} {x : Rc} {a b c : World} (h : Far g gm x a b) (k : Far g gm x b c) : Far g gm x a c :=
 ⟨k.os.trans h.os, k.tape.trans h.tape, k.output.trans h.output, Nat.le_trans h.size k.size, fun i h1 h2 h3 h4 h5 hl => (k.block i h1 h2 h3 h4 h5 (Nat.lt_of_lt_of_le hl h.size)).trans (h.block i h1 h2 h3 h4 h5 hl)⟩
theorem zH.away {g gm : Nat} {x : Rc} {a b : World} (h : zH g a b) : Far g gm x a b := ⟨h.os, h.tape, h.output, h.size, fun k h1 _ _ _ _ hl => h.block k h1 hl⟩
theorem Far.alloc {g gm : Nat} {x : Rc} {a b : World} (h : Far g gm x a b) (o : Obj) : Far g gm x a (b.alloc o) := h.trans ((zH.refl g b).alloc o).away
theorem Far.setCell {g gm : Nat} {x : Rc} {a b : World} (h : Far g gm x a b) (i : Nat) (v : Value) : Far g gm x a (b.setCell ⟨g, i, none⟩ v) := h.trans ((zH.refl g b).setCell i v).away
theorem Far.grown {g gm : Nat} {x : Rc} {a b c : World} {row : Option Nat} (h : Far g gm x a b) (k : b.grownBy c row) (hr : ∀ j, row = some j → j = g ∨ j = gm ∨ x.n.ownBlock = some j ∨ x.p.ownBlock = some j ∨ x.q.ownBlock = some j) : Far g gm x a c :=
 h.trans ⟨k.os, k.tape, k.output, k.size, fun i h1 h2 h3 h4 h5 hl => k.block i hl (fun e => by
  rcases hr i (by first | exact e | exact e.symm) with e | e | e | e | e
  · exact h1 e
  · exact h2 e
  · exact h3 e
  · exact h4 e
  exact h5 e)⟩
def yr (W : World) (g gm en : Nat) (y : Rc) (q : Rs Drf) (e : Ending) (w' : World) : Prop :=
 Far g gm y W w' ∧ match q with
 | .ok d r => e = .returned (.tuple #[]) ∧ ∃ x, zU w' g en x r ∧ Dr w' g gm d x
 | .err r k => e = zDY (qK en r) k
theorem yr.ok {W w' : World} {g gm en : Nat} {y : Rc} {d : Drf} {r : List Tok} {x : Rc} (b : Far g gm y W w') (t : zU w' g en x r) (h : Dr w' g gm d x) : yr W g gm en y (.ok d r) (.returned (.tuple #[])) w' := ⟨b, rfl, x, t, h⟩
theorem yr.err {W w' : World} {g gm en k : Nat} {y : Rc} {r : List Tok} (b : Far g gm y W w') : yr W g gm en y (.err r k) (zDY (qK en r) k) w' := ⟨b, rfl⟩
theorem ye {W : World} {gm b : Nat} {ns : List (List UInt8)} {t : TypeId} {cs : Array Value} (h : xk W gm ns) (hb : Blk W b t cs) : b ≠ gm := by
 rintro rfl;obtain ⟨es, clk, h1, -⟩ := h.1;have h2 := h1.symm.trans hb;cases h2
theorem Dr.only {W w' : World} {g gm en : Nat} {d : Drf} {x : Rc} {ts : List Tok} (h : Dr W g gm d x) (t : zU W g en x ts) (o : zH g W w') : Dr w' g gm d x := by
 obtain ⟨cs, hb⟩ := t.blk;exact ⟨h.m, h.v, h.n.only o (h.n.apart hb (by decide)), h.p.only o (h.p.apart hb (by decide)), h.q.only o (h.q.apart hb (by decide)), h.names.only o (ye h.names hb), h.len, h.gm⟩
theorem Dr.up {W w' : World} {g gm : Nat} {d : Drf} {x : Rc} (h : Dr W g gm d x) (b : Below W.heap.size W w') : Dr w' g gm d x :=
 ⟨h.m, h.v, h.n.on b, h.p.on b, h.q.on b, h.names.up b, h.len, h.gm⟩
theorem xp {w : World} {base : Nat} {e : TypeId} {size n : Nat} {v : Value} {xs : List Value} (h : w.ownsRow (base + 1) e size v n xs) : ∀ b, v.ownBlock = some b → base < b := fun b hb => by have := (World.ownsRow.lt h b hb).1; omega
theorem Far.below {g gm : Nat} {x : Rc} {a b : World} {d : Drf} (h : Far g gm x a b) (hd : Dr a g gm d x) (hs : g ≤ a.heap.size) : Below (g - 1) a b :=
 ⟨h.os, h.tape, h.output, h.size, fun k hk => by
  have := hd.gm;exact h.block k (by omega) (by omega) (fun e => by have := xp hd.n k e; omega) (fun e => by have := xp hd.p k e; omega) (fun e => by have := xp hd.q k e; omega) (by omega)⟩
theorem zu {w : World} {b1 b2 : Nat} {e1 e2 : TypeId} {s1 s2 n1 n2 : Nat} {v1 v2 : Value} {x1 x2 : List Value} (h1 : w.ownsRow b1 e1 s1 v1 n1 x1) (h2 : w.ownsRow b2 e2 s2 v2 n2 x2) (he : e1 ≠ e2) : v1.ownBlock = none ∨ v1.ownBlock ≠ v2.ownBlock := by
 rcases h2.2 with ⟨rfl, _⟩ | ⟨g, cap, cur, rfl, _, hg, _⟩
 ·
  cases hv : v1.ownBlock with
  | none => exact .inl rfl
  | some k => right; simp [Value.ownBlock]
 right
 exact xZ h1 (b := g) (t := e2) (cs := cur) hg (fun e => he e.symm)
theorem xi {w : World} {gm base : Nat} {ns : List (List UInt8)} {e : TypeId} {size n : Nat} {v : Value} {xs : List Value} (h : xk w gm ns) (k : w.ownsRow base e size v n xs) : v.ownBlock ≠ some gm := by
 rcases k.2 with ⟨rfl, _⟩ | ⟨g, cap, cur, rfl, _, hg, _⟩
 · simp [Value.ownBlock]
 intro e1;simp only [Value.ownBlock, Option.some.injEq] at e1;exact ye h (b := g) hg e1
theorem zU.setq {W : World} {g en : Nat} {x : Rc} {ts : List Tok} (h : zU W g en x ts) (u : Value) : zU (W.setCell ⟨g, 6, none⟩ u) g en { x with q := u } ts := by
 obtain ⟨A, c, h1, h2, h3⟩ := h;refine ⟨A, c, ?_, h2.setCell (p := ⟨g, 6, none⟩) (Nat.sub_le g 1) u, h3⟩;have := h1.set_ 6 u;simpa using this
theorem jk {W : World} (g i : Nat) (u : Value) : zH g W (W.setCell ⟨g, i, none⟩ u) := (zH.refl g W).setCell i u
theorem zDa (l : List Int) (x : Int) : itg (l ++ [x]) = itg l ++ [⟨x⟩] := by simp [itg]
theorem Dr.addq {W w' : World} {g gm en : Nat} {d : Drf} {x : Rc} {ts : List Tok} (h : Dr W g gm d x) (t : zU W g en x ts) (u : Value) (y : Int) (ho : yO w' (g + 1) u (itg d.sc.cad ++ [⟨y⟩])) (hg : W.grownBy w' x.q.ownBlock) :
 zU (w'.setCell ⟨g, 6, none⟩ u) g en { x with q := u } ts ∧ Dr (w'.setCell ⟨g, 6, none⟩ u) g gm (d.cad y) { x with q := u } := by
 have t' := t.grown hg (xp h.q);obtain ⟨cs, hb⟩ := t'.blk;have o := jk (W := w') g 6 u;have hn : yY w' (g + 1) x.n d.sc.notes := h.n.kept hg (zu h.n h.q (by decide));have hp : zn w' (g + 1) x.p d.sc.pairs := h.p.kept hg (zu h.p h.q (by decide));have hm : xk w' gm d.names := h.names.kept hg (xi h.names h.q)
 exact ⟨t'.setq u, ⟨h.m, h.v, hn.only o (hn.apart hb (by decide)), hp.only o (hp.apart hb (by decide)), by
  show yO _ _ _ (itg (d.sc.cad ++ [y]));rw [zDa];exact ho.only o (ho.apart hb (by decide)), hm.only o (ye hm hb), h.len, h.gm⟩⟩
theorem zIh (W : World) (g gm en : Nat) (x : Rc) (ts : List Tok) (d : Drf) (h : zU W g en x ts) (hd : Dr W g gm d x) (hl : d.sc.cad.length ≤ 10000) :
 Calls Tryz.prog 59 #[.pointer (some ⟨g, 0, none⟩)] W (yr W g gm en x (zAq d ts)) := by
 have H := hid h;have HD := hid hd;have hgl := h.lt;rcases hq1 : yX ts with ⟨n, r1⟩ | ⟨r1, k⟩
 ·
  have H1 := hid fun w t => zZ w g en x ts _ hq1 t
  obtain ⟨AC, cC, hv, hcl, hrd⟩ := hd.q.form;have hil : (itg d.sc.cad).length = d.sc.cad.length := by simp [itg]
  have HIL := hid hil;rw [hil] at hv;have H6 := hid fun w r (t : zU w g en x r) => hv ▸ t.c6
  have c6 := H6.out _ _ h;have HV := hid hv;rcases hq2 : zb [yM] r1 with ⟨u, r2⟩ | ⟨r2, k⟩
  ·
   have hR : zAq d ts = .ok (d.cad n) r2 := by unfold zAq; rw [hq1]; simp only [Rs.bind, hq2]
   rw [hR];have H2 := hid fun w x t => zAB w g en x r1 [59] (by decide) _ hq2 t
   clear hq1 hq2 hR hd h hv hil hcl hrd;go_enter Tryz.func59, Tryz.ntmps59
   go_wp2_with fail
   refine kQ ?_;refine zG 0 ?_;refine zG 1 ?_;refine zG 2 ?_;refine zG 3 ?_;refine zG 4 ?_;refine zG 6 ?_;refine yg [5, 7] ?_;refine xj ?_ ?_
   · refine xn 7 ?_;intro K hK;go_simp;refine (H1.out W.drew H.out.drew).mono ?_;rintro e w1 ⟨o1, rfl, t1⟩;replace o1 := zH.undrew o1;have c61 := H6.out _ _ t1;have hg1 := t1.lt;refine yi hK ?_;clear hK K;refine zY 8 ?_;exact m18
   refine zAv ?_;intro K hK;go_simp;refine (H1.out W.drew H.out.drew).mono ?_;rintro e w1 ⟨o1, rfl, t1⟩;replace o1 := zH.undrew o1;have c61 := H6.out _ _ t1;have hg1 := t1.lt;refine yi hK ?_;clear hK K;refine yg [5, 8] ?_;refine xj ?_ ?_
   · refine zY 8 ?_;exact m18
   refine vI ?_;refine zY 5 ?_;exact m18
  have hR : zAq d ts = .err r2 k := by unfold zAq; rw [hq1]; simp only [Rs.bind, hq2]
  rw [hR];have H2 := hid fun w x t => zAB w g en x r1 [59] (by decide) _ hq2 t
  clear hq1 hq2 hR hd h hv hil hcl hrd;go_enter Tryz.func59, Tryz.ntmps59
  go_wp2_with fail
  refine kQ ?_;refine zG 0 ?_;refine zG 1 ?_;refine zG 2 ?_;refine zG 3 ?_;refine zG 4 ?_;refine zG 6 ?_;refine yg [5, 7] ?_;refine xj ?_ ?_
  · refine xn 7 ?_;intro K hK;go_simp;refine (H1.out W.drew H.out.drew).mono ?_;rintro e w1 ⟨o1, rfl, t1⟩;replace o1 := zH.undrew o1;have c61 := H6.out _ _ t1;have hg1 := t1.lt;refine yi hK ?_;clear hK K;refine zY 8 ?_;exact m19
  refine zAv ?_;intro K hK;go_simp;refine (H1.out W.drew H.out.drew).mono ?_;rintro e w1 ⟨o1, rfl, t1⟩;replace o1 := zH.undrew o1;have c61 := H6.out _ _ t1;have hg1 := t1.lt;refine yi hK ?_;clear hK K;refine yg [5, 8] ?_;refine xj ?_ ?_
  · refine zY 8 ?_;exact m19
  refine vI ?_;refine zY 5 ?_;exact m19
 have hR : zAq d ts = .err r1 k := by unfold zAq; rw [hq1]; rfl
 rw [hR];have H1 := hid fun w t => zZ w g en x ts _ hq1 t
 have c6 := h.c6;clear hq1 hR hd h;go_enter Tryz.func59, Tryz.ntmps59
 go_wp2_with fail
 refine kQ ?_;refine zG 0 ?_;refine zG 1 ?_;refine zG 2 ?_;refine zG 3 ?_;refine zG 4 ?_;refine zG 6 ?_;refine yg [5, 7] ?_;refine xj ?_ ?_
 · refine xn 7 ?_;intro K hK;go_simp;refine (H1.out W.drew H.out.drew).mono ?_;rintro e w1 ⟨o1, rfl⟩;exact ⟨rfl, yr.err (zH.undrew o1).away⟩
 refine zAv ?_;intro K hK;go_simp;refine (H1.out W.drew H.out.drew).mono ?_;rintro e w1 ⟨o1, rfl⟩;exact ⟨rfl, yr.err (zH.undrew o1).away⟩
open Go.RowKit Go.Deep Go.Maps Go.WideMaps
theorem vh.has {s : List UInt8} {ts r : List Tok} (h : vh ts) (e : yv s ts = some r) : vh r := by
 exact zOo
theorem vh.nr {ts r : List Tok} {n : Nat} (h : vh ts) (e : yX ts = .ok n r) : vh r ∧ n ≤ 9999999 := by
 cases ts with
 | nil => cases e
 | cons t l =>
  simp only [yX] at e;split at e
  · injection e with e1 e2; subst e1 e2; exact ⟨fun u hu => h u (List.mem_cons_of_mem _ hu), (h t (List.mem_cons_self ..)).1⟩
  cases e
theorem vh.wants {l : List (List UInt8)} {ts r : List Tok} {u : Unit} (h : vh ts) (e : zb l ts = .ok u r) : vh r := by
 exact zOh
theorem vh.seen {k : Bool} {ns : List (List UInt8)} {ts r : List Tok} {s : List UInt8} (h : vh ts) (e : vR k ns ts = .ok s r) : vh r ∧ s.length ≤ 8000 ∧ (xY ns s).isSome = k := by
 cases ts with
 | nil => cases e
 | cons t l =>
  by_cases hw : t.kind = 1 ∧ t.text ∉ zi
  ·
   rw [zCg hw] at e;split at e
   case isTrue hk =>
    injection e with e1 e2;subst e1 e2;exact ⟨fun u hu => h u (List.mem_cons_of_mem _ hu), (h t (List.mem_cons_self ..)).2.1, hk⟩
   case isFalse => cases e
  rw [zAC hw] at e; cases e
theorem vh.brk {m : Nat} {v v' : Vc} {ts r : List Tok} (h : vh ts) (e : v9 m v ts = .ok v' r) : vh r := by
 induction m generalizing v ts with
 | zero =>
  rcases hq : yv kh ts with _ | r1
  · rw [zGz hq] at e; cases e
  rw [zCh hq] at e; injection e with _ e; subst e; exact h.has hq
 | succ m ih =>
  rcases hq : yv kh ts with _ | r1
  ·
   rcases hq2 : yv zAE ts with _ | r2
   ·
    rw [zFV hq hq2] at e;rcases hq3 : yX ts with ⟨n, r3⟩ | ⟨r3, k⟩
    · rw [hq3] at e; exact ih (h.nr hq3).1 e
    rw [hq3] at e; cases e
   rw [zEu hq hq2] at e;rcases hq3 : yX r2 with ⟨n, r3⟩ | ⟨r3, k⟩
   · rw [hq3] at e; exact ih ((h.has hq2).nr hq3).1 e
   rw [hq3] at e; cases e
  rw [zCh hq] at e; injection e with _ e; subst e; exact h.has hq
theorem vh.ival {ts r : List Tok} {v : Vc} (h : vh ts) (e : vL ts = .ok v r) : vh r := by
 rcases hq : yv zEO ts with _ | r0
 ·
  rw [zCQ hq] at e;rcases hq1 : yX ts with ⟨n, r1⟩ | ⟨r1, k⟩
  ·
   rw [hq1] at e;simp only [Rs.bind] at e;rcases hq2 : zb [zAy] r1 with ⟨u, r2⟩ | ⟨r2, k⟩
   ·
    rw [hq2] at e;simp only at e;rcases hq3 : yX r2 with ⟨d, r3⟩ | ⟨r3, k⟩
    ·
     rw [hq3] at e;simp only at e;rcases hq4 : xS n d with _ | v'
     · rw [hq4] at e; cases e
     rw [hq4] at e;injection e with _ e;subst e;exact (((h.nr hq1).1.wants hq2).nr hq3).1
    rw [hq3] at e; cases e
   rw [hq2] at e; cases e
  rw [hq1] at e; cases e
 have e2 : vL ts = v9 6 vc0 r0 := by unfold vL; rw [hq]
 rw [e2] at e;exact (h.has hq).brk e
theorem zGy (ns : List (List UInt8)) (ts : List Tok) : zHV ns ts = vR false ns ts := by
 unfold zHV vR;congr 1
 funext s r
 cases xY ns s <;> rfl
theorem zKG (ns : List (List UInt8)) (ts : List Tok) : zB2 ns ts = (vR true ns ts).bind fun s r => .ok ((xY ns s).getD 0) r := by
 unfold zB2 vR
 cases jf ts with
 | ok s r =>
  simp only [Rs.bind];rcases hq : xY ns s with _ | i
  · simp
  simp [hq]
 | err r k => rfl
structure NS (w1 : World) (g en : Nat) (x : Rc) (r : List Tok) (ty : TypeId) (cs : Array Value) (w : World) : Prop where
 only : zH g w1 w
 tk : zU w g en x r
 blk : Blk w w1.heap.size ty cs
 lt : g < w1.heap.size
section
variable {w1 w w' : World} {g en : Nat} {x : Rc} {r r' : List Tok} {ty : TypeId} {cs : Array Value}
theorem NS.start (h : zU w1 g en x r) (ty : TypeId) (cs : Array Value) : NS w1 g en x r ty cs (w1.alloc (.cells cs ty)) := ⟨(zH.refl g w1).alloc _, h.alloc _, Blk.new w1 ty cs, h.lt⟩
theorem NS.on (h : NS w1 g en x r ty cs w) (o : zH g w w') (t : zU w' g en x r') : NS w1 g en x r' ty cs w' := ⟨h.only.trans o, t, o.blk h.blk (by have := h.lt; omega), h.lt⟩
theorem NS.put (h : NS w1 g en x r ty cs w) (i : Nat) (v : Value) : NS w1 g en x r ty (cs.setIfInBounds i v) (w.setCell ⟨w1.heap.size, i, none⟩ v) :=
 ⟨h.only.far (Nat.le_refl _) i v, h.tk.far h.lt i v, h.blk.set_ i v, h.lt⟩
theorem NS.cast {cs' : Array Value} (h : NS w1 g en x r ty cs w) (e : cs = cs') : NS w1 g en x r ty cs' w := e ▸ h
end
theorem yJ.onl {g : Nat} {w w' : World} (h : yJ w ∧ 3 < g) (k : zH g w w') : yJ w' := fun j hj => by
 rw [k.cell (p := ⟨3, j, none⟩) (Nat.ne_of_lt h.2) (World.block_lt_of_cell? w _ (h.1 j hj))];exact h.1 j hj
theorem Rs.ok_bind {α β : Type} (a : α) (r : List Tok) (f : α → List Tok → Rs β) : (Rs.ok a r).bind f = f a r := rfl
theorem Rs.err_bind {α β : Type} (r : List Tok) (k : Nat) (f : α → List Tok → Rs β) : (Rs.err r k : Rs α).bind f = .err r k := rfl
theorem yC (W : World) (g en h : Nat) (x : Rc) (ts : List Tok) (s : List UInt8) (hs : s ≠ []) (q : Rs Unit) (hq : zb [s] ts = q) (ht : zU W g en x ts) (hh : h = W.heap.size) :
 Calls Tryz.prog 60 #[.pointer (some ⟨g, 0, none⟩), .slice (some ⟨h, 0, none⟩) 1 1] (W.alloc (.cells #[str s] 9)) (yU W g en x (fun _ : Unit => .tuple #[]) q) := hh ▸ zAB W g en x ts s hs q hq ht
theorem zC8 (W : World) (g en h : Nat) (x : Rc) (ts : List Tok) (s u : List UInt8) (hs : s ≠ []) (hu : u ≠ []) (q : Rs Unit) (hq : zb [s, u] ts = q) (ht : zU W g en x ts) (hh : h = W.heap.size) :
 Calls Tryz.prog 60 #[.pointer (some ⟨g, 0, none⟩), .slice (some ⟨h, 0, none⟩) 2 2] (W.alloc (.cells #[str s, str u] 9)) (yU W g en x (fun _ : Unit => .tuple #[]) q) := hh ▸ zJ6 W g en x ts s u hs hu q hq ht
theorem zB3 {w : World} {g : Nat} {ns : List (List UInt8)} (h : xk w g ns) (s : List UInt8) (hs : s.length ≤ 9223372036854775807) (hn : (xY ns s).isSome = false) (hl : ns.length ≤ 10000) (k : Nat) (hk : ns.length = k) :
 ∃ w', (Instr.mapUpdate 66 (.map (some g)) (str s) (.int .i64 (k : Int))).run Tryz.prog w.drew = .ok () w' ∧ xk w' g (ns ++ [s]) ∧ w.grownBy w' (some g) := by
 subst hk;have hx : xY ns s = none := by rcases hq : xY ns s with _ | i <;> simp_all
 obtain ⟨w', h1, h2, h3⟩ := World.ownsMap.update (w := w.drew) h.1 zMB Tryz.underlying66 (by unfold maxLen; omega) (zFh s hs) (plainElem_int (H := Unit) Tryz.underlying3 (WalkArith.wf_i64 (n := (ns.length : Int)) (by omega)));refine ⟨w', h1, ⟨?_, ?_⟩, ⟨h3.os, h3.tape, h3.output, h3.size, h3.block⟩⟩
 · unfold zBH;rw [List.length_append, List.length_singleton, v7, zF5 _ _ _ (Nat.le_refl _)];have e : (ns ++ [s]).getD ns.length [] = s := by simp [List.getD_eq_getElem?_getD]
   rw [e];exact h2
 rw [List.nodup_append];refine ⟨h.2, by simp, fun a ha b hb => ?_⟩;rw [List.mem_singleton] at hb;subst hb;rintro rfl;exact zES.1 hx ha
theorem zU.setn {W : World} {g en : Nat} {x : Rc} {ts : List Tok} (h : zU W g en x ts) (u : Value) : zU (W.setCell ⟨g, 4, none⟩ u) g en { x with n := u } ts := by
 obtain ⟨A, c, h1, h2, h3⟩ := h;refine ⟨A, c, ?_, h2.setCell (p := ⟨g, 4, none⟩) (Nat.sub_le g 1) u, h3⟩;have := h1.set_ 4 u;simpa using this
theorem Dr.addn {w w11 w12 : World} {g gm en : Nat} {d : Drf} {x : Rc} {ts : List Tok} {s : List UInt8} {nt : Nte} {o : Obj} {u : Value} (h : Dr w g gm d x) (t : zU w g en x ts) (hm : w.grownBy w11 (some gm)) (hn : xk w11 gm (d.names ++ [s]))
 (hg : (w11.alloc o).grownBy w12 x.n.ownBlock) (ho : yY w12 (g + 1) u (d.sc.notes ++ [nt])) :
 zU (w12.setCell ⟨g, 4, none⟩ u) g en { x with n := u } ts ∧ Dr (w12.setCell ⟨g, 4, none⟩ u) g gm (d.note s nt) { x with n := u } := by
 have n1 : yY w11 (g + 1) x.n d.sc.notes := h.n.kept hm (.inr (xi h.names h.n));have p1 : zn w11 (g + 1) x.p d.sc.pairs := h.p.kept hm (.inr (xi h.names h.p));have q1 : yO w11 (g + 1) x.q (itg d.sc.cad) := h.q.kept hm (.inr (xi h.names h.q));have al := (Below.refl w11.heap.size w11).alloc (Nat.le_refl _) o;have t2 := (t.grownm hm h.gm).alloc o;have n2 := n1.on al;have p2 := p1.on al;have q2 := q1.on al;have m2 := hn.up al;have t3 := t2.grown hg (xp n2);obtain ⟨cs, hb⟩ := t3.blk;have oo := jk (W := w12) g 4 u;have p3 : zn w12 (g + 1) x.p d.sc.pairs := p2.kept hg (zu p2 n2 (by decide));have q3 : yO w12 (g + 1) x.q (itg d.sc.cad) := q2.kept hg (zu q2 n2 (by decide));have m3 : xk w12 gm (d.names ++ [s]) := m2.kept hg (xi m2 n2)
 exact ⟨t3.setn u, ⟨h.m, h.v, ho.only oo (ho.apart hb (by decide)), p3.only oo (p3.apart hb (by decide)), q3.only oo (q3.apart hb (by decide)), m3.only oo (ye m3 hb), by
  show (d.names ++ [s]).length = (d.sc.notes ++ [nt]).length;have := h.len;simp [this], h.gm⟩⟩
theorem kv {w w' : World} {r : Option Nat} (h : w.drew.grownBy w' r) : w.grownBy w' r := ⟨h.os, h.tape, h.output, h.size, h.block⟩
theorem yY.drew {w : World} {base : Nat} {v : Value} {l : List Nte} (h : yY w base v l) : yY w.drew base v l := h
theorem xU {w : World} {B size : Nat} {A : Option Addr} {n : Nat} {xs : List Value} (h : zQ w B size A n xs) : zQ w.drew B size A n xs := h
theorem zHt (W : World) (g gm en : Nat) (x : Rc) (ts : List Tok) (d : Drf) (h : zU W g en x ts) (hd : Dr W g gm d x) (hl : d.sc.notes.length ≤ 10000) (hts : vh ts) (hM : qr W) (hP : yJ W) (hg : 3 < g) :
 Calls Tryz.prog 56 #[.pointer (some ⟨g, 0, none⟩), .bool false] W (yr W g gm en x (xy false d ts)) := by
 have H := hid h;have HD := hid hd;have HTS := hid hts;have HM := hid hM;have HPR := hid (And.intro hP hg);have HG0 : Hid (0 < g) := by show 0 < g; omega
 obtain ⟨q, hq⟩ : ∃ q, xy false d ts = q := ⟨_, rfl⟩
 rw [hq];unfold xy at hq;rw [zGy] at hq;have HR := hid hq;clear hq h hd hts hM hP hg;go_enter Tryz.func56, Tryz.ntmps56
 go_wp2_with fail
 rcases hq0 : vR false d.names ts with ⟨s, r0⟩ | ⟨r0, k⟩;rotate_left
 · exact zNU
 refine (zCW _ g en gm x ts d.names HD.out.m HD.out.gm.1 H.out HTS.out HM.out HG0.out HD.out.names).mono ?_;rintro e w1 ⟨o, h⟩;rw [hq0] at h;obtain ⟨rfl, t⟩ := h;have HD1 := hid (HD.out.only H.out o);have BG := hid (zH.away (gm := gm) (x := x) o);have HG1 := hid t.lt;have HT1 := hid t;have HP1 := hid (And.intro (yJ.onl HPR.out o) HPR.out.2);have N0 := hid (NS.start t 55 #[.int .i64 0, .int .i64 0, .int .i64 0, .int .i64 0, .int .i64 0, .int .i64 0, .int .i64 0, .int .i64 0, .int .i64 0, .bool false]);have K0 := hid (HTS.out.seen hq0).1;have HS8 := hid (HTS.out.seen hq0).2;simp only [hq0, Rs.ok_bind] at HR;clear o t hq0;go_wp2_with fail
 rcases hq1 : zb [zAz, kx] r0 with ⟨u1, r1⟩ | ⟨r1, k⟩;rotate_left
 · exact zNT
 refine (zC8 _ g en _ x r0 [58] [118, 111, 105, 99, 101] (by decide) (by decide) _ hq1 N0.out.tk (by simp)).mono ?_;rintro e w2 ⟨o, rfl, t⟩;have N1 := hid (N0.out.on o t);have K1 := hid (K0.out.wants hq1);simp only [hq1, Rs.ok_bind] at HR;clear o t hq1;go_wp2_with fail
 rcases hq2 : yX r1 with ⟨nv, r2⟩ | ⟨r2, k⟩;rotate_left
 · exact zNp
 refine (zZ _ g en x r1 _ hq2 N1.out.tk).mono ?_;rintro e w3 ⟨o, rfl, t⟩;have N2 := hid (N1.out.on o t);have K2 := hid (K1.out.nr hq2);simp only [hq2, Rs.ok_bind] at HR;have c0 := N2.out.blk.cell 0;have f0 := N2.out.blk.frozen 0;have N2 := hid ((N2.out.put 0 (.int .i64 nv)).cast (show _ = #[.int .i64 nv, .int .i64 0, .int .i64 0, .int .i64 0, .int .i64 0, .int .i64 0, .int .i64 0, .int .i64 0, .int .i64 0, .bool false] by simp));clear o t hq2;go_wp2_with fail
 rcases hq3 : zb [jX] r2 with ⟨u3, r3⟩ | ⟨r3, k⟩;rotate_left
 · exact zND
 refine (yC _ g en _ x r2 [102, 114, 111, 109] (by decide) _ hq3 N2.out.tk (by simp)).mono ?_;rintro e w4 ⟨o, rfl, t⟩;have N3 := hid (N2.out.on o t);have K3 := hid (K2.out.1.wants hq3);simp only [hq3, Rs.ok_bind] at HR;clear o t hq3;go_wp2_with fail
 rcases hq4 : yX r3 with ⟨na, r4⟩ | ⟨r4, k⟩;rotate_left
 · exact zNr
 refine (zZ _ g en x r3 _ hq4 N3.out.tk).mono ?_;rintro e w5 ⟨o, rfl, t⟩;have N4 := hid (N3.out.on o t);have K4 := hid (K3.out.nr hq4);simp only [hq4, Rs.ok_bind] at HR;have c1 := N4.out.blk.cell 1;have f1 := N4.out.blk.frozen 1;have N4 := hid ((N4.out.put 1 (.int .i64 na)).cast (show _ = #[.int .i64 nv, .int .i64 na, .int .i64 0, .int .i64 0, .int .i64 0, .int .i64 0, .int .i64 0, .int .i64 0, .int .i64 0, .bool false] by simp));clear o t hq4;go_wp2_with fail
 rcases hq5 : zb [zAx] r4 with ⟨u5, r5⟩ | ⟨r5, k⟩;rotate_left
 · exact zNm
 refine (yC _ g en _ x r4 [116, 111] (by decide) _ hq5 N4.out.tk (by simp)).mono ?_;rintro e w6 ⟨o, rfl, t⟩;have N5 := hid (N4.out.on o t);have K5 := hid (K4.out.1.wants hq5);simp only [hq5, Rs.ok_bind] at HR;clear o t hq5;go_wp2_with fail
 rcases hq6 : yX r5 with ⟨nb, r6⟩ | ⟨r6, k⟩;rotate_left
 · exact zOl
 refine (zZ _ g en x r5 _ hq6 N5.out.tk).mono ?_;rintro e w7 ⟨o, rfl, t⟩;have N6 := hid (N5.out.on o t);have K6 := hid (K5.out.nr hq6);simp only [hq6, Rs.ok_bind] at HR;have c2 := N6.out.blk.cell 2;have f2 := N6.out.blk.frozen 2;have N6 := hid ((N6.out.put 2 (.int .i64 nb)).cast (show _ = #[.int .i64 nv, .int .i64 na, .int .i64 nb, .int .i64 0, .int .i64 0, .int .i64 0, .int .i64 0, .int .i64 0, .int .i64 0, .bool false] by simp));clear o t hq6;go_wp2_with fail
 rcases hq7 : yv zBw r6 with _ | r7
 ·
  have hat : atR false r6 = .ok vc0 r6 := by simp only [atR, hq7]; rfl
  simp only [hat, Rs.ok_bind] at HR;refine (vA _ g en x r6 [97, 116] (by decide) _ hq7 N6.out.tk).mono ?_;rintro e w8 ⟨rfl, o, t⟩;have N8 := hid (N6.out.on o t);clear o t hq7 hat;go_wp2_with fail
  rcases hq9 : zb [yM] r6 with ⟨u9, r9⟩ | ⟨r9, k⟩;rotate_left
  · refine (yC _ g en _ x r6 [59] (by decide) _ hq9 N8.out.tk (by simp)).mono ?_;exact zOe
  refine (yC _ g en _ x r6 [59] (by decide) _ hq9 N8.out.tk (by simp)).mono ?_;rintro e w10 ⟨o, rfl, t⟩;have N9 := hid (N8.out.on o t);have K9 := hid (K6.out.1.wants hq9);simp only [hq9, Rs.ok_bind] at HR;clear o t hq9;go_wp2_with fail
  obtain ⟨wz, hwz⟩ : ∃ wz, wz = w10 := ⟨_, rfl⟩
  have D10 := hid (HD1.out.only HT1.out N9.out.only);have hlen := D10.out.len;obtain ⟨w11, hmu, NM, hgw⟩ := zB3 D10.out.names s (by have := HS8.out.1; omega) HS8.out.2 (by omega) d.sc.notes.length hlen;obtain ⟨AN, cN, hv, hcl, hrd⟩ := D10.out.n.form;have HV := hid hv;have g2 := N9.out.tk.c2;rw [D10.out.m] at g2;have g4 := N9.out.tk.c4;rw [hv] at g4;have hgz := N9.out.tk.lt;clear hv hrd hcl hlen hwz wz;refine kQ ?_;refine zG 0 ?_;refine zG 1 ?_;refine zG 2 ?_;refine zG 4 ?_;refine zG 5 ?_;refine zG 6 ?_;refine zG 7 ?_;refine zG 8 ?_;refine yg [3, 9] ?_;refine xj ?_ ?_
  · refine zY 9 ?_;refine zG 10 ?_;exact zMQ
  refine vI ?_;refine zG 10 ?_;refine zY 3 ?_;exact zMQ
 have hat : atR false r6 = vL r7 := by simp only [atR, hq7]; rfl
 simp only [hat] at HR;have K7 := hid (K6.out.1.has hq7);refine (vA _ g en x r6 [97, 116] (by decide) _ hq7 N6.out.tk).mono ?_;rintro e w7 ⟨rfl, o, t⟩;have N7 := hid (N6.out.on o t);clear o t hq7 hat;go_wp2_with fail
 rcases hq8 : vL r7 with ⟨p, r8⟩ | ⟨r8, k⟩;rotate_left
 · refine (zBI _ g en x r7 N7.out.tk K7.out.num (yJ.onl HP1.out N7.out.only) HP1.out.2).mono ?_;rintro e w ⟨o, h⟩;rw [hq8] at h;obtain rfl := h;simp only [hq8, Rs.err_bind] at HR;refine ⟨rfl, ?_⟩;rw [← HR.out];exact yr.err (BG.out.trans (N7.out.only.trans o).away)
 refine (zBI _ g en x r7 N7.out.tk K7.out.num (yJ.onl HP1.out N7.out.only) HP1.out.2).mono ?_;rintro e w8 ⟨o, h⟩;rw [hq8] at h;obtain ⟨rfl, t⟩ := h;have N8 := hid (N7.out.on o t);have K8 := hid (K7.out.ival hq8);simp only [hq8, Rs.ok_bind] at HR;have c3 := N8.out.blk.cell 3;have f3 := N8.out.blk.frozen 3;have c4 := N8.out.blk.cell 4;have f4 := N8.out.blk.frozen 4;have c5 := N8.out.blk.cell 5;have f5 := N8.out.blk.frozen 5;have c6 := N8.out.blk.cell 6;have f6 := N8.out.blk.frozen 6;have c7 := N8.out.blk.cell 7;have f7 := N8.out.blk.frozen 7;have c8 := N8.out.blk.cell 8;have f8 := N8.out.blk.frozen 8;have N8 := hid (((((((N8.out.put 3 (.int .i64 p.a)).put 4 (.int .i64 p.b)).put 5 (.int .i64 p.c)).put 6 (.int .i64 p.d)).put 7 (.int .i64 p.e)).put 8 (.int .i64 p.f)).cast (show _ = #[.int .i64 nv, .int .i64 na, .int .i64 nb, .int .i64 p.a, .int .i64 p.b, .int .i64 p.c, .int .i64 p.d, .int .i64 p.e, .int .i64 p.f, .bool false] by simp));clear o t hq8;go_wp2_with fail
 rcases hq9 : zb [yM] r8 with ⟨u9, r9⟩ | ⟨r9, k⟩;rotate_left
 · refine (yC _ g en _ x r8 [59] (by decide) _ hq9 N8.out.tk (by simp)).mono ?_;exact zOe
 refine (yC _ g en _ x r8 [59] (by decide) _ hq9 N8.out.tk (by simp)).mono ?_;rintro e w10 ⟨o, rfl, t⟩;have N9 := hid (N8.out.on o t);have K9 := hid (K8.out.wants hq9);simp only [hq9, Rs.ok_bind] at HR;clear o t hq9;go_wp2_with fail
 obtain ⟨wz, hwz⟩ : ∃ wz, wz = w10 := ⟨_, rfl⟩
 have D10 := hid (HD1.out.only HT1.out N9.out.only);have hlen := D10.out.len;obtain ⟨w11, hmu, NM, hgw⟩ := zB3 D10.out.names s (by have := HS8.out.1; omega) HS8.out.2 (by omega) d.sc.notes.length hlen;obtain ⟨AN, cN, hv, hcl, hrd⟩ := D10.out.n.form;have HV := hid hv;have g2 := N9.out.tk.c2;rw [D10.out.m] at g2;have g4 := N9.out.tk.c4;rw [hv] at g4;have hgz := N9.out.tk.lt;clear hv hrd hcl hlen hwz wz;refine kQ ?_;refine zG 0 ?_;refine zG 1 ?_;refine zG 2 ?_;refine zG 4 ?_;refine zG 5 ?_;refine zG 6 ?_;refine zG 7 ?_;refine zG 8 ?_;refine yg [3, 9] ?_;refine xj ?_ ?_
 ·
  refine zY 9 ?_;refine zG 10 ?_;refine zY 11 ?_;refine kW ?_;have T11 := hid (N9.out.tk.grownm hgw D10.out.gm);have B11 := hid (N9.out.blk.grown hgw (by intro e; injection e with e; exact ye D10.out.names N9.out.blk e.symm));have n11 := hid (yY.kept D10.out.n hgw (.inr (xi D10.out.names D10.out.n)));have n11v : yY w11 (g + 1) (.slice AN d.sc.notes.length cN) d.sc.notes := by rw [← HV.out]; exact n11.out
  have N11V := hid n11v;have hog := xp n11v;have HOG := hid hog;clear n11v hog;have h4 := T11.out.c4;rw [HV.out] at h4;have hg11 := T11.out.lt;have hh11 := B11.out.lt;have c0 := B11.out.cell 0;have c1 := B11.out.cell 1;have c2 := B11.out.cell 2;have c3 := B11.out.cell 3;have c4 := B11.out.cell 4;have c5 := B11.out.cell 5;have c6 := B11.out.cell 6;have c7 := B11.out.cell 7;have c8 := B11.out.cell 8;have c9 := B11.out.cell 9;have NM := hid NM;have HGW := hid hgw;clear hmu hgw g2 g4;go_wp2_with fail
  refine kQ ?_;refine zG 0 ?_;refine zG 1 ?_;refine zG 2 ?_;refine zG 3 ?_;refine zG 4 ?_;refine yg [5, 6] ?_;refine xj ?_ ?_
  · refine zY 6 ?_;refine zY 7 ?_;exact m3
  refine vI ?_;refine yg [5, 7] ?_;refine xj ?_ ?_
  · refine zY 7 ?_;exact m3
  refine vI ?_;refine zY 5 ?_;exact m3
 refine vI ?_;refine zG 10 ?_;refine zY 3 ?_;refine zY 11 ?_;refine kW ?_;have T11 := hid (N9.out.tk.grownm hgw D10.out.gm);have B11 := hid (N9.out.blk.grown hgw (by intro e; injection e with e; exact ye D10.out.names N9.out.blk e.symm));have n11 := hid (yY.kept D10.out.n hgw (.inr (xi D10.out.names D10.out.n)));have n11v : yY w11 (g + 1) (.slice AN d.sc.notes.length cN) d.sc.notes := by rw [← HV.out]; exact n11.out
 have N11V := hid n11v;have hog := xp n11v;have HOG := hid hog;clear n11v hog;have h4 := T11.out.c4;rw [HV.out] at h4;have hg11 := T11.out.lt;have hh11 := B11.out.lt;have c0 := B11.out.cell 0;have c1 := B11.out.cell 1;have c2 := B11.out.cell 2;have c3 := B11.out.cell 3;have c4 := B11.out.cell 4;have c5 := B11.out.cell 5;have c6 := B11.out.cell 6;have c7 := B11.out.cell 7;have c8 := B11.out.cell 8;have c9 := B11.out.cell 9;have NM := hid NM;have HGW := hid hgw;clear hmu hgw g2 g4;go_wp2_with fail
 refine kQ ?_;refine zG 0 ?_;refine zG 1 ?_;refine zG 2 ?_;refine zG 3 ?_;refine zG 4 ?_;refine yg [5, 6] ?_;refine xj ?_ ?_
 · refine zY 6 ?_;refine zY 7 ?_;exact m3
 refine vI ?_;refine yg [5, 7] ?_;refine xj ?_ ?_
 · refine zY 7 ?_;exact m3
 refine vI ?_;refine zY 5 ?_;refine xn 8 ?_;intro K hK;refine xt _ (by rfl) (.tmp 56) (.tmp 58) 22 55 (.agg #[.int .i64 0, .int .i64 0, .int .i64 0, .int .i64 0, .int .i64 0, .int .i64 0, .int .i64 0, .int .i64 0, .int .i64 0, .bool false]) 10 80 rfl Tryz.underlying22 zBq rfl (by decide) (g + 1) (.slice AN d.sc.notes.length cN) d.sc.notes.length (zW Nte.cs d.sc.notes) rfl (N11V.out.on ((Below.refl w11.heap.size w11).alloc (Nat.le_refl _) (.cells #[.int .i64 nv, .int .i64 na, .int .i64 nb, .int .i64 p.a, .int .i64 p.b, .int .i64 p.c, .int .i64 p.d, .int .i64 p.e, .int .i64 p.f, .bool false] 55))).drew _ 1 1 (Nte.cs ⟨nv, na, nb, p, false⟩) rfl ⟨_, xU (zAO w11 ⟨nv, na, nb, p, false⟩ _ rfl)⟩ (Nte.cs_one ⟨nv, na, nb, p, false⟩) (by simp only [maxLen]; omega) (by omega) (by simp; omega) ?_;intro v4 w12 ho4 hg4 _;replace hg4 := kv hg4;have HO4 := hid (yY.snoc (x := ⟨nv, na, nb, p, false⟩) ho4);obtain ⟨A4, c4n, rfl, hc4, hr4⟩ := HO4.out.form;clear hr4 hc4 ho4;have t12 := (T11.out.alloc (.cells #[.int .i64 nv, .int .i64 na, .int .i64 nb, .int .i64 p.a, .int .i64 p.b, .int .i64 p.c, .int .i64 p.d, .int .i64 p.e, .int .i64 p.f, .bool false] 55)).grown hg4 HOG.out
 have h4w := t12.c4;rw [HV.out] at h4w;have f4w := t12.fr 4;refine yi hK ?_;clear hK K;refine zG 9 ?_;refine zG 10 ?_;refine zG 11 ?_;refine zY 12 ?_;refine kW ?_
 have HO5 : Hid (yY w12 (g + 1) (.slice A4 (d.sc.notes.length + 1) c4n) (d.sc.notes ++ [⟨nv, na, nb, p, false⟩])) := by
  have := HO4.out;rw [List.length_append] at this;exact this
 have hgx : (w11.alloc (.cells #[.int .i64 nv, .int .i64 na, .int .i64 nb, .int .i64 p.a, .int .i64 p.b, .int .i64 p.c, .int .i64 p.d, .int .i64 p.e, .int .i64 p.f, .bool false] 55)).grownBy w12 x.n.ownBlock := by rw [HV.out]; exact hg4
 have TD := hid (Dr.addn D10.out N9.out.tk HGW.out NM.out hgx HO5.out);have hb0 : Far g gm x W w10 := BG.out.trans N9.out.only.away;have hb4 : Far g gm x W w12 := (((hb0.grown HGW.out (fun b e => by injection e with e; exact Or.inr (Or.inl e.symm))).alloc (.cells #[.int .i64 nv, .int .i64 na, .int .i64 nb, .int .i64 p.a, .int .i64 p.b, .int .i64 p.c, .int .i64 p.d, .int .i64 p.e, .int .i64 p.f, .bool false] 55)).grown hgx (fun b hb => Or.inr (Or.inr (Or.inl hb))))
 have HB5 := hid (hb4.setCell 4 (.slice A4 (d.sc.notes.length + 1) c4n));go_end0
 rw [← HR.out];exact yr.ok HB5.out TD.out.1 TD.out.2
theorem zJm (W : World) (g gm en : Nat) (x : Rc) (ts : List Tok) (d : Drf) (h : zU W g en x ts) (hd : Dr W g gm d x) (hl : d.sc.notes.length ≤ 10000) (hts : vh ts) (hM : qr W) (hP : yJ W) (hg : 3 < g) :
 Calls Tryz.prog 56 #[.pointer (some ⟨g, 0, none⟩), .bool true] W (yr W g gm en x (xy true d ts)) := by
 have H := hid h;have HD := hid hd;have HTS := hid hts;have HM := hid hM;have HPR := hid (And.intro hP hg);have HG0 : Hid (0 < g) := by show 0 < g; omega
 obtain ⟨q, hq⟩ : ∃ q, xy true d ts = q := ⟨_, rfl⟩
 rw [hq];unfold xy at hq;rw [zGy] at hq;have HR := hid hq;clear hq h hd hts hM hP hg;go_enter Tryz.func56, Tryz.ntmps56
 go_wp2_with fail
 rcases hq0 : vR false d.names ts with ⟨s, r0⟩ | ⟨r0, k⟩;rotate_left
 · exact zNU
 refine (zCW _ g en gm x ts d.names HD.out.m HD.out.gm.1 H.out HTS.out HM.out HG0.out HD.out.names).mono ?_;rintro e w1 ⟨o, h⟩;rw [hq0] at h;obtain ⟨rfl, t⟩ := h;have HD1 := hid (HD.out.only H.out o);have BG := hid (zH.away (gm := gm) (x := x) o);have HG1 := hid t.lt;have HT1 := hid t;have HP1 := hid (And.intro (yJ.onl HPR.out o) HPR.out.2);have N0 := hid (NS.start t 55 #[.int .i64 0, .int .i64 0, .int .i64 0, .int .i64 0, .int .i64 0, .int .i64 0, .int .i64 0, .int .i64 0, .int .i64 0, .bool true]);have K0 := hid (HTS.out.seen hq0).1;have HS8 := hid (HTS.out.seen hq0).2;simp only [hq0, Rs.ok_bind] at HR;clear o t hq0;go_wp2_with fail
 rcases hq1 : zb [zAz, kx] r0 with ⟨u1, r1⟩ | ⟨r1, k⟩;rotate_left
 · exact zNT
 refine (zC8 _ g en _ x r0 [58] [118, 111, 105, 99, 101] (by decide) (by decide) _ hq1 N0.out.tk (by simp)).mono ?_;rintro e w2 ⟨o, rfl, t⟩;have N1 := hid (N0.out.on o t);have K1 := hid (K0.out.wants hq1);simp only [hq1, Rs.ok_bind] at HR;clear o t hq1;go_wp2_with fail
 rcases hq2 : yX r1 with ⟨nv, r2⟩ | ⟨r2, k⟩;rotate_left
 · exact zNp
 refine (zZ _ g en x r1 _ hq2 N1.out.tk).mono ?_;rintro e w3 ⟨o, rfl, t⟩;have N2 := hid (N1.out.on o t);have K2 := hid (K1.out.nr hq2);simp only [hq2, Rs.ok_bind] at HR;have c0 := N2.out.blk.cell 0;have f0 := N2.out.blk.frozen 0;have N2 := hid ((N2.out.put 0 (.int .i64 nv)).cast (show _ = #[.int .i64 nv, .int .i64 0, .int .i64 0, .int .i64 0, .int .i64 0, .int .i64 0, .int .i64 0, .int .i64 0, .int .i64 0, .bool true] by simp));clear o t hq2;go_wp2_with fail
 rcases hq3 : zb [jX] r2 with ⟨u3, r3⟩ | ⟨r3, k⟩;rotate_left
 · exact zND
 refine (yC _ g en _ x r2 [102, 114, 111, 109] (by decide) _ hq3 N2.out.tk (by simp)).mono ?_;rintro e w4 ⟨o, rfl, t⟩;have N3 := hid (N2.out.on o t);have K3 := hid (K2.out.1.wants hq3);simp only [hq3, Rs.ok_bind] at HR;clear o t hq3;go_wp2_with fail
 rcases hq4 : yX r3 with ⟨na, r4⟩ | ⟨r4, k⟩;rotate_left
 · exact zNr
 refine (zZ _ g en x r3 _ hq4 N3.out.tk).mono ?_;rintro e w5 ⟨o, rfl, t⟩;have N4 := hid (N3.out.on o t);have K4 := hid (K3.out.nr hq4);simp only [hq4, Rs.ok_bind] at HR;have c1 := N4.out.blk.cell 1;have f1 := N4.out.blk.frozen 1;have N4 := hid ((N4.out.put 1 (.int .i64 na)).cast (show _ = #[.int .i64 nv, .int .i64 na, .int .i64 0, .int .i64 0, .int .i64 0, .int .i64 0, .int .i64 0, .int .i64 0, .int .i64 0, .bool true] by simp));clear o t hq4;go_wp2_with fail
 rcases hq5 : zb [zAx] r4 with ⟨u5, r5⟩ | ⟨r5, k⟩;rotate_left
 · exact zNm
 refine (yC _ g en _ x r4 [116, 111] (by decide) _ hq5 N4.out.tk (by simp)).mono ?_;rintro e w6 ⟨o, rfl, t⟩;have N5 := hid (N4.out.on o t);have K5 := hid (K4.out.1.wants hq5);simp only [hq5, Rs.ok_bind] at HR;clear o t hq5;go_wp2_with fail
 rcases hq6 : yX r5 with ⟨nb, r6⟩ | ⟨r6, k⟩;rotate_left
 · exact zOl
 refine (zZ _ g en x r5 _ hq6 N5.out.tk).mono ?_;rintro e w7 ⟨o, rfl, t⟩;have N6 := hid (N5.out.on o t);have K6 := hid (K5.out.nr hq6);simp only [hq6, Rs.ok_bind] at HR;have c2 := N6.out.blk.cell 2;have f2 := N6.out.blk.frozen 2;have N6 := hid ((N6.out.put 2 (.int .i64 nb)).cast (show _ = #[.int .i64 nv, .int .i64 na, .int .i64 nb, .int .i64 0, .int .i64 0, .int .i64 0, .int .i64 0, .int .i64 0, .int .i64 0, .bool true] by simp));clear o t hq6;go_wp2_with fail
 rw [show atR true r6 = .ok vc0 r6 from rfl] at HR;simp only [Rs.ok_bind] at HR;rcases hq9 : zb [yM] r6 with ⟨u9, r9⟩ | ⟨r9, k⟩;rotate_left
 · refine (yC _ g en _ x r6 [59] (by decide) _ hq9 N6.out.tk (by simp)).mono ?_;exact zMp
 refine (yC _ g en _ x r6 [59] (by decide) _ hq9 N6.out.tk (by simp)).mono ?_;rintro e w10 ⟨o, rfl, t⟩;have N9 := hid (N6.out.on o t);have K9 := hid (K6.out.1.wants hq9);simp only [hq9, Rs.ok_bind] at HR;clear o t hq9;go_wp2_with fail
 obtain ⟨wz, hwz⟩ : ∃ wz, wz = w10 := ⟨_, rfl⟩
 have D10 := hid (HD1.out.only HT1.out N9.out.only);have hlen := D10.out.len;obtain ⟨w11, hmu, NM, hgw⟩ := zB3 D10.out.names s (by have := HS8.out.1; omega) HS8.out.2 (by omega) d.sc.notes.length hlen;obtain ⟨AN, cN, hv, hcl, hrd⟩ := D10.out.n.form;have HV := hid hv;have g2 := N9.out.tk.c2;rw [D10.out.m] at g2;have g4 := N9.out.tk.c4;rw [hv] at g4;have hgz := N9.out.tk.lt;clear hv hrd hcl hlen hwz wz;refine kQ ?_;refine zG 0 ?_;refine zG 1 ?_;refine zG 2 ?_;refine zG 4 ?_;refine zG 5 ?_;refine zG 6 ?_;refine zG 7 ?_;refine zG 8 ?_;refine yg [3, 9] ?_;refine xj ?_ ?_
 ·
  refine zY 9 ?_;refine zG 10 ?_;refine zY 11 ?_;refine kW ?_;have T11 := hid (N9.out.tk.grownm hgw D10.out.gm);have B11 := hid (N9.out.blk.grown hgw (by intro e; injection e with e; exact ye D10.out.names N9.out.blk e.symm));have n11 := hid (yY.kept D10.out.n hgw (.inr (xi D10.out.names D10.out.n)));have n11v : yY w11 (g + 1) (.slice AN d.sc.notes.length cN) d.sc.notes := by rw [← HV.out]; exact n11.out
  have N11V := hid n11v;have hog := xp n11v;have HOG := hid hog;clear n11v hog;have h4 := T11.out.c4;rw [HV.out] at h4;have hg11 := T11.out.lt;have hh11 := B11.out.lt;have c0 := B11.out.cell 0;have c1 := B11.out.cell 1;have c2 := B11.out.cell 2;have c3 := B11.out.cell 3;have c4 := B11.out.cell 4;have c5 := B11.out.cell 5;have c6 := B11.out.cell 6;have c7 := B11.out.cell 7;have c8 := B11.out.cell 8;have c9 := B11.out.cell 9;have NM := hid NM;have HGW := hid hgw;clear hmu hgw g2 g4;go_wp2_with fail
  refine kQ ?_;refine zG 0 ?_;refine zG 1 ?_;refine zG 2 ?_;refine zG 3 ?_;refine zG 4 ?_;refine yg [5, 6] ?_;refine xj ?_ ?_
  · refine zY 6 ?_;refine zY 7 ?_;exact m4
  refine vI ?_;refine yg [5, 7] ?_;refine xj ?_ ?_
  · refine zY 7 ?_;exact m4
  refine vI ?_;refine zY 5 ?_;exact m4
 refine vI ?_;refine zG 10 ?_;refine zY 3 ?_;refine zY 11 ?_;refine kW ?_;have T11 := hid (N9.out.tk.grownm hgw D10.out.gm);have B11 := hid (N9.out.blk.grown hgw (by intro e; injection e with e; exact ye D10.out.names N9.out.blk e.symm));have n11 := hid (yY.kept D10.out.n hgw (.inr (xi D10.out.names D10.out.n)));have n11v : yY w11 (g + 1) (.slice AN d.sc.notes.length cN) d.sc.notes := by rw [← HV.out]; exact n11.out
 have N11V := hid n11v;have hog := xp n11v;have HOG := hid hog;clear n11v hog;have h4 := T11.out.c4;rw [HV.out] at h4;have hg11 := T11.out.lt;have hh11 := B11.out.lt;have c0 := B11.out.cell 0;have c1 := B11.out.cell 1;have c2 := B11.out.cell 2;have c3 := B11.out.cell 3;have c4 := B11.out.cell 4;have c5 := B11.out.cell 5;have c6 := B11.out.cell 6;have c7 := B11.out.cell 7;have c8 := B11.out.cell 8;have c9 := B11.out.cell 9;have NM := hid NM;have HGW := hid hgw;clear hmu hgw g2 g4;go_wp2_with fail
 refine kQ ?_;refine zG 0 ?_;refine zG 1 ?_;refine zG 2 ?_;refine zG 3 ?_;refine zG 4 ?_;refine yg [5, 6] ?_;refine xj ?_ ?_
 · refine zY 6 ?_;refine zY 7 ?_;exact m4
 refine vI ?_;refine yg [5, 7] ?_;refine xj ?_ ?_
 · refine zY 7 ?_;exact m4
 refine vI ?_;refine zY 5 ?_;refine xn 8 ?_;intro K hK;refine xt _ (by rfl) (.tmp 56) (.tmp 58) 22 55 (.agg #[.int .i64 0, .int .i64 0, .int .i64 0, .int .i64 0, .int .i64 0, .int .i64 0, .int .i64 0, .int .i64 0, .int .i64 0, .bool false]) 10 80 rfl Tryz.underlying22 zBq rfl (by decide) (g + 1) (.slice AN d.sc.notes.length cN) d.sc.notes.length (zW Nte.cs d.sc.notes) rfl (N11V.out.on ((Below.refl w11.heap.size w11).alloc (Nat.le_refl _) (.cells #[.int .i64 nv, .int .i64 na, .int .i64 nb, .int .i64 0, .int .i64 0, .int .i64 0, .int .i64 0, .int .i64 0, .int .i64 0, .bool true] 55))).drew _ 1 1 (Nte.cs ⟨nv, na, nb, vc0, true⟩) rfl ⟨_, xU (zAO w11 ⟨nv, na, nb, vc0, true⟩ _ rfl)⟩ (Nte.cs_one ⟨nv, na, nb, vc0, true⟩) (by simp only [maxLen]; omega) (by omega) (by simp; omega) ?_;intro v4 w12 ho4 hg4 _;replace hg4 := kv hg4;have HO4 := hid (yY.snoc (x := ⟨nv, na, nb, vc0, true⟩) ho4);obtain ⟨A4, c4n, rfl, hc4, hr4⟩ := HO4.out.form;clear hr4 hc4 ho4;have t12 := (T11.out.alloc (.cells #[.int .i64 nv, .int .i64 na, .int .i64 nb, .int .i64 0, .int .i64 0, .int .i64 0, .int .i64 0, .int .i64 0, .int .i64 0, .bool true] 55)).grown hg4 HOG.out
 have h4w := t12.c4;rw [HV.out] at h4w;have f4w := t12.fr 4;refine yi hK ?_;clear hK K;refine zG 9 ?_;refine zG 10 ?_;refine zG 11 ?_;refine zY 12 ?_;refine kW ?_
 have HO5 : Hid (yY w12 (g + 1) (.slice A4 (d.sc.notes.length + 1) c4n) (d.sc.notes ++ [⟨nv, na, nb, vc0, true⟩])) := by
  have := HO4.out;rw [List.length_append] at this;exact this
 have hgx : (w11.alloc (.cells #[.int .i64 nv, .int .i64 na, .int .i64 nb, .int .i64 0, .int .i64 0, .int .i64 0, .int .i64 0, .int .i64 0, .int .i64 0, .bool true] 55)).grownBy w12 x.n.ownBlock := by rw [HV.out]; exact hg4
 have TD := hid (Dr.addn D10.out N9.out.tk HGW.out NM.out hgx HO5.out);have hb0 : Far g gm x W w10 := BG.out.trans N9.out.only.away;have hb4 : Far g gm x W w12 := (((hb0.grown HGW.out (fun b e => by injection e with e; exact Or.inr (Or.inl e.symm))).alloc (.cells #[.int .i64 nv, .int .i64 na, .int .i64 nb, .int .i64 0, .int .i64 0, .int .i64 0, .int .i64 0, .int .i64 0, .int .i64 0, .bool true] 55)).grown hgx (fun b hb => Or.inr (Or.inr (Or.inl hb))))
 have HB5 := hid (hb4.setCell 4 (.slice A4 (d.sc.notes.length + 1) c4n));go_end0
 rw [← HR.out];exact yr.ok HB5.out TD.out.1 TD.out.2
open Go.RowKit Go.Deep Go.Maps Go.WideMaps
def PSt (g gm : Nat) (ns : List (List UInt8)) (w : World) : Prop := w.cell? ⟨g, 2, none⟩ = some (.map (some gm)) ∧ xk w gm ns
theorem PSt.of {W w : World} {g gm en : Nat} {d : Drf} {x : Rc} {ts r : List Tok} (hd : Dr W g gm d x) (h : zU W g en x ts) (o : zH g W w) (t : zU w g en x r) : PSt g gm d.names w := ⟨hd.m ▸ t.c2, (hd.only h o).names⟩
theorem zH.drw {g : Nat} {a w : World} (h : zH g a w) : zH g a w.drew := ⟨h.os, h.tape, h.output, h.size, h.block⟩
theorem zn.drw {w : World} {base : Nat} {v : Value} {l : List Par} (h : zn w base v l) : zn w.drew base v l := h
section
variable {W w w1 w9 : World} {g en : Nat} {x : Rc} {r : List Tok} {ty : TypeId} {cs cs' : Array Value}
theorem zKA (n : NS w1 g en x r ty cs w) (q : w.grownBy w9 (some w1.heap.size)) : zH g w1 w9 := by
 have o := n.only;refine ⟨q.os.trans o.os, q.tape.trans o.tape, q.output.trans o.output, Nat.le_trans o.size q.size, fun k hk hlt => ?_⟩;rw [q.block k (Nat.lt_of_lt_of_le hlt o.size) (by intro e; injection e with e; omega)];exact o.block k hk hlt
theorem NS.put9 (n : NS w1 g en x r ty cs w) (b : Blk w9 w1.heap.size ty cs') (q : w.grownBy w9 (some w1.heap.size)) (_s : w9.heap.size = w.heap.size) : NS w1 g en x r ty cs' w9 :=
 ⟨zKA n q, n.tk.grown q (fun b e => by injection e with e; have := n.lt; omega), b, n.lt⟩
end
theorem zU.setp {W : World} {g en : Nat} {x : Rc} {ts : List Tok} (h : zU W g en x ts) (u : Value) : zU (W.setCell ⟨g, 5, none⟩ u) g en { x with p := u } ts := by
 obtain ⟨A, c, h1, h2, h3⟩ := h;refine ⟨A, c, ?_, h2.setCell (p := ⟨g, 5, none⟩) (Nat.sub_le g 1) u, h3⟩;have := h1.set_ 5 u;simpa using this
theorem Dr.addp {w w12 : World} {g gm en : Nat} {d : Drf} {x : Rc} {ts : List Tok} {pr : Par} {o : Obj} {u : Value} (h : Dr w g gm d x) (t : zU w g en x ts)
 (hg : (w.alloc o).grownBy w12 x.p.ownBlock) (ho : zn w12 (g + 1) u (d.sc.pairs ++ [pr])) :
 zU (w12.setCell ⟨g, 5, none⟩ u) g en { x with p := u } ts ∧ Dr (w12.setCell ⟨g, 5, none⟩ u) g gm (d.pair pr) { x with p := u } := by
 have h2 := h.up ((Below.refl w.heap.size w).alloc (Nat.le_refl _) o);have t3 := (t.alloc o).grown hg (xp h2.p);obtain ⟨cs, hb⟩ := t3.blk;have oo := jk (W := w12) g 5 u;have n3 : yY w12 (g + 1) x.n d.sc.notes := h2.n.kept hg (zu h2.n h2.p (by decide));have q3 : yO w12 (g + 1) x.q (itg d.sc.cad) := h2.q.kept hg (zu h2.q h2.p (by decide));have m3 : xk w12 gm d.names := h2.names.kept hg (xi h2.names h2.p);exact ⟨t3.setp u, ⟨h.m, h.v, n3.only oo (n3.apart hb (by decide)), ho.only oo (ho.apart hb (by decide)), q3.only oo (q3.apart hb (by decide)), m3.only oo (ye m3 hb), h.len, h.gm⟩⟩
theorem zF2 (W : World) (g gm en : Nat) (x : Rc) (ts : List Tok) (d : Drf) (h : zU W g en x ts) (hd : Dr W g gm d x) (hl : d.sc.pairs.length ≤ 10000) (hts : vh ts) (hM : qr W) (hP : yJ W) (hg : 3 < g) :
 Calls Tryz.prog 58 #[.pointer (some ⟨g, 0, none⟩)] W (yr W g gm en x (qI d ts)) := by
 have H := hid h;have HD := hid hd;have HTS := hid hts;have HM := hid hM;have HPR := hid (And.intro hP hg);have HG0 : Hid (0 < g) := by show 0 < g; omega
 obtain ⟨q, hq⟩ : ∃ q, qI d ts = q := ⟨_, rfl⟩
 rw [hq];unfold qI at hq;simp only [zKG] at hq;have HR := hid hq;clear hq h hd hts hM hP hg;go_enter Tryz.func58, Tryz.ntmps58
 go_wp2_with fail
 rcases hq0 : vR true d.names ts with ⟨s0, r0⟩ | ⟨r0, k⟩;rotate_left
 ·
  simp only [hq0, Rs.err_bind] at HR;have HQ0 := hid hq0;clear hq0;have QO := hid (zH.refl g W).drw;have QT := hid H.out.drew;refine jF (PSt g gm d.names) (PSt.of HD.out H.out QO.out QT.out) fun hHeld => ?_
  refine zJ 0 ?_;refine zJ 1 ?_;refine zJ 2 ?_;refine zJ 3 ?_ (hy := Or.inl ⟨by rfl, fun w hSw => by obtain ⟨hSc, hSn⟩ := hSw; go_simp; try with_reducible rfl⟩);refine zJ 4 ?_;refine zJ 5 ?_;refine zJ 8 ?_;refine zJ 9 ?_;refine zJ 10 ?_;refine zJ 11 ?_ (hy := Or.inl ⟨by rfl, fun w hSw => by obtain ⟨hSc, hSn⟩ := hSw; go_simp; try with_reducible rfl⟩);refine zJ 12 ?_;refine zJ 13 ?_;refine zDq [6, 17] ?_;refine zDW ?_ ?_
  · exact zNl
  refine zDu ?_;intro K hK;go_simp;have QA := QO;have QN := hid (NS.start QT.out 57 #[.int .i64 0, .int .i64 0, .int .i64 0, .int .i64 0, .int .i64 0, .int .i64 0, .int .i64 0, .int .i64 0, .int .i64 0]);replace QO := hid (QO.out.alloc (.cells #[.int .i64 0, .int .i64 0, .int .i64 0, .int .i64 0, .int .i64 0, .int .i64 0, .int .i64 0, .int .i64 0, .int .i64 0] 57));replace QT := hid (QT.out.alloc (.cells #[.int .i64 0, .int .i64 0, .int .i64 0, .int .i64 0, .int .i64 0, .int .i64 0, .int .i64 0, .int .i64 0, .int .i64 0] 57));refine zq hK (PSt.of HD.out H.out QO.out QT.out) fun hHeld => ?_
  clear hK K;refine yL 6 ?_;exact zNl
 have HTS0 := hid (HTS.out.seen hq0).1;have HL := HTS.out.seen hq0;have HL0 : Hid (s0.length ≤ 9223372036854775807) := hid (by have := HL.2.1; omega);obtain ⟨i0, hi0⟩ := Option.isSome_iff_exists.1 HL.2.2;simp only [hq0, Rs.ok_bind, hi0, Option.getD_some] at HR;have HI0 := hid hi0;have HQ0 := hid hq0;clear hi0 HL hq0;rcases hq1 : vR true d.names r0 with ⟨s1, r1⟩ | ⟨r1, k⟩;rotate_left
 ·
  simp only [hq1, Rs.err_bind] at HR;have HQ1 := hid hq1;clear hq1;have QO := hid (zH.refl g W).drw;have QT := hid H.out.drew;refine jF (PSt g gm d.names) (PSt.of HD.out H.out QO.out QT.out) fun hHeld => ?_
  refine zJ 0 ?_;refine zJ 1 ?_;refine zJ 2 ?_;refine zJ 3 ?_ (hy := Or.inl ⟨by rfl, fun w hSw => by obtain ⟨hSc, hSn⟩ := hSw; go_simp; try with_reducible rfl⟩);refine zJ 4 ?_;refine zJ 5 ?_;refine zJ 8 ?_;refine zJ 9 ?_;refine zJ 10 ?_;refine zJ 11 ?_ (hy := Or.inl ⟨by rfl, fun w hSw => by obtain ⟨hSc, hSn⟩ := hSw; go_simp; try with_reducible rfl⟩);refine zJ 12 ?_;refine zJ 13 ?_;refine zDq [6, 17] ?_;refine zDW ?_ ?_
  ·
   intro K hK;go_simp;refine (k8 _ g en gm x ts d.names HD.out.m HD.out.gm.1 QT.out HTS.out (HM.out.only QO.out HG0.out) HG0.out hHeld.2).mono ?_;rintro e w0 ⟨o, hh⟩;rw [HQ0.out] at hh;obtain ⟨rfl, t⟩ := hh;replace QO := hid (QO.out.trans o);replace QT := hid t;clear o t;refine zq hK (PSt.of HD.out H.out QO.out QT.out) fun hHeld => ?_
   clear hK K;refine zJ 7 ?_ (hy := Or.inl ⟨by rfl, fun w hSw => by have hlk := kX hSw.2 s0 HL0.out i0 HI0.out; go_simp; try with_reducible rfl⟩);refine zDq [14, 17] ?_;refine zDW ?_ ?_
   · exact m73
   refine zDu ?_;intro K hK;go_simp;have QA := QO;have QN := hid (NS.start QT.out 57 #[.int .i64 0, .int .i64 0, .int .i64 0, .int .i64 0, .int .i64 0, .int .i64 0, .int .i64 0, .int .i64 0, .int .i64 0]);replace QO := hid (QO.out.alloc (.cells #[.int .i64 0, .int .i64 0, .int .i64 0, .int .i64 0, .int .i64 0, .int .i64 0, .int .i64 0, .int .i64 0, .int .i64 0] 57));replace QT := hid (QT.out.alloc (.cells #[.int .i64 0, .int .i64 0, .int .i64 0, .int .i64 0, .int .i64 0, .int .i64 0, .int .i64 0, .int .i64 0, .int .i64 0] 57));refine zq hK (PSt.of HD.out H.out QO.out QT.out) fun hHeld => ?_
   clear hK K;refine yL 14 ?_;exact m73
  refine zDu ?_;intro K hK;go_simp;have QA := QO;have QN := hid (NS.start QT.out 57 #[.int .i64 0, .int .i64 0, .int .i64 0, .int .i64 0, .int .i64 0, .int .i64 0, .int .i64 0, .int .i64 0, .int .i64 0]);replace QO := hid (QO.out.alloc (.cells #[.int .i64 0, .int .i64 0, .int .i64 0, .int .i64 0, .int .i64 0, .int .i64 0, .int .i64 0, .int .i64 0, .int .i64 0] 57));replace QT := hid (QT.out.alloc (.cells #[.int .i64 0, .int .i64 0, .int .i64 0, .int .i64 0, .int .i64 0, .int .i64 0, .int .i64 0, .int .i64 0, .int .i64 0] 57));refine zq hK (PSt.of HD.out H.out QO.out QT.out) fun hHeld => ?_
  clear hK K;refine yL 6 ?_;intro K hK;go_simp;refine (k8 _ g en gm x ts d.names HD.out.m HD.out.gm.1 QT.out HTS.out (HM.out.only QO.out HG0.out) HG0.out hHeld.2).mono ?_;rintro e w0 ⟨o, hh⟩;rw [HQ0.out] at hh;obtain ⟨rfl, t⟩ := hh;replace QN := hid (QN.out.on o t);replace QO := hid (QO.out.trans o);replace QT := hid t;clear o t;refine zq hK (PSt.of HD.out H.out QO.out QT.out) fun hHeld => ?_
  clear hK K;refine zJ 7 ?_ (hy := Or.inl ⟨by rfl, fun w hSw => by have hlk := kX hSw.2 s0 HL0.out i0 HI0.out; go_simp; try with_reducible rfl⟩);refine yL 14 ?_;exact m73
 have HTS1 := hid (HTS0.out.seen hq1).1;have HL := HTS0.out.seen hq1;have HL1 : Hid (s1.length ≤ 9223372036854775807) := hid (by have := HL.2.1; omega);obtain ⟨i1, hi1⟩ := Option.isSome_iff_exists.1 HL.2.2;simp only [hq1, Rs.ok_bind, hi1, Option.getD_some] at HR;have HI1 := hid hi1;have HQ1 := hid hq1;clear hi1 HL hq1;go_cut [3] from 4 (fun u w => ∃ w1, u = .pointer (some ⟨w1.heap.size, 0, none⟩) ∧ zH g W w1 ∧ NS w1 g en x r1 57 #[.int .i64 i0, .int .i64 i1, .int .i64 0, .int .i64 0, .int .i64 0, .int .i64 0, .int .i64 0, .int .i64 0, .int .i64 0] w)
 ·
  have QO := hid (zH.refl g W).drw;have QT := hid H.out.drew;refine jF (PSt g gm d.names) (PSt.of HD.out H.out QO.out QT.out) fun hHeld => ?_
  refine zJ 0 ?_;refine zJ 1 ?_;refine zJ 2 ?_;refine zJ 3 ?_ (hy := Or.inl ⟨by rfl, fun w hSw => by obtain ⟨hSc, hSn⟩ := hSw; go_simp; try with_reducible rfl⟩);refine zJ 4 ?_;refine zJ 5 ?_;refine zJ 8 ?_;refine zJ 9 ?_;refine zJ 10 ?_;refine zJ 11 ?_ (hy := Or.inl ⟨by rfl, fun w hSw => by obtain ⟨hSc, hSn⟩ := hSw; go_simp; try with_reducible rfl⟩);refine zJ 12 ?_;refine zJ 13 ?_;refine zDq [6, 17] ?_;refine zDW ?_ ?_
  ·
   intro K hK;go_simp;refine (k8 _ g en gm x ts d.names HD.out.m HD.out.gm.1 QT.out HTS.out (HM.out.only QO.out HG0.out) HG0.out hHeld.2).mono ?_;rintro e w0 ⟨o, hh⟩;rw [HQ0.out] at hh;obtain ⟨rfl, t⟩ := hh;replace QO := hid (QO.out.trans o);replace QT := hid t;clear o t;refine zq hK (PSt.of HD.out H.out QO.out QT.out) fun hHeld => ?_
   clear hK K;refine zJ 7 ?_ (hy := Or.inl ⟨by rfl, fun w hSw => by have hlk := kX hSw.2 s0 HL0.out i0 HI0.out; go_simp; try with_reducible rfl⟩);refine zDq [14, 17] ?_;refine zDW ?_ ?_
   ·
    intro K hK;go_simp;refine (k8 _ g en gm x r0 d.names HD.out.m HD.out.gm.1 QT.out HTS0.out (HM.out.only QO.out HG0.out) HG0.out hHeld.2).mono ?_;rintro e w1 ⟨o, hh⟩;rw [HQ1.out] at hh;obtain ⟨rfl, t⟩ := hh;replace QO := hid (QO.out.trans o);replace QT := hid t;clear o t;refine zq hK (PSt.of HD.out H.out QO.out QT.out) fun hHeld => ?_
    clear hK K;refine zJ 15 ?_ (hy := Or.inl ⟨by rfl, fun w hSw => by have hlk := kX hSw.2 s1 HL1.out i1 HI1.out; go_simp; try with_reducible rfl⟩);refine zJ 16 ?_;refine yL 17 ?_;intro K hK;go_simp;have QA := QO;have QN := hid (NS.start QT.out 57 #[.int .i64 0, .int .i64 0, .int .i64 0, .int .i64 0, .int .i64 0, .int .i64 0, .int .i64 0, .int .i64 0, .int .i64 0]);replace QO := hid (QO.out.alloc (.cells #[.int .i64 0, .int .i64 0, .int .i64 0, .int .i64 0, .int .i64 0, .int .i64 0, .int .i64 0, .int .i64 0, .int .i64 0] 57));replace QT := hid (QT.out.alloc (.cells #[.int .i64 0, .int .i64 0, .int .i64 0, .int .i64 0, .int .i64 0, .int .i64 0, .int .i64 0, .int .i64 0, .int .i64 0] 57));refine zq hK (PSt.of HD.out H.out QO.out QT.out) fun hHeld => ?_
    clear hK K;exact zMH
   refine zDu ?_;intro K hK;go_simp;have QA := QO;have QN := hid (NS.start QT.out 57 #[.int .i64 0, .int .i64 0, .int .i64 0, .int .i64 0, .int .i64 0, .int .i64 0, .int .i64 0, .int .i64 0, .int .i64 0]);replace QO := hid (QO.out.alloc (.cells #[.int .i64 0, .int .i64 0, .int .i64 0, .int .i64 0, .int .i64 0, .int .i64 0, .int .i64 0, .int .i64 0, .int .i64 0] 57));replace QT := hid (QT.out.alloc (.cells #[.int .i64 0, .int .i64 0, .int .i64 0, .int .i64 0, .int .i64 0, .int .i64 0, .int .i64 0, .int .i64 0, .int .i64 0] 57));refine zq hK (PSt.of HD.out H.out QO.out QT.out) fun hHeld => ?_
   clear hK K;exact m43
  refine zDu ?_;intro K hK;go_simp;have QA := QO;have QN := hid (NS.start QT.out 57 #[.int .i64 0, .int .i64 0, .int .i64 0, .int .i64 0, .int .i64 0, .int .i64 0, .int .i64 0, .int .i64 0, .int .i64 0]);replace QO := hid (QO.out.alloc (.cells #[.int .i64 0, .int .i64 0, .int .i64 0, .int .i64 0, .int .i64 0, .int .i64 0, .int .i64 0, .int .i64 0, .int .i64 0] 57));replace QT := hid (QT.out.alloc (.cells #[.int .i64 0, .int .i64 0, .int .i64 0, .int .i64 0, .int .i64 0, .int .i64 0, .int .i64 0, .int .i64 0, .int .i64 0] 57));refine zq hK (PSt.of HD.out H.out QO.out QT.out) fun hHeld => ?_
  clear hK K;refine yL 6 ?_;intro K hK;go_simp;refine (k8 _ g en gm x ts d.names HD.out.m HD.out.gm.1 QT.out HTS.out (HM.out.only QO.out HG0.out) HG0.out hHeld.2).mono ?_;rintro e w0 ⟨o, hh⟩;rw [HQ0.out] at hh;obtain ⟨rfl, t⟩ := hh;replace QN := hid (QN.out.on o t);replace QO := hid (QO.out.trans o);replace QT := hid t;clear o t;refine zq hK (PSt.of HD.out H.out QO.out QT.out) fun hHeld => ?_
  clear hK K;refine zJ 7 ?_ (hy := Or.inl ⟨by rfl, fun w hSw => by have hlk := kX hSw.2 s0 HL0.out i0 HI0.out; go_simp; try with_reducible rfl⟩);exact m43
 obtain ⟨w1, rfl, wo, n0⟩ := hcut;have WO := hid wo;have N0 := hid n0;have BG := hid (zH.away (gm := gm) (x := x) wo);have HG1 := hid n0.lt;have HP1 := hid (And.intro (yJ.onl HPR.out wo) HPR.out.2);clear wo n0;go_wp2_with fail
 rcases hq2 : yv zA8 r1 with _ | r2
 ·
  have hby : byR r1 = .ok vc0 r1 := by simp only [byR, hq2]
  simp only [hby, Rs.ok_bind] at HR;refine (vA _ g en x r1 [98, 121] (by decide) _ hq2 N0.out.tk).mono ?_;rintro e w2 ⟨rfl, o, t⟩;have N2 := hid (N0.out.on o t);clear o t hq2 hby;go_wp2_with fail
  rcases hq7 : yv xg r1 with _ | r7
  ·
   have hwt : xW r1 = .ok 0 r1 := by simp only [xW, hq7]
   simp only [hwt, Rs.ok_bind] at HR;refine (vA _ g en x r1 [119, 105, 116, 104, 105, 110] (by decide) _ hq7 N2.out.tk).mono ?_;rintro e w6 ⟨rfl, o, t⟩;have N6 := hid (N2.out.on o t);clear o t hq7 hwt;go_wp2_with fail
   rcases hq9 : zb [yM] r1 with ⟨u9, r9⟩ | ⟨r9, k⟩;rotate_left
   · refine (yC _ g en _ x r1 [59] (by decide) _ hq9 N6.out.tk (by simp)).mono ?_;exact zMp
   refine (yC _ g en _ x r1 [59] (by decide) _ hq9 N6.out.tk (by simp)).mono ?_;rintro e w10 ⟨o, rfl, t⟩;have N9 := hid (N6.out.on o t);have K9 := hid (HTS1.out.wants hq9);simp only [hq9, Rs.ok_bind] at HR;clear o t hq9;have D10 := hid (HD.out.only H.out (WO.out.trans N9.out.only));obtain ⟨AN, cN, hv, hcl, hrd⟩ := D10.out.p.form;have HV := hid hv;have g5 := N9.out.tk.c5;rw [hv] at g5;have hgz := N9.out.tk.lt;have hbz := N9.out.blk.lt
   have N9V : Hid (zn w10 (g + 1) (.slice AN d.sc.pairs.length cN) d.sc.pairs) := by
    exact zLf
   have HOG := hid (xp N9V.out);have c0 := N9.out.blk.cell 0;have c1 := N9.out.blk.cell 1;have c2 := N9.out.blk.cell 2;have c3 := N9.out.blk.cell 3;have c4 := N9.out.blk.cell 4;have c5 := N9.out.blk.cell 5;have c6 := N9.out.blk.cell 6;have c7 := N9.out.blk.cell 7;have c8 := N9.out.blk.cell 8;clear hv hcl hrd;go_wp2_with fail
   refine kQ ?_;refine zG 0 ?_;refine zG 1 ?_;refine zG 2 ?_;refine zG 3 ?_;refine zG 4 ?_;refine yg [5, 6] ?_;refine xj ?_ ?_
   · refine zY 6 ?_;refine zY 7 ?_;exact m15
   refine vI ?_;refine yg [5, 7] ?_;refine xj ?_ ?_
   · refine zY 7 ?_;exact m15
   refine vI ?_;refine zY 5 ?_;exact m15
  have hwt : xW r1 = yX r7 := by simp only [xW, hq7]
  simp only [hwt] at HR;have K7 := hid (HTS1.out.has hq7);refine (vA _ g en x r1 [119, 105, 116, 104, 105, 110] (by decide) _ hq7 N2.out.tk).mono ?_;rintro e w6 ⟨rfl, o, t⟩;have N6 := hid (N2.out.on o t);clear o t hq7 hwt;go_wp2_with fail
  rcases hq6 : yX r7 with ⟨kb, r8⟩ | ⟨r8, k⟩;rotate_left
  · exact zMU
  refine (zZ _ g en x r7 _ hq6 N6.out.tk).mono ?_;rintro e w7 ⟨o, rfl, t⟩;have N7 := hid (N6.out.on o t);have K8 := hid (K7.out.nr hq6);simp only [hq6, Rs.ok_bind] at HR;have c8 := N7.out.blk.cell 8;have f8 := N7.out.blk.frozen 8;have N7 := hid ((N7.out.put 8 (.int .i64 kb)).cast (show _ = #[.int .i64 i0, .int .i64 i1, .int .i64 0, .int .i64 0, .int .i64 0, .int .i64 0, .int .i64 0, .int .i64 0, .int .i64 kb] by simp));clear o t hq6;go_wp2_with fail
  rcases hq9 : zb [yM] r8 with ⟨u9, r9⟩ | ⟨r9, k⟩;rotate_left
  · exact zNj
  refine (yC _ g en _ x r8 [59] (by decide) _ hq9 N7.out.tk (by simp)).mono ?_;rintro e w10 ⟨o, rfl, t⟩;have N9 := hid (N7.out.on o t);have K9 := hid (K8.out.1.wants hq9);simp only [hq9, Rs.ok_bind] at HR;clear o t hq9;have D10 := hid (HD.out.only H.out (WO.out.trans N9.out.only));obtain ⟨AN, cN, hv, hcl, hrd⟩ := D10.out.p.form;have HV := hid hv;have g5 := N9.out.tk.c5;rw [hv] at g5;have hgz := N9.out.tk.lt;have hbz := N9.out.blk.lt
  have N9V : Hid (zn w10 (g + 1) (.slice AN d.sc.pairs.length cN) d.sc.pairs) := by
   exact zLf
  have HOG := hid (xp N9V.out);have c0 := N9.out.blk.cell 0;have c1 := N9.out.blk.cell 1;have c2 := N9.out.blk.cell 2;have c3 := N9.out.blk.cell 3;have c4 := N9.out.blk.cell 4;have c5 := N9.out.blk.cell 5;have c6 := N9.out.blk.cell 6;have c7 := N9.out.blk.cell 7;have c8 := N9.out.blk.cell 8;clear hv hcl hrd;go_wp2_with fail
  refine kQ ?_;refine zG 0 ?_;refine zG 1 ?_;refine zG 2 ?_;refine zG 3 ?_;refine zG 4 ?_;refine yg [5, 6] ?_;refine xj ?_ ?_
  · refine zY 6 ?_;refine zY 7 ?_;exact m14
  refine vI ?_;refine yg [5, 7] ?_;refine xj ?_ ?_
  · refine zY 7 ?_;exact m14
  refine vI ?_;refine zY 5 ?_;exact m14
 have hby : byR r1 = vL r2 := by simp only [byR, hq2]
 simp only [hby] at HR;have K2 := hid (HTS1.out.has hq2);refine (vA _ g en x r1 [98, 121] (by decide) _ hq2 N0.out.tk).mono ?_;rintro e w2 ⟨rfl, o, t⟩;have N2 := hid (N0.out.on o t);clear o t hq2 hby;go_wp2_with fail
 rcases hq3 : vL r2 with ⟨p, r3⟩ | ⟨r3, k⟩;rotate_left
 · refine (zBI _ g en x r2 N2.out.tk K2.out.num (yJ.onl HP1.out N2.out.only) HP1.out.2).mono ?_;rintro e w ⟨o, h⟩;rw [hq3] at h;obtain rfl := h;exact zNH
 refine (zBI _ g en x r2 N2.out.tk K2.out.num (yJ.onl HP1.out N2.out.only) HP1.out.2).mono ?_;rintro e w3 ⟨o, h⟩;rw [hq3] at h;obtain ⟨rfl, t⟩ := h;have N3 := hid (N2.out.on o t);have K3 := hid (K2.out.ival hq3);simp only [hq3, Rs.ok_bind] at HR;have c2 := N3.out.blk.cell 2;have f2 := N3.out.blk.frozen 2;have c3 := N3.out.blk.cell 3;have f3 := N3.out.blk.frozen 3;have c4 := N3.out.blk.cell 4;have f4 := N3.out.blk.frozen 4;have c5 := N3.out.blk.cell 5;have f5 := N3.out.blk.frozen 5;have c6 := N3.out.blk.cell 6;have f6 := N3.out.blk.frozen 6;have c7 := N3.out.blk.cell 7;have f7 := N3.out.blk.frozen 7;have N3 := hid (((((((N3.out.put 2 (.int .i64 p.a)).put 3 (.int .i64 p.b)).put 4 (.int .i64 p.c)).put 5 (.int .i64 p.d)).put 6 (.int .i64 p.e)).put 7 (.int .i64 p.f)).cast (show _ = #[.int .i64 i0, .int .i64 i1, .int .i64 p.a, .int .i64 p.b, .int .i64 p.c, .int .i64 p.d, .int .i64 p.e, .int .i64 p.f, .int .i64 0] by simp));clear o t hq3;go_wp2_with fail
 rcases hq7 : yv xg r3 with _ | r7
 ·
  have hwt : xW r3 = .ok 0 r3 := by simp only [xW, hq7]
  simp only [hwt, Rs.ok_bind] at HR;refine (vA _ g en x r3 [119, 105, 116, 104, 105, 110] (by decide) _ hq7 N3.out.tk).mono ?_;rintro e w6 ⟨rfl, o, t⟩;have N6 := hid (N3.out.on o t);clear o t hq7 hwt;go_wp2_with fail
  rcases hq9 : zb [yM] r3 with ⟨u9, r9⟩ | ⟨r9, k⟩;rotate_left
  · refine (yC _ g en _ x r3 [59] (by decide) _ hq9 N6.out.tk (by simp)).mono ?_;exact zMp
  refine (yC _ g en _ x r3 [59] (by decide) _ hq9 N6.out.tk (by simp)).mono ?_;rintro e w10 ⟨o, rfl, t⟩;have N9 := hid (N6.out.on o t);have K9 := hid (K3.out.wants hq9);simp only [hq9, Rs.ok_bind] at HR;clear o t hq9;have D10 := hid (HD.out.only H.out (WO.out.trans N9.out.only));obtain ⟨AN, cN, hv, hcl, hrd⟩ := D10.out.p.form;have HV := hid hv;have g5 := N9.out.tk.c5;rw [hv] at g5;have hgz := N9.out.tk.lt;have hbz := N9.out.blk.lt
  have N9V : Hid (zn w10 (g + 1) (.slice AN d.sc.pairs.length cN) d.sc.pairs) := by
   exact zLf
  have HOG := hid (xp N9V.out);have c0 := N9.out.blk.cell 0;have c1 := N9.out.blk.cell 1;have c2 := N9.out.blk.cell 2;have c3 := N9.out.blk.cell 3;have c4 := N9.out.blk.cell 4;have c5 := N9.out.blk.cell 5;have c6 := N9.out.blk.cell 6;have c7 := N9.out.blk.cell 7;have c8 := N9.out.blk.cell 8;clear hv hcl hrd;go_wp2_with fail
  refine kQ ?_;refine zG 0 ?_;refine zG 1 ?_;refine zG 2 ?_;refine zG 3 ?_;refine zG 4 ?_;refine yg [5, 6] ?_;refine xj ?_ ?_
  · refine zY 6 ?_;refine zY 7 ?_;exact m13
  refine vI ?_;refine yg [5, 7] ?_;refine xj ?_ ?_
  · refine zY 7 ?_;exact m13
  refine vI ?_;refine zY 5 ?_;exact m13
 have hwt : xW r3 = yX r7 := by simp only [xW, hq7]
 simp only [hwt] at HR;have K7 := hid (K3.out.has hq7);refine (vA _ g en x r3 [119, 105, 116, 104, 105, 110] (by decide) _ hq7 N3.out.tk).mono ?_;rintro e w6 ⟨rfl, o, t⟩;have N6 := hid (N3.out.on o t);clear o t hq7 hwt;go_wp2_with fail
 rcases hq6 : yX r7 with ⟨kb, r8⟩ | ⟨r8, k⟩;rotate_left
 · exact zMU
 refine (zZ _ g en x r7 _ hq6 N6.out.tk).mono ?_;rintro e w7 ⟨o, rfl, t⟩;have N7 := hid (N6.out.on o t);have K8 := hid (K7.out.nr hq6);simp only [hq6, Rs.ok_bind] at HR;have c8 := N7.out.blk.cell 8;have f8 := N7.out.blk.frozen 8;have N7 := hid ((N7.out.put 8 (.int .i64 kb)).cast (show _ = #[.int .i64 i0, .int .i64 i1, .int .i64 p.a, .int .i64 p.b, .int .i64 p.c, .int .i64 p.d, .int .i64 p.e, .int .i64 p.f, .int .i64 kb] by simp));clear o t hq6;go_wp2_with fail
 rcases hq9 : zb [yM] r8 with ⟨u9, r9⟩ | ⟨r9, k⟩;rotate_left
 · exact zNj
 refine (yC _ g en _ x r8 [59] (by decide) _ hq9 N7.out.tk (by simp)).mono ?_;rintro e w10 ⟨o, rfl, t⟩;have N9 := hid (N7.out.on o t);have K9 := hid (K8.out.1.wants hq9);simp only [hq9, Rs.ok_bind] at HR;clear o t hq9;have D10 := hid (HD.out.only H.out (WO.out.trans N9.out.only));obtain ⟨AN, cN, hv, hcl, hrd⟩ := D10.out.p.form;have HV := hid hv;have g5 := N9.out.tk.c5;rw [hv] at g5;have hgz := N9.out.tk.lt;have hbz := N9.out.blk.lt
 have N9V : Hid (zn w10 (g + 1) (.slice AN d.sc.pairs.length cN) d.sc.pairs) := by
  exact zLf
 have HOG := hid (xp N9V.out);have c0 := N9.out.blk.cell 0;have c1 := N9.out.blk.cell 1;have c2 := N9.out.blk.cell 2;have c3 := N9.out.blk.cell 3;have c4 := N9.out.blk.cell 4;have c5 := N9.out.blk.cell 5;have c6 := N9.out.blk.cell 6;have c7 := N9.out.blk.cell 7;have c8 := N9.out.blk.cell 8;clear hv hcl hrd;go_wp2_with fail
 refine kQ ?_;refine zG 0 ?_;refine zG 1 ?_;refine zG 2 ?_;refine zG 3 ?_;refine zG 4 ?_;refine yg [5, 6] ?_;refine xj ?_ ?_
 · refine zY 6 ?_;exact m23
 refine vI ?_;refine yg [5, 7] ?_;refine xj ?_ ?_
 · exact m23
 refine vI ?_;refine zY 5 ?_;refine xn 8 ?_;intro K hK;refine xt _ (by rfl) (.tmp 39) (.tmp 41) 23 57 (.agg #[.int .i64 0, .int .i64 0, .int .i64 0, .int .i64 0, .int .i64 0, .int .i64 0, .int .i64 0, .int .i64 0, .int .i64 0]) 9 72 rfl Tryz.underlying23 zBj rfl (by decide) (g + 1) (.slice AN d.sc.pairs.length cN) d.sc.pairs.length (zW Par.cs d.sc.pairs) rfl (N9V.out.on ((Below.refl w10.heap.size w10).alloc (Nat.le_refl _) (.cells #[.int .i64 i0, .int .i64 i1, .int .i64 p.a, .int .i64 p.b, .int .i64 p.c, .int .i64 p.d, .int .i64 p.e, .int .i64 p.f, .int .i64 kb] 57))).drw _ 1 1 (Par.cs ⟨i0, i1, p, kb⟩) rfl ⟨_, xU (zAb w10 ⟨i0, i1, p, kb⟩ _ rfl)⟩ (Par.cs_one ⟨i0, i1, p, kb⟩) (by simp only [maxLen]; omega) (by omega) (by simp; omega) ?_;intro v4 w12 ho4 hg4 _;replace hg4 := kv hg4;have HO4 := hid (zn.snoc (x := ⟨i0, i1, p, kb⟩) ho4);obtain ⟨A4, c4n, rfl, hc4, hr4⟩ := HO4.out.form;clear hr4 hc4 ho4;have t12 := (N9.out.tk.alloc (.cells #[.int .i64 i0, .int .i64 i1, .int .i64 p.a, .int .i64 p.b, .int .i64 p.c, .int .i64 p.d, .int .i64 p.e, .int .i64 p.f, .int .i64 kb] 57)).grown hg4 HOG.out;have h5w := t12.c5
 rw [HV.out] at h5w;have f5w := t12.fr 5;refine yi hK ?_;clear hK K;refine zG 9 ?_;refine zG 10 ?_;refine zG 11 ?_;refine zY 12 ?_;refine kW ?_
 have HO5 : Hid (zn w12 (g + 1) (.slice A4 (d.sc.pairs.length + 1) c4n) (d.sc.pairs ++ [⟨i0, i1, p, kb⟩])) := by
  have := HO4.out;rw [List.length_append] at this;exact this
 have hgx : (w10.alloc (.cells #[.int .i64 i0, .int .i64 i1, .int .i64 p.a, .int .i64 p.b, .int .i64 p.c, .int .i64 p.d, .int .i64 p.e, .int .i64 p.f, .int .i64 kb] 57)).grownBy w12 x.p.ownBlock := by rw [HV.out]; exact hg4
 have TD := hid (Dr.addp D10.out N9.out.tk hgx HO5.out);have hb0 : Far g gm x W w10 := BG.out.trans N9.out.only.away;have hb4 : Far g gm x W w12 := (hb0.alloc (.cells #[.int .i64 i0, .int .i64 i1, .int .i64 p.a, .int .i64 p.b, .int .i64 p.c, .int .i64 p.d, .int .i64 p.e, .int .i64 p.f, .int .i64 kb] 57)).grown hgx (fun b hb => Or.inr (Or.inr (Or.inr (Or.inl hb))));have HB5 := hid (hb4.setCell 5 (.slice A4 (d.sc.pairs.length + 1) c4n));go_end0
 rw [← HR.out];exact yr.ok HB5.out TD.out.1 TD.out.2
end Go.Proofs.YtcjhihmaegagdaaGreatDoor
