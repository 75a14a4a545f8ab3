/- Texts of the Notation chapter, together: Rh. -/
import Derived.Test.YtcjhihmaegagdaaGreatDoorG4
set_option maxRecDepth 100000
set_option maxHeartbeats 8000000
set_option linter.unusedSimpArgs false
set_option linter.unusedVariables false
set_option linter.unusedSectionVars false
set_option linter.unnecessarySimpa false
namespace Go.Proofs.YtcjhihmaegagdaaGreatDoor
open Go.RowKit Go.Deep
theorem TkAt.drew {W : World} {g en : Nat} {x : Rc} {ts : List Tok} (h : TkAt W g en x ts) : TkAt W.drew g en x ts := h
theorem Only.undrew {g : Nat} {W w1 : World} (h : Only g W.drew w1) : Only g W w1 := ⟨h.os, h.tape, h.output, h.size, h.block⟩
theorem TkAt.c2 {W : World} {g en : Nat} {x : Rc} {ts : List Tok} (h : TkAt W g en x ts) : W.cell? ⟨g, 2, none⟩ = some x.m := by obtain ⟨A, c, h, _⟩ := h; exact h.cell 2
theorem TkAt.c3 {W : World} {g en : Nat} {x : Rc} {ts : List Tok} (h : TkAt W g en x ts) : W.cell? ⟨g, 3, none⟩ = some x.v := by obtain ⟨A, c, h, _⟩ := h; exact h.cell 3
theorem TkAt.c4 {W : World} {g en : Nat} {x : Rc} {ts : List Tok} (h : TkAt W g en x ts) : W.cell? ⟨g, 4, none⟩ = some x.n := by obtain ⟨A, c, h, _⟩ := h; exact h.cell 4
theorem TkAt.c5 {W : World} {g en : Nat} {x : Rc} {ts : List Tok} (h : TkAt W g en x ts) : W.cell? ⟨g, 5, none⟩ = some x.p := by obtain ⟨A, c, h, _⟩ := h; exact h.cell 5
theorem TkAt.c6 {W : World} {g en : Nat} {x : Rc} {ts : List Tok} (h : TkAt W g en x ts) : W.cell? ⟨g, 6, none⟩ = some x.q := by obtain ⟨A, c, h, _⟩ := h; exact h.cell 6
theorem TkAt.fr {W : World} {g en : Nat} {x : Rc} {ts : List Tok} (h : TkAt W g en x ts) (i : Nat) : W.frozen? ⟨g, i, none⟩ = false := by obtain ⟨A, c, h, _⟩ := h; exact h.frozen i
theorem TkAt.blk {W : World} {g en : Nat} {x : Rc} {ts : List Tok} (h : TkAt W g en x ts) : ∃ cs, Blk W g 68 cs := by
 obtain ⟨A, c, h, _⟩ := h
 exact ⟨_, h⟩
theorem TkAt.grown {W w' : World} {g en : Nat} {x : Rc} {ts : List Tok} {row : Option Nat} (h : TkAt W g en x ts) (k : W.grownBy w' row) (hr : ∀ b, row = some b → g < b) : TkAt w' g en x ts := by
 have hl := h.lt
 obtain ⟨A, c, h1, h2, h3⟩ := h
 exact ⟨A, c, h1.grown k (fun e => by have := hr _ e; omega), h2.grown k (by omega) (fun b e => by have := hr _ e; omega), h3⟩
theorem TkAt.grownm {W W' : World} {g en gm : Nat} {x : Rc} {ts : List Tok} (h : TkAt W g en x ts) (k : W.grownBy W' (some gm)) (hr : g ≠ gm ∧ g ≤ gm + 1) : TkAt W' g en x ts := by
 have hl := h.lt
 obtain ⟨A, c, h1, h2, h3⟩ := h
 exact ⟨A, c, h1.grown k (fun e => by injection e with e; exact hr.1 e.symm), h2.grown k (by omega) (fun b e => by injection e with e; omega), h3⟩
structure Dr (W : World) (g gm : Nat) (d : Drf) (x : Rc) : Prop where
 m : x.m = .map (some gm)
 v : x.v = .int .i64 d.sc.voices
 n : OwnN W (g + 1) x.n d.sc.notes
 p : OwnP W (g + 1) x.p d.sc.pairs
 q : OwnC W (g + 1) x.q (itg d.sc.cad)
 names : Names W gm d.names
 len : d.names.length = d.sc.notes.length
 gm : g ≠ gm ∧ g ≤ gm + 1
structure Far (g gm : Nat) (x : Rc) (W w : World) : Prop where
 os : w.os = W.os
 tape : w.tape = W.tape
 output : w.output = W.output
 size : W.heap.size ≤ w.heap.size
 block : ∀ k, k ≠ g → k ≠ gm → x.n.ownBlock ≠ some k → x.p.ownBlock ≠ some k → x.q.ownBlock ≠ some k → k < W.heap.size → w.heap[k]? = W.heap[k]?
theorem Far.refl (g gm : Nat) (x : Rc) (W : World) : Far g gm x W W := ⟨rfl, rfl, rfl, Nat.le_refl _, fun _ _ _ _ _ _ _ => rfl⟩
theorem Far.trans {g gm : Nat} {x : Rc} {a b c : World} (h : Far g gm x a b) (k : Far g gm x b c) : Far g gm x a c :=
 ⟨k.os.trans h.os, k.tape.trans h.tape, k.output.trans h.output, Nat.le_trans h.size k.size, fun i h1 h2 h3 h4 h5 hl => (k.block i h1 h2 h3 h4 h5 (Nat.lt_of_lt_of_le hl h.size)).trans (h.block i h1 h2 h3 h4 h5 hl)⟩
theorem Only.away {g gm : Nat} {x : Rc} {a b : World} (h : Only g a b) : Far g gm x a b := ⟨h.os, h.tape, h.output, h.size, fun k h1 _ _ _ _ hl => h.block k h1 hl⟩
theorem Far.alloc {g gm : Nat} {x : Rc} {a b : World} (h : Far g gm x a b) (o : Obj) : Far g gm x a (b.alloc o) := h.trans ((Only.refl g b).alloc o).away
theorem Far.setCell {g gm : Nat} {x : Rc} {a b : World} (h : Far g gm x a b) (i : Nat) (v : Value) : Far g gm x a (b.setCell ⟨g, i, none⟩ v) := h.trans ((Only.refl g b).setCell i v).away
theorem Far.grown {g gm : Nat} {x : Rc} {a b c : World} {row : Option Nat} (h : Far g gm x a b) (k : b.grownBy c row) (hr : ∀ j, row = some j → j = g ∨ j = gm ∨ x.n.ownBlock = some j ∨ x.p.ownBlock = some j ∨ x.q.ownBlock = some j) : Far g gm x a c :=
 h.trans ⟨k.os, k.tape, k.output, k.size, fun i h1 h2 h3 h4 h5 hl => k.block i hl (fun e => by
  rcases hr i (by first | exact e | exact e.symm) with e | e | e | e | e
  ·
   exact h1 e
  ·
   exact h2 e
  ·
   exact h3 e
  ·
   exact h4 e
  exact h5 e)⟩
def DEnds (W : World) (g gm en : Nat) (y : Rc) (q : Rs Drf) (e : Ending) (w' : World) : Prop :=
 Far g gm y W w' ∧ match q with
 | .ok d r => e = .returned (.tuple #[]) ∧ ∃ x, TkAt w' g en x r ∧ Dr w' g gm d x
 | .err r k => e = failed (offR en r) k
theorem DEnds.ok {W w' : World} {g gm en : Nat} {y : Rc} {d : Drf} {r : List Tok} {x : Rc} (b : Far g gm y W w') (t : TkAt w' g en x r) (h : Dr w' g gm d x) : DEnds W g gm en y (.ok d r) (.returned (.tuple #[])) w' := ⟨b, rfl, x, t, h⟩
theorem DEnds.err {W w' : World} {g gm en k : Nat} {y : Rc} {r : List Tok} (b : Far g gm y W w') : DEnds W g gm en y (.err r k) (failed (offR en r) k) w' := ⟨b, rfl⟩
theorem names_apart {W : World} {gm b : Nat} {ns : List (List UInt8)} {t : TypeId} {cs : Array Value} (h : Names W gm ns) (hb : Blk W b t cs) : b ≠ gm := by
 rintro rfl
 obtain ⟨es, clk, h1, -⟩ := h.1
 have h2 := h1.symm.trans hb
 cases h2
theorem Dr.only {W w' : World} {g gm en : Nat} {d : Drf} {x : Rc} {ts : List Tok} (h : Dr W g gm d x) (t : TkAt W g en x ts) (o : Only g W w') : Dr w' g gm d x := by
 obtain ⟨cs, hb⟩ := t.blk
 exact ⟨h.m, h.v, h.n.only o (h.n.apart hb (by decide)), h.p.only o (h.p.apart hb (by decide)), h.q.only o (h.q.apart hb (by decide)), h.names.only o (names_apart h.names hb), h.len, h.gm⟩
theorem Dr.up {W w' : World} {g gm : Nat} {d : Drf} {x : Rc} (h : Dr W g gm d x) (b : Below W.heap.size W w') : Dr w' g gm d x :=
 ⟨h.m, h.v, h.n.on b, h.p.on b, h.q.on b, h.names.up b, h.len, h.gm⟩
theorem own_gt {w : World} {base : Nat} {e : TypeId} {size n : Nat} {v : Value} {xs : List Value} (h : w.ownsRow (base + 1) e size v n xs) : ∀ b, v.ownBlock = some b → base < b := fun b hb => by have := (World.ownsRow.lt h b hb).1; omega
theorem Far.below {g gm : Nat} {x : Rc} {a b : World} {d : Drf} (h : Far g gm x a b) (hd : Dr a g gm d x) (hs : g ≤ a.heap.size) : Below (g - 1) a b :=
 ⟨h.os, h.tape, h.output, h.size, fun k hk => by
  have := hd.gm
  exact h.block k (by omega) (by omega) (fun e => by have := own_gt hd.n k e; omega) (fun e => by have := own_gt hd.p k e; omega) (fun e => by have := own_gt hd.q k e; omega) (by omega)⟩
theorem rows_apart {w : World} {b1 b2 : Nat} {e1 e2 : TypeId} {s1 s2 n1 n2 : Nat} {v1 v2 : Value} {x1 x2 : List Value} (h1 : w.ownsRow b1 e1 s1 v1 n1 x1) (h2 : w.ownsRow b2 e2 s2 v2 n2 x2) (he : e1 ≠ e2) : v1.ownBlock = none ∨ v1.ownBlock ≠ v2.ownBlock := by
 rcases h2.2 with ⟨rfl, _⟩ | ⟨g, cap, cur, rfl, _, hg, _⟩
 ·
  cases hv : v1.ownBlock with
  | none => exact .inl rfl
  | some k => right; simp [Value.ownBlock]
 right
 exact own_apart h1 (b := g) (t := e2) (cs := cur) hg (fun e => he e.symm)
theorem names_row {w : World} {gm base : Nat} {ns : List (List UInt8)} {e : TypeId} {size n : Nat} {v : Value} {xs : List Value} (h : Names w gm ns) (k : w.ownsRow base e size v n xs) : v.ownBlock ≠ some gm := by
 rcases k.2 with ⟨rfl, _⟩ | ⟨g, cap, cur, rfl, _, hg, _⟩
 ·
  simp [Value.ownBlock]
 intro e1
 simp only [Value.ownBlock, Option.some.injEq] at e1
 exact names_apart h (b := g) hg e1
theorem TkAt.setq {W : World} {g en : Nat} {x : Rc} {ts : List Tok} (h : TkAt W g en x ts) (u : Value) : TkAt (W.setCell ⟨g, 6, none⟩ u) g en { x with q := u } ts := by
 obtain ⟨A, c, h1, h2, h3⟩ := h
 refine ⟨A, c, ?_, h2.setCell (p := ⟨g, 6, none⟩) (Nat.sub_le g 1) u, h3⟩
 have := h1.set_ 6 u
 simpa using this
theorem only_set {W : World} (g i : Nat) (u : Value) : Only g W (W.setCell ⟨g, i, none⟩ u) := (Only.refl g W).setCell i u
theorem itg_snoc (l : List Int) (x : Int) : itg (l ++ [x]) = itg l ++ [⟨x⟩] := by simp [itg]
theorem Dr.addq {W w' : World} {g gm en : Nat} {d : Drf} {x : Rc} {ts : List Tok} (h : Dr W g gm d x) (t : TkAt W g en x ts) (u : Value) (y : Int) (ho : OwnC w' (g + 1) u (itg d.sc.cad ++ [⟨y⟩])) (hg : W.grownBy w' x.q.ownBlock) :
  TkAt (w'.setCell ⟨g, 6, none⟩ u) g en { x with q := u } ts ∧ Dr (w'.setCell ⟨g, 6, none⟩ u) g gm (d.cad y) { x with q := u } := by
 have t' := t.grown hg (own_gt h.q)
 obtain ⟨cs, hb⟩ := t'.blk
 have o := only_set (W := w') g 6 u
 have hn : OwnN w' (g + 1) x.n d.sc.notes := h.n.kept hg (rows_apart h.n h.q (by decide))
 have hp : OwnP w' (g + 1) x.p d.sc.pairs := h.p.kept hg (rows_apart h.p h.q (by decide))
 have hm : Names w' gm d.names := h.names.kept hg (names_row h.names h.q)
 exact ⟨t'.setq u, ⟨h.m, h.v, hn.only o (hn.apart hb (by decide)), hp.only o (hp.apart hb (by decide)), by
  show OwnC _ _ _ (itg (d.sc.cad ++ [y]))
  rw [itg_snoc]
  exact ho.only o (ho.apart hb (by decide)), hm.only o (names_apart hm hb), h.len, h.gm⟩⟩
theorem cad_any (W : World) (g gm en : Nat) (x : Rc) (ts : List Tok) (d : Drf) (h : TkAt W g en x ts) (hd : Dr W g gm d x) (hl : d.sc.cad.length ≤ 10000) :
  Calls Tryz.prog 59 #[.pointer (some ⟨g, 0, none⟩)] W (DEnds W g gm en x (cadR d ts)) := by
 have H := hid h
 have HD := hid hd
 have hgl := h.lt
 rcases hq1 : numR ts with ⟨n, r1⟩ | ⟨r1, k⟩
 ·
  have H1 := hid fun w t => number_one w g en x ts _ hq1 t
  obtain ⟨AC, cC, hv, hcl, hrd⟩ := hd.q.form
  have hil : (itg d.sc.cad).length = d.sc.cad.length := by simp [itg]
  have HIL := hid hil
  rw [hil] at hv
  have H6 := hid fun w r (t : TkAt w g en x r) => hv ▸ t.c6
  have c6 := H6.out _ _ h
  have HV := hid hv
  rcases hq2 : wantsR [mSemi] r1 with ⟨u, r2⟩ | ⟨r2, k⟩
  ·
   have hR : cadR d ts = .ok (d.cad n) r2 := by unfold cadR; rw [hq1]; simp only [Rs.bind, hq2]
   rw [hR]
   have H2 := hid fun w x t => want_one w g en x r1 [59] (by decide) _ hq2 t
   clear hq1 hq2 hR hd h hv hil hcl hrd
   go_enter Tryz.func59, Tryz.ntmps59
   go_wp2_with fail
   refine wp_region_any (by kernel_rfl) ?_
   change wpAny _ _ _ _ _ _ _ (World.drew _)
   refine tK 0 ?_ rfl (by kernel_rfl) (fun _ _ _ h => h) (Or.inl ⟨by rfl, fun w => ?_⟩) ?_; rotate_left; (go_simp; try with_reducible rfl)
   try simp only [Act.put, sS]
   refine tK 1 ?_ rfl (by kernel_rfl) (fun _ _ _ h => h) (Or.inl ⟨by rfl, fun w => ?_⟩) ?_; rotate_left; (go_simp; try with_reducible rfl)
   try simp only [Act.put, sS]
   refine tK 2 ?_ rfl (by kernel_rfl) (fun _ _ _ h => h) (Or.inl ⟨by rfl, fun w => ?_⟩) ?_; rotate_left; (go_simp; try with_reducible rfl)
   try simp only [Act.put, sS]
   refine tK 3 ?_ rfl (by kernel_rfl) (fun _ _ _ h => h) (Or.inl ⟨by rfl, fun w => ?_⟩) ?_; rotate_left; (go_simp; try with_reducible rfl)
   try simp only [Act.put, sS]
   refine tK 4 ?_ rfl (by kernel_rfl) (fun _ _ _ h => h) (Or.inl ⟨by rfl, fun w => ?_⟩) ?_; rotate_left; (go_simp; try with_reducible rfl)
   try simp only [Act.put, sS]
   refine tK 6 ?_ rfl (by kernel_rfl) (fun _ _ _ h => h) (Or.inl ⟨by rfl, fun w => ?_⟩) ?_; rotate_left; (go_simp; try with_reducible rfl)
   try simp only [Act.put, sS]
   refine tR [5, 7] (by kernel_rfl) rfl ?_
   refine rC rfl (fun K hK => ?_) ?_
   ·
    (go_simp; refine hK _ _ ?_; clear hK K; try simp only [Act.put, sS])
    refine tR [7] (by kernel_rfl) rfl ?_
    refine rC rfl (fun K hK => ?_) ?_
    ·
     go_simp
     refine (H1.out W.drew H.out.drew).mono ?_
     rintro e w1 ⟨o1, rfl, t1⟩
     replace o1 := Only.undrew o1
     have c61 := H6.out _ _ t1
     have hg1 := t1.lt
     refine hK _ _ ?_
     clear hK K
     try simp only [Act.put, sS]
     refine tR [8] (by kernel_rfl) rfl ?_
     refine rC rfl (fun K hK => ?_) ?_
     ·
      (go_simp; refine hK _ _ ?_; clear hK K; try simp only [Act.put, sS])
      refine tR [9] (by kernel_rfl) rfl ?_
      refine rC rfl (fun K hK => ?_) ?_
      ·
       refine step_apg _ (by rfl) (.tmp 7) (.tmp 10) 24 3 (.int .i64 0) 1 8 rfl Tryz.underlying24 info_C rfl (by decide) (g + 1) _ (itg d.sc.cad).length (rcells Itg.cs (itg d.sc.cad)) rfl (HV.out ▸ ((HD.out.only H.out o1).up ((Below.refl w1.heap.size w1).alloc (Nat.le_refl _) _)).q) _ 1 1 [.int .i64 n] rfl ⟨_, shows_C w1 ⟨n⟩ _ rfl⟩ (Itg.cs_one ⟨n⟩) (by simp only [maxLen]; have := HIL.out; omega) (by have := HIL.out; omega) (by have := t1.lt; simp; omega) ?_
       intro v4 w4 ho4 hg4 _
       have HO4 := hid (OwnC.snoc (x := ⟨n⟩) ho4)
       obtain ⟨A4, c4, rfl, hc4, hr4⟩ := HO4.out.form
       clear hr4 hc4 ho4
       have c6w := H6.out w4 _ ((t1.alloc (.cells #[.int .i64 n] 3)).grown hg4 (HV.out ▸ own_gt HD.out.q))
       have f6w := ((t1.alloc (.cells #[.int .i64 n] 3)).grown hg4 (HV.out ▸ own_gt HD.out.q)).fr 6
       refine hK _ _ ?_
       clear hK K
       try simp only [Act.put, sS]
       refine tK 10 ?_ rfl (by kernel_rfl) (fun _ _ _ h => h) (Or.inl ⟨by rfl, fun w => ?_⟩) ?_; rotate_left; (go_simp; try with_reducible rfl)
       try simp only [Act.put, sS]
       refine tK 11 ?_ rfl (by kernel_rfl) (fun _ _ _ h => h) (Or.inl ⟨by rfl, fun w => ?_⟩) ?_; rotate_left; (go_simp; try with_reducible rfl)
       try simp only [Act.put, sS]
       refine tK 12 ?_ rfl (by kernel_rfl) (fun _ _ _ h => h) (Or.inl ⟨by rfl, fun w => ?_⟩) ?_; rotate_left; (go_simp; try with_reducible rfl)
       try simp only [Act.put, sS]
       refine tR [13] (by kernel_rfl) rfl ?_
       refine rC rfl (fun K hK => ?_) ?_
       ·
        (go_simp; refine hK _ _ ?_; clear hK K; try simp only [Act.put, sS])
        refine wpAny_done (by kernel_rfl) ?_ _
        have HO5 : Hid (OwnC w4 (g + 1) (.slice A4 ((itg d.sc.cad).length + 1) c4) (itg d.sc.cad ++ [⟨n⟩])) := by
         have := HO4.out
         rw [List.length_append] at this
         exact this
        have TD := hid (Dr.addq ((HD.out.only H.out o1).up ((Below.refl w1.heap.size w1).alloc (Nat.le_refl _) (.cells #[.int .i64 n] 3))) (t1.alloc (.cells #[.int .i64 n] 3)) _ n HO5.out (HV.out ▸ hg4))
        have hb4 : Far g gm x W w4 := (((o1.alloc (.cells #[.int .i64 n] 3)).away).grown hg4 (fun b hb => Or.inr (Or.inr (Or.inr (Or.inr (HV.out ▸ hb))))))
        have HB5 := hid (hb4.setCell 6 (.slice A4 ((itg d.sc.cad).length + 1) c4))
        generalize w4.setCell ⟨g, 6, none⟩ (.slice A4 ((itg d.sc.cad).length + 1) c4) = w5 at *
        clear hb4 hg4 c6w f6w HO4 HO5 c61
        go_wp2_with (go_at_call 60; refine (H2.out _ _ TD.out.1).mono ?_; rintro e w6 ⟨o6, rfl, t6⟩; replace o6 := hid o6; replace t6 := hid t6)
        go_end0
        exact DEnds.ok (HB5.out.trans o6.out.away) t6.out (TD.out.2.only TD.out.1 o6.out)
       exact rN
      exact rN
     exact rN
    exact rN
   refine rC rfl (fun K hK => ?_) ?_
   ·
    go_simp
    refine (H1.out W.drew H.out.drew).mono ?_
    rintro e w1 ⟨o1, rfl, t1⟩
    replace o1 := Only.undrew o1
    have c61 := H6.out _ _ t1
    have hg1 := t1.lt
    refine hK _ _ ?_
    clear hK K
    try simp only [Act.put, sS]
    refine tR [5, 8] (by kernel_rfl) rfl ?_
    refine rC rfl (fun K hK => ?_) ?_
    ·
     (go_simp; refine hK _ _ ?_; clear hK K; try simp only [Act.put, sS])
     refine tR [8] (by kernel_rfl) rfl ?_
     refine rC rfl (fun K hK => ?_) ?_
     ·
      (go_simp; refine hK _ _ ?_; clear hK K; try simp only [Act.put, sS])
      refine tR [9] (by kernel_rfl) rfl ?_
      refine rC rfl (fun K hK => ?_) ?_
      ·
       refine step_apg _ (by rfl) (.tmp 7) (.tmp 10) 24 3 (.int .i64 0) 1 8 rfl Tryz.underlying24 info_C rfl (by decide) (g + 1) _ (itg d.sc.cad).length (rcells Itg.cs (itg d.sc.cad)) rfl (HV.out ▸ ((HD.out.only H.out o1).up ((Below.refl w1.heap.size w1).alloc (Nat.le_refl _) _)).q) _ 1 1 [.int .i64 n] rfl ⟨_, shows_C w1 ⟨n⟩ _ rfl⟩ (Itg.cs_one ⟨n⟩) (by simp only [maxLen]; have := HIL.out; omega) (by have := HIL.out; omega) (by have := t1.lt; simp; omega) ?_
       intro v4 w4 ho4 hg4 _
       have HO4 := hid (OwnC.snoc (x := ⟨n⟩) ho4)
       obtain ⟨A4, c4, rfl, hc4, hr4⟩ := HO4.out.form
       clear hr4 hc4 ho4
       have c6w := H6.out w4 _ ((t1.alloc (.cells #[.int .i64 n] 3)).grown hg4 (HV.out ▸ own_gt HD.out.q))
       have f6w := ((t1.alloc (.cells #[.int .i64 n] 3)).grown hg4 (HV.out ▸ own_gt HD.out.q)).fr 6
       refine hK _ _ ?_
       clear hK K
       try simp only [Act.put, sS]
       refine tK 10 ?_ rfl (by kernel_rfl) (fun _ _ _ h => h) (Or.inl ⟨by rfl, fun w => ?_⟩) ?_; rotate_left; (go_simp; try with_reducible rfl)
       try simp only [Act.put, sS]
       refine tK 11 ?_ rfl (by kernel_rfl) (fun _ _ _ h => h) (Or.inl ⟨by rfl, fun w => ?_⟩) ?_; rotate_left; (go_simp; try with_reducible rfl)
       try simp only [Act.put, sS]
       refine tK 12 ?_ rfl (by kernel_rfl) (fun _ _ _ h => h) (Or.inl ⟨by rfl, fun w => ?_⟩) ?_; rotate_left; (go_simp; try with_reducible rfl)
       try simp only [Act.put, sS]
       refine tR [13] (by kernel_rfl) rfl ?_
       refine rC rfl (fun K hK => ?_) ?_
       ·
        (go_simp; refine hK _ _ ?_; clear hK K; try simp only [Act.put, sS])
        refine wpAny_done (by kernel_rfl) ?_ _
        have HO5 : Hid (OwnC w4 (g + 1) (.slice A4 ((itg d.sc.cad).length + 1) c4) (itg d.sc.cad ++ [⟨n⟩])) := by
         have := HO4.out
         rw [List.length_append] at this
         exact this
        have TD := hid (Dr.addq ((HD.out.only H.out o1).up ((Below.refl w1.heap.size w1).alloc (Nat.le_refl _) (.cells #[.int .i64 n] 3))) (t1.alloc (.cells #[.int .i64 n] 3)) _ n HO5.out (HV.out ▸ hg4))
        have hb4 : Far g gm x W w4 := (((o1.alloc (.cells #[.int .i64 n] 3)).away).grown hg4 (fun b hb => Or.inr (Or.inr (Or.inr (Or.inr (HV.out ▸ hb))))))
        have HB5 := hid (hb4.setCell 6 (.slice A4 ((itg d.sc.cad).length + 1) c4))
        generalize w4.setCell ⟨g, 6, none⟩ (.slice A4 ((itg d.sc.cad).length + 1) c4) = w5 at *
        clear hb4 hg4 c6w f6w HO4 HO5 c61
        go_wp2_with (go_at_call 60; refine (H2.out _ _ TD.out.1).mono ?_; rintro e w6 ⟨o6, rfl, t6⟩; replace o6 := hid o6; replace t6 := hid t6)
        go_end0
        exact DEnds.ok (HB5.out.trans o6.out.away) t6.out (TD.out.2.only TD.out.1 o6.out)
       exact rN
      exact rN
     exact rN
    refine rC rfl (fun K hK => ?_) ?_
    ·
     (go_simp; refine hK _ _ ?_; clear hK K; try simp only [Act.put, sS])
     refine tR [5] (by kernel_rfl) rfl ?_
     refine rC rfl (fun K hK => ?_) ?_
     ·
      (go_simp; refine hK _ _ ?_; clear hK K; try simp only [Act.put, sS])
      refine tR [9] (by kernel_rfl) rfl ?_
      refine rC rfl (fun K hK => ?_) ?_
      ·
       refine step_apg _ (by rfl) (.tmp 7) (.tmp 10) 24 3 (.int .i64 0) 1 8 rfl Tryz.underlying24 info_C rfl (by decide) (g + 1) _ (itg d.sc.cad).length (rcells Itg.cs (itg d.sc.cad)) rfl (HV.out ▸ ((HD.out.only H.out o1).up ((Below.refl w1.heap.size w1).alloc (Nat.le_refl _) _)).q) _ 1 1 [.int .i64 n] rfl ⟨_, shows_C w1 ⟨n⟩ _ rfl⟩ (Itg.cs_one ⟨n⟩) (by simp only [maxLen]; have := HIL.out; omega) (by have := HIL.out; omega) (by have := t1.lt; simp; omega) ?_
       intro v4 w4 ho4 hg4 _
       have HO4 := hid (OwnC.snoc (x := ⟨n⟩) ho4)
       obtain ⟨A4, c4, rfl, hc4, hr4⟩ := HO4.out.form
       clear hr4 hc4 ho4
       have c6w := H6.out w4 _ ((t1.alloc (.cells #[.int .i64 n] 3)).grown hg4 (HV.out ▸ own_gt HD.out.q))
       have f6w := ((t1.alloc (.cells #[.int .i64 n] 3)).grown hg4 (HV.out ▸ own_gt HD.out.q)).fr 6
       refine hK _ _ ?_
       clear hK K
       try simp only [Act.put, sS]
       refine tK 10 ?_ rfl (by kernel_rfl) (fun _ _ _ h => h) (Or.inl ⟨by rfl, fun w => ?_⟩) ?_; rotate_left; (go_simp; try with_reducible rfl)
       try simp only [Act.put, sS]
       refine tK 11 ?_ rfl (by kernel_rfl) (fun _ _ _ h => h) (Or.inl ⟨by rfl, fun w => ?_⟩) ?_; rotate_left; (go_simp; try with_reducible rfl)
       try simp only [Act.put, sS]
       refine tK 12 ?_ rfl (by kernel_rfl) (fun _ _ _ h => h) (Or.inl ⟨by rfl, fun w => ?_⟩) ?_; rotate_left; (go_simp; try with_reducible rfl)
       try simp only [Act.put, sS]
       refine tR [13] (by kernel_rfl) rfl ?_
       refine rC rfl (fun K hK => ?_) ?_
       ·
        (go_simp; refine hK _ _ ?_; clear hK K; try simp only [Act.put, sS])
        refine wpAny_done (by kernel_rfl) ?_ _
        have HO5 : Hid (OwnC w4 (g + 1) (.slice A4 ((itg d.sc.cad).length + 1) c4) (itg d.sc.cad ++ [⟨n⟩])) := by
         have := HO4.out
         rw [List.length_append] at this
         exact this
        have TD := hid (Dr.addq ((HD.out.only H.out o1).up ((Below.refl w1.heap.size w1).alloc (Nat.le_refl _) (.cells #[.int .i64 n] 3))) (t1.alloc (.cells #[.int .i64 n] 3)) _ n HO5.out (HV.out ▸ hg4))
        have hb4 : Far g gm x W w4 := (((o1.alloc (.cells #[.int .i64 n] 3)).away).grown hg4 (fun b hb => Or.inr (Or.inr (Or.inr (Or.inr (HV.out ▸ hb))))))
        have HB5 := hid (hb4.setCell 6 (.slice A4 ((itg d.sc.cad).length + 1) c4))
        generalize w4.setCell ⟨g, 6, none⟩ (.slice A4 ((itg d.sc.cad).length + 1) c4) = w5 at *
        clear hb4 hg4 c6w f6w HO4 HO5 c61
        go_wp2_with (go_at_call 60; refine (H2.out _ _ TD.out.1).mono ?_; rintro e w6 ⟨o6, rfl, t6⟩; replace o6 := hid o6; replace t6 := hid t6)
        go_end0
        exact DEnds.ok (HB5.out.trans o6.out.away) t6.out (TD.out.2.only TD.out.1 o6.out)
       exact rN
      exact rN
     exact rN
    exact rN
   exact rN
  have hR : cadR d ts = .err r2 k := by unfold cadR; rw [hq1]; simp only [Rs.bind, hq2]
  rw [hR]
  have H2 := hid fun w x t => want_one w g en x r1 [59] (by decide) _ hq2 t
  clear hq1 hq2 hR hd h hv hil hcl hrd
  go_enter Tryz.func59, Tryz.ntmps59
  go_wp2_with fail
  refine wp_region_any (by kernel_rfl) ?_
  change wpAny _ _ _ _ _ _ _ (World.drew _)
  refine tK 0 ?_ rfl (by kernel_rfl) (fun _ _ _ h => h) (Or.inl ⟨by rfl, fun w => ?_⟩) ?_; rotate_left; (go_simp; try with_reducible rfl)
  try simp only [Act.put, sS]
  refine tK 1 ?_ rfl (by kernel_rfl) (fun _ _ _ h => h) (Or.inl ⟨by rfl, fun w => ?_⟩) ?_; rotate_left; (go_simp; try with_reducible rfl)
  try simp only [Act.put, sS]
  refine tK 2 ?_ rfl (by kernel_rfl) (fun _ _ _ h => h) (Or.inl ⟨by rfl, fun w => ?_⟩) ?_; rotate_left; (go_simp; try with_reducible rfl)
  try simp only [Act.put, sS]
  refine tK 3 ?_ rfl (by kernel_rfl) (fun _ _ _ h => h) (Or.inl ⟨by rfl, fun w => ?_⟩) ?_; rotate_left; (go_simp; try with_reducible rfl)
  try simp only [Act.put, sS]
  refine tK 4 ?_ rfl (by kernel_rfl) (fun _ _ _ h => h) (Or.inl ⟨by rfl, fun w => ?_⟩) ?_; rotate_left; (go_simp; try with_reducible rfl)
  try simp only [Act.put, sS]
  refine tK 6 ?_ rfl (by kernel_rfl) (fun _ _ _ h => h) (Or.inl ⟨by rfl, fun w => ?_⟩) ?_; rotate_left; (go_simp; try with_reducible rfl)
  try simp only [Act.put, sS]
  refine tR [5, 7] (by kernel_rfl) rfl ?_
  refine rC rfl (fun K hK => ?_) ?_
  ·
   (go_simp; refine hK _ _ ?_; clear hK K; try simp only [Act.put, sS])
   refine tR [7] (by kernel_rfl) rfl ?_
   refine rC rfl (fun K hK => ?_) ?_
   ·
    go_simp
    refine (H1.out W.drew H.out.drew).mono ?_
    rintro e w1 ⟨o1, rfl, t1⟩
    replace o1 := Only.undrew o1
    have c61 := H6.out _ _ t1
    have hg1 := t1.lt
    refine hK _ _ ?_
    clear hK K
    try simp only [Act.put, sS]
    refine tR [8] (by kernel_rfl) rfl ?_
    refine rC rfl (fun K hK => ?_) ?_
    ·
     (go_simp; refine hK _ _ ?_; clear hK K; try simp only [Act.put, sS])
     refine tR [9] (by kernel_rfl) rfl ?_
     refine rC rfl (fun K hK => ?_) ?_
     ·
      refine step_apg _ (by rfl) (.tmp 7) (.tmp 10) 24 3 (.int .i64 0) 1 8 rfl Tryz.underlying24 info_C rfl (by decide) (g + 1) _ (itg d.sc.cad).length (rcells Itg.cs (itg d.sc.cad)) rfl (HV.out ▸ ((HD.out.only H.out o1).up ((Below.refl w1.heap.size w1).alloc (Nat.le_refl _) _)).q) _ 1 1 [.int .i64 n] rfl ⟨_, shows_C w1 ⟨n⟩ _ rfl⟩ (Itg.cs_one ⟨n⟩) (by simp only [maxLen]; have := HIL.out; omega) (by have := HIL.out; omega) (by have := t1.lt; simp; omega) ?_
      intro v4 w4 ho4 hg4 _
      have HO4 := hid (OwnC.snoc (x := ⟨n⟩) ho4)
      obtain ⟨A4, c4, rfl, hc4, hr4⟩ := HO4.out.form
      clear hr4 hc4 ho4
      have c6w := H6.out w4 _ ((t1.alloc (.cells #[.int .i64 n] 3)).grown hg4 (HV.out ▸ own_gt HD.out.q))
      have f6w := ((t1.alloc (.cells #[.int .i64 n] 3)).grown hg4 (HV.out ▸ own_gt HD.out.q)).fr 6
      refine hK _ _ ?_
      clear hK K
      try simp only [Act.put, sS]
      refine tK 10 ?_ rfl (by kernel_rfl) (fun _ _ _ h => h) (Or.inl ⟨by rfl, fun w => ?_⟩) ?_; rotate_left; (go_simp; try with_reducible rfl)
      try simp only [Act.put, sS]
      refine tK 11 ?_ rfl (by kernel_rfl) (fun _ _ _ h => h) (Or.inl ⟨by rfl, fun w => ?_⟩) ?_; rotate_left; (go_simp; try with_reducible rfl)
      try simp only [Act.put, sS]
      refine tK 12 ?_ rfl (by kernel_rfl) (fun _ _ _ h => h) (Or.inl ⟨by rfl, fun w => ?_⟩) ?_; rotate_left; (go_simp; try with_reducible rfl)
      try simp only [Act.put, sS]
      refine tR [13] (by kernel_rfl) rfl ?_
      refine rC rfl (fun K hK => ?_) ?_
      ·
       (go_simp; refine hK _ _ ?_; clear hK K; try simp only [Act.put, sS])
       refine wpAny_done (by kernel_rfl) ?_ _
       have HO5 : Hid (OwnC w4 (g + 1) (.slice A4 ((itg d.sc.cad).length + 1) c4) (itg d.sc.cad ++ [⟨n⟩])) := by
        have := HO4.out
        rw [List.length_append] at this
        exact this
       have TD := hid (Dr.addq ((HD.out.only H.out o1).up ((Below.refl w1.heap.size w1).alloc (Nat.le_refl _) (.cells #[.int .i64 n] 3))) (t1.alloc (.cells #[.int .i64 n] 3)) _ n HO5.out (HV.out ▸ hg4))
       have hb4 : Far g gm x W w4 := (((o1.alloc (.cells #[.int .i64 n] 3)).away).grown hg4 (fun b hb => Or.inr (Or.inr (Or.inr (Or.inr (HV.out ▸ hb))))))
       have HB5 := hid (hb4.setCell 6 (.slice A4 ((itg d.sc.cad).length + 1) c4))
       generalize w4.setCell ⟨g, 6, none⟩ (.slice A4 ((itg d.sc.cad).length + 1) c4) = w5 at *
       clear hb4 hg4 c6w f6w HO4 HO5 c61
       go_wp2_with (go_at_call 60; refine (H2.out _ _ TD.out.1).mono ?_; rintro e w6 ⟨o6, rfl⟩; replace o6 := hid o6)
       exact ⟨rfl, DEnds.err (HB5.out.trans o6.out.away)⟩
      exact rN
     exact rN
    exact rN
   exact rN
  refine rC rfl (fun K hK => ?_) ?_
  ·
   go_simp
   refine (H1.out W.drew H.out.drew).mono ?_
   rintro e w1 ⟨o1, rfl, t1⟩
   replace o1 := Only.undrew o1
   have c61 := H6.out _ _ t1
   have hg1 := t1.lt
   refine hK _ _ ?_
   clear hK K
   try simp only [Act.put, sS]
   refine tR [5, 8] (by kernel_rfl) rfl ?_
   refine rC rfl (fun K hK => ?_) ?_
   ·
    (go_simp; refine hK _ _ ?_; clear hK K; try simp only [Act.put, sS])
    refine tR [8] (by kernel_rfl) rfl ?_
    refine rC rfl (fun K hK => ?_) ?_
    ·
     (go_simp; refine hK _ _ ?_; clear hK K; try simp only [Act.put, sS])
     refine tR [9] (by kernel_rfl) rfl ?_
     refine rC rfl (fun K hK => ?_) ?_
     ·
      refine step_apg _ (by rfl) (.tmp 7) (.tmp 10) 24 3 (.int .i64 0) 1 8 rfl Tryz.underlying24 info_C rfl (by decide) (g + 1) _ (itg d.sc.cad).length (rcells Itg.cs (itg d.sc.cad)) rfl (HV.out ▸ ((HD.out.only H.out o1).up ((Below.refl w1.heap.size w1).alloc (Nat.le_refl _) _)).q) _ 1 1 [.int .i64 n] rfl ⟨_, shows_C w1 ⟨n⟩ _ rfl⟩ (Itg.cs_one ⟨n⟩) (by simp only [maxLen]; have := HIL.out; omega) (by have := HIL.out; omega) (by have := t1.lt; simp; omega) ?_
      intro v4 w4 ho4 hg4 _
      have HO4 := hid (OwnC.snoc (x := ⟨n⟩) ho4)
      obtain ⟨A4, c4, rfl, hc4, hr4⟩ := HO4.out.form
      clear hr4 hc4 ho4
      have c6w := H6.out w4 _ ((t1.alloc (.cells #[.int .i64 n] 3)).grown hg4 (HV.out ▸ own_gt HD.out.q))
      have f6w := ((t1.alloc (.cells #[.int .i64 n] 3)).grown hg4 (HV.out ▸ own_gt HD.out.q)).fr 6
      refine hK _ _ ?_
      clear hK K
      try simp only [Act.put, sS]
      refine tK 10 ?_ rfl (by kernel_rfl) (fun _ _ _ h => h) (Or.inl ⟨by rfl, fun w => ?_⟩) ?_; rotate_left; (go_simp; try with_reducible rfl)
      try simp only [Act.put, sS]
      refine tK 11 ?_ rfl (by kernel_rfl) (fun _ _ _ h => h) (Or.inl ⟨by rfl, fun w => ?_⟩) ?_; rotate_left; (go_simp; try with_reducible rfl)
      try simp only [Act.put, sS]
      refine tK 12 ?_ rfl (by kernel_rfl) (fun _ _ _ h => h) (Or.inl ⟨by rfl, fun w => ?_⟩) ?_; rotate_left; (go_simp; try with_reducible rfl)
      try simp only [Act.put, sS]
      refine tR [13] (by kernel_rfl) rfl ?_
      refine rC rfl (fun K hK => ?_) ?_
      ·
       (go_simp; refine hK _ _ ?_; clear hK K; try simp only [Act.put, sS])
       refine wpAny_done (by kernel_rfl) ?_ _
       have HO5 : Hid (OwnC w4 (g + 1) (.slice A4 ((itg d.sc.cad).length + 1) c4) (itg d.sc.cad ++ [⟨n⟩])) := by
        have := HO4.out
        rw [List.length_append] at this
        exact this
       have TD := hid (Dr.addq ((HD.out.only H.out o1).up ((Below.refl w1.heap.size w1).alloc (Nat.le_refl _) (.cells #[.int .i64 n] 3))) (t1.alloc (.cells #[.int .i64 n] 3)) _ n HO5.out (HV.out ▸ hg4))
       have hb4 : Far g gm x W w4 := (((o1.alloc (.cells #[.int .i64 n] 3)).away).grown hg4 (fun b hb => Or.inr (Or.inr (Or.inr (Or.inr (HV.out ▸ hb))))))
       have HB5 := hid (hb4.setCell 6 (.slice A4 ((itg d.sc.cad).length + 1) c4))
       generalize w4.setCell ⟨g, 6, none⟩ (.slice A4 ((itg d.sc.cad).length + 1) c4) = w5 at *
       clear hb4 hg4 c6w f6w HO4 HO5 c61
       go_wp2_with (go_at_call 60; refine (H2.out _ _ TD.out.1).mono ?_; rintro e w6 ⟨o6, rfl⟩; replace o6 := hid o6)
       exact ⟨rfl, DEnds.err (HB5.out.trans o6.out.away)⟩
      exact rN
     exact rN
    exact rN
   refine rC rfl (fun K hK => ?_) ?_
   ·
    (go_simp; refine hK _ _ ?_; clear hK K; try simp only [Act.put, sS])
    refine tR [5] (by kernel_rfl) rfl ?_
    refine rC rfl (fun K hK => ?_) ?_
    ·
     (go_simp; refine hK _ _ ?_; clear hK K; try simp only [Act.put, sS])
     refine tR [9] (by kernel_rfl) rfl ?_
     refine rC rfl (fun K hK => ?_) ?_
     ·
      refine step_apg _ (by rfl) (.tmp 7) (.tmp 10) 24 3 (.int .i64 0) 1 8 rfl Tryz.underlying24 info_C rfl (by decide) (g + 1) _ (itg d.sc.cad).length (rcells Itg.cs (itg d.sc.cad)) rfl (HV.out ▸ ((HD.out.only H.out o1).up ((Below.refl w1.heap.size w1).alloc (Nat.le_refl _) _)).q) _ 1 1 [.int .i64 n] rfl ⟨_, shows_C w1 ⟨n⟩ _ rfl⟩ (Itg.cs_one ⟨n⟩) (by simp only [maxLen]; have := HIL.out; omega) (by have := HIL.out; omega) (by have := t1.lt; simp; omega) ?_
      intro v4 w4 ho4 hg4 _
      have HO4 := hid (OwnC.snoc (x := ⟨n⟩) ho4)
      obtain ⟨A4, c4, rfl, hc4, hr4⟩ := HO4.out.form
      clear hr4 hc4 ho4
      have c6w := H6.out w4 _ ((t1.alloc (.cells #[.int .i64 n] 3)).grown hg4 (HV.out ▸ own_gt HD.out.q))
      have f6w := ((t1.alloc (.cells #[.int .i64 n] 3)).grown hg4 (HV.out ▸ own_gt HD.out.q)).fr 6
      refine hK _ _ ?_
      clear hK K
      try simp only [Act.put, sS]
      refine tK 10 ?_ rfl (by kernel_rfl) (fun _ _ _ h => h) (Or.inl ⟨by rfl, fun w => ?_⟩) ?_; rotate_left; (go_simp; try with_reducible rfl)
      try simp only [Act.put, sS]
      refine tK 11 ?_ rfl (by kernel_rfl) (fun _ _ _ h => h) (Or.inl ⟨by rfl, fun w => ?_⟩) ?_; rotate_left; (go_simp; try with_reducible rfl)
      try simp only [Act.put, sS]
      refine tK 12 ?_ rfl (by kernel_rfl) (fun _ _ _ h => h) (Or.inl ⟨by rfl, fun w => ?_⟩) ?_; rotate_left; (go_simp; try with_reducible rfl)
      try simp only [Act.put, sS]
      refine tR [13] (by kernel_rfl) rfl ?_
      refine rC rfl (fun K hK => ?_) ?_
      ·
       (go_simp; refine hK _ _ ?_; clear hK K; try simp only [Act.put, sS])
       refine wpAny_done (by kernel_rfl) ?_ _
       have HO5 : Hid (OwnC w4 (g + 1) (.slice A4 ((itg d.sc.cad).length + 1) c4) (itg d.sc.cad ++ [⟨n⟩])) := by
        have := HO4.out
        rw [List.length_append] at this
        exact this
       have TD := hid (Dr.addq ((HD.out.only H.out o1).up ((Below.refl w1.heap.size w1).alloc (Nat.le_refl _) (.cells #[.int .i64 n] 3))) (t1.alloc (.cells #[.int .i64 n] 3)) _ n HO5.out (HV.out ▸ hg4))
       have hb4 : Far g gm x W w4 := (((o1.alloc (.cells #[.int .i64 n] 3)).away).grown hg4 (fun b hb => Or.inr (Or.inr (Or.inr (Or.inr (HV.out ▸ hb))))))
       have HB5 := hid (hb4.setCell 6 (.slice A4 ((itg d.sc.cad).length + 1) c4))
       generalize w4.setCell ⟨g, 6, none⟩ (.slice A4 ((itg d.sc.cad).length + 1) c4) = w5 at *
       clear hb4 hg4 c6w f6w HO4 HO5 c61
       go_wp2_with (go_at_call 60; refine (H2.out _ _ TD.out.1).mono ?_; rintro e w6 ⟨o6, rfl⟩; replace o6 := hid o6)
       exact ⟨rfl, DEnds.err (HB5.out.trans o6.out.away)⟩
      exact rN
     exact rN
    exact rN
   exact rN
  exact rN
 have hR : cadR d ts = .err r1 k := by unfold cadR; rw [hq1]; rfl
 rw [hR]
 have H1 := hid fun w t => number_one w g en x ts _ hq1 t
 have c6 := h.c6
 clear hq1 hR hd h
 go_enter Tryz.func59, Tryz.ntmps59
 go_wp2_with fail
 refine wp_region_any (by kernel_rfl) ?_
 change wpAny _ _ _ _ _ _ _ (World.drew _)
 refine tK 0 ?_ rfl (by kernel_rfl) (fun _ _ _ h => h) (Or.inl ⟨by rfl, fun w => ?_⟩) ?_; rotate_left; (go_simp; try with_reducible rfl)
 try simp only [Act.put, sS]
 refine tK 1 ?_ rfl (by kernel_rfl) (fun _ _ _ h => h) (Or.inl ⟨by rfl, fun w => ?_⟩) ?_; rotate_left; (go_simp; try with_reducible rfl)
 try simp only [Act.put, sS]
 refine tK 2 ?_ rfl (by kernel_rfl) (fun _ _ _ h => h) (Or.inl ⟨by rfl, fun w => ?_⟩) ?_; rotate_left; (go_simp; try with_reducible rfl)
 try simp only [Act.put, sS]
 refine tK 3 ?_ rfl (by kernel_rfl) (fun _ _ _ h => h) (Or.inl ⟨by rfl, fun w => ?_⟩) ?_; rotate_left; (go_simp; try with_reducible rfl)
 try simp only [Act.put, sS]
 refine tK 4 ?_ rfl (by kernel_rfl) (fun _ _ _ h => h) (Or.inl ⟨by rfl, fun w => ?_⟩) ?_; rotate_left; (go_simp; try with_reducible rfl)
 try simp only [Act.put, sS]
 refine tK 6 ?_ rfl (by kernel_rfl) (fun _ _ _ h => h) (Or.inl ⟨by rfl, fun w => ?_⟩) ?_; rotate_left; (go_simp; try with_reducible rfl)
 try simp only [Act.put, sS]
 refine tR [5, 7] (by kernel_rfl) rfl ?_
 refine rC rfl (fun K hK => ?_) ?_
 ·
  (go_simp; refine hK _ _ ?_; clear hK K; try simp only [Act.put, sS])
  refine tR [7] (by kernel_rfl) rfl ?_
  refine rC rfl (fun K hK => ?_) ?_
  ·
   go_simp
   refine (H1.out W.drew H.out.drew).mono ?_
   rintro e w1 ⟨o1, rfl⟩
   exact ⟨rfl, DEnds.err (Only.undrew o1).away⟩
  exact rN
 refine rC rfl (fun K hK => ?_) ?_
 ·
  go_simp
  refine (H1.out W.drew H.out.drew).mono ?_
  rintro e w1 ⟨o1, rfl⟩
  exact ⟨rfl, DEnds.err (Only.undrew o1).away⟩
 exact rN
end Go.Proofs.YtcjhihmaegagdaaGreatDoor
