/- Texts of the Notation chapter, together: Wf. -/
import Derived.Test.YtcjhihmaegagdaaGreatDoorG1
import Derived.Test.YtcjhihmaegagdaaGreatDoorG8
import Derived.Test.YtcjhihmaegagdaaGreatDoorG3
import Derived.Test.YtcjhihmaegagdaaGreatDoorH5
import Derived.Test.YtcjhihmaegagdaaGreatDoorH6
import Derived.Test.YtcjhihmaegagdaaGreatDoorG2
set_option maxRecDepth 100000
set_option maxHeartbeats 8000000
set_option linter.unusedSimpArgs false
set_option linter.unusedVariables false
set_option linter.unusedSectionVars false
set_option linter.unnecessarySimpa false
namespace Go.Proofs.YtcjhihmaegagdaaGreatDoor
open Go.RowKit Go.Deep
theorem yj {P : Program} {fn : Func} {t u x : Tmp} {ty : TypeId} (hf : fn.results = #[.cell t ty, .tmp u, .tmp x]) (tmps : Array Value) (a : Addr) (ht : tmps.getD t undef = .pointer (some a)) (d : TypeDesc) (hu : P.underlying ty = some d) (hd : (match d with | .struct _ | .array _ _ => true | _ => false) = true) (w : World) (cs : Array Value) (hi : (P.info? ty).map (·.size) = some cs.size)
 (h : ∀ j v, cs.toList[j]? = some v → w.cell? (a.add j) = some v) : (results fn tmps).run P w = .ok (.tuple #[.agg cs, tmps.getD u undef, tmps.getD x undef]) w := by
 have := qS ty d hu hd w a cs hi h;rw [Array.getD_eq_getD_getElem?] at ht;simp [results, hf, ht, asAddr, this]
def xq (w : World) (v : Value) (s : Scr) : Prop := kU w w.heap.size v s
theorem zCO (w : World) : xq w (.agg #[.int .i64 0, .slice none 0 0, .slice none 0 0, .slice none 0 0]) jB :=
 ⟨⟨none, 0, none, 0, none, 0, rfl, RdN.nil _ _ _, RdP.nil _ _ _, RdC.nil _ _ _⟩, Nat.le_refl _, by simp [jB], by simp [jB], by simp [jB]⟩
theorem xq.up {w w' : World} {v : Value} {s : Scr} (h : xq w v s) (b : Below w.heap.size w w') : xq w' v s := by
 obtain ⟨An, cn, Ap, cp, Aq, cq, e, h1, h2, h3⟩ := h.ex;exact ⟨⟨An, cn, Ap, cp, Aq, cq, e, (h1.below b).wider b.size, (h2.below b).wider b.size, (h3.below b).wider b.size⟩, Nat.le_refl _, h.ln, h.lp, h.lc⟩
def zH5 (w : World) (s : List UInt8) (e : Ending) (w' : World) : Prop := Below w.heap.size w w' ∧ ∃ v, e = .returned (.tuple #[v, .int .i64 (y6 s : Nat), .int .i64 (yx s : Nat)]) ∧ xq w' v (yV s)
theorem zCR {v : Vc} (h : v.most 9999999) : v.small 1000000000000 := by unfold Vc.most at h; unfold Vc.small; omega
def zCU (w : World) (B : Nat) (v : Value) (s : Scr) : Prop := ∃ un up uq, v = .agg #[.int .i64 s.voices, un, up, uq] ∧ ShN w B un s.notes ∧ ShP w B up s.pairs ∧ ShC w B uq s.cad ∧ s.notes.length ≤ 8000 ∧ s.pairs.length ≤ 8000 ∧ s.cad.length ≤ 8000
theorem zCU.v {w : World} {B : Nat} {v : Value} {s : Scr} (h : zCU w B v s) : xq w v s := by
 obtain ⟨un, up, uq, rfl, ⟨An, cn, rfl, -, r1, -⟩, ⟨Ap, cp, rfl, -, r2, -⟩, ⟨Aq, cq, rfl, -, r3, -⟩, h1, h2, h3⟩ := h;exact ⟨⟨An, cn, Ap, cp, Aq, cq, rfl, r1, r2, r3⟩, Nat.le_refl _, by omega, by omega, by omega⟩
theorem zCU.grown {w w' : World} {B : Nat} {v : Value} {s : Scr} (h : zCU w B v s) {r : Option Nat} (hg : w.grownBy w' r) (hr : ∀ y, r = some y → y < B) : zCU w' B v s := by
 obtain ⟨un, up, uq, rfl, ⟨An, cn, rfl, c1, r1, l1⟩, ⟨Ap, cp, rfl, c2, r2, l2⟩, ⟨Aq, cq, rfl, c3, r3, l3⟩, h1, h2, h3⟩ := h;exact ⟨_, _, _, rfl, ⟨An, cn, rfl, c1, (zQ.kept r1 (Nat.le_refl _) l1 hg hr).wider hg.size, l1⟩, ⟨Ap, cp, rfl, c2, (zQ.kept r2 (Nat.le_refl _) l2 hg hr).wider hg.size, l2⟩, ⟨Aq, cq, rfl, c3, (zQ.kept r3 (Nat.le_refl _) l3 hg hr).wider hg.size, l3⟩, h1, h2, h3⟩
theorem zCU.up {w w' : World} {B : Nat} {v : Value} {s : Scr} (h : zCU w B v s) (b : Below w.heap.size w w') : zCU w' B v s := h.grown (xm b none) (fun y e => by cases e)
theorem zH0 {w : World} {B : Nat} {V : Int} {un up uq : Value} {l : List Nte} {ps : List Par} {cs : List Int} (h1 : ShN w B un (vd l)) (h2 : ShP w B up (yz l ps)) (h3 : ShC w B uq (vg cs)) (hl : l.length ≤ 8000) (hp : ps.length ≤ 8000) (hc : cs.length ≤ 8000) :
 zCU w B (.agg #[.int .i64 V, un, up, uq]) (vi ⟨V, l, ps, cs⟩) := by
 refine ⟨un, up, uq, rfl, h1, h2, h3, ?_, ?_, ?_⟩
 · show (vd l).length ≤ _;rw [qO]; omega
 · show (yz l ps).length ≤ _;unfold yz;rw [jT, List.length_map]; omega
 show (vg cs).length ≤ _;rw [show (vg cs).length = cs.length from (kg (lt := fun a b : Int => decide (a < b)) cs).length_eq]; omega
theorem zEt (W : World) (s : List UInt8) (hs : s.length ≤ 4611686018427387904) (hM : qr W) (hP : yJ W) :
 Calls Tryz.prog 15 #[str s] W (zH5 W s) := by
 have HM := hid hM;have HP := hid hP;have HLX := hid (fun w => zE4 w s (by omega));have hsz : (⟨s.toArray⟩ : ByteArray).size = s.length := by simp [ByteArray.size]
 have HSZ := hid hsz;obtain ⟨W1, hW1⟩ : ∃ W1, W1 = W.alloc (.cells #[.int .i64 0, .slice none 0 0, .slice none 0 0, .slice none 0 0] 26) := ⟨_, rfl⟩
 have R0 := hid (Blk.new W 26 #[.int .i64 0, .slice none 0 0, .slice none 0 0, .slice none 0 0]);have B0 := hid ((Below.refl W.heap.size W).alloc (Nat.le_refl _) (.cells #[.int .i64 0, .slice none 0 0, .slice none 0 0, .slice none 0 0] 26));rw [← hW1] at R0 B0;clear hM hP hsz;go_enter Tryz.func15, Tryz.ntmps15
 go_upto_region 1 with (fail)
 rw [← hW1];clear hW1;go_upto_region 2 with (go_at_call 12; refine (HLX.out _).mono ?_; rintro e w2 ⟨b2, A, c, rfl, hr2, hc2⟩; replace b2 := hid b2; replace hr2 := hid hr2; replace hc2 := hid hc2)
 have RR := hid (R0.out.below b2.out R0.out.lt);have BB := hid (zB B0.out b2.out);obtain ⟨E, hE⟩ : ∃ E, E = kP s := ⟨_, rfl⟩
 rw [← hE];by_cases h0 : E = 0;rotate_left
 ·
  have HF : Hid (y6 s = zBc s ∧ yx s = E ∧ yV s = jB) := by
   exact zOb
  have h0b : ((E : Int) == 0) = false := by simpa using h0
  clear hE h0;go_wp2_with (refine xJ 26 #[.int .i64 0, .slice none 0 0, .slice none 0 0, .slice none 0 0] RR.out yy (by simp [Value.oneCell']) ?_; intro w9 b9 g9 z9; try simp only [Act.put, sS])
  (try simp only [Exit.inBlock, Exit.then]);exact m89
 subst h0;have HE := hid hE;clear hE;obtain ⟨ts, hts⟩ : ∃ ts, ts = jG s := ⟨_, rfl⟩
 rw [← hts] at hr2 hc2 ⊢;have HTS := hid hts;clear hts;have hmm : ∀ w : World, (Instr.makeMap 66 none).run Tryz.prog w = .ok (.map (some w.heap.size)) (w.alloc (.map #[] 0)) := fun w => run_makeMap_plain w _
 go_upto_region 5 with (fail)
 clear hmm
 have TT : Hid (zU ((w2.alloc (.map #[] 0)).alloc (.cells #[.slice A ts.length c, .int .i64 s.length, .map (some w2.heap.size), .int .i64 0, .slice none 0 0, .slice none 0 0, .slice none 0 0] 68)) (w2.heap.size + 1) s.length ⟨.map (some w2.heap.size), .int .i64 0, .slice none 0 0, .slice none 0 0, .slice none 0 0⟩ ts) := by
  refine hid ⟨A, c, ?_, ?_, hc2.out⟩
  · have := Blk.new (w2.alloc (.map #[] 0)) 68 #[.slice A ts.length c, .int .i64 s.length, .map (some w2.heap.size), .int .i64 0, .slice none 0 0, .slice none 0 0, .slice none 0 0];rw [show (w2.alloc (.map #[] 0)).heap.size = w2.heap.size + 1 by simp] at this;exact this
  exact (hr2.out.alloc (Nat.le_refl _) _).alloc (by simp) _
 have DD : Hid (Dr ((w2.alloc (.map #[] 0)).alloc (.cells #[.slice A ts.length c, .int .i64 s.length, .map (some w2.heap.size), .int .i64 0, .slice none 0 0, .slice none 0 0, .slice none 0 0] 68)) (w2.heap.size + 1) w2.heap.size ⟨jB, []⟩ ⟨.map (some w2.heap.size), .int .i64 0, .slice none 0 0, .slice none 0 0, .slice none 0 0⟩) := by
  (have nm : xk (w2.alloc (.map #[] 0)) w2.heap.size [] := ⟨World.ownsMap_made _ _ _ _, List.nodup_nil⟩);exact hid ⟨rfl, rfl, yY.start _ _, zn.start _ _, yO.start _ _, nm.up ((Below.refl _ _).alloc (Nat.le_refl _) _), rfl, by omega, by omega⟩
 have B4 := hid (((Below.refl w2.heap.size w2).alloc (Nat.le_refl _) (.map #[] 0)).alloc (by simp) (.cells #[.slice A ts.length c, .int .i64 s.length, .map (some w2.heap.size), .int .i64 0, .slice none 0 0, .slice none 0 0, .slice none 0 0] 68));obtain ⟨w4, hw4⟩ : ∃ w4, w4 = ((w2.alloc (.map #[] 0)).alloc (.cells #[.slice A ts.length c, .int .i64 s.length, .map (some w2.heap.size), .int .i64 0, .slice none 0 0, .slice none 0 0, .slice none 0 0] 68)) := ⟨_, rfl⟩
 rw [← hw4] at TT DD B4 ⊢;clear hw4;have BB4 := hid (zB BB.out B4.out);have R4 := hid (RR.out.below B4.out RR.out.lt);have hpl : 3 < W.heap.size := World.block_lt_of_cell? W _ (HP.out 0 (by omega));have hW2 := BB.out.size;have HW2 : Hid (W.heap.size < w2.heap.size) := hid RR.out.lt;have hw2 := HW2.out;have HRD := hid (zJX w4 (w2.heap.size + 1) w2.heap.size s.length _ ts TT.out DD.out (by rw [HTS.out]; exact jj s) (HM.out.below BB4.out) (HP.out.below BB4.out) (by omega) (by rw [HTS.out]; exact kz s));have H4S := hid TT.out.lt;clear hpl hW2 hw2 HLX B0 R0 TT DD BB RR B4 hr2 hc2 b2;rcases hq : vZ ts with ⟨d, r⟩ | ⟨r, k⟩;rotate_left
 ·
  rw [hq] at HRD;have hk := zFm _ _ _ hq
  have HF : Hid (y6 s = qK s.length r ∧ yx s = k ∧ yV s = jB) := by
   unfold y6 yx yV;rw [if_neg (by rw [← HE.out]; decide), if_neg (by rw [← HE.out]; decide), if_neg (by rw [← HE.out]; decide), ← HTS.out, hq];exact hid ⟨rfl, rfl, rfl⟩
  have hkb : ((k : Int) == 0) = false := by simpa using hk
  clear hk hq;go_upto_region 6 with (go_at_call 32; refine HRD.out.mono ?_; rintro e w5 ⟨b5, rfl⟩; replace b5 := hid b5)
  have W5 : Hid (Below W.heap.size W w5) := hid (BB4.out.trans (b5.out.mono (by have := HW2.out; omega)));have R5 : Hid (Blk w5 W.heap.size 26 #[.int .i64 0, .slice none 0 0, .slice none 0 0, .slice none 0 0]) := hid (R4.out.below b5.out (by have := HW2.out; omega));have H5S : Hid (W.heap.size < w5.heap.size) := hid R5.out.lt;obtain ⟨o, ho⟩ : ∃ o, o = qK s.length r := ⟨_, rfl⟩
  rw [← ho] at HF ⊢;clear ho HRD R4 BB4 b5 H4S;go_upto_region 7 with (fail)
  have F6 : Hid ((w5.alloc (.cells #[.int .i64 (o : Int), .int .i64 (k : Int)] 70)).cell? ⟨w5.heap.size, 0, none⟩ = some (.int .i64 (o : Int)) ∧ (w5.alloc (.cells #[.int .i64 (o : Int), .int .i64 (k : Int)] 70)).cell? ⟨w5.heap.size, 1, none⟩ = some (.int .i64 (k : Int))) := hid ⟨(Blk.new w5 _ _).cell 0, (Blk.new w5 _ _).cell 1⟩;refine jF (fun w' => w'.cell? ⟨w5.heap.size, 0, none⟩ = some (.int .i64 (o : Int)) ∧ w'.cell? ⟨w5.heap.size, 1, none⟩ = some (.int .i64 (k : Int))) F6.out fun hHeld => ?_
  refine zJ 0 ?_;refine zJ 1 ?_;refine zJ 2 ?_ (hy := Or.inl ⟨by rfl, fun w hSw => by obtain ⟨q0, q1⟩ := hSw; go_simp; try with_reducible rfl⟩);refine zJ 3 ?_;refine zJ 4 ?_ (hy := Or.inl ⟨by rfl, fun w hSw => by obtain ⟨q0, q1⟩ := hSw; go_simp; try with_reducible rfl⟩);refine yL 5 ?_;intro K hK;have R6 := hid (R5.out.alloc (.cells #[.int .i64 (o : Int), .int .i64 (k : Int)] 70));refine jV 26 #[.int .i64 0, .slice none 0 0, .slice none 0 0, .slice none 0 0] R6.out yy (by simp [Value.oneCell']) ?_;intro w9 b9 g9 z9;have q9 : w9.cell? ⟨w5.heap.size, 0, none⟩ = some (.int .i64 (o : Int)) ∧ w9.cell? ⟨w5.heap.size, 1, none⟩ = some (.int .i64 (k : Int)) := ⟨(World.cell?_of_block (a := ⟨w5.heap.size, 0, none⟩) (g9.block w5.heap.size (by simp) (fun e => by injection e with e; have := H5S.out; omega))).trans F6.out.1, (World.cell?_of_block (a := ⟨w5.heap.size, 1, none⟩) (g9.block w5.heap.size (by simp) (fun e => by injection e with e; have := H5S.out; omega))).trans F6.out.2⟩
  refine zq hK q9 fun hHeld => ?_
  clear hK K;refine zJ 6 ?_;refine zJ 7 ?_;refine jc ?_;go_wp2_with fail
  (try simp only [Exit.inBlock, Exit.then]);refine bodyPost_ret (yj rfl _ ⟨W.heap.size, 0, none⟩ rfl _ Tryz.underlying26 rfl _ #[.int .i64 0, .slice none 0 0, .slice none 0 0, .slice none 0 0] yy (zO b9)) rfl ?_;have g := HF.out;have b6 := W5.out.alloc (Nat.le_trans (Nat.le_of_lt H5S.out) (Nat.le_refl _)) (.cells #[.int .i64 (o : Int), .int .i64 (k : Int)] 70);refine ⟨Below.grown (w := w5.alloc (.cells #[.int .i64 (o : Int), .int .i64 (k : Int)] 70)) b6 ⟨g9.os, g9.tape, g9.output, g9.size, g9.block⟩ b6.size (fun y e => by injection e with e; omega), _, by rw [g.1, g.2.1]; rfl, ?_⟩;rw [g.2.2];exact zCO _
 rw [hq] at HRD;have hend := zEe _ _ _ hq;obtain ⟨hfine, hcnt⟩ := zDp (fun t ht => by rw [HTS.out] at ht; exact (jj s t ht).1) (by rw [HTS.out]; exact kz s) hq;obtain ⟨S, hS⟩ : ∃ S, S = vi d.sc := ⟨_, rfl⟩
 have HF : Hid (∀ b, b = xd S → (if b = true then y6 s = 0 ∧ yx s = 0 ∧ yV s = S else y6 s = s.length ∧ yx s = 1 ∧ yV s = jB)) := by
  (refine hid fun b hb => ?_);(have hne : ¬ (kP s ≠ 0) := by rw [← HE.out]; decide);unfold y6 yx yV;simp only [if_neg hne, ← HTS.out, hq, ← hS, ← hb];cases b
  · exact ⟨rfl, rfl, rfl⟩
  exact ⟨rfl, rfl, rfl⟩
 have HFI := hid hfine;have HCN := hid hcnt;have HSS := hid hS;clear hfine hcnt hS hq hend;go_upto_region 6 with (go_at_call 32; refine HRD.out.mono ?_; rintro e w5 ⟨b5, rfl, x, t5, d5⟩; replace b5 := hid b5; replace t5 := hid t5; replace d5 := hid d5)
 have W5 : Hid (Below W.heap.size W w5) := hid (BB4.out.trans (b5.out.mono (by have := HW2.out; omega)));have R5 : Hid (Blk w5 W.heap.size 26 #[.int .i64 0, .slice none 0 0, .slice none 0 0, .slice none 0 0]) := hid (R4.out.below b5.out (by have := HW2.out; omega));clear HRD R4 BB4 b5 H4S;obtain ⟨A5, c5, k5, -, -⟩ := t5.out;rw [d5.out.v] at k5;obtain ⟨An, cn, hn, -, -⟩ := d5.out.n.form;obtain ⟨Ap, cp, hp, -, -⟩ := d5.out.p.form;obtain ⟨Aq, cq, hq, -, -⟩ := d5.out.q.form;have D5 := d5.out;have N5 := D5.n;have P5 := D5.p;have Q5 := D5.q;rw [hn] at N5 k5;rw [hp] at P5 k5;rw [hq] at Q5 k5;obtain ⟨V, hV⟩ : ∃ V, V = d.sc.voices := ⟨_, rfl⟩
 obtain ⟨l, hl⟩ : ∃ l, l = d.sc.notes := ⟨_, rfl⟩
 obtain ⟨ps, hps⟩ : ∃ ps, ps = d.sc.pairs := ⟨_, rfl⟩
 obtain ⟨cs, hcs⟩ : ∃ cs, cs = d.sc.cad := ⟨_, rfl⟩
 have hA : S = vi ⟨V, l, ps, cs⟩ := by rw [HSS.out, hV, hl, hps, hcs]
 have hix : ∀ p ∈ ps, 0 ≤ p.a ∧ p.a < l.length ∧ 0 ≤ p.b ∧ p.b < l.length ∧ p.wish.small 1000000000000 := fun p hpm => by
  rw [hps] at hpm;obtain ⟨a1, a2, a3, a4, a5⟩ := HFI.out.p p hpm;rw [hl];exact ⟨a1, a2, a3, a4, zCR a5⟩
 have hcnt := HCN.out;simp only [Drf.cnt, ← hl, ← hps, ← hcs] at hcnt;rw [← hV, ← hl, ← hps] at k5;rw [← hl] at N5;rw [← hps] at P5;rw [← hcs] at Q5 k5;have Z5 : Hid (Below w5.heap.size w5 (w5.alloc (.cells #[.int .i64 0, .int .i64 0] 70))) := hid ((Below.refl w5.heap.size w5).alloc (Nat.le_refl _) _);have k6 := hid (k5.below Z5.out k5.lt);have N6 := hid (N5.on Z5.out);have P6 := hid (P5.on Z5.out);have Q6 := hid (Q5.on Z5.out);have W6 := hid (zB W5.out Z5.out);have R6 := hid (R5.out.below Z5.out R5.out.lt);have HA := hid hA;have HIX := hid hix;have HCT := hid hcnt;clear hV hl hps hcs hn hp hq hA hix hcnt D5 N5 P5 Q5 k5 W5 R5 Z5 t5 d5 HFI HCN HSS;go_upto_region 8 with (fail)
 generalize w5.alloc (.cells #[.int .i64 0, .int .i64 0] 70) = w6 at k6 N6 P6 Q6 W6 R6 ⊢;have g3 := k6.out.cell 3;have g4 := k6.out.cell 4;have g5 := k6.out.cell 5;have g6 := k6.out.cell 6;have HAR := hid (zF1 w6 (w2.heap.size + 1 + 1) V _ _ _ l ps cs N6.out P6.out Q6.out (by have := HCT.out; omega) (by have := HCT.out; omega) (by have := HCT.out; omega) (by have := k6.out.lt; omega) HIX.out);have HW6 : Hid (W.heap.size < w2.heap.size + 1 + 1) := hid (by have := HW2.out; omega);clear N6 P6 Q6 HIX HW2;go_upto_region 9 with (first | (go_at_call 33; refine HAR.out.mono ?_; rintro e w7 ⟨un, up, uq, rfl, hun, hup, huq, b7⟩; have hSc := zH0 (V := V) hun hup huq (by have := HCT.out; omega) (by have := HCT.out; omega) (by have := HCT.out; omega); obtain ⟨Bn, dn, rfl, -, -, -⟩ := hun; obtain ⟨Bp, dp, rfl, -, -, -⟩ := hup; obtain ⟨Bq, dq, rfl, -, -, -⟩ := huq; replace b7 := hid b7; replace hSc := hid hSc) | (refine zI rfl 26 (.tmp 10) (.tmp 42) rfl w7.heap.size #[.int .i64 V, .slice Bn (vd l).length dn, .slice Bp (yz l ps).length dp, .slice Bq (vg cs).length dq] rfl rfl 26 #[.int .i64 0, .slice none 0 0, .slice none 0 0, .slice none 0 0] (Blk.new w7 _ _) yy rfl (by simp [Value.oneCell']) ?_; intro w8 b8 g8 z8; replace b8 := hid b8; replace g8 := hid g8; replace z8 := hid z8; try simp only [Act.put, sS]))
 have W7 : Hid (Below W.heap.size W w7) := hid (W6.out.trans (b7.out.mono (by have := HW6.out; omega)));have R7 : Hid (Blk w7 W.heap.size 26 #[.int .i64 0, .slice none 0 0, .slice none 0 0, .slice none 0 0]) := hid (R6.out.below b7.out HW6.out);have B8 : Hid (Below w7.heap.size w7 w8) := hid (((Below.refl _ _).alloc (Nat.le_refl _) _).grown g8.out (by simp) (fun b e => by injection e with e; omega));have W8 := hid (zB W7.out B8.out);have R8 := hid (R7.out.below B8.out R7.out.lt);have S8 := hid (hSc.out.up B8.out);rw [← HA.out] at S8;have e0 := b8.out.cell 0;have e1 := b8.out.cell 1;have e2 := b8.out.cell 2;have e3 := b8.out.cell 3;have HV := hid (zEC w8 w8.heap.size _ S S8.out.v);clear HAR k6 g3 g4 g5 g6 W6 R6 W7 R7 B8 hSc b7 g8 z8 HA;rcases hv : xd S with _ | _
 ·
  rw [hv] at HV;have HG := hid (HF.out false hv.symm);simp only [Bool.false_eq_true, if_false] at HG;clear hv HF;go_upto_region 10 with (go_at_call 34; refine HV.out.mono ?_; rintro e w9 ⟨rfl, b9⟩; replace b9 := hid b9)
  have W9 := hid (zB W8.out b9.out);have RR := hid (R8.out.below b9.out R8.out.lt);clear W8 R8 b9 e0 e1 e2 e3 b8;go_wp2_with (refine xJ 26 #[.int .i64 0, .slice none 0 0, .slice none 0 0, .slice none 0 0] RR.out yy (by simp [Value.oneCell']) ?_; intro w10 b9 g9 z9; try simp only [Act.put, sS])
  (try simp only [Exit.inBlock, Exit.then]);exact m80
 rw [hv] at HV;have HG := hid (HF.out true hv.symm);simp only [if_true] at HG;clear hv HF;go_upto_region 11 with (go_at_call 34; refine HV.out.mono ?_; rintro e w9 ⟨rfl, b9⟩; replace b9 := hid b9)
 have W9 := hid (zB W8.out b9.out);have RR := hid (R8.out.below b9.out R8.out.lt);have S9 := hid (S8.out.up b9.out);have K9 := hid (b8.out.below b9.out b8.out.lt);clear W8 R8 b9 e0 e1 e2 e3 b8 S8;have e0 := K9.out.cell 0;have e1 := K9.out.cell 1;have e2 := K9.out.cell 2;have e3 := K9.out.cell 3;go_wp2_with (refine xJ 26 #[.int .i64 V, .slice Bn (vd l).length dn, .slice Bp (yz l ps).length dp, .slice Bq (vg cs).length dq] RR.out yy (by simp [Value.oneCell']) ?_; intro w10 b9 g9 z9; try simp only [Act.put, sS])
 (try simp only [Exit.inBlock, Exit.then]);refine bodyPost_ret (yj rfl _ ⟨W.heap.size, 0, none⟩ rfl _ Tryz.underlying26 rfl _ #[.int .i64 V, .slice Bn (vd l).length dn, .slice Bp (yz l ps).length dp, .slice Bq (vg cs).length dq] yy (zO b9)) rfl ?_;have g := HG.out;refine ⟨W9.out.grown g9 W9.out.size (fun y e => by injection e with e; omega), _, by rw [g.1, g.2.1]; rfl, ?_⟩;rw [g.2.2];exact (S9.out.grown g9 (fun y e => by injection e with e; have := HW6.out; omega)).v
end Go.Proofs.YtcjhihmaegagdaaGreatDoor
