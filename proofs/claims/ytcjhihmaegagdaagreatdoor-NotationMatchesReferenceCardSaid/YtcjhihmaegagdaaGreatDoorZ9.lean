/- Texts of the Notation chapter, together: Zx. -/
import Derived.Test.YtcjhihmaegagdaaGreatDoorG1
import Derived.Test.YtcjhihmaegagdaaGreatDoorK1
import Derived.Test.YtcjhihmaegagdaaGreatDoorZ1
import Derived.Test.YtcjhihmaegagdaaGreatDoorZ3
import Derived.Test.YtcjhihmaegagdaaGreatDoorZ8
import Derived.Test.YtcjhihmaegagdaaGreatDoorZ7
import Derived.Test.YtcjhihmaegagdaaGreatDoorZ5
set_option maxRecDepth 100000
set_option maxHeartbeats 8000000
set_option linter.unusedSimpArgs false
set_option linter.unusedVariables false
set_option linter.unusedSectionVars false
set_option linter.unnecessarySimpa false
namespace Go.Proofs.YtcjhihmaegagdaaGreatDoor
open Go.RowKit Go.Deep
theorem zCJ {w : World} {B C : Nat} {t : TypeId} {z n : Nat} {v : Value} {xs : List Value} (h : w.ownsRow B t z v n xs) (hC : C ≤ B) : w.ownsRow C t z v n xs :=
 ⟨h.1, h.2.imp id fun ⟨g, cap, cur, e, hB, r⟩ => ⟨g, cap, cur, e, Nat.le_trans hC hB, r⟩⟩
structure Ari (W : World) (gD gN M : Nat) (V : Int) (n p q u : Value) (l : List Nte) (ps : List Par) (cs : List Int) (w : World) : Prop where
 b : Below W.heap.size W w
 r : Blk w W.heap.size 26 #[.int .i64 0, .slice none 0 0, .slice none 0 0, .slice none 0 0]
 k : Blk w gD 76 #[.int .i64 V, n, p, q, u]
 p : zn w (W.heap.size + 1) p ps
 q : yO w (W.heap.size + 1) q (itg cs)
 nt : yk w (gN + 1) (vd l)
 pl : kA w gN (xv l l.length 0)
 ng : W.heap.size < gN
 nm : gN + 1 < M
 dm : gD < M
 mw : M ≤ w.heap.size
section
variable {W : World} {gD gN M : Nat} {V : Int} {n p q u : Value} {l : List Nte} {ps : List Par} {cs : List Int} {w w' : World}
theorem Ari.up (h : Ari W gD gN M V n p q u l ps cs w) (b : Below w.heap.size w w') : Ari W gD gN M V n p q u l ps cs w' :=
 ⟨zB h.b b, h.r.below b h.r.lt, h.k.below b h.k.lt, h.p.on b, h.q.on b, h.nt.block (b.block _ h.nt.lt), Blk.below h.pl b (Blk.lt h.pl), h.ng, h.nm, h.dm, Nat.le_trans h.mw b.size⟩
theorem Ari.drew (h : Ari W gD gN M V n p q u l ps cs w) : Ari W gD gN M V n p q u l ps cs w.drew := h.up (Below.refl _ w).drew
theorem zMc (h : Ari W gD gN M V n p q u l ps cs w) {vp vq : Value} (hp : zn w (W.heap.size + 1) vp (yz l ps)) (hq : yO w (W.heap.size + 1) vq (itg (vg cs))) {gC : Nat} {old : Array Value} (hc : Blk w gC 26 old)
 (hb : Blk w' gC 26 #[.int .i64 V, .slice (some ⟨gN + 1, 0, none⟩) l.length l.length, vp, vq]) (g : w.grownBy w' (some gC)) (hC : M ≤ gC) {S : Scr} (hS : S = vi ⟨V, l, ps, cs⟩) (hl : l.length ≤ 8000 ∧ ps.length ≤ 8000 ∧ cs.length ≤ 8000) :
 ∃ g vn vp vq, Value.pointer (some ⟨gC, 0, none⟩) = .pointer (some ⟨g, 0, none⟩) ∧ Hid (Below W.heap.size W w') ∧ Hid (Blk w' W.heap.size 26 #[.int .i64 0, .slice none 0 0, .slice none 0 0, .slice none 0 0]) ∧ Hid (Blk w' g 26 #[.int .i64 V, vn, vp, vq]) ∧ Hid (W.heap.size < g) ∧ Hid (zCU w' (W.heap.size + 1) (.agg #[.int .i64 V, vn, vp, vq]) S) := by
 have h1 := h.ng;have h2 := h.nm;have hn : yk w' (gN + 1) (vd l) := h.nt.block (g.block _ h.nt.lt (fun e => by injection e with e; omega));have hp' := hp.kept g (.inr (hp.apart hc (by decide)));have hq' := hq.kept g (.inr (hq.apart hc (by decide)));refine ⟨gC, _, vp, vq, rfl, hid (h.b.grown g h.b.size (fun y e => by injection e with e; omega)), hid (h.r.grown g (fun e => by injection e with e; omega)), hid hb, hid (by omega), hid ?_⟩;rw [hS];exact zH0 (yk.sh hn (qO l).symm (Nat.le_refl _) (by omega)) (jz.of_own hp').sh (j3.of_own hq').sh hl.1 hl.2.1 hl.2.2
end
theorem zLp {ts r : List Tok} {en k : Nat} (h : vZ ts = .err r k) : k ≠ 0 ∧ (qG ts en).1.e = k ∧ (qG ts en).1.pos = qK en r := by
 have := Sim.read (ts := ts) (en := en);rw [h] at this;exact this
theorem zLT {ts r : List Tok} {en : Nat} {d : Drf} (h : vZ ts = .ok d r) : (qG ts en).1.e = 0 ∧ (qG ts en).2 = d := by
 have := Sim.read (ts := ts) (en := en);rw [h] at this;exact ⟨this.1.1, this.2.symm⟩
theorem zHM (W : World) (s : List UInt8) (hs : s.length ≤ 4611686018427387904) :
 Calls Tryz.prog 16 #[str s] W (zH5 W s) := by
 have HLX := hid (fun w => zGj w s (by omega));have hsz : (⟨s.toArray⟩ : ByteArray).size = s.length := by simp [ByteArray.size]
 have HSZ := hid hsz;obtain ⟨W1, hW1⟩ : ∃ W1, W1 = W.alloc (.cells #[.int .i64 0, .slice none 0 0, .slice none 0 0, .slice none 0 0] 26) := ⟨_, rfl⟩
 have R0 := hid (Blk.new W 26 #[.int .i64 0, .slice none 0 0, .slice none 0 0, .slice none 0 0]);have B0 := hid ((Below.refl W.heap.size W).alloc (Nat.le_refl _) (.cells #[.int .i64 0, .slice none 0 0, .slice none 0 0, .slice none 0 0] 26));rw [← hW1] at R0 B0;clear hsz;go_enter Tryz.func16, Tryz.ntmps16
 go_upto_region 1 with (fail)
 rw [← hW1];clear hW1;go_upto_region 2 with (go_at_call 13; refine (HLX.out _).mono ?_; rintro e w2 ⟨b2, A, c, rfl, hr2, hc2⟩; replace b2 := hid b2; replace hr2 := hid hr2; replace hc2 := hid hc2)
 have RR := hid (R0.out.below b2.out R0.out.lt);have BB := hid (zB B0.out b2.out);obtain ⟨E, hE⟩ : ∃ E, E = kP s := ⟨_, rfl⟩
 rw [← hE];by_cases h0 : E = 0;rotate_left
 ·
  have HF : Hid (y6 s = zBc s ∧ yx s = E ∧ yV s = jB) := by
   exact zOb
  have h0b : ((E : Int) == 0) = false := by simpa using h0
  clear hE h0;go_wp2_with ((with_reducible show wpList _ _ _ (Oper.mk _ (Op.store _ _ _) _ _ _ _ :: _) _ _); refine xJ 26 #[.int .i64 0, .slice none 0 0, .slice none 0 0, .slice none 0 0] RR.out yy (by simp [Value.oneCell']) ?_; intro w10 b9 g9 z9; try simp only [Act.put, sS])
  (try simp only [Exit.inBlock, Exit.then]);exact m89
 subst h0;have HE := hid hE;clear hE;obtain ⟨ts, hts⟩ : ∃ ts, ts = jG s := ⟨_, rfl⟩
 rw [← hts] at hr2 hc2 ⊢;have HTS := hid hts;have T2 : TkR w2 A ts := ⟨hr2.out, by rw [hts]; exact kz s⟩
 have HW2 : Hid (W.heap.size < w2.heap.size) := hid RR.out.lt;have HRD := hid (zIW w2 A c s.length ts T2 (fun t ht => by rw [hts] at ht; exact (jj s t ht).2.1) (fun t ht => by rw [hts] at ht; have := (jj s t ht).1; omega));obtain ⟨q, hq⟩ : ∃ q, q = (qG ts s.length).1 := ⟨_, rfl⟩
 obtain ⟨d, hd⟩ : ∃ d, d = (qG ts s.length).2 := ⟨_, rfl⟩
 rw [← hq, ← hd] at HRD;have HQD := hid (And.intro hq hd);clear hts T2 HLX B0 R0 hr2 hc2 b2 hq hd;go_upto_region 5 with (first | (go_at_call 35; refine HRD.out.mono ?_; rintro e w5 ⟨y, rfl, b5, rw5⟩; replace b5 := hid b5; replace rw5 := hid rw5) | ((with_reducible show wpList _ _ _ (Oper.mk _ (Op.store _ _ _) _ _ _ _ :: _) _ _); refine zI rfl 74 (.tmp 8) (.tmp 31) rfl w5.heap.size (q.cells A ts.length c s.length) rfl rfl 74 zy ((Blk.new w5 _ _).alloc _) zE rfl (Qr.all_one _ _ _ _ _) ?_; intro w6 b6 g6 z6; have k6 : Hid (Blk w6 (w5.heap.size + 1) 76 xf) := hid ((by have := Blk.new (w5.alloc (.cells zy 74)) 76 xf; rw [show (w5.alloc (.cells zy 74)).heap.size = w5.heap.size + 1 by simp] at this; exact this : Blk ((w5.alloc (.cells zy 74)).alloc (.cells xf 76)) (w5.heap.size + 1) 76 xf).grown g6 (by simp)); replace b6 := hid b6; replace g6 := hid g6; replace z6 := hid z6; try simp only [Act.put, sS]) | ((with_reducible show wpList _ _ _ (Oper.mk _ (Op.store _ _ _) _ _ _ _ :: _) _ _); refine zI rfl 76 (.tmp 9) (.tmp 32) rfl (w5.heap.size + 1) (qq y d.sc.voices) rfl rfl 76 xf k6.out kj rfl (rw5.out.one _) ?_; intro w7 b7 g7 z7; replace b7 := hid b7; replace g7 := hid g7; replace z7 := hid z7; try simp only [Act.put, sS]))
 have B7 : Hid (Below w5.heap.size w5 w7) := hid ((((Below.refl w5.heap.size w5).alloc (Nat.le_refl _) (.cells zy 74)).alloc (by simp) (.cells xf 76)).grown g6.out (by simp; omega) (fun b e => by injection e with e; omega) |>.grown g7.out (by have := z6.out; simp at this; omega) (fun b e => by injection e with e; omega));have KR : Hid (Blk w7 w5.heap.size 74 (q.cells A ts.length c s.length)) := hid (b6.out.grown g7.out (by simp));have KD : Hid (Blk w7 (w5.heap.size + 1) 76 (qq y d.sc.voices)) := hid b7.out;have RW7 := hid ((rw5.out).up B7.out);have W5 := hid (zB BB.out b5.out);have W7 := hid (zB W5.out B7.out);have R7 := hid ((RR.out.below b5.out RR.out.lt).below B7.out (RR.out.below b5.out RR.out.lt).lt);obtain ⟨gR, hgR⟩ : ∃ g, g = w5.heap.size := ⟨_, rfl⟩
 have HG : Hid (W.heap.size < gR) := hid (by have := HW2.out; have := b5.out.size; omega);rw [← hgR] at KR KD ⊢;clear hgR b6 g6 z6 k6 b7 g7 z7 B7 W5 BB RR b5 rw5 HRD;have e3 := KR.out.cell 3;have e4 := KR.out.cell 4;rcases hrd : vZ ts with ⟨d0, r⟩ | ⟨r, k⟩;rotate_left
 ·
  obtain ⟨hk, h1, h2⟩ := zLp (en := s.length) hrd;rw [← HQD.out.1] at h1 h2
  have HF : Hid (y6 s = q.pos ∧ yx s = q.e ∧ yV s = jB) := by
   unfold y6 yx yV;rw [if_neg (by rw [← HE.out]; decide), if_neg (by rw [← HE.out]; decide), if_neg (by rw [← HE.out]; decide), ← HTS.out, hrd];exact hid ⟨h2.symm, h1.symm, rfl⟩
  obtain ⟨o, ho⟩ : ∃ o, o = q.pos := ⟨_, rfl⟩
  obtain ⟨m, hm⟩ : ∃ m, m = q.e := ⟨_, rfl⟩
  have hkb : ((m : Int) == 0) = false := by rw [hm, h1]; simpa using hk
  rw [← ho, ← hm] at HF;replace e3 : w7.cell? ⟨gR, 3, none⟩ = some (.int .i64 (o : Int)) := by rw [ho]; exact e3
  replace e4 : w7.cell? ⟨gR, 4, none⟩ = some (.int .i64 (m : Int)) := by rw [hm]; exact e4
  have F7 : Hid (w7.cell? ⟨gR, 3, none⟩ = some (.int .i64 (o : Int)) ∧ w7.cell? ⟨gR, 4, none⟩ = some (.int .i64 (m : Int))) := hid ⟨e3, e4⟩;clear hk h1 h2 hrd ho hm KD RW7 HQD HE HTS KR;go_upto_region 6 with (fail)
  clear e3 e4 hkb;refine jF (fun w' => w'.cell? ⟨gR, 3, none⟩ = some (.int .i64 (o : Int)) ∧ w'.cell? ⟨gR, 4, none⟩ = some (.int .i64 (m : Int))) F7.out fun hHeld => ?_
  refine zJ 0 ?_;refine zJ 1 ?_;refine zJ 2 ?_ (hy := Or.inl ⟨by rfl, fun w hSw => by obtain ⟨q0, q1⟩ := hSw; go_simp; try with_reducible rfl⟩);refine zJ 3 ?_;refine zJ 4 ?_ (hy := Or.inl ⟨by rfl, fun w hSw => by obtain ⟨q0, q1⟩ := hSw; go_simp; try with_reducible rfl⟩);refine yL 5 ?_;intro K hK;refine jV 26 #[.int .i64 0, .slice none 0 0, .slice none 0 0, .slice none 0 0] R7.out.drew yy (by simp [Value.oneCell']) ?_;intro w9 b9 g9 z9;have q9 : w9.cell? ⟨gR, 3, none⟩ = some (.int .i64 (o : Int)) ∧ w9.cell? ⟨gR, 4, none⟩ = some (.int .i64 (m : Int)) := ⟨(World.cell?_of_block (a := ⟨gR, 3, none⟩) (g9.block gR (World.block_lt_of_cell? w7 _ F7.out.1) (fun e => by injection e with e; have := HG.out; omega))).trans F7.out.1, (World.cell?_of_block (a := ⟨gR, 4, none⟩) (g9.block gR (World.block_lt_of_cell? w7 _ F7.out.1) (fun e => by injection e with e; have := HG.out; omega))).trans F7.out.2⟩
  refine zq hK q9 fun hHeld => ?_
  clear hK K;refine zJ 6 ?_;refine zJ 7 ?_;refine jc ?_;go_wp2_with fail
  (try simp only [Exit.inBlock, Exit.then]);refine bodyPost_ret (yj rfl _ ⟨W.heap.size, 0, none⟩ rfl _ Tryz.underlying26 rfl _ #[.int .i64 0, .slice none 0 0, .slice none 0 0, .slice none 0 0] yy (zO b9)) rfl ?_;have g := HF.out;refine ⟨(W7.out.drew).grown g9 W7.out.size (fun y e => by injection e with e; omega), _, by rw [g.1, g.2.1]; rfl, ?_⟩;rw [g.2.2];exact zCO _
 have hend := zEe _ _ _ hrd;obtain ⟨hfine, hcnt⟩ := zDp (fun t ht => by rw [HTS.out] at ht; exact (jj s t ht).1) (by rw [HTS.out]; exact kz s) hrd;obtain ⟨h1, h2⟩ := zLT (en := s.length) hrd;rw [← HQD.out.1] at h1;rw [← HQD.out.2] at h2;subst h2;obtain ⟨S, hS⟩ : ∃ S, S = vi d.sc := ⟨_, rfl⟩
 have HF : Hid (∀ b, b = xd S → (if b = true then y6 s = 0 ∧ yx s = 0 ∧ yV s = S else y6 s = s.length ∧ yx s = 1 ∧ yV s = jB)) := by
  (refine hid fun b hb => ?_);(have hne : ¬ (kP s ≠ 0) := by rw [← HE.out]; decide);unfold y6 yx yV;simp only [if_neg hne, ← HTS.out, hrd, ← hS, ← hb];cases b
  · exact ⟨rfl, rfl, rfl⟩
  exact ⟨rfl, rfl, rfl⟩
 replace e4 : w7.cell? ⟨gR, 4, none⟩ = some (.int .i64 0) := e4.trans (by show some (Value.int .i64 (q.e : Int)) = _; rw [h1]; rfl);obtain ⟨V, hV⟩ : ∃ V, V = d.sc.voices := ⟨_, rfl⟩
 obtain ⟨l, hl⟩ : ∃ l, l = d.sc.notes := ⟨_, rfl⟩
 obtain ⟨ps, hps⟩ : ∃ ps, ps = d.sc.pairs := ⟨_, rfl⟩
 obtain ⟨cs, hcs⟩ : ∃ cs, cs = d.sc.cad := ⟨_, rfl⟩
 have hA : S = vi ⟨V, l, ps, cs⟩ := by rw [hS, hV, hl, hps, hcs]
 have hix : ∀ p ∈ ps, 0 ≤ p.a ∧ p.a < l.length ∧ 0 ≤ p.b ∧ p.b < l.length ∧ p.wish.small 1000000000000 := fun p hpm => by
  rw [hps] at hpm;obtain ⟨a1, a2, a3, a4, a5⟩ := hfine.p p hpm;rw [hl];exact ⟨a1, a2, a3, a4, zCR a5⟩
 simp only [Drf.cnt, ← hl, ← hps, ← hcs] at hcnt;have r7 := RW7.out;obtain ⟨yn, yp, yq, yu⟩ := y;have N7 := r7.n;have P7 := r7.p;have Q7 := r7.q;rw [← hl] at N7;rw [← hps] at P7;rw [← hcs] at Q7;rw [← hV] at KD;replace N7 : yY w7 w2.heap.size yn l := N7;replace P7 : zn w7 w2.heap.size yp ps := P7;replace Q7 : yO w7 w2.heap.size yq (itg cs) := Q7;obtain ⟨An, cn, rfl, -, hn7⟩ := N7.form;obtain ⟨Ap, cp, rfl, -, -⟩ := P7.form;obtain ⟨Aq, cq, rfl, -, -⟩ := Q7.form;rw [zo] at KD Q7 r7;have HA := hid hA;have HIX := hid hix;have HCT := hid hcnt;have HSR := hid (zGs w7 An cn l hn7 (by omega));have d1 := KD.out.cell 1;replace d1 : w7.cell? ⟨gR + 1, 1, none⟩ = some (.slice An l.length cn) := d1;replace N7 := hid N7;replace P7 := hid P7;replace Q7 := hid Q7;clear hV hl hps hcs hA hix hcnt hfine h1 hS hend hrd HQD HE HTS RW7 e3 r7 hn7;go_upto_region 7 with (fail)
 clear e4 KR;go_upto_region 8 with (go_at_call 36; refine HSR.out.mono ?_; rintro e w8 ⟨rfl, b8, n8, i8⟩; replace b8 := hid b8; replace n8 := hid n8; replace i8 := hid i8)
 have hlow : W.heap.size + 1 ≤ w2.heap.size := HW2.out;have HST : Hid (Ari W (gR + 1) w7.heap.size w8.heap.size V (.slice An l.length cn) (.slice Ap ps.length cp) (.slice Aq cs.length cq) yu l ps cs w8) := hid ⟨zB W7.out b8.out, R7.out.below b8.out R7.out.lt, KD.out.below b8.out KD.out.lt, zCJ (P7.out.on b8.out) hlow, zCJ (Q7.out.on b8.out) hlow, n8.out, i8.out, R7.out.lt, n8.out.lt, Nat.lt_of_lt_of_le KD.out.lt b8.out.size, Nat.le_refl _⟩;obtain ⟨gN, hgN⟩ : ∃ g, g = w7.heap.size := ⟨_, rfl⟩
 obtain ⟨gD, hgD⟩ : ∃ g, g = gR + 1 := ⟨_, rfl⟩
 rw [← hgN, ← hgD] at HST;rw [← hgN, ← hgD];clear hgN hgD hlow d1 b8 n8 i8 N7 P7 Q7 HSR KD R7 W7 HG HW2
 have HPA : Hid (∀ w, Ari W gD gN w8.heap.size V (.slice An l.length cn) (.slice Ap ps.length cp) (.slice Aq cs.length cq) yu l ps cs w → Calls Tryz.prog 37 #[.slice Ap ps.length cp, .slice (some ⟨gN, 0, none⟩) l.length l.length] w fun e w' => ∃ v, e = .returned v ∧ Below w.heap.size w w' ∧ zn w' (W.heap.size + 1) v (yz l ps)) := hid fun w h => by
  obtain ⟨A0, c0, hv, -, hp0⟩ := h.p.form;injection hv with hv0 _ _;subst hv0;refine (zGG w Ap cp gN l ps hp0 (Blk.lt h.pl) h.pl (by have := HCT.out; omega) (by have := HCT.out; omega) HIX.out).mono ?_;rintro e w' ⟨v, rfl, b, o⟩;exact ⟨v, rfl, b, zCJ o (by have := h.r.lt; omega)⟩
 have HPC : Hid (∀ w, Ari W gD gN w8.heap.size V (.slice An l.length cn) (.slice Ap ps.length cp) (.slice Aq cs.length cq) yu l ps cs w → Calls Tryz.prog 38 #[.slice Aq cs.length cq] w fun e w' => ∃ v, e = .returned v ∧ Below w.heap.size w w' ∧ yO w' (W.heap.size + 1) v (itg (vg cs))) := hid fun w h => by
  obtain ⟨A0, c0, hv, -, hp0⟩ := h.q.form;injection hv with hv0 _ _;subst hv0;refine (zGi w Aq cq cs hp0 (by have := HCT.out; omega)).mono ?_;rintro e w' ⟨v, rfl, b, o⟩;exact ⟨v, rfl, b, zCJ o (by have := h.r.lt; omega)⟩
 clear HIX;go_cut [12] from 48 to 61 (fun u12 wx => ∃ g vn vp vq, u12 = .pointer (some ⟨g, 0, none⟩) ∧ Hid (Below W.heap.size W wx) ∧ Hid (Blk wx W.heap.size 26 #[.int .i64 0, .slice none 0 0, .slice none 0 0, .slice none 0 0]) ∧ Hid (Blk wx g 26 #[.int .i64 V, vn, vp, vq]) ∧ Hid (W.heap.size < g) ∧ Hid (zCU wx (W.heap.size + 1) (.agg #[.int .i64 V, vn, vp, vq]) S))
 case first =>
  (go_upto_region 8 with (fail));(refine jF (fun w' => Blk w' gD 76 #[.int .i64 V, .slice An l.length cn, .slice Ap ps.length cp, .slice Aq cs.length cq, yu]) HST.out.k fun hHeld => ?_);refine zJ 0 ?_;refine zJ 1 ?_;refine zJ 2 ?_ (hy := Or.inl ⟨by rfl, fun w hSw => by have q0 : w.cell? ⟨gD, 0, none⟩ = some (.int .i64 V) := hSw.cell 0; clear hSw; go_simp; try with_reducible rfl⟩);refine zJ 3 ?_;refine zJ 4 ?_;refine zJ 5 ?_;refine zJ 6 ?_ (hy := Or.inl ⟨by rfl, fun w hSw => by have q0 : w.cell? ⟨gD, 2, none⟩ = some (.slice Ap ps.length cp) := hSw.cell 2; clear hSw; go_simp; try with_reducible rfl⟩);refine zJ 7 ?_;refine zJ 9 ?_;refine zJ 10 ?_;refine zJ 11 ?_ (hy := Or.inl ⟨by rfl, fun w hSw => by have q0 : w.cell? ⟨gD, 3, none⟩ = some (.slice Aq cs.length cq) := hSw.cell 3; clear hSw; go_simp; try with_reducible rfl⟩);refine zDq [8, 14] ?_;refine zDW ?_ ?_
  ·
   intro K hK;replace HST := hid HST.out.drew;go_simp;refine (HPA.out _ HST.out).mono ?_;rintro e wa ⟨vp, rfl, ba, oa⟩;obtain ⟨Bp, dp, rfl, -, -⟩ := oa.form;replace HST := hid (HST.out.up ba);have OA := hid oa;clear ba oa;refine zq hK HST.out.k fun hHeld => ?_
   clear hK K;refine zDq [12, 14] ?_;refine zDW ?_ ?_
   ·
    intro K hK;go_simp;refine (HPC.out _ HST.out).mono ?_;rintro e wb ⟨vq, rfl, bb, ob⟩;obtain ⟨Bq, dq, rfl, -, -⟩ := ob.form;replace HST := hid (HST.out.up bb);replace OA := hid (OA.out.on bb);have OB := hid ob;clear bb ob;refine zq hK HST.out.k fun hHeld => ?_
    clear hK K;refine zJ 13 ?_;refine yL 14 ?_;intro K hK;go_simp;have KC := hid ((Blk.new (wb) 26 #[.int .i64 0, .slice none 0 0, .slice none 0 0, .slice none 0 0]));have bc := ((Below.refl _ wb).alloc (Nat.le_refl _) (.cells #[.int .i64 0, .slice none 0 0, .slice none 0 0, .slice none 0 0] 26))
    obtain ⟨gC, hgC⟩ : ∃ g, g = (wb).heap.size := ⟨_, rfl⟩
    have hcl : w8.heap.size ≤ gC := by rw [hgC]; exact HST.out.mw
    rw [← hgC] at KC ⊢;have HC := hid hcl;replace HST := hid (HST.out.up bc);replace OA := hid (OA.out.on bc);replace OB := hid (OB.out.on bc);clear bc hcl hgC;generalize (wb).alloc (.cells #[.int .i64 0, .slice none 0 0, .slice none 0 0, .slice none 0 0] 26) = wc at *;refine zq hK HST.out.k fun hHeld => ?_
    clear hK K;exact m45
   refine zDu ?_;intro K hK;go_simp;have KC := hid ((Blk.new (wa) 26 #[.int .i64 0, .slice none 0 0, .slice none 0 0, .slice none 0 0]));have bc := ((Below.refl _ wa).alloc (Nat.le_refl _) (.cells #[.int .i64 0, .slice none 0 0, .slice none 0 0, .slice none 0 0] 26))
   obtain ⟨gC, hgC⟩ : ∃ g, g = (wa).heap.size := ⟨_, rfl⟩
   have hcl : w8.heap.size ≤ gC := by rw [hgC]; exact HST.out.mw
   rw [← hgC] at KC ⊢;have HC := hid hcl;replace HST := hid (HST.out.up bc);replace OA := hid (OA.out.on bc);clear bc hcl hgC;generalize (wa).alloc (.cells #[.int .i64 0, .slice none 0 0, .slice none 0 0, .slice none 0 0] 26) = wc at *;exact zMV
  refine zDu ?_;intro K hK;go_simp;have KC := hid ((Blk.new (w8) 26 #[.int .i64 0, .slice none 0 0, .slice none 0 0, .slice none 0 0]).drew);have bc := ((Below.refl _ w8).alloc (Nat.le_refl _) (.cells #[.int .i64 0, .slice none 0 0, .slice none 0 0, .slice none 0 0] 26)).drew;(obtain ⟨gC, hgC⟩ : ∃ g, g = (w8).heap.size := ⟨_, rfl⟩);(have hcl : w8.heap.size ≤ gC := by rw [hgC]; exact HST.out.mw);rw [← hgC] at KC ⊢;have HC := hid hcl;replace HST := hid (HST.out.up bc);clear bc hcl hgC;generalize ((w8).alloc (.cells #[.int .i64 0, .slice none 0 0, .slice none 0 0, .slice none 0 0] 26)).drew = wc at *;(refine zq hK HST.out.k fun hHeld => ?_);clear hK K;refine yL 8 ?_;intro K hK;go_simp;refine (HPA.out _ HST.out).mono ?_;rintro e wa ⟨vp, rfl, ba, oa⟩;obtain ⟨Bp, dp, rfl, -, -⟩ := oa.form;replace HST := hid (HST.out.up ba);replace KC := hid (KC.out.below ba KC.out.lt);have OA := hid oa;clear ba oa;exact zMV
 case rest =>
  obtain ⟨g, vn, vp, vq, rfl, WC, RC, KC, HC, HS⟩ := hcut;obtain ⟨un, up, uq, e, ⟨Bn, dn, e1, -⟩, ⟨Bp, dp, e2, -⟩, ⟨Bq, dq, e3, -⟩, -⟩ := HS.out;injection e with e;simp only [Array.mk.injEq, List.cons.injEq, and_true] at e;obtain ⟨-, e4, e5, e6⟩ := e;subst e4 e5 e6 e1 e2 e3;have HV := hid (zDN wc wc.heap.size _ S HS.out.v);clear HPA HPC HST HA HCT;rcases hv : xd S with _ | _
  · rw [hv] at HV;have HG := hid (HF.out false hv.symm);simp only [Bool.false_eq_true, if_false] at HG;clear hv HF;go_upto_region 10 with (first | ((with_reducible show wpList _ _ _ (Oper.mk _ (Op.load _ _) _ _ _ _ :: _) _ _); refine zp 26 KC.out Tryz.underlying26 yy ?_) | (go_at_call 39; refine HV.out.mono ?_; rintro e w9 ⟨rfl, b9⟩; replace b9 := hid b9))
    have W9 := hid (zB WC.out b9.out);have RR := hid (RC.out.below b9.out RC.out.lt);clear WC RC b9 KC;go_wp2_with ((with_reducible show wpList _ _ _ (Oper.mk _ (Op.store _ _ _) _ _ _ _ :: _) _ _); refine xJ 26 #[.int .i64 0, .slice none 0 0, .slice none 0 0, .slice none 0 0] RR.out yy (by simp [Value.oneCell']) ?_; intro w10 b9 g9 z9; try simp only [Act.put, sS])
    (try simp only [Exit.inBlock, Exit.then]);exact m80
  rw [hv] at HV;have HG := hid (HF.out true hv.symm);simp only [if_true] at HG;clear hv HF;(go_upto_region 12 with (first | ((with_reducible show wpList _ _ _ (Oper.mk _ (Op.load _ _) _ _ _ _ :: _) _ _); refine zp 26 KC.out Tryz.underlying26 yy ?_) | (go_at_call 39; refine HV.out.mono ?_; rintro e w9 ⟨rfl, b9⟩; replace b9 := hid b9)));have W9 := hid (zB WC.out b9.out);have RR := hid (RC.out.below b9.out RC.out.lt);have S9 := hid (HS.out.up b9.out);replace KC := hid (KC.out.below b9.out KC.out.lt);clear WC RC b9 HS;(go_wp2_with (first | ((with_reducible show wpList _ _ _ (Oper.mk _ (Op.load _ _) _ _ _ _ :: _) _ _); refine zp 26 KC.out Tryz.underlying26 yy ?_) | ((with_reducible show wpList _ _ _ (Oper.mk _ (Op.store _ _ _) _ _ _ _ :: _) _ _); refine xJ 26 #[.int .i64 V, .slice Bn S.notes.length dn, .slice Bp S.pairs.length dp, .slice Bq S.cad.length dq] RR.out yy (by simp [Value.oneCell']) ?_; intro w10 b9 g9 z9; try simp only [Act.put, sS])));(try simp only [Exit.inBlock, Exit.then]);refine bodyPost_ret (yj rfl _ ⟨W.heap.size, 0, none⟩ rfl _ Tryz.underlying26 rfl _ #[.int .i64 V, .slice Bn S.notes.length dn, .slice Bp S.pairs.length dp, .slice Bq S.cad.length dq] yy (zO b9)) rfl ?_
  have g := HG.out;refine ⟨W9.out.grown g9 W9.out.size (fun y e => by injection e with e; omega), _, by rw [g.1, g.2.1]; rfl, ?_⟩;rw [g.2.2];exact (S9.out.grown g9 (fun y e => by injection e with e; omega)).v
end Go.Proofs.YtcjhihmaegagdaaGreatDoor
