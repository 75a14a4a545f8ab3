/- Texts of the Notation chapter, together: Ea, Eb, Ec, Ed, Fa, Fc. -/
import Derived.Test.YtcjhihmaegagdaaGreatDoorG1
import Derived.Test.YtcjhihmaegagdaaGreatDoorH6
import Derived.BigQuiet
import Derived.Deep.QuietTactic
import Derived.Test.YtcjhihmaegagdaaGreatDoorG2
import Derived.Test.YtcjhihmaegagdaaGreatDoorK2
set_option maxRecDepth 100000
set_option maxHeartbeats 8000000
set_option linter.unusedSimpArgs false
set_option linter.unusedVariables false
set_option linter.unusedSectionVars false
set_option linter.unnecessarySimpa false
namespace Go.Proofs.YtcjhihmaegagdaaGreatDoor
open Go.RowKit Go.Deep
theorem zKL (x y : Nte) (w : World) : (binOp .neq 55 (.agg x.cells) (.agg y.cells)).run Tryz.prog w = .ok (.bool (!decide (x = y))) w := by
 have hv := fun w => zHC 9997 x.place y.place w
 have hl : (x = y) ↔ (x.voice = y.voice ∧ x.start = y.start ∧ x.stop = y.stop ∧ x.place = y.place ∧ x.tied = y.tied) := by
  cases x; cases y; simp
 simp only [decide_eq_decide.2 hl];clear hl;by_cases h0 : (x.voice == y.voice) = true
 case neg =>
  (have h0' : ¬ x.voice = y.voice := by simpa using h0);(have h0 : (x.voice == y.voice) = false := by simpa using h0);simp only [h0', false_and, decide_false, Bool.not_false];dsimp only [Nte.cells];go_simp
 have h0' : x.voice = y.voice := by simpa using h0
 by_cases h1 : (x.start == y.start) = true
 case neg =>
  (have h1' : ¬ x.start = y.start := by simpa using h1);(have h1 : (x.start == y.start) = false := by simpa using h1);simp only [h1', false_and, and_false, decide_false, Bool.not_false];dsimp only [Nte.cells];go_simp
 have h1' : x.start = y.start := by simpa using h1
 by_cases h2 : (x.stop == y.stop) = true
 case neg =>
  (have h2' : ¬ x.stop = y.stop := by simpa using h2);(have h2 : (x.stop == y.stop) = false := by simpa using h2);simp only [h2', false_and, and_false, decide_false, Bool.not_false];dsimp only [Nte.cells];go_simp
 have h2' : x.stop = y.stop := by simpa using h2
 simp only [h0', h1', h2', true_and];have h0 : (y.voice == y.voice) = true := by simp
 dsimp only [Nte.cells];by_cases h3 : x.place = y.place
 case neg =>
  simp only [h3, decide_false, false_and, Bool.not_false] at hv ⊢;go_simp
 simp only [h3, decide_true, true_and] at hv ⊢;by_cases h4 : (x.tied == y.tied) = true
 case neg =>
  (have h4' : ¬ x.tied = y.tied := by simpa using h4);(have h4 : (x.tied == y.tied) = false := by simpa using h4);simp only [h4', decide_false, Bool.not_false];go_simp
 have h4' : x.tied = y.tied := by simpa using h4
 simp only [h4', decide_true, Bool.not_true];go_simp
theorem zKb (x y : Par) (w : World) : (binOp .neq 57 (.agg x.cells) (.agg y.cells)).run Tryz.prog w = .ok (.bool (!decide (x = y))) w := by
 have hv := fun w => zHC 9997 x.wish y.wish w
 have hl : (x = y) ↔ (x.a = y.a ∧ x.b = y.b ∧ x.wish = y.wish ∧ x.bound = y.bound) := by
  cases x; cases y; simp
 simp only [decide_eq_decide.2 hl];clear hl;by_cases h0 : (x.a == y.a) = true
 case neg =>
  (have h0' : ¬ x.a = y.a := by simpa using h0);(have h0 : (x.a == y.a) = false := by simpa using h0);simp only [h0', false_and, decide_false, Bool.not_false];dsimp only [Par.cells];go_simp
 have h0' : x.a = y.a := by simpa using h0
 by_cases h1 : (x.b == y.b) = true
 case neg =>
  (have h1' : ¬ x.b = y.b := by simpa using h1);(have h1 : (x.b == y.b) = false := by simpa using h1);simp only [h1', false_and, and_false, decide_false, Bool.not_false];dsimp only [Par.cells];go_simp
 have h1' : x.b = y.b := by simpa using h1
 simp only [h0', h1', true_and];have h0 : (y.a == y.a) = true := by simp
 dsimp only [Par.cells];by_cases h3 : x.wish = y.wish
 case neg =>
  simp only [h3, decide_false, false_and, Bool.not_false] at hv ⊢;go_simp
 simp only [h3, decide_true, true_and] at hv ⊢;by_cases h4 : (x.bound == y.bound) = true
 case neg =>
  (have h4' : ¬ x.bound = y.bound := by simpa using h4);(have h4 : (x.bound == y.bound) = false := by simpa using h4);simp only [h4', decide_false, Bool.not_false];go_simp
 have h4' : x.bound = y.bound := by simpa using h4
 simp only [h4', decide_true, Bool.not_true];go_simp
open Go.RowKit Go.Deep
theorem zCI {α : Type} (d : α) {l m : List α} (h : l.length = m.length) (hk : ∀ k, k < l.length → l.getD k d = m.getD k d) : l = m := by
 refine List.ext_getElem h fun k h1 h2 => ?_
 have := hk k h1;simpa [List.getD_eq_getElem?_getD, h1, h2] using this
theorem zJl (w : World) (B C : Nat) (A D : Option Addr) (c d : Nat) (l m : List Int) (hl : RdC w B A (itg l)) (hB : B ≤ w.heap.size) (hm : RdC w C D (itg m)) (hC : C ≤ w.heap.size) (hn1 : l.length ≤ 4611686018427387904) (hn2 : m.length ≤ 4611686018427387904) :
 Calls Tryz.prog 40 #[.slice A l.length c, .slice D m.length d] w fun e w' => e = .returned (.bool (decide (l = m))) ∧ Below w.heap.size w w' := by
 have HL := hid hl;have HM := hid hm;have HBB := hid hB;have HCC := hid hC;obtain ⟨r, hr⟩ : ∃ r, r = decide (l = m) := ⟨_, rfl⟩
 rw [← hr];have HR := hid hr;clear hl hm hB hC hr;by_cases hlen : l.length = m.length
 ·
  rw [← hlen];obtain ⟨n, hn⟩ : ∃ n, n = l.length := ⟨_, rfl⟩
  rw [← hn] at hn1 ⊢;have HN := hid hn;have HLEN := hid hlen;clear hlen hn hn2;go_enter Tryz.func40, Tryz.ntmps40
  go_wp2
  go_loopw [5] (fun i wx => ∃ j : Nat, j ≤ n ∧ i = .int .i64 j ∧ Hid (Below w.heap.size w wx) ∧ Hid (∀ t, t < j → l.getD t 0 = m.getD t 0)) (fun i _ => n - (zD i).toNat)
  case atStart => exact ⟨0, Nat.zero_le _, rfl, hid (Below.refl _ _), hid fun t ht => by omega⟩
  case round =>
   obtain ⟨j, hj, rfl, HW, HT⟩ := hrel;by_cases hlt : j < n
   ·
    obtain ⟨ad, rfl, lx⟩ := zBV HL.out HBB.out HW.out (i := j) (by rw [← HN.out]; exact hlt);obtain ⟨ae, rfl, ly⟩ := zBV HM.out HCC.out HW.out (i := j) (by rw [← HLEN.out, ← HN.out]; exact hlt);obtain ⟨x, hx⟩ : ∃ x, x = l.getD j 0 := ⟨_, rfl⟩
    obtain ⟨y, hy⟩ : ∃ y, y = m.getD j 0 := ⟨_, rfl⟩
    rw [← hx] at lx;rw [← hy] at ly;have HXY := hid (And.intro hx hy);have b1 : j < n := hlt;have r1 : IntKind.i64.wrap ((j : Int) + 1) = ((j + 1 : Nat) : Int) := by rw [IntKind.wrap_i64]; omega
    clear hx hy;go_wp2_with fail
    refine yo ?_;refine zA (.slice (some ad) n c) ?_;refine zA (.int .i64 (j : Int)) ?_;refine zA (.pointer (some (ad.add j))) ?_ (hC := fun _ _ => by simp [go_sem, b1]);refine zL 3 (ad.add j) (.int .i64 x) (fun w' hb => lx _ hb) ?_;refine zA (.slice (some ae) n d) ?_;refine zA (.int .i64 (j : Int)) ?_;refine zA (.pointer (some (ae.add j))) ?_ (hC := fun _ _ => by simp [go_sem, b1]);refine zL 3 (ae.add j) (.int .i64 y) (fun w' hb => ly _ hb) ?_;refine zA (.bool (x != y)) ?_;refine wpQuiet_nil ?_;intro w2 hb2;have W2 := hid (zB HW.out hb2);by_cases hxy : x = y
    ·
     have HT' : Hid (∀ t, t < j + 1 → l.getD t 0 = m.getD t 0) := hid fun t ht => by
      exact zMj
     have h1 : (x != y) = false := by rw [bne_eq_false_iff_eq]; exact hxy
     clear hxy;go_wp2
     go_roundw
     case rel => exact ⟨j + 1, by omega, by go_num, W2, HT'⟩
     case measure => simp [zD]; omega
    have HF : Hid (r = false) := hid (by
     rw [HR.out, decide_eq_false_iff_not];intro e;rw [HXY.out.1, HXY.out.2, e] at hxy;exact hxy rfl)
    have h1 : (x != y) = true := by rw [bne_iff_ne]; exact hxy
    clear hxy;go_wp2
    go_ret;exact ⟨by rw [HF.out]; rfl, W2.out⟩
   obtain rfl : j = n := by omega
   have HF : Hid (r = true) := hid (by
    rw [HR.out, decide_eq_true_eq];exact zCI 0 HLEN.out fun t ht => HT.out t (by rw [HN.out]; exact ht))
   go_wp2
   go_ret;exact ⟨by rw [HF.out]; rfl, HW.out⟩
 have HF : Hid (r = false) := hid (by rw [HR.out, decide_eq_false_iff_not]; intro e; exact hlen (by rw [e]));have hq : ((l.length : Int) != (m.length : Int)) = true := by rw [bne_iff_ne]; omega
 clear hlen;go_enter Tryz.func40, Tryz.ntmps40
 go_wp2
 go_ret;exact ⟨by rw [HF.out]; rfl, Below.refl _ _⟩
open Go.RowKit Go.Deep
theorem zEm (w : World) (B C : Nat) (v u : Value) (a b : Scr) (ha : kU w B v a) (hb : kU w C u b) :
 Calls Tryz.prog 17 #[v, u] w fun e w' => e = .returned (.bool (decide (a = b))) ∧ Below w.heap.size w w' := by
 obtain ⟨An, cn, Ap, cp, Aq, cq, rfl, hn1, hp1, hq1⟩ := ha.ex;obtain ⟨Dn, dn, Dp, dp, Dq, dq, rfl, hn2, hp2, hq2⟩ := hb.ex;have HB1 := hid ha.le;have HB2 := hid hb.le;have HN1 := hid hn1;have HN2 := hid hn2;have HP1 := hid hp1;have HP2 := hid hp2;have l1 := ha.ln;have l2 := ha.lp;have l3 := ha.lc;have k1 := hb.ln;have k2 := hb.lp;have k3 := hb.lc;obtain ⟨q, hq⟩ : ∃ q, q = decide (a.cad = b.cad) := ⟨_, rfl⟩
 have HSM : Hid (∀ W, Below w.heap.size w W → Calls Tryz.prog 40 #[.slice Aq a.cad.length cq, .slice Dq b.cad.length dq] W fun e w' => e = .returned (.bool q) ∧ Below W.heap.size W w') := hid fun W hw => by
  rw [hq];exact zJl W B C Aq Dq cq dq a.cad b.cad (hq1.below (hw.mono HB1.out)) (Nat.le_trans HB1.out hw.size) (hq2.below (hw.mono HB2.out)) (Nat.le_trans HB2.out hw.size) l3 k3
 have HQ := hid hq;have HAB : Hid (a = b ↔ (a.voices = b.voices ∧ a.notes = b.notes ∧ a.pairs = b.pairs ∧ a.cad = b.cad)) := hid (by cases a; cases b; simp);clear hq hn1 hn2 hp1 hp2 hq1 hq2 ha hb;obtain ⟨r, hr⟩ : ∃ r, r = decide (a = b) := ⟨_, rfl⟩
 rw [← hr];have HR := hid hr;clear hr;obtain ⟨V, hV⟩ : ∃ V, V = a.voices := ⟨_, rfl⟩
 obtain ⟨U, hU⟩ : ∃ U, U = b.voices := ⟨_, rfl⟩
 obtain ⟨ln, hln⟩ : ∃ ln, ln = a.notes := ⟨_, rfl⟩
 obtain ⟨lm, hlm⟩ : ∃ lm, lm = b.notes := ⟨_, rfl⟩
 obtain ⟨lp, hlp⟩ : ∃ lp, lp = a.pairs := ⟨_, rfl⟩
 obtain ⟨lq, hlq⟩ : ∃ lq, lq = b.pairs := ⟨_, rfl⟩
 rw [← hV, ← hU, ← hln, ← hlm, ← hlp, ← hlq];rw [← hV, ← hU, ← hln, ← hlm, ← hlp, ← hlq] at HAB;rw [← hln] at HN1 l1;rw [← hlm] at HN2 k1;rw [← hlp] at HP1 l2;rw [← hlq] at HP2 k2;have HFALSE : Hid (a ≠ b → r = false) := hid fun h => by rw [HR.out, decide_eq_false_iff_not]; exact h
 clear hV hU hln hlm hlp hlq;obtain ⟨qa, hqa⟩ : ∃ x, x = a.cad.length := ⟨_, rfl⟩
 obtain ⟨qb, hqb⟩ : ∃ x, x = b.cad.length := ⟨_, rfl⟩
 rw [← hqa, ← hqb] at HSM ⊢;clear hqa hqb l3 k3;obtain ⟨n, hn⟩ : ∃ x, x = ln.length := ⟨_, rfl⟩
 obtain ⟨m, hm⟩ : ∃ x, x = lm.length := ⟨_, rfl⟩
 obtain ⟨p, hp⟩ : ∃ x, x = lp.length := ⟨_, rfl⟩
 obtain ⟨o, ho⟩ : ∃ x, x = lq.length := ⟨_, rfl⟩
 rw [← hn, ← hm, ← hp, ← ho];rw [← hn] at l1;rw [← hm] at k1;rw [← hp] at l2;rw [← ho] at k2;have LEN := hid (And.intro hn (And.intro hm (And.intro hp ho)));clear hn hm hp ho;have X1 := (Blk.new w 26 #[.int .i64 V, .slice An n cn, .slice Ap p cp, .slice Aq qa cq]).alloc (.cells #[.int .i64 U, .slice Dn m dn, .slice Dp o dp, .slice Dq qb dq] 26)
 have X2 : Blk ((w.alloc (.cells #[.int .i64 V, .slice An n cn, .slice Ap p cp, .slice Aq qa cq] 26)).alloc (.cells #[.int .i64 U, .slice Dn m dn, .slice Dp o dp, .slice Dq qb dq] 26)) (w.heap.size + 1) 26 #[.int .i64 U, .slice Dn m dn, .slice Dp o dp, .slice Dq qb dq] := by
  have := Blk.new (w.alloc (.cells #[.int .i64 V, .slice An n cn, .slice Ap p cp, .slice Aq qa cq] 26)) 26 #[.int .i64 U, .slice Dn m dn, .slice Dp o dp, .slice Dq qb dq];rw [show (w.alloc (.cells #[.int .i64 V, .slice An n cn, .slice Ap p cp, .slice Aq qa cq] 26)).heap.size = w.heap.size + 1 by simp] at this;exact this
 have XB := ((Below.refl w.heap.size w).alloc (Nat.le_refl _) (.cells #[.int .i64 V, .slice An n cn, .slice Ap p cp, .slice Aq qa cq] 26)).alloc (by simp) (.cells #[.int .i64 U, .slice Dn m dn, .slice Dp o dp, .slice Dq qb dq] 26);obtain ⟨w1, hw1⟩ : ∃ w1, w1 = (w.alloc (.cells #[.int .i64 V, .slice An n cn, .slice Ap p cp, .slice Aq qa cq] 26)).alloc (.cells #[.int .i64 U, .slice Dn m dn, .slice Dp o dp, .slice Dq qb dq] 26) := ⟨_, rfl⟩
 rw [← hw1] at X1 X2 XB;have S1 := hid X1;have S2 := hid X2;have W1 := hid XB;clear X1 X2 XB;go_enter Tryz.func17, Tryz.ntmps17
 go_upto_region 1 with (fail)
 rw [← hw1];clear hw1;have s10 := S1.out.cell 0;have s11 := S1.out.cell 1;have s12 := S1.out.cell 2;have s13 := S1.out.cell 3;have s20 := S2.out.cell 0;have s21 := S2.out.cell 1;have s22 := S2.out.cell 2;have s23 := S2.out.cell 3;by_cases hv : V = U
 case neg =>
  have HF := hid (HFALSE.out fun e => hv (HAB.out.1 e).1);(have h1 : (V != U) = true := by rw [bne_iff_ne]; exact hv);clear hv;(go_wp2);go_ret;exact ⟨by rw [HF.out]; rfl, W1.out⟩
 subst hv;by_cases hnm : n = m
 case neg =>
  have HF := hid (HFALSE.out fun e => hnm (by rw [LEN.out.1, LEN.out.2.1, (HAB.out.1 e).2.1]));(have h1 : ((n : Int) != (m : Int)) = true := by rw [bne_iff_ne]; omega);clear hnm;(go_wp2);go_ret;exact ⟨by rw [HF.out]; rfl, W1.out⟩
 subst hnm;by_cases hpo : p = o
 case neg =>
  have HF := hid (HFALSE.out fun e => hpo (by rw [LEN.out.2.2.1, LEN.out.2.2.2, (HAB.out.1 e).2.2.1]));(have h1 : ((p : Int) != (o : Int)) = true := by rw [bne_iff_ne]; omega);clear hpo;(go_wp2);go_ret;exact ⟨by rw [HF.out]; rfl, W1.out⟩
 subst hpo;cases q
 case false =>
  have HF := hid (HFALSE.out fun e => by have h := HQ.out; rw [(HAB.out.1 e).2.2.2] at h; simp at h);(go_wp2_with (go_at_call 40; refine (HSM.out _ W1.out).mono ?_; rintro e w2 ⟨rfl, b2⟩));go_ret;exact ⟨by rw [HF.out]; rfl, zB W1.out b2⟩
 have HLS : Hid (a = b → ln = lm ∧ lp = lq) := hid fun e => ⟨(HAB.out.1 e).2.1, (HAB.out.1 e).2.2.1⟩
 go_upto_region 3 with (go_at_call 40; refine (HSM.out _ W1.out).mono ?_; rintro e w2 ⟨rfl, b2⟩; replace b2 := hid b2)
 have W2 := b2;clear s10 s11 s12 s13 s20 s21 s22 s23;go_wp2
 go_loopw [5] (fun i wx => ∃ j : Nat, j ≤ n ∧ i = .int .i64 j ∧ Hid (Below w1.heap.size w1 wx) ∧ Hid (∀ t, t < j → ln.getD t zF = lm.getD t zF)) (fun i _ => n - (zD i).toNat)
 case atStart => exact ⟨0, Nat.zero_le _, rfl, W2, hid fun t ht => by omega⟩
 case round =>
  obtain ⟨j, hj, rfl, HW, HT⟩ := hrel;have S1r := hid (S1.out.below HW.out S1.out.lt);have S2r := hid (S2.out.below HW.out S2.out.lt);have W0r := hid (zB W1.out HW.out);by_cases hlt : j < n
  ·
   obtain ⟨ad, rfl, lx⟩ := yt HN1.out HB1.out W0r.out (i := j) (by rw [← LEN.out.1]; exact hlt);obtain ⟨ae, rfl, ly⟩ := yt HN2.out HB2.out W0r.out (i := j) (by rw [← LEN.out.2.1]; exact hlt);obtain ⟨x, hx⟩ : ∃ x, x = ln.getD j zF := ⟨_, rfl⟩
   obtain ⟨y, hy⟩ : ∃ y, y = lm.getD j zF := ⟨_, rfl⟩
   rw [← hx] at lx;rw [← hy] at ly;have HXY := hid (And.intro hx hy);have b1 : j < n := hlt;have r1 : IntKind.i64.wrap ((j : Int) + 1) = ((j + 1 : Nat) : Int) := by rw [IntKind.wrap_i64]; omega
   have neqv := zKL x y;have c1 := S1r.out.cell 1;clear hx hy;go_wp2_with fail
   refine yo ?_;refine zA (.pointer (some ⟨w.heap.size, 1, none⟩)) ?_ (hC := fun _ _ => by go_simp);refine zA (.slice (some ad) n cn) ?_ (hC := fun w' hb => by have g0 := (S1r.out.below hb S1r.out.lt).cell 1; go_simp);refine zA (.int .i64 (j : Int)) ?_;refine zA (.pointer (some (ad.add (j * 10)))) ?_ (hC := fun _ _ => by simp [go_sem, b1]);refine zL 55 (ad.add (j * 10)) (.agg x.cells) (fun w' hb => lx _ hb) ?_;refine zA (.pointer (some ⟨w.heap.size + 1, 1, none⟩)) ?_ (hC := fun _ _ => by go_simp);refine zA (.slice (some ae) n dn) ?_ (hC := fun w' hb => by have g0 := (S2r.out.below hb S2r.out.lt).cell 1; go_simp);refine zA (.int .i64 (j : Int)) ?_;refine zA (.pointer (some (ae.add (j * 10)))) ?_ (hC := fun _ _ => by simp [go_sem, b1]);refine zL 55 (ae.add (j * 10)) (.agg y.cells) (fun w' hb => ly _ hb) ?_;refine zA (.bool (!decide (x = y))) ?_ (hC := fun w' hb => by go_simp);refine wpQuiet_nil ?_;intro w2 hb2;have W3 := hid (zB HW.out hb2);have W30 := hid (zB W0r.out hb2);have S13 := hid (S1r.out.below hb2 S1r.out.lt);have c3 := S13.out.cell 1;by_cases hxy : x = y
   ·
    have HT' : Hid (∀ t, t < j + 1 → ln.getD t zF = lm.getD t zF) := hid fun t ht => by
     exact zMj
    exact zNh
   have HF : Hid (r = false) := hid (by
    rw [HR.out, decide_eq_false_iff_not];intro e;rw [HXY.out.1, HXY.out.2, (HLS.out e).1] at hxy;exact hxy rfl)
   exact zNW
  (obtain rfl : j = n := by omega);have c1 := S1r.out.cell 1;have HE1 : Hid (ln = lm) := hid (zCI zF (by rw [← LEN.out.1, ← LEN.out.2.1]) fun t ht => HT.out t (by rw [LEN.out.1]; exact ht));clear HT hlt;(go_upto_region 9 with (fail));go_loopw [6] (fun i wx => ∃ j : Nat, j ≤ p ∧ i = .int .i64 j ∧ Hid (Below w1.heap.size w1 wx) ∧ Hid (∀ t, t < j → lp.getD t zt = lq.getD t zt)) (fun i _ => p - (zD i).toNat)
  case atStart => exact ⟨0, Nat.zero_le _, rfl, HW, hid fun t ht => by omega⟩
  case round =>
   clear S1r S2r W0r HW;obtain ⟨j, hj, rfl, HW, HT⟩ := hrel;have S1r := hid (S1.out.below HW.out S1.out.lt);have S2r := hid (S2.out.below HW.out S2.out.lt);have W0r := hid (zB W1.out HW.out);by_cases hlt : j < p
   ·
    obtain ⟨ad, rfl, lx⟩ := kC HP1.out HB1.out W0r.out (i := j) (by rw [← LEN.out.2.2.1]; exact hlt);obtain ⟨ae, rfl, ly⟩ := kC HP2.out HB2.out W0r.out (i := j) (by rw [← LEN.out.2.2.2]; exact hlt);obtain ⟨x, hx⟩ : ∃ x, x = lp.getD j zt := ⟨_, rfl⟩
    obtain ⟨y, hy⟩ : ∃ y, y = lq.getD j zt := ⟨_, rfl⟩
    rw [← hx] at lx;rw [← hy] at ly;have HXY := hid (And.intro hx hy);have b1 : j < p := hlt;have r1 : IntKind.i64.wrap ((j : Int) + 1) = ((j + 1 : Nat) : Int) := by rw [IntKind.wrap_i64]; omega
    have neqv := zKb x y;have c1 := S1r.out.cell 2;clear hx hy;go_wp2_with fail
    refine yo ?_;refine zA (.pointer (some ⟨w.heap.size, 2, none⟩)) ?_ (hC := fun _ _ => by go_simp);refine zA (.slice (some ad) p cp) ?_ (hC := fun w' hb => by have g0 := (S1r.out.below hb S1r.out.lt).cell 2; go_simp);refine zA (.int .i64 (j : Int)) ?_;refine zA (.pointer (some (ad.add (j * 9)))) ?_ (hC := fun _ _ => by simp [go_sem, b1]);refine zL 57 (ad.add (j * 9)) (.agg x.cells) (fun w' hb => lx _ hb) ?_;refine zA (.pointer (some ⟨w.heap.size + 1, 2, none⟩)) ?_ (hC := fun _ _ => by go_simp);refine zA (.slice (some ae) p dp) ?_ (hC := fun w' hb => by have g0 := (S2r.out.below hb S2r.out.lt).cell 2; go_simp);refine zA (.int .i64 (j : Int)) ?_;refine zA (.pointer (some (ae.add (j * 9)))) ?_ (hC := fun _ _ => by simp [go_sem, b1]);refine zL 57 (ae.add (j * 9)) (.agg y.cells) (fun w' hb => ly _ hb) ?_;refine zA (.bool (!decide (x = y))) ?_ (hC := fun w' hb => by go_simp);refine wpQuiet_nil ?_;intro w2 hb2;have W3 := hid (zB HW.out hb2);have W30 := hid (zB W0r.out hb2);have S13 := hid (S1r.out.below hb2 S1r.out.lt);have c3 := S13.out.cell 2;by_cases hxy : x = y
    ·
     have HT' : Hid (∀ t, t < j + 1 → lp.getD t zt = lq.getD t zt) := hid fun t ht => by
      exact zMj
     exact zNh
    have HF : Hid (r = false) := hid (by
     rw [HR.out, decide_eq_false_iff_not];intro e;rw [HXY.out.1, HXY.out.2, (HLS.out e).2] at hxy;exact hxy rfl)
    exact zNW
   (obtain rfl : j = p := by omega);have c1 := S1r.out.cell 2;have HE2 : Hid (lp = lq) := hid (zCI zt (by rw [← LEN.out.2.2.1, ← LEN.out.2.2.2]) fun t ht => HT.out t (by rw [LEN.out.2.2.1]; exact ht))
   have HF : Hid (r = true) := hid (by
    rw [HR.out, decide_eq_true_eq];exact HAB.out.2 ⟨by first | rfl | trivial, HE1.out, HE2.out, by have := HQ.out; simpa using this.symm⟩)
   (go_wp2);go_ret;exact ⟨by rw [HF.out]; rfl, W0r.out⟩
open Go.RowKit Go.Deep
def xc : Tok := ⟨0, 0, 0, []⟩
def zAj (at_ : Bool) (t : Tok) : Tok := if at_ then t else { t with pos := 0 }
theorem Tok.all_one (t : Tok) : t.cells.all (·.oneCell') = true := by simp [Value.oneCell']
theorem je : (Tryz.prog.info? 40).map (·.size) = some 4 := by kernel_rfl
theorem zKP : ∃ d : TypeDesc, Tryz.prog.underlying 40 = some d ∧ d.isRow = true := by
 have h : (Tryz.prog.underlying 40).map (·.isRow) = some true := by kernel_rfl
 cases hq : Tryz.prog.underlying 40 with
 | none => rw [hq] at h; cases h
 | some d => exact ⟨d, rfl, by rw [hq] at h; simpa using h⟩
theorem zFR {w wx : World} {B : Nat} {A : Option Addr} {l : List Tok} (h : RdT w B A l) (hB : B ≤ w.heap.size) (hb : Below w.heap.size w wx) {i : Nat} (hi : i < l.length) :
 ∃ ad, A = some ad ∧ ∀ w', Below wx.heap.size wx w' → (Instr.loadAt 40 (.pointer (some (ad.add (i * 4))))).run Tryz.prog w' = .ok (.agg (l.getD i xc).cells) w' := by
 obtain ⟨ad, rfl, h1, h2⟩ := zQ.rec Tok.cs 4 Tok.cs_len h rfl hi;obtain ⟨d, hu, hd⟩ := zKP;refine ⟨ad, rfl, fun w' hb' => jw 40 d hu (by cases d <;> first | rfl | cases hd) w' _ _ je fun j v hv => ?_⟩;have hj : j < 4 := (List.getElem?_eq_some_iff.1 hv).1;have hblk : ((ad.add (i * 4)).add j).block < B := by rw [zs, zs]; exact h1
 rw [hb'.cell (Nat.lt_of_lt_of_le hblk (Nat.le_trans hB hb.size)), hb.cell (Nat.lt_of_lt_of_le hblk hB), h2 j hj, ← hv, zN hi];rfl
theorem zBs (at_ : Bool) (l : List Tok) (j : Nat) : (l.map (zAj at_)).getD j xc = zAj at_ (l.getD j xc) := by
 rw [List.getD_eq_getElem?_getD, List.getD_eq_getElem?_getD, List.getElem?_map]
 cases l[j]? with
 | some x => rfl
 | none => cases at_ <;> rfl
theorem zHm (x y : List UInt8) : ((⟨x.toArray⟩ : ByteArray).toList == (⟨y.toArray⟩ : ByteArray).toList) = decide (x = y) := by
 rw [ByteArray.toList_eq, ByteArray.toList_eq];by_cases h : x = y <;> simp [h]
theorem zH7 (x y : Tok) (w : World) : (binOp .neq 40 (.agg x.cells) (.agg y.cells)).run Tryz.prog w = .ok (.bool (!decide (x = y))) w := by
 have hs := zHm x.text y.text
 have hl : (x = y) ↔ (x.kind = y.kind ∧ x.pos = y.pos ∧ x.n = y.n ∧ x.text = y.text) := by
  cases x; cases y; simp
 simp only [decide_eq_decide.2 hl];clear hl;dsimp only [Tok.cells];by_cases h0 : x.kind = y.kind
 case neg =>
  (have q0 : ((x.kind : Int) == (y.kind : Int)) = false := by rw [beq_eq_false_iff_ne]; omega);simp only [h0, false_and, and_false, decide_false, Bool.not_false];go_simp
 have q0 : ((x.kind : Int) == (y.kind : Int)) = true := by rw [beq_iff_eq]; omega
 by_cases h1 : x.pos = y.pos
 case neg =>
  (have q1 : ((x.pos : Int) == (y.pos : Int)) = false := by rw [beq_eq_false_iff_ne]; omega);simp only [h1, false_and, and_false, decide_false, Bool.not_false];go_simp
 have q1 : ((x.pos : Int) == (y.pos : Int)) = true := by rw [beq_iff_eq]; omega
 by_cases h2 : x.n = y.n
 case neg =>
  (have q2 : ((x.n : Int) == (y.n : Int)) = false := by rw [beq_eq_false_iff_ne]; omega);simp only [h2, false_and, and_false, decide_false, Bool.not_false];go_simp
 have q2 : ((x.n : Int) == (y.n : Int)) = true := by rw [beq_iff_eq]; omega
 by_cases h3 : x.text = y.text
 case neg =>
  simp only [h3, decide_false] at hs;simp only [h0, h1, h2, h3, true_and, decide_false, Bool.not_false];go_simp
 simp only [h3, decide_true] at hs;simp only [h0, h1, h2, h3, true_and, decide_true, Bool.not_true];go_simp
theorem zDi (w : World) (B C : Nat) (A D : Option Addr) (c d : Nat) (l m : List Tok) (at_ : Bool) (hl : RdT w B A l) (hB : B ≤ w.heap.size) (hm : RdT w C D m) (hC : C ≤ w.heap.size) (hn1 : l.length ≤ 4611686018427387904) (hn2 : m.length ≤ 4611686018427387904) :
 Calls Tryz.prog 14 #[.slice A l.length c, .slice D m.length d, .bool at_] w fun e w' => e = .returned (.bool (decide (l.map (zAj at_) = m.map (zAj at_)))) ∧ Below w.heap.size w w' := by
 have HL := hid hl;have HM := hid hm;have HBB := hid hB;have HCC := hid hC;obtain ⟨r, hr⟩ : ∃ r, r = decide (l.map (zAj at_) = m.map (zAj at_)) := ⟨_, rfl⟩
 rw [← hr];have HR := hid hr;clear hl hm hB hC hr;by_cases hlen : l.length = m.length
 case neg =>
  have HF : Hid (r = false) := hid (by rw [HR.out, decide_eq_false_iff_not]; intro e; exact hlen (by simpa using congrArg List.length e));(have hq : ((l.length : Int) != (m.length : Int)) = true := by rw [bne_iff_ne]; omega);clear hlen;(go_enter Tryz.func14, Tryz.ntmps14);(go_wp2);go_ret;exact ⟨by rw [HF.out]; rfl, Below.refl _ _⟩
 rw [← hlen];obtain ⟨n, hn⟩ : ∃ n, n = l.length := ⟨_, rfl⟩
 rw [← hn] at hn1 ⊢;have HN := hid hn;have HLEN := hid hlen;clear hlen hn hn2;go_enter Tryz.func14, Tryz.ntmps14
 go_wp2
 go_loopw [7] (fun i wx => ∃ j : Nat, j ≤ n ∧ i = .int .i64 j ∧ Hid (Below w.heap.size w wx) ∧ Hid (∀ t, t < j → zAj at_ (l.getD t xc) = zAj at_ (m.getD t xc))) (fun i _ => n - (zD i).toNat)
 case atStart => exact ⟨0, Nat.zero_le _, rfl, hid (Below.refl _ _), hid fun t ht => by omega⟩
 case round =>
  obtain ⟨j, hj, rfl, HW, HT⟩ := hrel;by_cases hlt : j < n
  ·
   obtain ⟨ad, rfl, lx⟩ := zFR HL.out HBB.out HW.out (i := j) (by rw [← HN.out]; exact hlt);obtain ⟨ae, rfl, ly⟩ := zFR HM.out HCC.out HW.out (i := j) (by rw [← HLEN.out, ← HN.out]; exact hlt);obtain ⟨x, hx⟩ : ∃ x, x = l.getD j xc := ⟨_, rfl⟩
   obtain ⟨y, hy⟩ : ∃ y, y = m.getD j xc := ⟨_, rfl⟩
   rw [← hx] at lx;rw [← hy] at ly;have HXY := hid (And.intro hx hy);have LY := hid ly;have r1 : IntKind.i64.wrap ((j : Int) + 1) = ((j + 1 : Nat) : Int) := by rw [IntKind.wrap_i64]; omega
   have lx0 := lx _ (Below.refl _ _);clear hx hy lx ly;go_upto_region 7 with (first | (refine yB rfl 40 (.tmp 23) rfl _ x.cells rfl lx0 ?_; try simp only [Act.put, sS]) | (refine zI rfl 40 (.tmp 8) (.tmp 24) rfl wr.heap.size x.cells rfl rfl 40 xc.cells (Blk.new wr _ _) je rfl x.all_one ?_; intro w4 b4 g4 z4; replace b4 := hid b4; replace g4 := hid g4; replace z4 := hid z4; try simp only [Act.put, sS]))
   have B4 : Hid (Below wr.heap.size wr w4) := hid (((Below.refl _ _).alloc (Nat.le_refl _) _).grown g4.out (by simp) (fun b e => by injection e with e; omega));have W4 := hid (zB HW.out B4.out);have lx1 := LY.out _ B4.out;obtain ⟨s4, hs4⟩ : ∃ s4, s4 = w4.heap.size := ⟨_, rfl⟩
   clear g4 z4 lx0;go_upto_region 8 with (first | (refine yB rfl 40 (.tmp 27) rfl _ y.cells rfl lx1 ?_; try simp only [Act.put, sS]) | (refine zI rfl 40 (.tmp 9) (.tmp 28) rfl w4.heap.size y.cells rfl rfl 40 xc.cells (Blk.new w4 _ _) je rfl y.all_one ?_; intro w5 b5 g5 z5; replace b5 := hid b5; replace g5 := hid g5; replace z5 := hid z5; try simp only [Act.put, sS]))
   have B5 : Hid (Below w4.heap.size w4 w5) := hid (((Below.refl _ _).alloc (Nat.le_refl _) _).grown g5.out (by simp) (fun b e => by injection e with e; omega));have W5 := hid (zB W4.out B5.out);have XB := hid (b4.out.below B5.out b4.out.lt);have YB := b5;have D5 : Hid (wr.heap.size ≠ w4.heap.size) := hid (by have := b4.out.lt; omega);have E5 : Hid (wr.heap.size < w5.heap.size ∧ w4.heap.size < w5.heap.size ∧ w.heap.size ≤ wr.heap.size ∧ w.heap.size ≤ w4.heap.size) := hid ⟨XB.out.lt, YB.out.lt, HW.out.size, W4.out.size⟩;clear g5 z5 lx1 b4 B4 B5 b5 LY hs4 s4;generalize wr.heap.size = gx at *;generalize w4.heap.size = gy at *;cases at_
   case true =>
    have nv := zH7 (x) (y);by_cases hxy : x = y
    ·
     have HT' : Hid (∀ t, t < j + 1 → zAj true (l.getD t xc) = zAj true (m.getD t xc)) := hid fun t ht => by
      exact zM2
     have h1 : decide (x = y) = true := by rw [decide_eq_true_eq]; exact hxy
     simp only [h1, Bool.not_true, Bool.not_false] at nv;clear hxy h1;go_wp2_with (first | (refine zp 40 XB.out Tryz.underlying40 je ?_ (cs := (x).cells)) | (refine zp 40 YB.out Tryz.underlying40 je ?_ (cs := (y).cells)))
     go_roundw
     case rel => exact ⟨j + 1, by omega, by go_num, W5, HT'⟩
     case measure => simp [zD]; omega
    have HF : Hid (r = false) := hid (by
     rw [HR.out, decide_eq_false_iff_not];intro e;refine hxy ?_;have := congrArg (fun z => z.getD j xc) e;simp only [zBs] at this;rw [← HXY.out.1, ← HXY.out.2] at this;exact this)
    have h1 : decide (x = y) = false := by rw [decide_eq_false_iff_not]; exact hxy
    simp only [h1, Bool.not_true, Bool.not_false] at nv;clear hxy h1;go_wp2_with (first | (refine zp 40 XB.out Tryz.underlying40 je ?_ (cs := (x).cells)) | (refine zp 40 YB.out Tryz.underlying40 je ?_ (cs := (y).cells)))
    go_ret;exact ⟨by rw [HF.out]; rfl, W5.out⟩
   case false =>
    have cx := XB.out.cell 1;have fx := XB.out.frozen 1;go_upto_region 10 with (fail)
    have X6 := hid (XB.out.set_ 1 (.int .i64 0));have Y6 := hid (YB.out.far (p := ⟨gx, 1, none⟩) (fun e => D5.out e.symm) (.int .i64 0));have W6 := hid (W5.out.setCell (p := ⟨gx, 1, none⟩) E5.out.2.2.1 (.int .i64 0));clear cx fx;generalize w5.setCell ⟨gx, 1, none⟩ (.int .i64 0) = w6 at X6 Y6 W6 ⊢;have cy := Y6.out.cell 1;have fy := Y6.out.frozen 1;go_upto_region 11 with (fail)
    have Y7 := hid (Y6.out.set_ 1 (.int .i64 0));have X7 := hid (X6.out.far (p := ⟨gy, 1, none⟩) D5.out (.int .i64 0));have W7 := hid (W6.out.setCell (p := ⟨gy, 1, none⟩) E5.out.2.2.2 (.int .i64 0));clear cy fy XB YB;generalize w6.setCell ⟨gy, 1, none⟩ (.int .i64 0) = w7 at X7 Y7 W7 ⊢;have XB : Hid (Blk w7 gx 40 ({ x with pos := 0 } : Tok).cells) := X7;have YB : Hid (Blk w7 gy 40 ({ y with pos := 0 } : Tok).cells) := Y7;clear X7 Y7 X6 Y6;have nv := zH7 (({ x with pos := 0 } : Tok)) (({ y with pos := 0 } : Tok));by_cases hxy : ({ x with pos := 0 } : Tok) = ({ y with pos := 0 } : Tok)
    ·
     have HT' : Hid (∀ t, t < j + 1 → zAj false (l.getD t xc) = zAj false (m.getD t xc)) := hid fun t ht => by
      exact zM2
     have h1 : decide (({ x with pos := 0 } : Tok) = ({ y with pos := 0 } : Tok)) = true := by rw [decide_eq_true_eq]; exact hxy
     simp only [h1, Bool.not_true, Bool.not_false] at nv;clear hxy h1;go_wp2_with (first | (refine zp 40 XB.out Tryz.underlying40 je ?_ (cs := (({ x with pos := 0 } : Tok)).cells)) | (refine zp 40 YB.out Tryz.underlying40 je ?_ (cs := (({ y with pos := 0 } : Tok)).cells)))
     go_roundw
     case rel => exact ⟨j + 1, by omega, by go_num, W7, HT'⟩
     case measure => simp [zD]; omega
    have HF : Hid (r = false) := hid (by
     rw [HR.out, decide_eq_false_iff_not];intro e;refine hxy ?_;have := congrArg (fun z => z.getD j xc) e;simp only [zBs] at this;rw [← HXY.out.1, ← HXY.out.2] at this;exact this)
    have h1 : decide (({ x with pos := 0 } : Tok) = ({ y with pos := 0 } : Tok)) = false := by rw [decide_eq_false_iff_not]; exact hxy
    simp only [h1, Bool.not_true, Bool.not_false] at nv;clear hxy h1;go_wp2_with (first | (refine zp 40 XB.out Tryz.underlying40 je ?_ (cs := (({ x with pos := 0 } : Tok)).cells)) | (refine zp 40 YB.out Tryz.underlying40 je ?_ (cs := (({ y with pos := 0 } : Tok)).cells)))
    go_ret;exact ⟨by rw [HF.out]; rfl, W7.out⟩
  obtain rfl : j = n := by omega
  have HF : Hid (r = true) := hid (by
   rw [HR.out, decide_eq_true_eq];(refine zCI xc (by simpa using HLEN.out) fun t ht => ?_);rw [zBs, zBs];exact HT.out t (by rw [HN.out]; simpa using ht))
  (go_wp2);go_ret;exact ⟨by rw [HF.out]; rfl, HW.out⟩
open Go.RowKit Go.Deep
theorem zHZ (a b : List UInt8) : (Value.string (({ data := a.toArray } : ByteArray) ++ { data := b.toArray })) = str (a ++ b) := by
 have : (({ data := a.toArray } : ByteArray) ++ { data := b.toArray }) = ⟨(a ++ b).toArray⟩ := by
  apply ByteArray.ext;simp [ByteArray.data_append]
 rw [this]
theorem jR (x : UInt8) (n : Nat) (hn : n < 256) : ((x.toNat : Int) == (n : Int)) = (x == UInt8.ofNat n) := by
 by_cases h : x = UInt8.ofNat n
 · subst h;have : (UInt8.ofNat n).toNat = n := by rw [UInt8.toNat_ofNat']; omega
   rw [this]; simp
 have h1 : ((x.toNat : Int) == (n : Int)) = false := by
  rw [beq_eq_false_iff_ne];intro e;apply h;(have e2 : x.toNat = n := by omega);rw [← e2, UInt8.ofNat_toNat]
 rw [h1];simpa using h
theorem zEB (w : World) (x : UInt8) : Calls Tryz.prog 28 #[.int .u8 (x.toNat : Int)] w fun e w' => e = .returned (.bool (yw x)) ∧ w' = w := by
 have h1 := jR x 32 (by decide);have h2 := jR x 9 (by decide);have h3 := jR x 10 (by decide);unfold yw;rw [show UInt8.ofNat 32 = 32 from rfl] at h1;rw [show UInt8.ofNat 9 = 9 from rfl] at h2;rw [show UInt8.ofNat 10 = 10 from rfl] at h3;generalize (x == 32) = b1 at *;generalize (x == 9) = b2 at *;generalize (x == 10) = b3 at *;generalize (x.toNat : Int) = n at *;have h1' : (n == 32) = b1 := h1;have h2' : (n == 9) = b2 := h2;have h3' : (n == 10) = b3 := h3;clear h1 h2 h3;cases b1 <;> cases b2 <;> cases b3 <;> (go_enter Tryz.func28, Tryz.ntmps28; go_wp2; go_ret; exact ⟨rfl, rfl⟩)
open Go.RowKit Go.Deep
theorem zFy (s : List UInt8) (p e : Nat) : (⟨s.toArray⟩ : ByteArray).extract p e = ⟨(zLo s p e).toArray⟩ := by
 apply ByteArray.ext;simp [ByteArray.data_extract, List.extract_eq_take_drop, zLo]
end Go.Proofs.YtcjhihmaegagdaaGreatDoor
