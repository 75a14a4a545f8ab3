/- Texts of the Notation chapter, together: Zr, Zs. -/
import Derived.Test.YtcjhihmaegagdaaGreatDoorG1
import Derived.Test.YtcjhihmaegagdaaGreatDoorZ2
set_option maxRecDepth 100000
set_option maxHeartbeats 8000000
set_option linter.unusedSimpArgs false
set_option linter.unusedVariables false
set_option linter.unusedSectionVars false
set_option linter.unnecessarySimpa false
namespace Go.Proofs.YtcjhihmaegagdaaGreatDoor
open Go.RowKit Go.Deep
theorem zGO (w0 w : World) (hb : Below w0.heap.size w0 w) (A : Option Addr) (c en : Nat) (ts : List Tok) (q : Qr) (hT : TkR w0 A ts) (hi : q.i ≤ ts.length) (hts : ∀ t ∈ ts, t.text.length ≤ 8000) (hxs : ∀ t ∈ ts, t.n ≤ 10000000)
 (V : Int) (x0 : Rw) (d : Drf) (hx : Rows w w0.heap.size x0 d) (hd : d.cap 100000) :
 Calls Tryz.prog 83 #[.agg (q.cells A ts.length c en), .agg (qq x0 V)] w (zDS w0 w A ts.length c en V x0 (jh ts en d q).1 (jh ts en d q).2) := by
 have hT8 := hT.n;obtain ⟨n, hn⟩ : ∃ n, n = ts.length := ⟨_, rfl⟩
 have HI : Hid (∀ W, Below w0.heap.size w0 W → ∀ q s b, isQ ts q s = b → q.i ≤ n → Calls Tryz.prog 81 #[.agg (q.cells A n c en), str s] W fun e w' => e = .returned (.bool b) ∧ Below W.heap.size W w') := hid fun W hb q s b h1 h2 => by
  subst h1; rw [hn]; exact zAW W A c en ts q s (hT.up hb) (by omega)
 have HS : Hid (∀ W, Below w0.heap.size w0 W → ∀ q s q1, zK ts en q s = q1 → q.i ≤ n → Calls Tryz.prog 79 #[.agg (q.cells A n c en), str s] W fun e w' => e = .returned (.agg (q1.cells A n c en)) ∧ Below W.heap.size W w') := hid fun W hb q s b h1 h2 => by
  subst h1; rw [hn]; exact qX W A c en ts q s (hT.up hb) (by omega)
 have HW : Hid (∀ W, Below w0.heap.size w0 W → ∀ q (ke : Nat) (ki : Int), ki = ke → ∀ q1, yG ts en q ke = q1 → q.i ≤ n → Calls Tryz.prog 84 #[.agg (q.cells A n c en), .int .i64 ki] W fun e w' => e = .returned (.agg (q1.cells A n c en)) ∧ Below W.heap.size W w') := hid fun W hb q ke ki hk q1 h1 h2 => by
  subst h1; rw [hn]; exact xl W A c en ts q ke ki hk (hT.up hb) (by omega)
 have HN : Hid (∀ W, Below w0.heap.size w0 W → ∀ q nv q1, zg ts q = nv ∧ zM ts en q = q1 → q.i ≤ n → Calls Tryz.prog 80 #[.agg (q.cells A n c en)] W fun e w' => e = .returned (.tuple #[.int .i64 (nv : Nat), .agg (q1.cells A n c en)]) ∧ Below W.heap.size W w') := hid fun W hb q nv q1 h1 h2 => by
  obtain ⟨rfl, rfl⟩ := h1; rw [hn]; exact jA W A c en ts q (hT.up hb) (by omega)
 have HK : Hid (∀ W, Below w0.heap.size w0 W → ∀ q s q1, kT ts q = s ∧ vB ts en q = q1 → q.i ≤ n → Calls Tryz.prog 121 #[.agg (q.cells A n c en)] W fun e w' => e = .returned (.tuple #[str s, .agg (q1.cells A n c en)]) ∧ Below W.heap.size W w') := hid fun W hb q s q1 h1 h2 => by
  exact zK3
 have HV : Hid (∀ W, Below w0.heap.size w0 W → ∀ q v q1, (zh ts en q).1 = v ∧ (zh ts en q).2 = q1 → q.i ≤ n → Calls Tryz.prog 123 #[.agg (q.cells A n c en)] W fun e w' => e = .returned (.tuple #[.agg v.cells, .agg (q1.cells A n c en)]) ∧ Below W.heap.size W w') := hid fun W hb q v q1 h1 h2 => by
  exact zLy
 obtain ⟨An, cn, Ap, cp, Aq, cq, Au, cu, rfl, hR⟩ := hx.form;obtain ⟨hu1, hn1, hp1, hq1⟩ := hd
 have HKN : Hid (∀ W, Below w0.heap.size w0 W → Rows W w0.heap.size ⟨.slice An d.sc.notes.length cn, .slice Ap d.sc.pairs.length cp, .slice Aq d.sc.cad.length cq, .slice Au d.names.length cu⟩ d → ∀ q k q1, xD ts en d.names q = (k, q1) → q.i ≤ n → Calls Tryz.prog 124 #[.agg (q.cells A n c en), .agg #[.int .i64 V, .slice An d.sc.notes.length cn, .slice Ap d.sc.pairs.length cp, .slice Aq d.sc.cad.length cq, .slice Au d.names.length cu]] W fun e w' => e = .returned (.tuple #[.int .i64 k, .agg (q1.cells A n c en)]) ∧ Below W.heap.size W w') := hid fun W hb ho q k q1 h1 h2 => by
  have := zG8 w0 W hb A c en ts q hT (by rw [← hn]; exact h2) hts hxs V An Ap Aq Au d.sc.notes.length d.sc.pairs.length d.sc.cad.length cn cp cq cu d.names (zQ.of_own ho.u) (by omega);rw [h1] at this;rw [hn];exact this
 have HB0 := hid hb;have HX := hid hx;obtain ⟨R, hR2⟩ : ∃ R, R = jh ts en d q := ⟨_, rfl⟩
 rw [← hR2, ← hn];rw [← hn] at hi;have HTL := hid hn;have HR := hid hR2;obtain ⟨⟨k1, q1⟩, hk1⟩ : ∃ k, xD ts en d.names q = k := ⟨_, rfl⟩
 obtain ⟨⟨k2, q2⟩, hk2⟩ : ∃ k, xD ts en d.names q1 = k := ⟨_, rfl⟩
 obtain ⟨⟨p, q3⟩, hb3⟩ : ∃ k, byQ ts en q2 = k := ⟨_, rfl⟩
 obtain ⟨⟨m, q4⟩, hw4⟩ : ∃ k, xH ts en q3 = k := ⟨_, rfl⟩
 obtain ⟨qf, hqf⟩ : ∃ k, zK ts en q4 [59] = k := ⟨_, rfl⟩
 have hi1 : q1.i ≤ n := by have := (zBP (en := en) (q := q) d.names (by rw [← hn]; exact hi)).2; rw [hk1] at this; rw [hn]; exact this
 have hi2 : q2.i ≤ n := by have := (zBP (en := en) (q := q1) d.names (by rw [← hn]; exact hi1)).2; rw [hk2] at this; rw [hn]; exact this
 have hi3 : q3.i ≤ n := by have := (zLL (en := en) (q := q2) (by rw [← hn]; exact hi2)).2; rw [hb3] at this; rw [hn]; exact this
 have hi4 : q4.i ≤ n := by have := (zEl (en := en) (q := q3) (by rw [← hn]; exact hi3)).2; rw [hw4] at this; rw [hn]; exact this
 have HRX : Hid (R = (qf, d.pair ⟨k1, k2, p, m⟩)) := hid (by
  rw [hR2];unfold jh prW prB prK;rw [hk1];show (zK ts en (xH ts en (byQ ts en (xD ts en d.names q1).2).2).2 yM, d.pair ⟨k1, (xD ts en d.names q1).1, (byQ ts en (xD ts en d.names q1).2).1, (xH ts en (byQ ts en (xD ts en d.names q1).2).2).1⟩) = _;rw [hk2];show (zK ts en (xH ts en (byQ ts en q2).2).2 yM, d.pair ⟨k1, k2, (byQ ts en q2).1, (xH ts en (byQ ts en q2).2).1⟩) = _;rw [hb3];show (zK ts en (xH ts en q3).2 yM, d.pair ⟨k1, k2, p, (xH ts en q3).1⟩) = _;rw [hw4];show (zK ts en q4 [59], d.pair ⟨k1, k2, p, m⟩) = _;rw [hqf])
 have HK1 := hid hk1;have HK2 := hid hk2;have HB3 := hid hb3;have HW4 := hid hw4;have HQF := hid hqf;obtain ⟨nn, hnn⟩ : ∃ nn, nn = d.sc.notes.length := ⟨_, rfl⟩
 obtain ⟨np, hnp⟩ : ∃ np, np = d.sc.pairs.length := ⟨_, rfl⟩
 obtain ⟨nq, hnq⟩ : ∃ nq, nq = d.sc.cad.length := ⟨_, rfl⟩
 obtain ⟨nu, hnu⟩ : ∃ nu, nu = d.names.length := ⟨_, rfl⟩
 rw [← hnn, ← hnp, ← hnq, ← hnu] at HKN HX ⊢;have HLN := hid hnp;rw [← hnp] at hp1;clear hR2 hn hnn hnp hnq hnu hk1 hk2 hb3 hw4 hqf hR hT hts hxs hb hx hu1 hn1 hq1 HR;go_enter Tryz.func83, Tryz.ntmps83
 go_upto_region 2 with (fail)
 obtain ⟨w1, hw1⟩ : ∃ w1, w1 = ((((w.alloc (.cells #[.slice A n c, .int .i64 (en : Int), .int .i64 (q.i : Int), .int .i64 (q.pos : Int), .int .i64 (q.e : Int)] 74)).alloc (.cells #[.int .i64 V, .slice An nn cn, .slice Ap np cp, .slice Aq nq cq, .slice Au nu cu] 76)).alloc (.cells zy 74)).alloc (.cells xf 76)).alloc (.cells #[.int .i64 0, .int .i64 0, .int .i64 0, .int .i64 0, .int .i64 0, .int .i64 0, .int .i64 0, .int .i64 0, .int .i64 0] 57) := ⟨_, rfl⟩
 have HF : Hid (Nst w0 w ⟨.slice An nn cn, .slice Ap np cp, .slice Aq nq cq, .slice Au nu cu⟩ [⟨w.heap.size, 74, q.cells A n c en⟩, ⟨w.heap.size + 1, 76, #[.int .i64 V, .slice An nn cn, .slice Ap np cp, .slice Aq nq cq, .slice Au nu cu]⟩, ⟨w.heap.size + 1 + 1, 74, zy⟩, ⟨w.heap.size + 1 + 1 + 1, 76, xf⟩, ⟨w.heap.size + 1 + 1 + 1 + 1, 57, #[.int .i64 0, .int .i64 0, .int .i64 0, .int .i64 0, .int .i64 0, .int .i64 0, .int .i64 0, .int .i64 0, .int .i64 0]⟩] ⟨.slice An nn cn, .slice Ap np cp, .slice Aq nq cq, .slice Au nu cu⟩ d w1) := hid (by
  rw [hw1];exact (((((Nst.base HB0.out HX.out).new _ 74 _ rfl).new _ 76 _ (by simp)).new _ 74 zy (by simp)).new _ 76 xf (by simp)).new _ 57 #[.int .i64 0, .int .i64 0, .int .i64 0, .int .i64 0, .int .i64 0, .int .i64 0, .int .i64 0, .int .i64 0, .int .i64 0] (by simp))
 rw [← hw1];clear hw1 HX;go_upto_region 3 with (first | ((with_reducible show wpList _ _ _ (Oper.mk _ (Op.load _ _) _ _ _ _ :: _) _ _); refine zp 74 HF.out.b0 Tryz.underlying74 zE ?_) | ((with_reducible show wpList _ _ _ (Oper.mk _ (Op.load _ _) _ _ _ _ :: _) _ _); refine zp 76 HF.out.b1 Tryz.underlying76 kj ?_) | (go_at_call 124; with_reducible refine (HKN.out _ HF.out.b HF.out.o q k1 q1 HK1.out hi).mono ?_; rintro e w2 ⟨rfl, b2⟩; replace HF := hid (HF.out.up b2); clear b2; have yc := HF.out.b4.cell 0; have yf := HF.out.b4.frozen 0) | ((with_reducible show wpList _ _ _ (Oper.mk _ (Op.store _ _ _) _ _ _ _ :: _) _ _); replace HF := hid (HF.out.c4 0 (.int .i64 k1)); clear yc yf; refine xJ 74 (q1.cells A n c en) HF.out.b0 zE (Qr.all_one _ _ _ _ _) ?_; intro w9 b9 g9 z9; replace HF := hid (HF.out.p0 b9 g9); clear b9 g9 z9; try simp only [Act.put, sS]))
 replace HF : Hid (Nst w0 w ⟨.slice An nn cn, .slice Ap np cp, .slice Aq nq cq, .slice Au nu cu⟩ [⟨w.heap.size, 74, q1.cells A n c en⟩, ⟨w.heap.size + 1, 76, #[.int .i64 V, .slice An nn cn, .slice Ap np cp, .slice Aq nq cq, .slice Au nu cu]⟩, ⟨w.heap.size + 1 + 1, 74, zy⟩, ⟨w.heap.size + 1 + 1 + 1, 76, xf⟩, ⟨w.heap.size + 1 + 1 + 1 + 1, 57, #[.int .i64 k1, .int .i64 0, .int .i64 0, .int .i64 0, .int .i64 0, .int .i64 0, .int .i64 0, .int .i64 0, .int .i64 0]⟩] ⟨.slice An nn cn, .slice Ap np cp, .slice Aq nq cq, .slice Au nu cu⟩ d _) := HF;go_upto_region 4 with (first | ((with_reducible show wpList _ _ _ (Oper.mk _ (Op.load _ _) _ _ _ _ :: _) _ _); refine zp 74 HF.out.b0 Tryz.underlying74 zE ?_) | ((with_reducible show wpList _ _ _ (Oper.mk _ (Op.load _ _) _ _ _ _ :: _) _ _); refine zp 76 HF.out.b1 Tryz.underlying76 kj ?_) | (go_at_call 124; with_reducible refine (HKN.out _ HF.out.b HF.out.o q1 k2 q2 HK2.out hi1).mono ?_; rintro e w2 ⟨rfl, b2⟩; replace HF := hid (HF.out.up b2); clear b2; have yc := HF.out.b4.cell 1; have yf := HF.out.b4.frozen 1) | ((with_reducible show wpList _ _ _ (Oper.mk _ (Op.store _ _ _) _ _ _ _ :: _) _ _); replace HF := hid (HF.out.c4 1 (.int .i64 k2)); clear yc yf; refine xJ 74 (q2.cells A n c en) HF.out.b0 zE (Qr.all_one _ _ _ _ _) ?_; intro w9 b9 g9 z9; replace HF := hid (HF.out.p0 b9 g9); clear b9 g9 z9; try simp only [Act.put, sS]))
 replace HF : Hid (Nst w0 w ⟨.slice An nn cn, .slice Ap np cp, .slice Aq nq cq, .slice Au nu cu⟩ [⟨w.heap.size, 74, q2.cells A n c en⟩, ⟨w.heap.size + 1, 76, #[.int .i64 V, .slice An nn cn, .slice Ap np cp, .slice Aq nq cq, .slice Au nu cu]⟩, ⟨w.heap.size + 1 + 1, 74, zy⟩, ⟨w.heap.size + 1 + 1 + 1, 76, xf⟩, ⟨w.heap.size + 1 + 1 + 1 + 1, 57, #[.int .i64 k1, .int .i64 k2, .int .i64 0, .int .i64 0, .int .i64 0, .int .i64 0, .int .i64 0, .int .i64 0, .int .i64 0]⟩] ⟨.slice An nn cn, .slice Ap np cp, .slice Aq nq cq, .slice Au nu cu⟩ d _) := HF;obtain ⟨b22, hbt⟩ : ∃ b, isQ ts q2 [98, 121] = b := ⟨_, rfl⟩
 have HI22 := hid hbt;clear hbt;go_upto_if 22 with (first | ((with_reducible show wpList _ _ _ (Oper.mk _ (Op.load _ _) _ _ _ _ :: _) _ _); refine zp 74 HF.out.b0 Tryz.underlying74 zE ?_) | (go_at_call 81; with_reducible refine (HI.out _ HF.out.b q2 [98, 121] b22 HI22.out hi2).mono ?_; rintro e w2 ⟨rfl, b2⟩; replace HF := hid (HF.out.up b2); clear b2))
 go_cut [] from 22 to 30 (fun wx => Hid (Nst w0 w ⟨.slice An nn cn, .slice Ap np cp, .slice Aq nq cq, .slice Au nu cu⟩ [⟨w.heap.size, 74, q3.cells A n c en⟩, ⟨w.heap.size + 1, 76, #[.int .i64 V, .slice An nn cn, .slice Ap np cp, .slice Aq nq cq, .slice Au nu cu]⟩, ⟨w.heap.size + 1 + 1, 74, zy⟩, ⟨w.heap.size + 1 + 1 + 1, 76, xf⟩, ⟨w.heap.size + 1 + 1 + 1 + 1, 57, #[.int .i64 k1, .int .i64 k2, .int .i64 p.a, .int .i64 p.b, .int .i64 p.c, .int .i64 p.d, .int .i64 p.e, .int .i64 p.f, .int .i64 0]⟩] ⟨.slice An nn cn, .slice Ap np cp, .slice Aq nq cq, .slice Au nu cu⟩ d wx))
 case first =>
  cases b22
  ·
   obtain ⟨rfl, rfl⟩ : vc0 = p ∧ q2 = q3 := by
    have h1 := HB3.out;unfold byQ at h1;rw [show isQ ts q2 zA8 = false from HI22.out] at h1;injection h1 with h1 h2;exact ⟨h1, h2⟩
   go_wp2_with fail
   go_meet
   case rel => exact HF
  (obtain ⟨q9, hq9⟩ : ∃ q9, zK ts en q2 [98, 121] = q9 := ⟨_, rfl⟩);have hiq9 : q9.i ≤ n := by rw [← hq9, HTL.out]; exact (yA (by rw [← HTL.out]; exact hi2) _).2
  have HV9 : Hid ((zh ts en q9).1 = p ∧ (zh ts en q9).2 = q3) := hid (by
   have h1 := HB3.out;unfold byQ at h1;rw [show isQ ts q2 zA8 = true from HI22.out, show zK ts en q2 zA8 = q9 from hq9] at h1;replace h1 : zh ts en q9 = (p, q3) := h1;rw [h1];exact ⟨rfl, rfl⟩)
  have Hq9 := hid hq9;clear hq9;go_wp2_with (first | ((with_reducible show wpList _ _ _ (Oper.mk _ (Op.load _ _) _ _ _ _ :: _) _ _); refine zp 74 HF.out.b0 Tryz.underlying74 zE ?_) | (go_at_call 79; with_reducible refine (HS.out _ HF.out.b q2 [98, 121] q9 Hq9.out hi2).mono ?_; rintro e w2 ⟨rfl, b2⟩; replace HF := hid (HF.out.up b2); clear b2) | ((with_reducible show wpList _ _ _ (Oper.mk _ (Op.store _ _ _) _ _ _ _ :: _) _ _); refine xJ 74 (q9.cells A n c en) HF.out.b0 zE (Qr.all_one _ _ _ _ _) ?_; intro w9 b9 g9 z9; replace HF := hid (HF.out.p0 b9 g9); clear b9 g9 z9; try simp only [Act.put, sS]) | (go_at_call 123; with_reducible refine (HV.out _ HF.out.b q9 p q3 HV9.out hiq9).mono ?_; rintro e w2 ⟨rfl, b2⟩; replace HF := hid (HF.out.up b2); clear b2) | ((with_reducible show wpList _ _ _ (Oper.mk _ (Op.store _ _ _) _ _ _ _ :: _) _ _); refine zDB rfl 53 (.tmp 30) (.tmp 28) rfl _ 2 (p.cells) rfl rfl _ _ HF.out.b4 zR (by show 2 + 6 ≤ 9; omega) (by simp [Value.oneCell']) ?_; intro w8 b8 g8; replace HF := hid (HF.out.p4 b8 g8); clear b8 g8; try simp only [Act.put, sS]) | ((with_reducible show wpList _ _ _ (Oper.mk _ (Op.store _ _ _) _ _ _ _ :: _) _ _); refine xJ 74 (q3.cells A n c en) HF.out.b0 zE (Qr.all_one _ _ _ _ _) ?_; intro w9 b9 g9 z9; replace HF := hid (HF.out.p0 b9 g9); clear b9 g9 z9; try simp only [Act.put, sS]))
  go_meet
  case rel => exact HF
 case rest =>
  clear HF;have HF := hcut;clear hcut HI22 HB3;(obtain ⟨b32, hbt⟩ : ∃ b, isQ ts q3 [119, 105, 116, 104, 105, 110] = b := ⟨_, rfl⟩);have HI32 := hid hbt;clear hbt;(go_upto_if 32 with (first | ((with_reducible show wpList _ _ _ (Oper.mk _ (Op.load _ _) _ _ _ _ :: _) _ _); refine zp 74 HF.out.b0 Tryz.underlying74 zE ?_) | (go_at_call 81; with_reducible refine (HI.out _ HF.out.b q3 [119, 105, 116, 104, 105, 110] b32 HI32.out hi3).mono ?_; rintro e w2 ⟨rfl, b2⟩; replace HF := hid (HF.out.up b2); clear b2)));go_cut [] from 32 to 40 (fun wx => Hid (Nst w0 w ⟨.slice An nn cn, .slice Ap np cp, .slice Aq nq cq, .slice Au nu cu⟩ [⟨w.heap.size, 74, q4.cells A n c en⟩, ⟨w.heap.size + 1, 76, #[.int .i64 V, .slice An nn cn, .slice Ap np cp, .slice Aq nq cq, .slice Au nu cu]⟩, ⟨w.heap.size + 1 + 1, 74, zy⟩, ⟨w.heap.size + 1 + 1 + 1, 76, xf⟩, ⟨w.heap.size + 1 + 1 + 1 + 1, 57, #[.int .i64 k1, .int .i64 k2, .int .i64 p.a, .int .i64 p.b, .int .i64 p.c, .int .i64 p.d, .int .i64 p.e, .int .i64 p.f, .int .i64 (m : Int)]⟩] ⟨.slice An nn cn, .slice Ap np cp, .slice Aq nq cq, .slice Au nu cu⟩ d wx))
  case first =>
   cases b32
   ·
    obtain ⟨rfl, rfl⟩ : 0 = m ∧ q3 = q4 := by
     have h1 := HW4.out;unfold xH at h1;rw [show isQ ts q3 xg = false from HI32.out] at h1;injection h1 with h1 h2;exact ⟨h1, h2⟩
    go_wp2_with fail
    go_meet
    case rel => exact HF
   (obtain ⟨q9, hq9⟩ : ∃ q9, zK ts en q3 [119, 105, 116, 104, 105, 110] = q9 := ⟨_, rfl⟩);have hiq9 : q9.i ≤ n := by rw [← hq9, HTL.out]; exact (yA (by rw [← HTL.out]; exact hi3) _).2
   have HV9 : Hid (zg ts q9 = m ∧ zM ts en q9 = q4) := hid (by
    have h1 := HW4.out;unfold xH at h1;rw [show isQ ts q3 xg = true from HI32.out, show zK ts en q3 xg = q9 from hq9] at h1;injection h1 with h1 h2;exact ⟨h1, h2⟩)
   have Hq9 := hid hq9;clear hq9;go_wp2_with (first | ((with_reducible show wpList _ _ _ (Oper.mk _ (Op.load _ _) _ _ _ _ :: _) _ _); refine zp 74 HF.out.b0 Tryz.underlying74 zE ?_) | (go_at_call 79; with_reducible refine (HS.out _ HF.out.b q3 [119, 105, 116, 104, 105, 110] q9 Hq9.out hi3).mono ?_; rintro e w2 ⟨rfl, b2⟩; replace HF := hid (HF.out.up b2); clear b2) | ((with_reducible show wpList _ _ _ (Oper.mk _ (Op.store _ _ _) _ _ _ _ :: _) _ _); refine xJ 74 (q9.cells A n c en) HF.out.b0 zE (Qr.all_one _ _ _ _ _) ?_; intro w9 b9 g9 z9; replace HF := hid (HF.out.p0 b9 g9); clear b9 g9 z9; try simp only [Act.put, sS]) | (go_at_call 80; with_reducible refine (HN.out _ HF.out.b q9 m q4 HV9.out hiq9).mono ?_; rintro e w2 ⟨rfl, b2⟩; replace HF := hid (HF.out.up b2); clear b2; have yc := HF.out.b4.cell 8; have yf := HF.out.b4.frozen 8) | ((with_reducible show wpList _ _ _ (Oper.mk _ (Op.store _ _ _) _ _ _ _ :: _) _ _); replace HF := hid (HF.out.c4 8 (.int .i64 (m : Int))); clear yc yf; refine xJ 74 (q4.cells A n c en) HF.out.b0 zE (Qr.all_one _ _ _ _ _) ?_; intro w9 b9 g9 z9; replace HF := hid (HF.out.p0 b9 g9); clear b9 g9 z9; try simp only [Act.put, sS]))
   go_meet
   case rel => exact HF
  case rest =>
   clear HF;have HF := hcut;clear hcut HI32 HW4;(go_upto_region 11 with (first | ((with_reducible show wpList _ _ _ (Oper.mk _ (Op.load _ _) _ _ _ _ :: _) _ _); refine zp 74 HF.out.b0 Tryz.underlying74 zE ?_) | (go_at_call 79; with_reducible refine (HS.out _ HF.out.b q4 [59] qf HQF.out hi4).mono ?_; rintro e w2 ⟨rfl, b2⟩; replace HF := hid (HF.out.up b2); clear b2) | ((with_reducible show wpList _ _ _ (Oper.mk _ (Op.store _ _ _) _ _ _ _ :: _) _ _); refine xJ 74 (qf.cells A n c en) HF.out.b0 zE (Qr.all_one _ _ _ _ _) ?_; intro w9 b9 g9 z9; replace HF := hid (HF.out.p0 b9 g9); clear b9 g9 z9; try simp only [Act.put, sS])));replace HF : Hid (Nst w0 w ⟨.slice An nn cn, .slice Ap np cp, .slice Aq nq cq, .slice Au nu cu⟩ [⟨w.heap.size, 74, qf.cells A n c en⟩, ⟨w.heap.size + 1, 76, #[.int .i64 V, .slice An nn cn, .slice Ap np cp, .slice Aq nq cq, .slice Au nu cu]⟩, ⟨w.heap.size + 1 + 1, 74, zy⟩, ⟨w.heap.size + 1 + 1 + 1, 76, xf⟩, ⟨w.heap.size + 1 + 1 + 1 + 1, 57, #[.int .i64 k1, .int .i64 k2, .int .i64 p.a, .int .i64 p.b, .int .i64 p.c, .int .i64 p.d, .int .i64 p.e, .int .i64 p.f, .int .i64 (m : Int)]⟩] ⟨.slice An nn cn, .slice Ap np cp, .slice Aq nq cq, .slice Au nu cu⟩ d w9) := HF
   have v1 := HF.out.b1.cell 2;have HA := hid (HF.out.up ((Below.refl _ w9).alloc (Nat.le_refl _) (.cells #[.int .i64 k1, .int .i64 k2, .int .i64 p.a, .int .i64 p.b, .int .i64 p.c, .int .i64 p.d, .int .i64 p.e, .int .i64 p.f, .int .i64 (m : Int)] 57)));have hwz := HA.out.b.size;go_upto_region 12 with (first | ((with_reducible show wpList _ _ _ (Oper.mk _ (Op.load _ _) _ _ _ _ :: _) _ _); refine zp 57 HF.out.b4 Tryz.underlying57 vN ?_) | (at_builtin; go_must (refine vt _ rfl _ _ 23 57 (.agg #[.int .i64 0, .int .i64 0, .int .i64 0, .int .i64 0, .int .i64 0, .int .i64 0, .int .i64 0, .int .i64 0, .int .i64 0]) 9 72 rfl Tryz.underlying23 zBj rfl (by decide) w0.heap.size (.slice Ap np cp) np (zW Par.cs d.sc.pairs) rfl (by have := HA.out.o.p; unfold zn at this; rw [← HLN.out] at this; exact this) _ (some ⟨w9.heap.size, 0, none⟩) 1 1 (Par.cs ⟨k1, k2, p, (m : Int)⟩) rfl (zAb w9 ⟨k1, k2, p, (m : Int)⟩ _ rfl) (Par.cs_one ⟨k1, k2, p, (m : Int)⟩) (by simp only [maxLen]; omega) (by omega) hwz ?_); intro v6 w6 ho6 hg6 hv6; replace HA := hid (HA.out.addp (z := ⟨k1, k2, p, (m : Int)⟩) (zn.snoc (by have := ho6; rw [HLN.out] at this; exact this)) hg6 hv6); clear ho6 hg6 hv6; obtain ⟨A6, c6, hv6', -, -⟩ := HA.out.o.p.form; replace hv6' : v6 = .slice A6 (d.sc.pairs ++ [(⟨k1, k2, p, (m : Int)⟩ : Par)]).length c6 := hv6'; rw [List.length_append, ← HLN.out] at hv6'; replace hv6' : v6 = .slice A6 (np + 1) c6 := hv6'; subst hv6'; have v5 := HA.out.b1.cell 2; have vf5 := HA.out.b1.frozen 2))
   replace HF := hid (HA.out.c1 2 (.slice A6 (np + 1) c6));clear HA v1 v5 vf5 hwz;(obtain ⟨w7, hw7⟩ : ∃ w7, w7 = w6.setCell ⟨w.heap.size + 1, 2, none⟩ (.slice A6 (np + 1) c6) := ⟨_, rfl⟩);rw [← hw7] at HF ⊢;clear hw7;replace HF : Hid (Nst w0 w ⟨.slice An nn cn, .slice Ap np cp, .slice Aq nq cq, .slice Au nu cu⟩ [⟨w.heap.size, 74, qf.cells A n c en⟩, ⟨w.heap.size + 1, 76, #[.int .i64 V, .slice An nn cn, .slice A6 (np + 1) c6, .slice Aq nq cq, .slice Au nu cu]⟩, ⟨w.heap.size + 1 + 1, 74, zy⟩, ⟨w.heap.size + 1 + 1 + 1, 76, xf⟩, ⟨w.heap.size + 1 + 1 + 1 + 1, 57, #[.int .i64 k1, .int .i64 k2, .int .i64 p.a, .int .i64 p.b, .int .i64 p.c, .int .i64 p.d, .int .i64 p.e, .int .i64 p.f, .int .i64 (m : Int)]⟩] ⟨.slice An nn cn, .slice A6 (np + 1) c6, .slice Aq nq cq, .slice Au nu cu⟩ (d.pair ⟨k1, k2, p, (m : Int)⟩) w7) := HF;replace HF := hid HF.out.drew;refine jF (zCE [⟨w.heap.size, 74, qf.cells A n c en⟩, ⟨w.heap.size + 1, 76, #[.int .i64 V, .slice An nn cn, .slice A6 (np + 1) c6, .slice Aq nq cq, .slice Au nu cu]⟩]) (HF.out.sees.sub (by simp)) fun hHeld => ?_
   refine zJ 0 ?_ (hy := Or.inl ⟨by rfl, fun w hSw => by have k0 := hSw.get (k := 0) rfl; have x0 := k0.cell 0; have x1 := k0.cell 1; have x2 := k0.cell 2; have x3 := k0.cell 3; have x4 := k0.cell 4; clear k0 hSw; go_simp; try with_reducible rfl⟩);refine zJ 1 ?_ (hy := Or.inl ⟨by rfl, fun w hSw => by have k1 := hSw.get (k := 1) rfl; have x0 := k1.cell 0; have x1 := k1.cell 1; have x2 := k1.cell 2; have x3 := k1.cell 3; have x4 := k1.cell 4; clear k1 hSw; go_simp; try with_reducible rfl⟩);refine yL 2 ?_;intro K hK;refine jV 74 (qf.cells A n c en) HF.out.b2 zE (Qr.all_one _ _ _ _ _) ?_;intro w9 b9 g9 z9;replace HF := hid (HF.out.p2 b9 g9);clear b9 g9 z9;(refine zq hK (HF.out.sees.sub (by simp)) fun hHeld => ?_);clear hK K;refine yL 3 ?_;intro K hK;refine kD rfl 76 (.tmp 5) (.tmp 52) rfl _ _ rfl rfl 76 _ HF.out.b3 kj rfl (HF.out.o.one V) ?_;intro w9 b9 g9 z9;replace HF := hid (HF.out.p3 b9 g9);clear b9 g9 z9;(refine zq hK (HF.out.sees.sub (by simp)) fun hHeld => ?_);clear hK K;refine jc ?_;(go_wp2_with fail);refine bodyPost_ret (xK rfl _ ⟨w.heap.size + 1 + 1, 0, none⟩ ⟨w.heap.size + 1 + 1 + 1, 0, none⟩ rfl rfl _ _ Tryz.underlying74 rfl Tryz.underlying76 rfl _ (qf.cells A n c en) (#[.int .i64 V, .slice An nn cn, .slice A6 (np + 1) c6, .slice Aq nq cq, .slice Au nu cu]) zE kj (zO HF.out.b2) (zO HF.out.b3)) rfl ?_
   rw [HRX.out];exact HF.out.ends rfl
open Go.RowKit Go.Deep
theorem Drf.cap.mono {d : Drf} {a b : Nat} (h : d.cap a) (hab : a ≤ b) : d.cap b := ⟨Nat.le_trans h.1 hab, Nat.le_trans h.2.1 hab, Nat.le_trans h.2.2.1 hab, Nat.le_trans h.2.2.2 hab⟩
theorem zGf (ts : List Tok) (en : Nat) (d : Drf) (q : Qr) : (vJ ts en d q).2.sc.voices = d.sc.voices := by
 have hn : ∀ t q, (vz ts en t d q).2.sc.voices = d.sc.voices := fun t q => by
  unfold vz;split <;> rfl
 unfold vJ;split
 · rfl
 split
 · exact hn _ _
 split
 · exact hn _ _
 split <;> rfl
def zKp (g n : Nat) (W : World) : Nat :=
 match W.cell? ⟨g, 4, none⟩, W.cell? ⟨g, 2, none⟩ with
 | some (.int _ e), some (.int _ i) => if e = 0 then n + 1 - i.toNat else 0
 | _, _ => 0
theorem zGA {W : World} {g n c en : Nat} {A : Option Addr} {t : TypeId} {q : Qr} (h : Blk W g t (q.cells A n c en)) : zKp g n W = if q.e = 0 then n + 1 - q.i else 0 := by
 unfold zKp;rw [h.cell 4, h.cell 2];show (if (q.e : Int) = 0 then n + 1 - (q.i : Int).toNat else 0) = _;by_cases e : q.e = 0
 · rw [if_pos e, if_pos (by omega)]; simp
 rw [if_neg e, if_neg (by omega)]
structure RdK (ts : List Tok) (en n : Nat) (V : Int) (R : Qr × Drf) (f : Nat) (q : Qr) (d : Drf) : Prop where
 r : R = zAa ts en f d q
 f : q.e = 0 → n - q.i < f
 c : q.e = 0 → d.cap q.i
 v : d.sc.voices = V
theorem RdK.next {ts : List Tok} {en n f : Nat} {V : Int} {R : Qr × Drf} {q q2 : Qr} {d d2 : Drf} (hn : n = ts.length) (h : RdK ts en n V R f q d) (he : q.e = 0) (hi : q.i < n) (hit : vJ ts en d q = (q2, d2)) :
 q2.i ≤ n ∧ (∃ f2, RdK ts en n V R f2 q2 d2) ∧ (q2.e = 0 → q.i < q2.i) := by
 subst hn;have hu := zLJ (en := en) d hi;have hc := zJ9 (ts := ts) (en := en) (q := q) (h.c he);have hv := zGf ts en d q;rw [hit] at hu hc hv;obtain ⟨f2, rfl⟩ : ∃ f2, f = f2 + 1 := ⟨f - 1, by have := h.f he; omega⟩
 refine ⟨hu.2.1, ⟨f2, ?_, fun e => ?_, fun e => ?_, hv.trans h.v⟩, hu.2.2⟩
 · rw [h.r, zCp _ _ ⟨he, hi⟩, hit]
 · have h1 := h.f he;have h2 := hu.2.2 e;have h3 := hu.2.1;simp only at h2 h3;omega
 exact hc.mono (hu.2.2 e)
theorem RdK.end {ts : List Tok} {en n f : Nat} {V : Int} {R : Qr × Drf} {q : Qr} {d : Drf} (hn : n = ts.length) (h : RdK ts en n V R f q d) (he : ¬ (q.e = 0 ∧ q.i < n)) : R = (q, d) := by
 subst hn;rw [h.r, zDc _ _ he]
theorem zIW (w : World) (A : Option Addr) (c en : Nat) (ts : List Tok) (hT : TkR w A ts) (hts : ∀ t ∈ ts, t.text.length ≤ 8000) (hxs : ∀ t ∈ ts, t.n ≤ 10000000) :
 Calls Tryz.prog 35 #[.agg #[.slice A ts.length c, .int .i64 (en : Int), .int .i64 0, .int .i64 0, .int .i64 0]] w fun e w' => ∃ y : Rw, e = .returned (.tuple #[.agg ((qG ts en).1.cells A ts.length c en), .agg (qq y (qG ts en).2.sc.voices)]) ∧ Below w.heap.size w w' ∧ Rows w' w.heap.size y (qG ts en).2 := by
 obtain ⟨w0, hw0⟩ : ∃ w0, w0 = w := ⟨_, rfl⟩
 rw [← hw0] at hT;have hT8 := hT.n;obtain ⟨n, hn⟩ : ∃ n, n = ts.length := ⟨_, rfl⟩
 have HI : Hid (∀ W, Below w0.heap.size w0 W → ∀ q s b, isQ ts q s = b → q.i ≤ n → Calls Tryz.prog 81 #[.agg (q.cells A n c en), str s] W fun e w' => e = .returned (.bool b) ∧ Below W.heap.size W w') := hid fun W hb q s b h1 h2 => by
  subst h1; rw [hn]; exact zAW W A c en ts q s (hT.up hb) (by omega)
 have HS : Hid (∀ W, Below w0.heap.size w0 W → ∀ q s q1, zK ts en q s = q1 → q.i ≤ n → Calls Tryz.prog 79 #[.agg (q.cells A n c en), str s] W fun e w' => e = .returned (.agg (q1.cells A n c en)) ∧ Below W.heap.size W w') := hid fun W hb q s b h1 h2 => by
  subst h1; rw [hn]; exact qX W A c en ts q s (hT.up hb) (by omega)
 have HW : Hid (∀ W, Below w0.heap.size w0 W → ∀ q (ke : Nat) (ki : Int), ki = ke → ∀ q1, yG ts en q ke = q1 → q.i ≤ n → Calls Tryz.prog 84 #[.agg (q.cells A n c en), .int .i64 ki] W fun e w' => e = .returned (.agg (q1.cells A n c en)) ∧ Below W.heap.size W w') := hid fun W hb q ke ki hk q1 h1 h2 => by
  subst h1; rw [hn]; exact xl W A c en ts q ke ki hk (hT.up hb) (by omega)
 have HN : Hid (∀ W, Below w0.heap.size w0 W → ∀ q nv q1, zg ts q = nv ∧ zM ts en q = q1 → q.i ≤ n → Calls Tryz.prog 80 #[.agg (q.cells A n c en)] W fun e w' => e = .returned (.tuple #[.int .i64 (nv : Nat), .agg (q1.cells A n c en)]) ∧ Below W.heap.size W w') := hid fun W hb q nv q1 h1 h2 => by
  obtain ⟨rfl, rfl⟩ := h1; rw [hn]; exact jA W A c en ts q (hT.up hb) (by omega)
 have HK : Hid (∀ W, Below w0.heap.size w0 W → ∀ q s q1, kT ts q = s ∧ vB ts en q = q1 → q.i ≤ n → Calls Tryz.prog 121 #[.agg (q.cells A n c en)] W fun e w' => e = .returned (.tuple #[str s, .agg (q1.cells A n c en)]) ∧ Below W.heap.size W w') := hid fun W hb q s q1 h1 h2 => by
  exact zK3
 have HV : Hid (∀ W, Below w0.heap.size w0 W → ∀ q v q1, (zh ts en q).1 = v ∧ (zh ts en q).2 = q1 → q.i ≤ n → Calls Tryz.prog 123 #[.agg (q.cells A n c en)] W fun e w' => e = .returned (.tuple #[.agg v.cells, .agg (q1.cells A n c en)]) ∧ Below W.heap.size W w') := hid fun W hb q v q1 h1 h2 => by
  exact zLy
 have HND : Hid (∀ W, Below w0.heap.size w0 W → ∀ q x d, Rows W w0.heap.size x d → d.cap 100000 → q.i ≤ n → ∀ V tied R', vz ts en tied d q = R' → Calls Tryz.prog 82 #[.agg (q.cells A n c en), .agg (qq x V), .bool tied] W (zDS w0 W A n c en V x R'.1 R'.2)) := hid fun W hb q x d ho hd h2 V tied R' h1 => by
  subst h1; rw [hn]; exact zHN w0 W hb A c en ts q hT (by rw [← hn]; exact h2) hts hxs V x d ho hd tied
 have HPD : Hid (∀ W, Below w0.heap.size w0 W → ∀ q x d, Rows W w0.heap.size x d → d.cap 100000 → q.i ≤ n → ∀ V R', jh ts en d q = R' → Calls Tryz.prog 83 #[.agg (q.cells A n c en), .agg (qq x V)] W (zDS w0 W A n c en V x R'.1 R'.2)) := hid fun W hb q x d ho hd h2 V R' h1 => by
  subst h1; rw [hn]; exact zGO w0 W hb A c en ts q hT (by rw [← hn]; exact h2) hts hxs V x d ho hd
 subst hw0;obtain ⟨R, hR2⟩ : ∃ R, R = qG ts en := ⟨_, rfl⟩
 rw [← hR2, ← hn];rw [← hn] at hT8;have HTL := hid hn;obtain ⟨q1, hq1⟩ : ∃ k, zK ts en ⟨0, 0, 0⟩ [118, 111, 105, 99, 101, 115] = k := ⟨_, rfl⟩
 obtain ⟨vn, hvn⟩ : ∃ k, zg ts q1 = k := ⟨_, rfl⟩
 obtain ⟨q2, hq2⟩ : ∃ k, zM ts en q1 = k := ⟨_, rfl⟩
 obtain ⟨q3, hq3⟩ : ∃ k, zK ts en q2 [59] = k := ⟨_, rfl⟩
 have hi1 : q1.i ≤ n := by rw [← hq1, hn]; exact (yA (Nat.zero_le _) _).2
 have hi2 : q2.i ≤ n := by rw [← hq2, hn]; exact (km (by rw [← hn]; exact hi1)).2
 have hi3 : q3.i ≤ n := by rw [← hq3, hn]; exact (yA (by rw [← hn]; exact hi2) _).2
 have HRK : Hid (RdK ts en n (vn : Int) R (n + 1) q3 ⟨{ jB with voices := (vn : Int) }, []⟩) := hid ⟨by
  rw [hR2]
  unfold qG zHA zHS
  rw [show zK ts en ⟨0, 0, 0⟩ vU = q1 from hq1, hvn, hq2, show zK ts en q2 yM = q3 from hq3, ← hn], fun _ => by omega, fun _ => ⟨Nat.zero_le _, Nat.zero_le _, Nat.zero_le _, Nat.zero_le _⟩, rfl⟩
 have HS0 : Hid (∀ W, Below w0.heap.size w0 W → Calls Tryz.prog 79 #[.agg #[.slice A n c, .int .i64 (en : Int), .int .i64 0, .int .i64 0, .int .i64 0], str [118, 111, 105, 99, 101, 115]] W fun e w' => e = .returned (.agg (q1.cells A n c en)) ∧ Below W.heap.size W w') := hid fun W hb => HS.out W hb ⟨0, 0, 0⟩ _ q1 hq1 (Nat.zero_le _)
 have HQ2 := hid (And.intro hvn hq2);have HQ3 := hid hq3;clear hR2 hn hq1 hvn hq2 hq3 hT hts hxs;go_enter Tryz.func35, Tryz.ntmps35
 go_upto_region 2 with (fail)
 obtain ⟨w1, hw1⟩ : ∃ w1, w1 = (((w0.alloc (.cells #[.slice A n c, .int .i64 (en : Int), .int .i64 0, .int .i64 0, .int .i64 0] 74)).alloc (.cells zy 74)).alloc (.cells xf 76)).alloc (.cells xf 76) := ⟨_, rfl⟩
 have HF : Hid (Nst w0 w0 rw0 [⟨w0.heap.size, 74, #[.slice A n c, .int .i64 (en : Int), .int .i64 0, .int .i64 0, .int .i64 0]⟩, ⟨w0.heap.size + 1, 74, zy⟩, ⟨w0.heap.size + 1 + 1, 76, xf⟩, ⟨w0.heap.size + 1 + 1 + 1, 76, xf⟩] rw0 zL6 w1) := hid (by
  rw [hw1];exact ((((Nst.base (Below.refl _ _) (zLQ _ _)).new _ 74 _ rfl).new _ 74 zy (by simp)).new _ 76 xf (by simp)).new _ 76 xf (by simp))
 rw [← hw1];clear hw1;go_upto_region 3 with (first | ((with_reducible show wpList _ _ _ (Oper.mk _ (Op.load _ _) _ _ _ _ :: _) _ _); refine zp 74 HF.out.b0 Tryz.underlying74 zE ?_) | (go_at_call 79; with_reducible refine (HS0.out _ HF.out.b).mono ?_; rintro e w2 ⟨rfl, b2⟩; replace HF := hid (HF.out.up b2); clear b2) | ((with_reducible show wpList _ _ _ (Oper.mk _ (Op.store _ _ _) _ _ _ _ :: _) _ _); refine xJ 74 (q1.cells A n c en) HF.out.b0 zE (Qr.all_one _ _ _ _ _) ?_; intro w9 b9 g9 z9; replace HF := hid (HF.out.p0 b9 g9); clear b9 g9 z9; try simp only [Act.put, sS]))
 go_upto_region 4 with (first | ((with_reducible show wpList _ _ _ (Oper.mk _ (Op.load _ _) _ _ _ _ :: _) _ _); refine zp 74 HF.out.b0 Tryz.underlying74 zE ?_) | (go_at_call 80; with_reducible refine (HN.out _ HF.out.b q1 vn q2 HQ2.out hi1).mono ?_; rintro e w2 ⟨rfl, b2⟩; replace HF := hid (HF.out.up b2); clear b2; have yc := HF.out.b3.cell 0; have yf := HF.out.b3.frozen 0) | ((with_reducible show wpList _ _ _ (Oper.mk _ (Op.store _ _ _) _ _ _ _ :: _) _ _); replace HF := hid (HF.out.c3 0 (.int .i64 (vn : Int))); clear yc yf; refine xJ 74 (q2.cells A n c en) HF.out.b0 zE (Qr.all_one _ _ _ _ _) ?_; intro w9 b9 g9 z9; replace HF := hid (HF.out.p0 b9 g9); clear b9 g9 z9; try simp only [Act.put, sS]))
 go_upto_region 5 with (first | ((with_reducible show wpList _ _ _ (Oper.mk _ (Op.load _ _) _ _ _ _ :: _) _ _); refine zp 74 HF.out.b0 Tryz.underlying74 zE ?_) | (go_at_call 79; with_reducible refine (HS.out _ HF.out.b q2 [59] q3 HQ3.out hi2).mono ?_; rintro e w2 ⟨rfl, b2⟩; replace HF := hid (HF.out.up b2); clear b2) | ((with_reducible show wpList _ _ _ (Oper.mk _ (Op.store _ _ _) _ _ _ _ :: _) _ _); refine xJ 74 (q3.cells A n c en) HF.out.b0 zE (Qr.all_one _ _ _ _ _) ?_; intro w9 b9 g9 z9; replace HF := hid (HF.out.p0 b9 g9); clear b9 g9 z9; try simp only [Act.put, sS]))
 obtain ⟨V, hV⟩ : ∃ V : Int, V = (vn : Int) := ⟨_, rfl⟩
 replace HF : Hid (Nst w0 w0 rw0 [⟨w0.heap.size, 74, q3.cells A n c en⟩, ⟨w0.heap.size + 1, 74, zy⟩, ⟨w0.heap.size + 1 + 1, 76, xf⟩, ⟨w0.heap.size + 1 + 1 + 1, 76, qq rw0 V⟩] rw0 ⟨{ jB with voices := V }, []⟩ w9) := by
  rw [hV];exact hid ⟨HF.out.s, HF.out.b, HF.out.c, HF.out.f, HF.out.nd, HF.out.ap, HF.out.kn, ⟨HF.out.o.n, HF.out.o.p, HF.out.o.q, HF.out.o.u⟩⟩
 rw [← hV] at HRK;clear HS0 HQ2 HQ3 hi1 hi2 hV;go_loopw [5] (fun _ wx => ∃ (q : Qr) (d : Drf) (x : Rw) (f : Nat), q.i ≤ n ∧ Hid (Nst w0 w0 rw0 [⟨w0.heap.size, 74, q.cells A n c en⟩, ⟨w0.heap.size + 1, 74, zy⟩, ⟨w0.heap.size + 1 + 1, 76, xf⟩, ⟨w0.heap.size + 1 + 1 + 1, 76, qq x V⟩] x d wx) ∧ Hid (RdK ts en n V R f q d)) (fun _ wx => zKp w0.heap.size n wx)
 case atStart => exact ⟨q3, _, rw0, n + 1, hi3, HF, HRK⟩
 case round =>
  clear HF HRK hi3;obtain ⟨q, d, x, f, hi, HF, HRK⟩ := hrel;have x0 := HF.out.b0.cell 0;have x2 := HF.out.b0.cell 2;have x4 := HF.out.b0.cell 4;by_cases he : q.e = 0
  ·
   have hk0 : ((q.e : Int) == 0) = true := by rw [beq_iff_eq]; omega
   by_cases hlt : q.i < n
   ·
    have hlf : decide ((q.i : Int) < (n : Int)) = true := by rw [decide_eq_true_eq]; omega
    obtain ⟨⟨q2, d2⟩, hit⟩ : ∃ k, vJ ts en d q = k := ⟨_, rfl⟩
    obtain ⟨hi2, ⟨f2, hk2⟩, hup⟩ := HRK.out.next HTL.out he hlt hit;have HRK2 := hid hk2;have HLT := hid (And.intro hup (And.intro hlt he));have HM := hid HF.out.b0;have HCP : Hid (d.cap 100000) := hid ((HRK.out.c he).mono (by omega));have HIT := hid hit;clear hit hup hk2 HRK;obtain ⟨bc, hbc⟩ : ∃ b, isQ ts q [99, 97, 100, 101, 110, 99, 101] = b := ⟨_, rfl⟩
    obtain ⟨bn, hbn⟩ : ∃ b, isQ ts q [110, 111, 116, 101] = b := ⟨_, rfl⟩
    obtain ⟨bt, hbt⟩ : ∃ b, isQ ts q [116, 105, 101, 100] = b := ⟨_, rfl⟩
    obtain ⟨bp, hbp⟩ : ∃ b, isQ ts q [112, 97, 105, 114] = b := ⟨_, rfl⟩
    have HIc := hid hbc;have HIn := hid hbn;have HIt := hid hbt;have HIp := hid hbp;clear hbc hbn hbt hbp;go_upto_region 7 with (fail)
    clear x0 x2 x4 hk0 hlf he hlt;cases bc
    rotate_left
    ·
     obtain ⟨qk, hqk⟩ : ∃ k, zK ts en q [99, 97, 100, 101, 110, 99, 101] = k := ⟨_, rfl⟩
     have hik : qk.i ≤ n := by rw [← hqk, HTL.out]; exact (yA (by rw [← HTL.out]; exact hi) _).2
     have HV : Hid (zGm ts en d qk = (q2, d2)) := hid (by
      have h1 := HIT.out;unfold vJ at h1;rw [show isQ ts q za = true from HIc.out, if_pos rfl] at h1;rw [show zK ts en q za = qk from hqk] at h1;exact h1)
     have HQK := hid hqk;clear hqk HIT;obtain ⟨m, hm⟩ : ∃ k, zg ts qk = k := ⟨_, rfl⟩
     obtain ⟨qm, hqm⟩ : ∃ k, zM ts en qk = k := ⟨_, rfl⟩
     have him : qm.i ≤ n := by rw [← hqm, HTL.out]; exact (km (by rw [← HTL.out]; exact hik)).2
     have HQ4 : Hid (zK ts en qm [59] = q2 ∧ d.cad m = d2) := hid (by
      have h1 := HV.out;unfold zGm at h1;rw [hqm, hm] at h1;injection h1 with h1 h2;exact ⟨h1, h2⟩)
     have HQ5 := hid (And.intro hm hqm);clear hm hqm HV;obtain ⟨An, cn, Ap, cp, Aq, cq, Au, cu, rfl, -⟩ := HF.out.o.form;obtain ⟨nq, hnq⟩ : ∃ nq, nq = d.sc.cad.length := ⟨_, rfl⟩
     obtain ⟨nn, hnn⟩ : ∃ nn, nn = d.sc.notes.length := ⟨_, rfl⟩
     obtain ⟨np, hnp⟩ : ∃ np, np = d.sc.pairs.length := ⟨_, rfl⟩
     obtain ⟨nu, hnu⟩ : ∃ nu, nu = d.names.length := ⟨_, rfl⟩
     rw [← hnq, ← hnn, ← hnp, ← hnu] at HF;have HLN := hid hnq;have hnb : nq ≤ 100000 := by rw [hnq]; exact HCP.out.2.2.2
     clear hnq hnn hnp hnu;go_upto_region 11 with (first | (go_at_call 81; with_reducible refine (HI.out _ HF.out.b q [99, 97, 100, 101, 110, 99, 101] _ HIc.out hi).mono ?_; rintro e w2 ⟨rfl, b2⟩; replace HF := hid (HF.out.up b2); clear b2) | ((with_reducible show wpList _ _ _ (Oper.mk _ (Op.load _ _) _ _ _ _ :: _) _ _); refine zp 74 HF.out.b0 Tryz.underlying74 zE ?_) | (go_at_call 79; with_reducible refine (HS.out _ HF.out.b q [99, 97, 100, 101, 110, 99, 101] qk HQK.out hi).mono ?_; rintro e w2 ⟨rfl, b2⟩; replace HF := hid (HF.out.up b2); clear b2) | (go_at_call 79; with_reducible refine (HS.out _ HF.out.b qm [59] q2 HQ4.out.1 him).mono ?_; rintro e w2 ⟨rfl, b2⟩; replace HF := hid (HF.out.up b2); clear b2) | (go_at_call 80; with_reducible refine (HN.out _ HF.out.b qk m qm HQ5.out hik).mono ?_; rintro e w2 ⟨rfl, b2⟩; replace HF := hid (HF.out.up b2); clear b2) | ((with_reducible show wpList _ _ _ (Oper.mk _ (Op.store _ _ _) _ _ _ _ :: _) _ _); refine xJ 74 (qm.cells A n c en) HF.out.b0 zE (Qr.all_one _ _ _ _ _) ?_; intro w9 b9 g9 z9; replace HF := hid (HF.out.p0 b9 g9); clear b9 g9 z9; try simp only [Act.put, sS]) | ((with_reducible show wpList _ _ _ (Oper.mk _ (Op.store _ _ _) _ _ _ _ :: _) _ _); refine xJ 74 (q2.cells A n c en) HF.out.b0 zE (Qr.all_one _ _ _ _ _) ?_; intro w9 b9 g9 z9; replace HF := hid (HF.out.p0 b9 g9); clear b9 g9 z9; try simp only [Act.put, sS]))
     replace HF : Hid (Nst w0 w0 rw0 [⟨w0.heap.size, 74, q2.cells A n c en⟩, ⟨w0.heap.size + 1, 74, zy⟩, ⟨w0.heap.size + 1 + 1, 76, xf⟩, ⟨w0.heap.size + 1 + 1 + 1, 76, qq ⟨.slice An nn cn, .slice Ap np cp, .slice Aq nq cq, .slice Au nu cu⟩ V⟩] ⟨.slice An nn cn, .slice Ap np cp, .slice Aq nq cq, .slice Au nu cu⟩ d w9) := HF;have v1 := HF.out.b3.cell 3;have HA := hid (HF.out.up ((Below.refl _ w9).alloc (Nat.le_refl _) (.cells #[.int .i64 (m : Int)] 3)));have hwz := HA.out.b.size;go_wp2_with (at_builtin; go_must (refine vt _ rfl _ _ 24 3 (.int .i64 0) 1 8 rfl Tryz.underlying24 zFd rfl (by decide) w0.heap.size (.slice Aq nq cq) nq (zW Itg.cs (itg d.sc.cad)) rfl (by have := HA.out.o.q; unfold yO at this; rw [zo, ← HLN.out] at this; exact this) _ (some ⟨w9.heap.size, 0, none⟩) 1 1 [.int .i64 (m : Int)] rfl (xX w9 #[.int .i64 (m : Int)] 3 1 1 rfl) (by intro u hu; simp at hu; subst hu; rfl) (by simp only [maxLen]; omega) (by omega) hwz ?_); intro v6 w6 ho6 hg6 hv6; replace HA := hid (HA.out.addq (z := (m : Int)) (by have := ho6; unfold yO; rw [y9, xw, List.length_append, zo, ← HLN.out]; exact this) hg6 hv6); clear ho6 hg6 hv6; obtain ⟨A6, c6, hv6', -, -⟩ := HA.out.o.q.form; replace hv6' : v6 = .slice A6 (itg (d.sc.cad ++ [(m : Int)])).length c6 := hv6'; rw [zo, List.length_append, ← HLN.out] at hv6'; replace hv6' : v6 = .slice A6 (nq + 1) c6 := hv6'; subst hv6'; have v5 := HA.out.b3.cell 3; have vf5 := HA.out.b3.frozen 3)
     replace HF := hid (HA.out.c3 3 (.slice A6 (nq + 1) c6));replace HF : Hid (Nst w0 w0 rw0 [⟨w0.heap.size, 74, q2.cells A n c en⟩, ⟨w0.heap.size + 1, 74, zy⟩, ⟨w0.heap.size + 1 + 1, 76, xf⟩, ⟨w0.heap.size + 1 + 1 + 1, 76, qq ⟨.slice An nn cn, .slice Ap np cp, .slice A6 (nq + 1) c6, .slice Au nu cu⟩ V⟩] ⟨.slice An nn cn, .slice Ap np cp, .slice A6 (nq + 1) c6, .slice Au nu cu⟩ d2 (w6.setCell ⟨w0.heap.size + 1 + 1 + 1, 3, none⟩ (.slice A6 (nq + 1) c6))) := by rw [← HQ4.out.2]; exact HF
     clear HA v1 v5 vf5 hwz;go_roundw
     case rel => exact ⟨q2, d2, ⟨.slice An nn cn, .slice Ap np cp, .slice A6 (nq + 1) c6, .slice Au nu cu⟩, f2, hi2, HF, HRK2⟩
     case measure =>
      exact zMs
    cases bn
    rotate_left
    ·
     obtain ⟨qk, hqk⟩ : ∃ k, zK ts en q [110, 111, 116, 101] = k := ⟨_, rfl⟩
     have hik : qk.i ≤ n := by rw [← hqk, HTL.out]; exact (yA (by rw [← HTL.out]; exact hi) _).2
     have HV : Hid (vz ts en false d qk = (q2, d2)) := hid (by
      have h1 := HIT.out;unfold vJ at h1;rw [show isQ ts q za = false from HIc.out, if_neg (by decide)] at h1;rw [show isQ ts q yW = true from HIn.out, if_pos rfl] at h1;rw [show zK ts en q yW = qk from hqk] at h1;exact h1)
     have HQK := hid hqk;clear hqk HIT;go_upto_region 13 with (first | ((with_reducible show wpList _ _ _ (Oper.mk _ (Op.load _ _) _ _ _ _ :: _) _ _); refine zp 74 HF.out.b0 Tryz.underlying74 zE ?_) | (go_at_call 81; with_reducible refine (HI.out _ HF.out.b q [99, 97, 100, 101, 110, 99, 101] _ HIc.out hi).mono ?_; rintro e w2 ⟨rfl, b2⟩; replace HF := hid (HF.out.up b2); clear b2) | (go_at_call 81; with_reducible refine (HI.out _ HF.out.b q [110, 111, 116, 101] _ HIn.out hi).mono ?_; rintro e w2 ⟨rfl, b2⟩; replace HF := hid (HF.out.up b2); clear b2))
     replace HF := hid HF.out.drew;refine kQ ?_;refine yg [0, 2] ?_;refine zBn ?_ ?_
     ·
      intro K hK;have x0 := HF.out.b0.cell 0;have x1 := HF.out.b0.cell 1;have x2 := HF.out.b0.cell 2;have x3 := HF.out.b0.cell 3;have x4 := HF.out.b0.cell 4;go_simp;clear x0 x1 x2 x3 x4;refine yi hK ?_;clear hK K;refine yg [1, 2] ?_;refine zBn ?_ ?_
      ·
       intro K hK;go_simp;with_reducible refine (HS.out _ HF.out.b q [110, 111, 116, 101] qk HQK.out hi).mono ?_
       rintro e wa ⟨rfl, b2⟩;replace HF := hid (HF.out.up b2);clear b2;refine yi hK ?_;clear hK K;refine xn 2 ?_;intro K hK;have z0 := HF.out.b3.cell 0;have z1 := HF.out.b3.cell 1;have z2 := HF.out.b3.cell 2;have z3 := HF.out.b3.cell 3;have z4 := HF.out.b3.cell 4;go_simp;clear z0 z1 z2 z3 z4;exact zNx
      refine zAv ?_;intro K hK;have z0 := HF.out.b3.cell 0;have z1 := HF.out.b3.cell 1;have z2 := HF.out.b3.cell 2;have z3 := HF.out.b3.cell 3;have z4 := HF.out.b3.cell 4;go_simp;clear z0 z1 z2 z3 z4;exact zMZ
     refine zAv ?_;intro K hK;have z0 := HF.out.b3.cell 0;have z1 := HF.out.b3.cell 1;have z2 := HF.out.b3.cell 2;have z3 := HF.out.b3.cell 3;have z4 := HF.out.b3.cell 4;go_simp;clear z0 z1 z2 z3 z4;refine yi hK ?_;clear hK K;refine xn 0 ?_;intro K hK;have x0 := HF.out.b0.cell 0;have x1 := HF.out.b0.cell 1;have x2 := HF.out.b0.cell 2;have x3 := HF.out.b0.cell 3;have x4 := HF.out.b0.cell 4;go_simp;clear x0 x1 x2 x3 x4;exact zMZ
    cases bt
    rotate_left
    ·
     obtain ⟨qk, hqk⟩ : ∃ k, zK ts en q [116, 105, 101, 100] = k := ⟨_, rfl⟩
     have hik : qk.i ≤ n := by rw [← hqk, HTL.out]; exact (yA (by rw [← HTL.out]; exact hi) _).2
     have HV : Hid (vz ts en true d qk = (q2, d2)) := hid (by
      have h1 := HIT.out;unfold vJ at h1;rw [show isQ ts q za = false from HIc.out, if_neg (by decide)] at h1;rw [show isQ ts q yW = false from HIn.out, if_neg (by decide)] at h1;rw [show isQ ts q yd = true from HIt.out, if_pos rfl] at h1;rw [show zK ts en q yd = qk from hqk] at h1;exact h1)
     have HQK := hid hqk;clear hqk HIT;go_upto_region 15 with (first | ((with_reducible show wpList _ _ _ (Oper.mk _ (Op.load _ _) _ _ _ _ :: _) _ _); refine zp 74 HF.out.b0 Tryz.underlying74 zE ?_) | (go_at_call 81; with_reducible refine (HI.out _ HF.out.b q [99, 97, 100, 101, 110, 99, 101] _ HIc.out hi).mono ?_; rintro e w2 ⟨rfl, b2⟩; replace HF := hid (HF.out.up b2); clear b2) | (go_at_call 81; with_reducible refine (HI.out _ HF.out.b q [110, 111, 116, 101] _ HIn.out hi).mono ?_; rintro e w2 ⟨rfl, b2⟩; replace HF := hid (HF.out.up b2); clear b2) | (go_at_call 81; with_reducible refine (HI.out _ HF.out.b q [116, 105, 101, 100] _ HIt.out hi).mono ?_; rintro e w2 ⟨rfl, b2⟩; replace HF := hid (HF.out.up b2); clear b2))
     replace HF := hid HF.out.drew;refine kQ ?_;refine yg [0, 2] ?_;refine zBn ?_ ?_
     ·
      intro K hK;have x0 := HF.out.b0.cell 0;have x1 := HF.out.b0.cell 1;have x2 := HF.out.b0.cell 2;have x3 := HF.out.b0.cell 3;have x4 := HF.out.b0.cell 4;go_simp;clear x0 x1 x2 x3 x4;refine yi hK ?_;clear hK K;refine yg [1, 2] ?_;refine zBn ?_ ?_
      ·
       intro K hK;go_simp;with_reducible refine (HS.out _ HF.out.b q [116, 105, 101, 100] qk HQK.out hi).mono ?_
       rintro e wa ⟨rfl, b2⟩;replace HF := hid (HF.out.up b2);clear b2;refine yi hK ?_;clear hK K;refine xn 2 ?_;intro K hK;have z0 := HF.out.b3.cell 0;have z1 := HF.out.b3.cell 1;have z2 := HF.out.b3.cell 2;have z3 := HF.out.b3.cell 3;have z4 := HF.out.b3.cell 4;go_simp;clear z0 z1 z2 z3 z4;exact zNn
      refine zAv ?_;intro K hK;have z0 := HF.out.b3.cell 0;have z1 := HF.out.b3.cell 1;have z2 := HF.out.b3.cell 2;have z3 := HF.out.b3.cell 3;have z4 := HF.out.b3.cell 4;go_simp;clear z0 z1 z2 z3 z4;exact zNO
     refine zAv ?_;intro K hK;have z0 := HF.out.b3.cell 0;have z1 := HF.out.b3.cell 1;have z2 := HF.out.b3.cell 2;have z3 := HF.out.b3.cell 3;have z4 := HF.out.b3.cell 4;go_simp;clear z0 z1 z2 z3 z4;refine yi hK ?_;clear hK K;refine xn 0 ?_;intro K hK;have x0 := HF.out.b0.cell 0;have x1 := HF.out.b0.cell 1;have x2 := HF.out.b0.cell 2;have x3 := HF.out.b0.cell 3;have x4 := HF.out.b0.cell 4;go_simp;clear x0 x1 x2 x3 x4;exact zNO
    cases bp
    rotate_left
    ·
     obtain ⟨qk, hqk⟩ : ∃ k, zK ts en q [112, 97, 105, 114] = k := ⟨_, rfl⟩
     have hik : qk.i ≤ n := by rw [← hqk, HTL.out]; exact (yA (by rw [← HTL.out]; exact hi) _).2
     have HV : Hid (jh ts en d qk = (q2, d2)) := hid (by
      have h1 := HIT.out;unfold vJ at h1;rw [show isQ ts q za = false from HIc.out, if_neg (by decide)] at h1;rw [show isQ ts q yW = false from HIn.out, if_neg (by decide)] at h1;rw [show isQ ts q yd = false from HIt.out, if_neg (by decide)] at h1;rw [show isQ ts q ym = true from HIp.out, if_pos rfl] at h1;rw [show zK ts en q ym = qk from hqk] at h1;exact h1)
     have HQK := hid hqk;clear hqk HIT;go_upto_region 17 with (first | ((with_reducible show wpList _ _ _ (Oper.mk _ (Op.load _ _) _ _ _ _ :: _) _ _); refine zp 74 HF.out.b0 Tryz.underlying74 zE ?_) | (go_at_call 81; with_reducible refine (HI.out _ HF.out.b q [99, 97, 100, 101, 110, 99, 101] _ HIc.out hi).mono ?_; rintro e w2 ⟨rfl, b2⟩; replace HF := hid (HF.out.up b2); clear b2) | (go_at_call 81; with_reducible refine (HI.out _ HF.out.b q [110, 111, 116, 101] _ HIn.out hi).mono ?_; rintro e w2 ⟨rfl, b2⟩; replace HF := hid (HF.out.up b2); clear b2) | (go_at_call 81; with_reducible refine (HI.out _ HF.out.b q [116, 105, 101, 100] _ HIt.out hi).mono ?_; rintro e w2 ⟨rfl, b2⟩; replace HF := hid (HF.out.up b2); clear b2) | (go_at_call 81; with_reducible refine (HI.out _ HF.out.b q [112, 97, 105, 114] _ HIp.out hi).mono ?_; rintro e w2 ⟨rfl, b2⟩; replace HF := hid (HF.out.up b2); clear b2))
     replace HF := hid HF.out.drew;refine kQ ?_;refine yg [0, 2] ?_;refine zBn ?_ ?_
     ·
      intro K hK;have x0 := HF.out.b0.cell 0;have x1 := HF.out.b0.cell 1;have x2 := HF.out.b0.cell 2;have x3 := HF.out.b0.cell 3;have x4 := HF.out.b0.cell 4;go_simp;clear x0 x1 x2 x3 x4;refine yi hK ?_;clear hK K;refine yg [1, 2] ?_;refine zBn ?_ ?_
      ·
       intro K hK;go_simp;with_reducible refine (HS.out _ HF.out.b q [112, 97, 105, 114] qk HQK.out hi).mono ?_
       rintro e wa ⟨rfl, b2⟩;replace HF := hid (HF.out.up b2);clear b2;refine yi hK ?_;clear hK K;refine xn 2 ?_;intro K hK;have z0 := HF.out.b3.cell 0;have z1 := HF.out.b3.cell 1;have z2 := HF.out.b3.cell 2;have z3 := HF.out.b3.cell 3;have z4 := HF.out.b3.cell 4;go_simp;clear z0 z1 z2 z3 z4;exact zMY
      refine zAv ?_;intro K hK;have z0 := HF.out.b3.cell 0;have z1 := HF.out.b3.cell 1;have z2 := HF.out.b3.cell 2;have z3 := HF.out.b3.cell 3;have z4 := HF.out.b3.cell 4;go_simp;clear z0 z1 z2 z3 z4;exact zNy
     refine zAv ?_;intro K hK;have z0 := HF.out.b3.cell 0;have z1 := HF.out.b3.cell 1;have z2 := HF.out.b3.cell 2;have z3 := HF.out.b3.cell 3;have z4 := HF.out.b3.cell 4;go_simp;clear z0 z1 z2 z3 z4;refine yi hK ?_;clear hK K;refine xn 0 ?_;intro K hK;have x0 := HF.out.b0.cell 0;have x1 := HF.out.b0.cell 1;have x2 := HF.out.b0.cell 2;have x3 := HF.out.b0.cell 3;have x4 := HF.out.b0.cell 4;go_simp;clear x0 x1 x2 x3 x4;exact zNy
    have HV : Hid (yG ts en q 10 = q2 ∧ d = d2) := hid (by
     have h1 := HIT.out;unfold vJ at h1;rw [show isQ ts q za = false from HIc.out, if_neg (by decide)] at h1;rw [show isQ ts q yW = false from HIn.out, if_neg (by decide)] at h1;rw [show isQ ts q yd = false from HIt.out, if_neg (by decide)] at h1;rw [show isQ ts q ym = false from HIp.out, if_neg (by decide)] at h1;injection h1 with h1 h2;exact ⟨h1, h2⟩)
    clear HIT;go_wp2_with (first | ((with_reducible show wpList _ _ _ (Oper.mk _ (Op.load _ _) _ _ _ _ :: _) _ _); refine zp 74 HF.out.b0 Tryz.underlying74 zE ?_) | (go_at_call 81; with_reducible refine (HI.out _ HF.out.b q [99, 97, 100, 101, 110, 99, 101] _ HIc.out hi).mono ?_; rintro e w2 ⟨rfl, b2⟩; replace HF := hid (HF.out.up b2); clear b2) | (go_at_call 81; with_reducible refine (HI.out _ HF.out.b q [110, 111, 116, 101] _ HIn.out hi).mono ?_; rintro e w2 ⟨rfl, b2⟩; replace HF := hid (HF.out.up b2); clear b2) | (go_at_call 81; with_reducible refine (HI.out _ HF.out.b q [116, 105, 101, 100] _ HIt.out hi).mono ?_; rintro e w2 ⟨rfl, b2⟩; replace HF := hid (HF.out.up b2); clear b2) | (go_at_call 81; with_reducible refine (HI.out _ HF.out.b q [112, 97, 105, 114] _ HIp.out hi).mono ?_; rintro e w2 ⟨rfl, b2⟩; replace HF := hid (HF.out.up b2); clear b2) | (go_at_call 84; with_reducible refine (HW.out _ HF.out.b q 10 10 rfl q2 HV.out.1 hi).mono ?_; rintro e w2 ⟨rfl, b2⟩; replace HF := hid (HF.out.up b2); clear b2) | ((with_reducible show wpList _ _ _ (Oper.mk _ (Op.store _ _ _) _ _ _ _ :: _) _ _); refine xJ 74 (q2.cells A n c en) HF.out.b0 zE (Qr.all_one _ _ _ _ _) ?_; intro w9 b9 g9 z9; replace HF := hid (HF.out.p0 b9 g9); clear b9 g9 z9; try simp only [Act.put, sS]))
    rw [HV.out.2] at HF;go_roundw
    case rel => exact ⟨q2, d2, x, f2, hi2, HF, HRK2⟩
    case measure =>
     exact zMs
   have hlf : decide ((q.i : Int) < (n : Int)) = false := by rw [decide_eq_false_iff_not]; omega
   have HRX := hid (HRK.out.end HTL.out (fun e => hlt e.2));exact m28
  (have hk0 : ((q.e : Int) == 0) = false := by rw [beq_eq_false_iff_ne]; omega);have HRX := hid (HRK.out.end HTL.out (fun e => he e.1));exact m28
end Go.Proofs.YtcjhihmaegagdaaGreatDoor
