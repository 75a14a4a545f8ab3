/- Ends of proofs that stand more than once, by short words. -/
import Derived.KernelRfl
import Derived.Tactics
import Derived.Tactics2
import Derived.OwnWalk
import Derived.LoopTactic
import Derived.IntWalk
import Derived.Deep.Cut
import Derived.Deep.DeepMust
import Derived.Deep.LoopGhost
import Derived.Deep.DeepCutAuto
import Derived.BigRegion
import Derived.StillTailTactics
import Derived.Deep.RegionHeld3
import Derived.Deep.QuietTactic
set_option linter.unusedVariables false
namespace Go.Proofs.YtcjhihmaegagdaaGreatDoor
theorem m1 {p : Prop} (h : p := by
 refine xn 8 ?_;intro K hK;have V8 := hid (V7.out.setA (B0 : Int));have N8 := hid (N7.out.setCell (p := ⟨wr.heap.size, 0, none⟩) (Nat.le_refl _) (.int .i64 (B0 : Int)));have c0 := V7.out.ca;have f0 := V7.out.f0;go_simp;clear c0 f0;generalize w7.setCell ⟨wr.heap.size, 0, none⟩ (.int .i64 (B0 : Int)) = w8 at V8 N8 ⊢;refine yi hK ?_;clear hK K;refine zG 9 ?_;refine xn 10 ?_;intro K hK;have V9 := hid (V8.out.setB (A0 : Int));have N9 := hid (N8.out.setCell (p := ⟨wr.heap.size, 1, none⟩) (Nat.le_refl _) (.int .i64 (A0 : Int)));have c1 := V8.out.cb;have f1 := V8.out.f1;go_simp;clear c1 f1;generalize w8.setCell ⟨wr.heap.size, 1, none⟩ (.int .i64 (A0 : Int)) = w9 at V9 N9 ⊢;refine yi hK ?_;clear hK K;refine zG 11 ?_;refine xn 12 ?_;intro K hK;have V10 := hid (V9.out.setW p.wish.neg);have N10 := hid (N9.out.trans ((zH.setCells p.wish.neg.cells.toList 2 w9 (zH.refl wr.heap.size w9)).below (Nat.le_refl _) N9.out.size));refine zDJ (by rfl) 53 (.tmp 119) (.tmp 116) rfl wr.heap.size 2 p.wish.neg.cells.toList rfl rfl V9.out.th2 zR (by simp [Value.oneCell']) ?_;generalize w9.setCells wr.heap.size 2 p.wish.neg.cells.toList = w10 at V10 N10 ⊢;refine yi hK ?_;clear hK K
 refine kW ?_;go_wp2_with fail
 go_meet
 case rel => exact ⟨by rw [HTQ.out]; exact V10, N10⟩) : p := h
theorem m2 {p : Prop} (h : p := by
 refine xn 8 ?_;intro K hK;refine xt _ (by rfl) (.tmp 56) (.tmp 58) 22 55 (.agg #[.int .i64 0, .int .i64 0, .int .i64 0, .int .i64 0, .int .i64 0, .int .i64 0, .int .i64 0, .int .i64 0, .int .i64 0, .bool false]) 10 80 rfl Tryz.underlying22 zBq rfl (by decide) (g + 1) (.slice AN d.sc.notes.length cN) d.sc.notes.length (zW Nte.cs d.sc.notes) rfl (N11V.out.on ((Below.refl w11.heap.size w11).alloc (Nat.le_refl _) (.cells #[.int .i64 nv, .int .i64 na, .int .i64 nb, .int .i64 0, .int .i64 0, .int .i64 0, .int .i64 0, .int .i64 0, .int .i64 0, .bool false] 55))).drew _ 1 1 (Nte.cs ⟨nv, na, nb, vc0, false⟩) rfl ⟨_, xU (zAO w11 ⟨nv, na, nb, vc0, false⟩ _ rfl)⟩ (Nte.cs_one ⟨nv, na, nb, vc0, false⟩) (by simp only [maxLen]; omega) (by omega) (by simp; omega) ?_;intro v4 w12 ho4 hg4 _;replace hg4 := kv hg4;have HO4 := hid (yY.snoc (x := ⟨nv, na, nb, vc0, false⟩) ho4);obtain ⟨A4, c4n, rfl, hc4, hr4⟩ := HO4.out.form;clear hr4 hc4 ho4;have t12 := (T11.out.alloc (.cells #[.int .i64 nv, .int .i64 na, .int .i64 nb, .int .i64 0, .int .i64 0, .int .i64 0, .int .i64 0, .int .i64 0, .int .i64 0, .bool false] 55)).grown hg4 HOG.out
 have h4w := t12.c4;rw [HV.out] at h4w;have f4w := t12.fr 4;refine yi hK ?_;clear hK K;refine zG 9 ?_;refine zG 10 ?_;refine zG 11 ?_;refine zY 12 ?_;refine kW ?_
 have HO5 : Hid (yY w12 (g + 1) (.slice A4 (d.sc.notes.length + 1) c4n) (d.sc.notes ++ [⟨nv, na, nb, vc0, false⟩])) := by
  have := HO4.out;rw [List.length_append] at this;exact this
 have hgx : (w11.alloc (.cells #[.int .i64 nv, .int .i64 na, .int .i64 nb, .int .i64 0, .int .i64 0, .int .i64 0, .int .i64 0, .int .i64 0, .int .i64 0, .bool false] 55)).grownBy w12 x.n.ownBlock := by rw [HV.out]; exact hg4
 have TD := hid (Dr.addn D10.out N9.out.tk HGW.out NM.out hgx HO5.out);have hb0 : Far g gm x W w10 := BG.out.trans N9.out.only.away;have hb4 : Far g gm x W w12 := (((hb0.grown HGW.out (fun b e => by injection e with e; exact Or.inr (Or.inl e.symm))).alloc (.cells #[.int .i64 nv, .int .i64 na, .int .i64 nb, .int .i64 0, .int .i64 0, .int .i64 0, .int .i64 0, .int .i64 0, .int .i64 0, .bool false] 55)).grown hgx (fun b hb => Or.inr (Or.inr (Or.inl hb))))
 exact zMb) : p := h
theorem m3 {p : Prop} (h : p := by
 refine xn 8 ?_;intro K hK;refine xt _ (by rfl) (.tmp 56) (.tmp 58) 22 55 (.agg #[.int .i64 0, .int .i64 0, .int .i64 0, .int .i64 0, .int .i64 0, .int .i64 0, .int .i64 0, .int .i64 0, .int .i64 0, .bool false]) 10 80 rfl Tryz.underlying22 zBq rfl (by decide) (g + 1) (.slice AN d.sc.notes.length cN) d.sc.notes.length (zW Nte.cs d.sc.notes) rfl (N11V.out.on ((Below.refl w11.heap.size w11).alloc (Nat.le_refl _) (.cells #[.int .i64 nv, .int .i64 na, .int .i64 nb, .int .i64 p.a, .int .i64 p.b, .int .i64 p.c, .int .i64 p.d, .int .i64 p.e, .int .i64 p.f, .bool false] 55))).drew _ 1 1 (Nte.cs ⟨nv, na, nb, p, false⟩) rfl ⟨_, xU (zAO w11 ⟨nv, na, nb, p, false⟩ _ rfl)⟩ (Nte.cs_one ⟨nv, na, nb, p, false⟩) (by simp only [maxLen]; omega) (by omega) (by simp; omega) ?_;intro v4 w12 ho4 hg4 _;replace hg4 := kv hg4;have HO4 := hid (yY.snoc (x := ⟨nv, na, nb, p, false⟩) ho4);obtain ⟨A4, c4n, rfl, hc4, hr4⟩ := HO4.out.form;clear hr4 hc4 ho4;have t12 := (T11.out.alloc (.cells #[.int .i64 nv, .int .i64 na, .int .i64 nb, .int .i64 p.a, .int .i64 p.b, .int .i64 p.c, .int .i64 p.d, .int .i64 p.e, .int .i64 p.f, .bool false] 55)).grown hg4 HOG.out
 have h4w := t12.c4;rw [HV.out] at h4w;have f4w := t12.fr 4;refine yi hK ?_;clear hK K;refine zG 9 ?_;refine zG 10 ?_;refine zG 11 ?_;refine zY 12 ?_;refine kW ?_
 have HO5 : Hid (yY w12 (g + 1) (.slice A4 (d.sc.notes.length + 1) c4n) (d.sc.notes ++ [⟨nv, na, nb, p, false⟩])) := by
  have := HO4.out;rw [List.length_append] at this;exact this
 have hgx : (w11.alloc (.cells #[.int .i64 nv, .int .i64 na, .int .i64 nb, .int .i64 p.a, .int .i64 p.b, .int .i64 p.c, .int .i64 p.d, .int .i64 p.e, .int .i64 p.f, .bool false] 55)).grownBy w12 x.n.ownBlock := by rw [HV.out]; exact hg4
 have TD := hid (Dr.addn D10.out N9.out.tk HGW.out NM.out hgx HO5.out);have hb0 : Far g gm x W w10 := BG.out.trans N9.out.only.away;have hb4 : Far g gm x W w12 := (((hb0.grown HGW.out (fun b e => by injection e with e; exact Or.inr (Or.inl e.symm))).alloc (.cells #[.int .i64 nv, .int .i64 na, .int .i64 nb, .int .i64 p.a, .int .i64 p.b, .int .i64 p.c, .int .i64 p.d, .int .i64 p.e, .int .i64 p.f, .bool false] 55)).grown hgx (fun b hb => Or.inr (Or.inr (Or.inl hb))))
 exact zMb) : p := h
theorem m4 {p : Prop} (h : p := by
 refine xn 8 ?_;intro K hK;refine xt _ (by rfl) (.tmp 56) (.tmp 58) 22 55 (.agg #[.int .i64 0, .int .i64 0, .int .i64 0, .int .i64 0, .int .i64 0, .int .i64 0, .int .i64 0, .int .i64 0, .int .i64 0, .bool false]) 10 80 rfl Tryz.underlying22 zBq rfl (by decide) (g + 1) (.slice AN d.sc.notes.length cN) d.sc.notes.length (zW Nte.cs d.sc.notes) rfl (N11V.out.on ((Below.refl w11.heap.size w11).alloc (Nat.le_refl _) (.cells #[.int .i64 nv, .int .i64 na, .int .i64 nb, .int .i64 0, .int .i64 0, .int .i64 0, .int .i64 0, .int .i64 0, .int .i64 0, .bool true] 55))).drew _ 1 1 (Nte.cs ⟨nv, na, nb, vc0, true⟩) rfl ⟨_, xU (zAO w11 ⟨nv, na, nb, vc0, true⟩ _ rfl)⟩ (Nte.cs_one ⟨nv, na, nb, vc0, true⟩) (by simp only [maxLen]; omega) (by omega) (by simp; omega) ?_;intro v4 w12 ho4 hg4 _;replace hg4 := kv hg4;have HO4 := hid (yY.snoc (x := ⟨nv, na, nb, vc0, true⟩) ho4);obtain ⟨A4, c4n, rfl, hc4, hr4⟩ := HO4.out.form;clear hr4 hc4 ho4;have t12 := (T11.out.alloc (.cells #[.int .i64 nv, .int .i64 na, .int .i64 nb, .int .i64 0, .int .i64 0, .int .i64 0, .int .i64 0, .int .i64 0, .int .i64 0, .bool true] 55)).grown hg4 HOG.out
 have h4w := t12.c4;rw [HV.out] at h4w;have f4w := t12.fr 4;refine yi hK ?_;clear hK K;refine zG 9 ?_;refine zG 10 ?_;refine zG 11 ?_;refine zY 12 ?_;refine kW ?_
 have HO5 : Hid (yY w12 (g + 1) (.slice A4 (d.sc.notes.length + 1) c4n) (d.sc.notes ++ [⟨nv, na, nb, vc0, true⟩])) := by
  have := HO4.out;rw [List.length_append] at this;exact this
 have hgx : (w11.alloc (.cells #[.int .i64 nv, .int .i64 na, .int .i64 nb, .int .i64 0, .int .i64 0, .int .i64 0, .int .i64 0, .int .i64 0, .int .i64 0, .bool true] 55)).grownBy w12 x.n.ownBlock := by rw [HV.out]; exact hg4
 have TD := hid (Dr.addn D10.out N9.out.tk HGW.out NM.out hgx HO5.out);have hb0 : Far g gm x W w10 := BG.out.trans N9.out.only.away;have hb4 : Far g gm x W w12 := (((hb0.grown HGW.out (fun b e => by injection e with e; exact Or.inr (Or.inl e.symm))).alloc (.cells #[.int .i64 nv, .int .i64 na, .int .i64 nb, .int .i64 0, .int .i64 0, .int .i64 0, .int .i64 0, .int .i64 0, .int .i64 0, .bool true] 55)).grown hgx (fun b hb => Or.inr (Or.inr (Or.inl hb))))
 exact zMb) : p := h
theorem m5 {p : Prop} (h : p := by
 obtain rfl : i = j := by omega
 have qm := HMID.out;have qs := HSR.out;obtain ⟨e2, he2⟩ : ∃ e2, e2 = mid + m - i := ⟨_, rfl⟩
 have r8 : IntKind.i64.wrap ((N : Int) - (i : Int)) = (e2 : Int) := by rw [IntKind.wrap_i64]; omega
 obtain ⟨hp, k1, k2, k3, k4⟩ := zGC HO.out a m b i s0 r1x mid (by omega) (by omega) hsi hjr HM.out (Or.inr trivial) ⟨HMID.out.1, HMID.out.2.1, HMID.out.2.2.1⟩ HS1.out HS2.out HA.out HB.out;rw [← he2] at hp k3 k4;have HP := hid hp;have k5 : i + (e2 - m) = mid := by omega
 have HK : Hid (a ≤ i ∧ i ≤ m ∧ m ≤ e2 ∧ e2 ≤ b ∧ i + (e2 - m) = mid ∧ a < mid ∧ mid < b) := hid ⟨k1, k2, k3, k4, k5, by omega, by omega⟩;have hr := zBU (f := f) k2 k3;have e3 := zBW (f := f) k2 k3;have e4 := zAU (f := f) k2 k3;rw [k5] at e3 e4;obtain ⟨fr, hfr⟩ : ∃ fr, fr = yE f i m e2 := ⟨_, rfl⟩
 rw [← hfr] at hr e3 e4;have HL1 : Hid (zT lt (seg fr a i)) := by rw [yS hr a i (Or.inl (Nat.le_refl _))]; exact hid (vP HS1.out (Nat.le_refl _) k2)
 have HL2 : Hid (zT lt (seg fr i mid)) := by rw [e3]; exact hid (vP HS2.out (Nat.le_refl _) k4)
 have HL3 : Hid (zT lt (seg fr mid e2)) := by rw [e4]; exact hid (vP HS1.out k1 (Nat.le_refl _))
 have HL4 : Hid (zT lt (seg fr e2 b)) := by rw [yS hr e2 b (Or.inr (Nat.le_refl _))]; exact hid (vP HS2.out k3 (Nat.le_refl _))
 have FIN : Hid (∀ g1 g2, Put fr g1 a mid (zV lt (seg fr a i) (seg fr i mid)) → Put g1 g2 mid b (zV lt (seg g1 mid e2) (seg g1 e2 b)) → Put f g2 a b (zV lt (seg f a m) (seg f m b))) := hid (fun g1 g2 q1 q2 => zEw HO.out a m b i e2 mid k1 k2 k3 k4 k5 HP.out (hfr ▸ q1) q2);have HFR := hid hfr;clear qm qs he2 hp k1 k2 k3 k4 k5 hr e3 e4 hfr hlt;by_cases t1 : i < m
 ·
  by_cases t2 : m < e2
  ·
   by_cases t3 : a < i
   ·
    by_cases t6 : e2 < b
    ·
     have t4 : i < mid := by have := HK.out; omega
     have t5 : mid < e2 := by have := HK.out; omega
     have tok1 : True := trivial;go_wp2_with (first | (go_at_call 171; refine (zAh W0 _ blk n cap i m e2 ok f _ HW.out t1 t2 (by have := HK.out; omega) (by omega)).mono ?_; rintro e w1 ⟨rfl, hr1⟩; rw [← HFR.out] at hr1; have HR := hid hr1; clear hr1) | (go_at_call 146; have _t := tok1; refine (HIH.out a i mid fr _ (by have := HK.out; omega) t3 t4 (by have := HK.out; omega) HR.out HL1.out HL2.out).mono ?_; rintro e w2 ⟨rfl, g1, h1, p1⟩; clear tok1; have HG := hid h1; have HP1 := hid p1; clear h1 p1) | (go_at_call 146; refine (HIH.out mid e2 b g1 _ (by have := HK.out; omega) t5 t6 hb HG.out (by rw [yS HP1.out mid e2 (Or.inr (Nat.le_refl _))]; exact HL3.out) (by rw [yS HP1.out e2 b (Or.inr (by have := HK.out; omega))]; exact HL4.out)).mono ?_; rintro e w3 ⟨rfl, g2, h1, p1⟩; have HG2 := hid h1; have HP2 := hid p1; clear h1 p1))
     go_end0
     exact ⟨rfl, g2, HG2.out, FIN.out g1 g2 HP1.out HP2.out⟩
    have t4 : i < mid := by have := HK.out; omega
    have t5 : mid < e2 := by have := HK.out; omega
    have tok1 : True := trivial;go_wp2_with (first | (go_at_call 171; refine (zAh W0 _ blk n cap i m e2 ok f _ HW.out t1 t2 (by have := HK.out; omega) (by omega)).mono ?_; rintro e w1 ⟨rfl, hr1⟩; rw [← HFR.out] at hr1; have HR := hid hr1; clear hr1) | (go_at_call 146; have _t := tok1; refine (HIH.out a i mid fr _ (by have := HK.out; omega) t3 t4 (by have := HK.out; omega) HR.out HL1.out HL2.out).mono ?_; rintro e w2 ⟨rfl, g1, h1, p1⟩; clear tok1; have HG := hid h1; have HP1 := hid p1; clear h1 p1))
    exact zK7
   by_cases t6 : e2 < b
   ·
    have t4 : i < mid := by have := HK.out; omega
    have t5 : mid < e2 := by have := HK.out; omega
    have HP1 : Hid (Put fr fr a mid (zV lt (seg fr a i) (seg fr i mid))) := hid (kM (by have := HK.out; omega) (by have := HK.out; omega) (by omega));go_wp2_with (first | (go_at_call 171; refine (zAh W0 _ blk n cap i m e2 ok f _ HW.out t1 t2 (by have := HK.out; omega) (by omega)).mono ?_; rintro e w1 ⟨rfl, hr1⟩; rw [← HFR.out] at hr1; have HR := hid hr1; clear hr1) | (go_at_call 146; refine (HIH.out mid e2 b fr _ (by have := HK.out; omega) t5 t6 hb HR.out (by rw [yS HP1.out mid e2 (Or.inr (Nat.le_refl _))]; exact HL3.out) (by rw [yS HP1.out e2 b (Or.inr (by have := HK.out; omega))]; exact HL4.out)).mono ?_; rintro e w3 ⟨rfl, g2, h1, p1⟩; have HG2 := hid h1; have HP2 := hid p1; clear h1 p1))
    go_end0
    exact ⟨rfl, g2, HG2.out, FIN.out fr g2 HP1.out HP2.out⟩
   have t4 : i < mid := by have := HK.out; omega
   have t5 : mid < e2 := by have := HK.out; omega
   have HP1 : Hid (Put fr fr a mid (zV lt (seg fr a i) (seg fr i mid))) := hid (kM (by have := HK.out; omega) (by have := HK.out; omega) (by omega));go_wp2_with (first | (go_at_call 171; refine (zAh W0 _ blk n cap i m e2 ok f _ HW.out t1 t2 (by have := HK.out; omega) (by omega)).mono ?_; rintro e w1 ⟨rfl, hr1⟩; rw [← HFR.out] at hr1; have HR := hid hr1; clear hr1))
   exact zMo
  have t3 : a < i := by have := HK.out; omega
  have t4 : ¬ i < mid := by have := HK.out; omega
  have t5 : mid < e2 := by have := HK.out; omega
  have t6 : e2 < b := by have := HK.out; omega
  have HR : Hid (zX W0 blk ok fr n wr) := by rw [HFR.out, qU (by have := HK.out; omega) (by have := HK.out; omega) (by have := HK.out; omega)]; exact HW
  have HP1 : Hid (Put fr fr a mid (zV lt (seg fr a i) (seg fr i mid))) := hid (kM (by have := HK.out; omega) (by have := HK.out; omega) (by omega));go_wp2_with (first | (go_at_call 146; refine (HIH.out mid e2 b fr _ (by have := HK.out; omega) t5 t6 hb HR.out (by rw [yS HP1.out mid e2 (Or.inr (Nat.le_refl _))]; exact HL3.out) (by rw [yS HP1.out e2 b (Or.inr (by have := HK.out; omega))]; exact HL4.out)).mono ?_; rintro e w3 ⟨rfl, g2, h1, p1⟩; have HG2 := hid h1; have HP2 := hid p1; clear h1 p1))
  go_end0
  exact ⟨rfl, g2, HG2.out, FIN.out fr g2 HP1.out HP2.out⟩
 by_cases t2 : m < e2
 ·
  have t3 : a < i := by have := HK.out; omega
  have t4 : i < mid := by have := HK.out; omega
  have t5 : ¬ mid < e2 := by have := HK.out; omega
  have HR : Hid (zX W0 blk ok fr n wr) := by rw [HFR.out, qU (by have := HK.out; omega) (by have := HK.out; omega) (by have := HK.out; omega)]; exact HW
  have tok1 : True := trivial;go_wp2_with (first | (go_at_call 146; have _t := tok1; refine (HIH.out a i mid fr _ (by have := HK.out; omega) t3 t4 (by have := HK.out; omega) HR.out HL1.out HL2.out).mono ?_; rintro e w2 ⟨rfl, g1, h1, p1⟩; clear tok1; have HG := hid h1; have HP1 := hid p1; clear h1 p1))
  exact zK7
 have t3 : a < i := by have := HK.out; omega
 have t4 : ¬ i < mid := by have := HK.out; omega
 have t5 : ¬ mid < e2 := by have := HK.out; omega
 have HR : Hid (zX W0 blk ok fr n wr) := by rw [HFR.out, qU (by have := HK.out; omega) (by have := HK.out; omega) (by have := HK.out; omega)]; exact HW
 exact zNz) : p := h
theorem m6 {p : Prop} (h : p := by
 obtain rfl : i = j := by omega
 have qm := HMID.out;have qs := HSR.out;obtain ⟨e2, he2⟩ : ∃ e2, e2 = mid + m - i := ⟨_, rfl⟩
 have r8 : IntKind.i64.wrap ((N : Int) - (i : Int)) = (e2 : Int) := by rw [IntKind.wrap_i64]; omega
 obtain ⟨hp, k1, k2, k3, k4⟩ := zGC HO.out a m b i s0 r1x mid (by omega) (by omega) hsi hjr HM.out (Or.inr trivial) ⟨HMID.out.1, HMID.out.2.1, HMID.out.2.2.1⟩ HS1.out HS2.out HA.out HB.out;rw [← he2] at hp k3 k4;have HP := hid hp;have k5 : i + (e2 - m) = mid := by omega
 have HK : Hid (a ≤ i ∧ i ≤ m ∧ m ≤ e2 ∧ e2 ≤ b ∧ i + (e2 - m) = mid ∧ a < mid ∧ mid < b) := hid ⟨k1, k2, k3, k4, k5, by omega, by omega⟩;have hr := zBU (f := f) k2 k3;have e3 := zBW (f := f) k2 k3;have e4 := zAU (f := f) k2 k3;rw [k5] at e3 e4;obtain ⟨fr, hfr⟩ : ∃ fr, fr = yE f i m e2 := ⟨_, rfl⟩
 rw [← hfr] at hr e3 e4;have HL1 : Hid (zT lt (seg fr a i)) := by rw [yS hr a i (Or.inl (Nat.le_refl _))]; exact hid (vP HS1.out (Nat.le_refl _) k2)
 have HL2 : Hid (zT lt (seg fr i mid)) := by rw [e3]; exact hid (vP HS2.out (Nat.le_refl _) k4)
 have HL3 : Hid (zT lt (seg fr mid e2)) := by rw [e4]; exact hid (vP HS1.out k1 (Nat.le_refl _))
 have HL4 : Hid (zT lt (seg fr e2 b)) := by rw [yS hr e2 b (Or.inr (Nat.le_refl _))]; exact hid (vP HS2.out k3 (Nat.le_refl _))
 have FIN : Hid (∀ g1 g2, Put fr g1 a mid (zV lt (seg fr a i) (seg fr i mid)) → Put g1 g2 mid b (zV lt (seg g1 mid e2) (seg g1 e2 b)) → Put f g2 a b (zV lt (seg f a m) (seg f m b))) := hid (fun g1 g2 q1 q2 => zEw HO.out a m b i e2 mid k1 k2 k3 k4 k5 HP.out (hfr ▸ q1) q2);have HFR := hid hfr;clear qm qs he2 hp k1 k2 k3 k4 k5 hr e3 e4 hfr hlt;by_cases t1 : i < m
 ·
  by_cases t2 : m < e2
  ·
   by_cases t3 : a < i
   ·
    by_cases t6 : e2 < b
    ·
     have t4 : i < mid := by have := HK.out; omega
     have t5 : mid < e2 := by have := HK.out; omega
     have tok1 : True := trivial;go_wp2_with (first | (go_at_call 170; refine (ql W0 _ blk n cap i m e2 ok f _ HW.out t1 t2 (by have := HK.out; omega) (by omega)).mono ?_; rintro e w1 ⟨rfl, hr1⟩; rw [← HFR.out] at hr1; have HR := hid hr1; clear hr1) | (go_at_call 144; have _t := tok1; refine (HIH.out a i mid fr _ (by have := HK.out; omega) t3 t4 (by have := HK.out; omega) HR.out HL1.out HL2.out).mono ?_; rintro e w2 ⟨rfl, g1, h1, p1⟩; clear tok1; have HG := hid h1; have HP1 := hid p1; clear h1 p1) | (go_at_call 144; refine (HIH.out mid e2 b g1 _ (by have := HK.out; omega) t5 t6 hb HG.out (by rw [yS HP1.out mid e2 (Or.inr (Nat.le_refl _))]; exact HL3.out) (by rw [yS HP1.out e2 b (Or.inr (by have := HK.out; omega))]; exact HL4.out)).mono ?_; rintro e w3 ⟨rfl, g2, h1, p1⟩; have HG2 := hid h1; have HP2 := hid p1; clear h1 p1))
     go_end0
     exact ⟨rfl, g2, HG2.out, FIN.out g1 g2 HP1.out HP2.out⟩
    have t4 : i < mid := by have := HK.out; omega
    have t5 : mid < e2 := by have := HK.out; omega
    have tok1 : True := trivial;go_wp2_with (first | (go_at_call 170; refine (ql W0 _ blk n cap i m e2 ok f _ HW.out t1 t2 (by have := HK.out; omega) (by omega)).mono ?_; rintro e w1 ⟨rfl, hr1⟩; rw [← HFR.out] at hr1; have HR := hid hr1; clear hr1) | (go_at_call 144; have _t := tok1; refine (HIH.out a i mid fr _ (by have := HK.out; omega) t3 t4 (by have := HK.out; omega) HR.out HL1.out HL2.out).mono ?_; rintro e w2 ⟨rfl, g1, h1, p1⟩; clear tok1; have HG := hid h1; have HP1 := hid p1; clear h1 p1))
    exact zK7
   by_cases t6 : e2 < b
   ·
    have t4 : i < mid := by have := HK.out; omega
    have t5 : mid < e2 := by have := HK.out; omega
    have HP1 : Hid (Put fr fr a mid (zV lt (seg fr a i) (seg fr i mid))) := hid (kM (by have := HK.out; omega) (by have := HK.out; omega) (by omega));go_wp2_with (first | (go_at_call 170; refine (ql W0 _ blk n cap i m e2 ok f _ HW.out t1 t2 (by have := HK.out; omega) (by omega)).mono ?_; rintro e w1 ⟨rfl, hr1⟩; rw [← HFR.out] at hr1; have HR := hid hr1; clear hr1) | (go_at_call 144; refine (HIH.out mid e2 b fr _ (by have := HK.out; omega) t5 t6 hb HR.out (by rw [yS HP1.out mid e2 (Or.inr (Nat.le_refl _))]; exact HL3.out) (by rw [yS HP1.out e2 b (Or.inr (by have := HK.out; omega))]; exact HL4.out)).mono ?_; rintro e w3 ⟨rfl, g2, h1, p1⟩; have HG2 := hid h1; have HP2 := hid p1; clear h1 p1))
    go_end0
    exact ⟨rfl, g2, HG2.out, FIN.out fr g2 HP1.out HP2.out⟩
   have t4 : i < mid := by have := HK.out; omega
   have t5 : mid < e2 := by have := HK.out; omega
   have HP1 : Hid (Put fr fr a mid (zV lt (seg fr a i) (seg fr i mid))) := hid (kM (by have := HK.out; omega) (by have := HK.out; omega) (by omega));go_wp2_with (first | (go_at_call 170; refine (ql W0 _ blk n cap i m e2 ok f _ HW.out t1 t2 (by have := HK.out; omega) (by omega)).mono ?_; rintro e w1 ⟨rfl, hr1⟩; rw [← HFR.out] at hr1; have HR := hid hr1; clear hr1))
   exact zMo
  have t3 : a < i := by have := HK.out; omega
  have t4 : ¬ i < mid := by have := HK.out; omega
  have t5 : mid < e2 := by have := HK.out; omega
  have t6 : e2 < b := by have := HK.out; omega
  have HR : Hid (ze W0 blk ok fr n wr) := by rw [HFR.out, qU (by have := HK.out; omega) (by have := HK.out; omega) (by have := HK.out; omega)]; exact HW
  have HP1 : Hid (Put fr fr a mid (zV lt (seg fr a i) (seg fr i mid))) := hid (kM (by have := HK.out; omega) (by have := HK.out; omega) (by omega));go_wp2_with (first | (go_at_call 144; refine (HIH.out mid e2 b fr _ (by have := HK.out; omega) t5 t6 hb HR.out (by rw [yS HP1.out mid e2 (Or.inr (Nat.le_refl _))]; exact HL3.out) (by rw [yS HP1.out e2 b (Or.inr (by have := HK.out; omega))]; exact HL4.out)).mono ?_; rintro e w3 ⟨rfl, g2, h1, p1⟩; have HG2 := hid h1; have HP2 := hid p1; clear h1 p1))
  go_end0
  exact ⟨rfl, g2, HG2.out, FIN.out fr g2 HP1.out HP2.out⟩
 by_cases t2 : m < e2
 ·
  have t3 : a < i := by have := HK.out; omega
  have t4 : i < mid := by have := HK.out; omega
  have t5 : ¬ mid < e2 := by have := HK.out; omega
  have HR : Hid (ze W0 blk ok fr n wr) := by rw [HFR.out, qU (by have := HK.out; omega) (by have := HK.out; omega) (by have := HK.out; omega)]; exact HW
  have tok1 : True := trivial;go_wp2_with (first | (go_at_call 144; have _t := tok1; refine (HIH.out a i mid fr _ (by have := HK.out; omega) t3 t4 (by have := HK.out; omega) HR.out HL1.out HL2.out).mono ?_; rintro e w2 ⟨rfl, g1, h1, p1⟩; clear tok1; have HG := hid h1; have HP1 := hid p1; clear h1 p1))
  exact zK7
 have t3 : a < i := by have := HK.out; omega
 have t4 : ¬ i < mid := by have := HK.out; omega
 have t5 : ¬ mid < e2 := by have := HK.out; omega
 have HR : Hid (ze W0 blk ok fr n wr) := by rw [HFR.out, qU (by have := HK.out; omega) (by have := HK.out; omega) (by have := HK.out; omega)]; exact HW
 exact zNz) : p := h
theorem m7 {p : Prop} (h : p := by
 clear HST hk0;go_upto_region 13 with (fail)
 clear cv;refine jF (fun w' => Blk w' w.heap.size 53 v.cells ∧ Below w.heap.size w w') ⟨K1.out.drew, B1.out.drew⟩ fun hHeld => ?_
 refine zJ 0 ?_;refine zJ 1 ?_;refine zJ 2 ?_;refine zJ 3 ?_ (hy := Or.inl ⟨by rfl, fun w hSw => by have cv := (hSw.1.cell k).trans HCV.out; clear hSw; go_simp; try with_reducible rfl⟩);refine zJ 4 ?_;refine zJ 5 ?_;refine zJ 6 ?_ (hy := Or.inl ⟨by rfl, fun w hSw => by have cv := (hSw.1.cell k).trans HCV.out; clear hSw; go_simp; try with_reducible rfl⟩);refine zJ 7 ?_;refine zJ 8 ?_;refine yL 9 ?_;intro K hK;go_simp;rw [HMX.out];with_reducible refine (HD.out _).mono ?_
 rintro e w6 ⟨rfl, b2⟩;have K6 := hHeld.1.below b2 hHeld.1.lt;have B6 := zB hHeld.2 b2;try simp only []
 refine zq hK ⟨K6, B6⟩ fun hHeld => ?_
 clear hK K;refine zJ 10 ?_;refine zJ 11 ?_;refine jc ?_;go_wp2_with fail
 go_roundw
 case rel => exact ⟨k + 1, by omega, by go_num, zKe _ _ (by rw [HN.out]; apply ByteArray.ext; simp [ByteArray.data_append]), hid hHeld.2, hid hHeld.1⟩
 case measure => simp [zD]; omega) : p := h
theorem m8 {p : Prop} (h : p := by
 clear B1 K1;obtain ⟨k, hk, rfl, rfl, B1, K1⟩ := hrel;by_cases hlt : k < 6
 ·
  have hki : (k : Int) < 6 := by omega
  have cv : wr.cell? ⟨w.heap.size, k, none⟩ = some (.int .i64 (v.at k)) := by rw [K1.out.cell k]; exact Vc.cell v k hlt
  have hvk := HV.out k hlt;have hbl := HBL.out k hk;obtain ⟨x, hx⟩ : ∃ x, x = v.at k := ⟨_, rfl⟩
  have HST : Hid (brS v (k + 1) = brS v k ++ ((if 0 < k then [32] else []) ++ ((if x < 0 then [45] else []) ++ Lib.decDigits x.natAbs))) := hid (by rw [brS, ← hx, zJB]);rw [← hx] at cv hvk;have HCV : Hid (v.cells[k]? = some (.int .i64 x)) := hid (by rw [hx]; exact Vc.cell v k hlt);have hx1 : -1000 ≤ x := by omega
  have hx2 : x ≤ 1000 := by omega
  have hmx : max x (IntKind.i64.wrap (-x)) = ((x.natAbs : Nat) : Int) := by rw [show IntKind.i64.wrap (-x) = -x by rw [IntKind.wrap_i64]; omega]; omega
  have HD := hid (fun W => qA W x.natAbs (by omega));have hds := zFJ x.natAbs (by omega);obtain ⟨ax, hax⟩ : ∃ ax, ax = x.natAbs := ⟨_, rfl⟩
  rw [← hax] at HST hmx HD hds;obtain ⟨ds, hds2⟩ : ∃ ds, ds = Lib.decDigits ax := ⟨_, rfl⟩
  rw [← hds2] at HST HD hds;obtain ⟨S, hS⟩ : ∃ S, S = brS v k := ⟨_, rfl⟩
  rw [← hS] at HST hbl ⊢;have HMX := hid hmx;clear hmx;have g1 : ¬ 9223372036854775807 < S.length + 1 := by omega
  have g2 : ¬ 9223372036854775807 < S.length + 1 + 1 := by omega
  have g3 : ¬ 9223372036854775807 < S.length + ds.length := by omega
  have g4 : ¬ 9223372036854775807 < S.length + 1 + ds.length := by omega
  have g5 : ¬ 9223372036854775807 < S.length + 1 + 1 + ds.length := by omega
  clear hx hax hds2 hS hvk hbl hds;by_cases hk0 : 0 < k
  ·
   by_cases hx0 : x < 0
   ·
    have HN : Hid (brS v (k + 1) = S ++ ([32] ++ ([45] ++ ds))) := hid (by rw [HST.out]; simp [hk0, hx0]);have hk0i : (0 : Int) < (k : Int) := by omega
    exact m7
   have HN : Hid (brS v (k + 1) = S ++ ([32] ++ ([] ++ ds))) := hid (by rw [HST.out]; simp [hk0, hx0]);have hk0i : (0 : Int) < (k : Int) := by omega
   exact m7
  by_cases hx0 : x < 0
  ·
   have HN : Hid (brS v (k + 1) = S ++ ([] ++ ([45] ++ ds))) := hid (by rw [HST.out]; simp [hk0, hx0]);have hk0i : ¬ (0 : Int) < (k : Int) := by omega
   exact m7
  have HN : Hid (brS v (k + 1) = S ++ ([] ++ ([] ++ ds))) := hid (by rw [HST.out]; simp [hk0, hx0]);have hk0i : ¬ (0 : Int) < (k : Int) := by omega
  exact m7
 obtain rfl : k = 6 := by omega
 have hbl := HBL.out 6 (by omega);obtain ⟨S, hS⟩ : ∃ S, S = brS v 6 := ⟨_, rfl⟩
 rw [← hS] at HF hbl ⊢;have g1 : ¬ 9223372036854775807 < S.length + 1 := by omega
 clear hS hbl;go_wp2_with fail
 exact zNk) : p := h
theorem m9 {p : Prop} (h : p := by
 rintro e wb ⟨y, rfl, hc, hk, ho⟩;replace HF := hid (HF.out.call hc hk ho);clear hc hk ho;refine yi hK ?_;clear hK K;refine zG 4 ?_;refine zG 5 ?_;refine zG 6 ?_;refine xn 7 ?_;intro K hK;refine jV 74 (q2.cells A n c en) HF.out.b0 zE (Qr.all_one _ _ _ _ _) ?_;intro w9 b9 g9 z9;replace HF := hid (HF.out.p0 b9 g9);clear b9 g9 z9;refine yi hK ?_;clear hK K;refine xn 8 ?_;intro K hK;refine jV 76 (qq y V) HF.out.b3 kj (HF.out.o.one V) ?_;intro w9 b9 g9 z9;replace HF := hid (HF.out.p3 b9 g9);clear b9 g9 z9;refine yi hK ?_;clear hK K;refine kW ?_;go_wp2_with fail
 go_roundw
 case rel => exact ⟨q2, d2, y, f2, hi2, HF, HRK2⟩
 case measure =>
  exact zMs) : p := h
theorem m10 {p : Prop} (h : p := by
 obtain ⟨i, hi, rfl, HB, HZ, HW⟩ := hrel;rcases (by omega : i = 0 ∨ i = 1 ∨ i = 2 ∨ i = 3 ∨ i = 4 ∨ i = 5 ∨ i = 6) with rfl | rfl | rfl | rfl | rfl | rfl | rfl
 ·
  have c0 : wr.cell? ⟨W.heap.size, 0, none⟩ = some (.int .i64 v.a) := by simpa [vX] using HB.out.cell 0
  have f0 := HB.out.frozen 0
  have B1 : Hid (Blk (wr.setCell ⟨W.heap.size, 0, none⟩ (.int .i64 (-v.a))) W.heap.size 53 (vX v 1).cells) := by
   have := HB.out.set_ 0 (.int .i64 (-v.a));exact hid (by simpa [vX] using this)
  have Z1 := hid (HZ.out.far (p := ⟨W.heap.size, 0, none⟩) (by show W.heap.size + 1 ≠ W.heap.size; omega) (.int .i64 (-v.a)));have W1 := hid (HW.out.setCell (p := ⟨W.heap.size, 0, none⟩) (Nat.le_refl _) (.int .i64 (-v.a)));go_wp2
  go_roundw
  case rel => exact ⟨1, by omega, by first | rfl | go_num, B1, Z1, W1⟩
  case measure => simp [zD]
 ·
  have c0 : wr.cell? ⟨W.heap.size, 1, none⟩ = some (.int .i64 v.b) := by simpa [vX] using HB.out.cell 1
  have f0 := HB.out.frozen 1
  have B1 : Hid (Blk (wr.setCell ⟨W.heap.size, 1, none⟩ (.int .i64 (-v.b))) W.heap.size 53 (vX v 2).cells) := by
   have := HB.out.set_ 1 (.int .i64 (-v.b));exact hid (by simpa [vX] using this)
  have Z1 := hid (HZ.out.far (p := ⟨W.heap.size, 1, none⟩) (by show W.heap.size + 1 ≠ W.heap.size; omega) (.int .i64 (-v.b)));have W1 := hid (HW.out.setCell (p := ⟨W.heap.size, 1, none⟩) (Nat.le_refl _) (.int .i64 (-v.b)));go_wp2
  go_roundw
  case rel => exact ⟨2, by omega, by first | rfl | go_num, B1, Z1, W1⟩
  case measure => simp [zD]
 ·
  have c0 : wr.cell? ⟨W.heap.size, 2, none⟩ = some (.int .i64 v.c) := by simpa [vX] using HB.out.cell 2
  have f0 := HB.out.frozen 2
  have B1 : Hid (Blk (wr.setCell ⟨W.heap.size, 2, none⟩ (.int .i64 (-v.c))) W.heap.size 53 (vX v 3).cells) := by
   have := HB.out.set_ 2 (.int .i64 (-v.c));exact hid (by simpa [vX] using this)
  have Z1 := hid (HZ.out.far (p := ⟨W.heap.size, 2, none⟩) (by show W.heap.size + 1 ≠ W.heap.size; omega) (.int .i64 (-v.c)));have W1 := hid (HW.out.setCell (p := ⟨W.heap.size, 2, none⟩) (Nat.le_refl _) (.int .i64 (-v.c)));go_wp2
  go_roundw
  case rel => exact ⟨3, by omega, by first | rfl | go_num, B1, Z1, W1⟩
  case measure => simp [zD]
 ·
  have c0 : wr.cell? ⟨W.heap.size, 3, none⟩ = some (.int .i64 v.d) := by simpa [vX] using HB.out.cell 3
  have f0 := HB.out.frozen 3
  have B1 : Hid (Blk (wr.setCell ⟨W.heap.size, 3, none⟩ (.int .i64 (-v.d))) W.heap.size 53 (vX v 4).cells) := by
   have := HB.out.set_ 3 (.int .i64 (-v.d));exact hid (by simpa [vX] using this)
  have Z1 := hid (HZ.out.far (p := ⟨W.heap.size, 3, none⟩) (by show W.heap.size + 1 ≠ W.heap.size; omega) (.int .i64 (-v.d)));have W1 := hid (HW.out.setCell (p := ⟨W.heap.size, 3, none⟩) (Nat.le_refl _) (.int .i64 (-v.d)));go_wp2
  go_roundw
  case rel => exact ⟨4, by omega, by first | rfl | go_num, B1, Z1, W1⟩
  case measure => simp [zD]
 ·
  have c0 : wr.cell? ⟨W.heap.size, 4, none⟩ = some (.int .i64 v.e) := by simpa [vX] using HB.out.cell 4
  have f0 := HB.out.frozen 4
  have B1 : Hid (Blk (wr.setCell ⟨W.heap.size, 4, none⟩ (.int .i64 (-v.e))) W.heap.size 53 (vX v 5).cells) := by
   have := HB.out.set_ 4 (.int .i64 (-v.e));exact hid (by simpa [vX] using this)
  have Z1 := hid (HZ.out.far (p := ⟨W.heap.size, 4, none⟩) (by show W.heap.size + 1 ≠ W.heap.size; omega) (.int .i64 (-v.e)));have W1 := hid (HW.out.setCell (p := ⟨W.heap.size, 4, none⟩) (Nat.le_refl _) (.int .i64 (-v.e)));go_wp2
  go_roundw
  case rel => exact ⟨5, by omega, by first | rfl | go_num, B1, Z1, W1⟩
  case measure => simp [zD]
 ·
  have c0 : wr.cell? ⟨W.heap.size, 5, none⟩ = some (.int .i64 v.f) := by simpa [vX] using HB.out.cell 5
  have f0 := HB.out.frozen 5
  have B1 : Hid (Blk (wr.setCell ⟨W.heap.size, 5, none⟩ (.int .i64 (-v.f))) W.heap.size 53 (vX v 6).cells) := by
   have := HB.out.set_ 5 (.int .i64 (-v.f));exact hid (by simpa [vX] using this)
  have Z1 := hid (HZ.out.far (p := ⟨W.heap.size, 5, none⟩) (by show W.heap.size + 1 ≠ W.heap.size; omega) (.int .i64 (-v.f)));have W1 := hid (HW.out.setCell (p := ⟨W.heap.size, 5, none⟩) (Nat.le_refl _) (.int .i64 (-v.f)));go_wp2
  go_roundw
  case rel => exact ⟨6, by omega, by first | rfl | go_num, B1, Z1, W1⟩
  case measure => simp [zD]
 have hb := HB.out;have hz := HZ.out;have e6 : vX v 6 = v.neg := rfl;rw [e6] at hb;have k0 := hb.cell 0;have k1 := hb.cell 1;have k2 := hb.cell 2;have k3 := hb.cell 3;have k4 := hb.cell 4;have k5 := hb.cell 5;have hb2 := hid hb;have hz2 := hid hz;obtain ⟨u, hu⟩ : ∃ u, u = v.neg := ⟨_, rfl⟩
 rw [← hu] at hb hb2 k0 k1 k2 k3 k4 k5;clear hb hz e6 k0 k1 k2 k3 k4 k5 HB HZ;have HU := hid hu;clear hu r0 r1 r2 r3 r4 r5;go_wp2_with (first | (refine zp 53 hb2.out Tryz.underlying53 zR ?_ (cs := u.cells)) | (refine xJ 53 u.cells hz2.out zR (by simp [Value.oneCell']) ?_; intro w9 b9 g9 z9; try simp only [Act.put, sS]))
 (try simp only [Exit.inBlock, Exit.then]);refine bodyPost_ret (yN rfl _ ⟨W.heap.size + 1, 0, none⟩ rfl _ Tryz.underlying53 rfl _ u.cells zR (zO b9)) rfl ?_;exact ⟨by rw [HU.out], HW.out.grown g9 HW.out.size (fun b e => by injection e with e; omega)⟩) : p := h
theorem m11 {p : Prop} (h : p := by
 have HO5 := hid (zn.on HOC.out hb2);have HB5 := hid (zB HBC.out hb2);clear HOC HBC hbl kn bk bp x0 x1 y0 y1;go_upto_region 14 with (fail)
 obtain ⟨g', e', hgB, hrw⟩ := HO5.out.look (i := k) (by have := HK.out; have := HJL.out; simp; omega);injection e' with e';injection e' with e' _ _;subst e';have hkL : k < ((p' ++ [y]) ++ x :: s).length := by have := HK.out; have := HJL.out; simp; omega
 have hpL : kp < ((p' ++ [y]) ++ x :: s).length := by have := HK.out; have := HJL.out; simp; omega
 have c1 : w2.drew.rangeAt g (k * 9) x.cs := yR (by have := hrw.cell k hkL; rwa [show ((p' ++ [y]) ++ x :: s).getD k zt = x by rw [← HK.out.2.1]; exact zE3 _ _ _ _] at this);have c2 : w2.drew.rangeAt g (kp * 9) y.cs := yR (by have := hrw.cell kp hpL; rwa [show ((p' ++ [y]) ++ x :: s).getD kp zt = y by rw [← HK.out.1]; exact zAT _ _ _ _ _] at this);have f1 := xB (hrw.fr k hkL);have f2 := xB (hrw.fr kp hpL);have g2 := World.there_setCells f2 g (k * 9) y.cs;have b1 : (k : Int) < (i : Int) + 1 := by have := HK.out; have := HJL.out; omega
 have b2 : (kp : Int) < (i : Int) + 1 := by have := HK.out; have := HJL.out; omega
 have blk := g;obtain ⟨wz, hwz⟩ : ∃ z, z = (w2.drew.setCells g (k * 9) y.cs).setCells g (kp * 9) x.cs := ⟨_, rfl⟩
 have HN : Hid (zn wz w.heap.size (.slice (some ⟨g, 0, none⟩) (i + 1) c4) (p' ++ x :: y :: s)) := hid (by
  have h0 : zn w2.drew w.heap.size (.slice (some ⟨g, 0, none⟩) (i + 1) c4) ((p' ++ [y]) ++ x :: s) := zn.on HO5.out (Below.refl _ w2).drew;have := (h0.set k y hkL).set kp x (by rw [List.length_set]; exact hpL);rw [hwz];rw [show k = p'.length + 1 by have := HK.out; omega, ← HK.out.1] at this ⊢
  rwa [zH6] at this)
 have HBN : Hid (Below w.heap.size w wz) := hid (by
  rw [hwz];have o1 := (zH.refl g w2.drew).setCells' (k * 9) y.cs;have o2 := zH.setCells x.cs (kp * 9) _ o1;exact HB5.out.drew.trans (o2.below hgB HB5.out.size))
 have HWZ := hid hwz;clear HO5 HB5 hgB hrw hkL hpL f2 hwz blk;refine kQ ?_;refine zG 0 ?_;refine zG 1 ?_;refine zG 2 ?_;refine zG 3 ?_;refine zG 4 ?_;refine zG 5 ?_;refine zG 6 ?_;refine zG 7 ?_;refine zG 8 ?_;refine zG 10 ?_;refine zG 11 ?_;refine zG 12 ?_;refine tR [9, 13] (by kernel_rfl) rfl ?_;refine yl (i := 9) rfl (by kernel_rfl) (.tmp 107) rfl g (kp * 9) rfl y c2 ?_ ?_
 ·
  try (change wpAny _ _ _ _ _ _ ⟨_, _⟩ _)
  try simp only [Act.put, sS]
  refine tR [13] (by kernel_rfl) rfl ?_;refine yl (i := 13) rfl (by kernel_rfl) (.tmp 111) rfl g (k * 9) rfl x c1 ?_ ?_
  · exact zNZ
  exact rN
 refine yl (i := 13) rfl (by kernel_rfl) (.tmp 111) rfl g (k * 9) rfl x c1 ?_ ?_
 ·
  try (change wpAny _ _ _ _ _ _ ⟨_, _⟩ _)
  try simp only [Act.put, sS]
  refine tR [9] (by kernel_rfl) rfl ?_;refine yl (i := 9) rfl (by kernel_rfl) (.tmp 107) rfl g (kp * 9) rfl y c2 ?_ ?_
  · exact zNZ
  exact rN
 exact rN) : p := h
theorem m12 {p : Prop} (h : p := by
 go_loopw [0] (fun s0 wx => ∃ m c : Nat, s0 = .int .i64 m ∧ Hid (kr p a m c) ∧ Hid (Below w.heap.size w wx) ∧ Hid (Blk wx w.heap.size 53 vc0.cells) ∧ Hid (Blk wx (w.heap.size + 1) 53 (v.put k (c : Int)).cells)) (fun s0 _ => (zD s0).toNat)
 case atStart => exact ⟨a, 0, rfl, HS0, HB, HZ, HV0⟩
 case round =>
  obtain ⟨m, c, rfl, HSA, HB, HZ, HV⟩ := hrel;have hml := HSA.out.le;have hcl := HSA.out.small (by omega);(have hmi : (m : Int) ≤ 1000000000 := by omega);by_cases hm : m % p = 0
  ·
   have HST := hid (zCX p2 HSA.out hm);have hq1 : (m : Int) % (p : Int) = 0 := by rw [← Int.natCast_emod, hm]; rfl
   have hq2 : (m : Int).tmod (p : Int) = 0 := by rw [Int.tmod_eq_emod_of_nonneg (by omega)]; exact hq1
   have he1 : (m : Int) / (p : Int) = ((m / p : Nat) : Int) := by rw [Int.natCast_ediv]
   have he2 : (m : Int).tdiv (p : Int) = ((m / p : Nat) : Int) := by rw [Int.tdiv_eq_ediv_of_nonneg (by omega)]; exact he1
   have hdl : m / p ≤ 1000000000 := Nat.le_trans (Nat.div_le_self _ _) (by omega);have cv := zGM HV.out hlt;have fv := HV.out.frozen k;have HV2 := hid (zIb HV.out hlt ((c : Int) + 1));generalize m / p = m2 at *;have hm2i : (m2 : Int) ≤ 1000000000 := by omega
   clear hm;go_wp2
   go_roundw
   case rel => exact ⟨m2, c + 1, rfl, HST.out.1, HB.out.setCell (p := ⟨w.heap.size + 1, k, none⟩) (by simp) _, HZ.out.far (by simp) _, HV2.out⟩
   case measure => have := HST.out.2; simp only [zD]; omega
  (obtain ⟨q, hq⟩ : ∃ q, m % p = q := ⟨_, rfl⟩);(have hq1 : (m : Int) % (p : Int) = (q : Int) := by rw [← Int.natCast_emod, hq]);(have hq2 : (m : Int).tmod (p : Int) = (q : Int) := by rw [Int.tmod_eq_emod_of_nonneg (by omega)]; exact hq1);(have hq0 : ¬ (q : Int) = 0 := by omega);(have hqb : ((q : Int) == 0) = false := by rw [beq_eq_false_iff_ne]; omega);have HE1 := hid (zED HSA.out hm);have HCL := hid hcl;clear hm hq hcl;go_wp2
  have HV3 : Hid (Blk wr (w.heap.size + 1) 53 (v.put k ((c : Int) - ((0 : Nat) : Int))).cells) := by
   have := HV.out
   rwa [show (c : Int) = (c : Int) - ((0 : Nat) : Int) by omega] at this
  clear hq1 hq2 hq0 hqb HV;go_loopw [1] (fun s1 wx => ∃ m' c' : Nat, s1 = .int .i64 m' ∧ Hid (kr p b m' c') ∧ Hid (Below w.heap.size w wx) ∧ Hid (Blk wx w.heap.size 53 vc0.cells) ∧ Hid (Blk wx (w.heap.size + 1) 53 (v.put k ((c : Int) - (c' : Int))).cells)) (fun s1 _ => (zD s1).toNat)
  case atStart => exact ⟨b, 0, rfl, HS1, HB, HZ, HV3⟩
  case round =>
   obtain ⟨m', c', rfl, HSB, HB, HZ, HV⟩ := hrel;have hml' := HSB.out.le;have hcl' := HSB.out.small (by omega);have hcl := HCL.out;(have hmi' : (m' : Int) ≤ 1000000000 := by omega);by_cases hm : m' % p = 0
   ·
    have HST := hid (zCX p2 HSB.out hm);have hq1 : (m' : Int) % (p : Int) = 0 := by rw [← Int.natCast_emod, hm]; rfl
    have hq2 : (m' : Int).tmod (p : Int) = 0 := by rw [Int.tmod_eq_emod_of_nonneg (by omega)]; exact hq1
    have he1 : (m' : Int) / (p : Int) = ((m' / p : Nat) : Int) := by rw [Int.natCast_ediv]
    have he2 : (m' : Int).tdiv (p : Int) = ((m' / p : Nat) : Int) := by rw [Int.tdiv_eq_ediv_of_nonneg (by omega)]; exact he1
    have hdl : m' / p ≤ 1000000000 := Nat.le_trans (Nat.div_le_self _ _) (by omega);obtain ⟨z, hz⟩ : ∃ z : Int, (c : Int) - (c' : Int) = z := ⟨_, rfl⟩
    have HZZ := hid hz;rw [hz] at HV;have hz1 : -30 ≤ z := by omega
    have hz2 : z ≤ 30 := by omega
    have cv := zGM HV.out hlt;have fv := HV.out.frozen k;have HV2 := hid (zIb HV.out hlt (z - 1));generalize m' / p = m2 at *;have hm2i : (m2 : Int) ≤ 1000000000 := by omega
    clear hm hz hcl hcl';go_wp2
    go_roundw
    case rel => exact ⟨m2, c' + 1, rfl, HST.out.1, HB.out.setCell (p := ⟨w.heap.size + 1, k, none⟩) (by simp) _, HZ.out.far (by simp) _, by
     rw [show (c : Int) - ((c' + 1 : Nat) : Int) = z - 1 by have := HZZ.out; omega];exact HV2⟩
    case measure => have := HST.out.2; simp only [zD]; omega
   (obtain ⟨q, hq⟩ : ∃ q, m' % p = q := ⟨_, rfl⟩);(have hq1 : (m' : Int) % (p : Int) = (q : Int) := by rw [← Int.natCast_emod, hq]);(have hq2 : (m' : Int).tmod (p : Int) = (q : Int) := by rw [Int.tmod_eq_emod_of_nonneg (by omega)]; exact hq1);(have hq0 : ¬ (q : Int) = 0 := by omega);(have hqb : ((q : Int) == 0) = false := by rw [beq_eq_false_iff_ne]; omega);have HE2 := hid (zED HSB.out hm)
   have HF : Hid (zm n d (k + 1) = (m, m', v.put k ((c : Int) - (c' : Int)))) := by
    show _ = _;rw [HSU.out, HE1.out, HE2.out]
   clear hm hq hcl hcl';(go_wp2);go_roundw
   case rel => exact ⟨k + 1, by omega, by rw [HF.out], by rw [HF.out], by go_num, HB, HZ, by rw [HF.out]; exact HV⟩
   case measure => simp [zD]; omega) : p := h
theorem m13 {p : Prop} (h : p := by
 refine xn 8 ?_;intro K hK;refine xt _ (by rfl) (.tmp 39) (.tmp 41) 23 57 (.agg #[.int .i64 0, .int .i64 0, .int .i64 0, .int .i64 0, .int .i64 0, .int .i64 0, .int .i64 0, .int .i64 0, .int .i64 0]) 9 72 rfl Tryz.underlying23 zBj rfl (by decide) (g + 1) (.slice AN d.sc.pairs.length cN) d.sc.pairs.length (zW Par.cs d.sc.pairs) rfl (N9V.out.on ((Below.refl w10.heap.size w10).alloc (Nat.le_refl _) (.cells #[.int .i64 i0, .int .i64 i1, .int .i64 p.a, .int .i64 p.b, .int .i64 p.c, .int .i64 p.d, .int .i64 p.e, .int .i64 p.f, .int .i64 0] 57))).drw _ 1 1 (Par.cs ⟨i0, i1, p, 0⟩) rfl ⟨_, xU (zAb w10 ⟨i0, i1, p, 0⟩ _ rfl)⟩ (Par.cs_one ⟨i0, i1, p, 0⟩) (by simp only [maxLen]; omega) (by omega) (by simp; omega) ?_;intro v4 w12 ho4 hg4 _;replace hg4 := kv hg4;have HO4 := hid (zn.snoc (x := ⟨i0, i1, p, 0⟩) ho4);obtain ⟨A4, c4n, rfl, hc4, hr4⟩ := HO4.out.form;clear hr4 hc4 ho4;have t12 := (N9.out.tk.alloc (.cells #[.int .i64 i0, .int .i64 i1, .int .i64 p.a, .int .i64 p.b, .int .i64 p.c, .int .i64 p.d, .int .i64 p.e, .int .i64 p.f, .int .i64 0] 57)).grown hg4 HOG.out;have h5w := t12.c5;rw [HV.out] at h5w;have f5w := t12.fr 5
 refine yi hK ?_;clear hK K;refine zG 9 ?_;refine zG 10 ?_;refine zG 11 ?_;refine zY 12 ?_;refine kW ?_
 have HO5 : Hid (zn w12 (g + 1) (.slice A4 (d.sc.pairs.length + 1) c4n) (d.sc.pairs ++ [⟨i0, i1, p, 0⟩])) := by
  have := HO4.out;rw [List.length_append] at this;exact this
 have hgx : (w10.alloc (.cells #[.int .i64 i0, .int .i64 i1, .int .i64 p.a, .int .i64 p.b, .int .i64 p.c, .int .i64 p.d, .int .i64 p.e, .int .i64 p.f, .int .i64 0] 57)).grownBy w12 x.p.ownBlock := by rw [HV.out]; exact hg4
 have TD := hid (Dr.addp D10.out N9.out.tk hgx HO5.out);have hb0 : Far g gm x W w10 := BG.out.trans N9.out.only.away;have hb4 : Far g gm x W w12 := (hb0.alloc (.cells #[.int .i64 i0, .int .i64 i1, .int .i64 p.a, .int .i64 p.b, .int .i64 p.c, .int .i64 p.d, .int .i64 p.e, .int .i64 p.f, .int .i64 0] 57)).grown hgx (fun b hb => Or.inr (Or.inr (Or.inr (Or.inl hb))));exact zLl) : p := h
theorem m14 {p : Prop} (h : p := by
 refine xn 8 ?_;intro K hK;refine xt _ (by rfl) (.tmp 39) (.tmp 41) 23 57 (.agg #[.int .i64 0, .int .i64 0, .int .i64 0, .int .i64 0, .int .i64 0, .int .i64 0, .int .i64 0, .int .i64 0, .int .i64 0]) 9 72 rfl Tryz.underlying23 zBj rfl (by decide) (g + 1) (.slice AN d.sc.pairs.length cN) d.sc.pairs.length (zW Par.cs d.sc.pairs) rfl (N9V.out.on ((Below.refl w10.heap.size w10).alloc (Nat.le_refl _) (.cells #[.int .i64 i0, .int .i64 i1, .int .i64 0, .int .i64 0, .int .i64 0, .int .i64 0, .int .i64 0, .int .i64 0, .int .i64 kb] 57))).drw _ 1 1 (Par.cs ⟨i0, i1, vc0, kb⟩) rfl ⟨_, xU (zAb w10 ⟨i0, i1, vc0, kb⟩ _ rfl)⟩ (Par.cs_one ⟨i0, i1, vc0, kb⟩) (by simp only [maxLen]; omega) (by omega) (by simp; omega) ?_;intro v4 w12 ho4 hg4 _;replace hg4 := kv hg4;have HO4 := hid (zn.snoc (x := ⟨i0, i1, vc0, kb⟩) ho4);obtain ⟨A4, c4n, rfl, hc4, hr4⟩ := HO4.out.form;clear hr4 hc4 ho4;have t12 := (N9.out.tk.alloc (.cells #[.int .i64 i0, .int .i64 i1, .int .i64 0, .int .i64 0, .int .i64 0, .int .i64 0, .int .i64 0, .int .i64 0, .int .i64 kb] 57)).grown hg4 HOG.out;have h5w := t12.c5;rw [HV.out] at h5w;have f5w := t12.fr 5
 refine yi hK ?_;clear hK K;refine zG 9 ?_;refine zG 10 ?_;refine zG 11 ?_;refine zY 12 ?_;refine kW ?_
 have HO5 : Hid (zn w12 (g + 1) (.slice A4 (d.sc.pairs.length + 1) c4n) (d.sc.pairs ++ [⟨i0, i1, vc0, kb⟩])) := by
  have := HO4.out;rw [List.length_append] at this;exact this
 have hgx : (w10.alloc (.cells #[.int .i64 i0, .int .i64 i1, .int .i64 0, .int .i64 0, .int .i64 0, .int .i64 0, .int .i64 0, .int .i64 0, .int .i64 kb] 57)).grownBy w12 x.p.ownBlock := by rw [HV.out]; exact hg4
 have TD := hid (Dr.addp D10.out N9.out.tk hgx HO5.out);have hb0 : Far g gm x W w10 := BG.out.trans N9.out.only.away;have hb4 : Far g gm x W w12 := (hb0.alloc (.cells #[.int .i64 i0, .int .i64 i1, .int .i64 0, .int .i64 0, .int .i64 0, .int .i64 0, .int .i64 0, .int .i64 0, .int .i64 kb] 57)).grown hgx (fun b hb => Or.inr (Or.inr (Or.inr (Or.inl hb))));exact zLl) : p := h
theorem m15 {p : Prop} (h : p := by
 refine xn 8 ?_;intro K hK;refine xt _ (by rfl) (.tmp 39) (.tmp 41) 23 57 (.agg #[.int .i64 0, .int .i64 0, .int .i64 0, .int .i64 0, .int .i64 0, .int .i64 0, .int .i64 0, .int .i64 0, .int .i64 0]) 9 72 rfl Tryz.underlying23 zBj rfl (by decide) (g + 1) (.slice AN d.sc.pairs.length cN) d.sc.pairs.length (zW Par.cs d.sc.pairs) rfl (N9V.out.on ((Below.refl w10.heap.size w10).alloc (Nat.le_refl _) (.cells #[.int .i64 i0, .int .i64 i1, .int .i64 0, .int .i64 0, .int .i64 0, .int .i64 0, .int .i64 0, .int .i64 0, .int .i64 0] 57))).drw _ 1 1 (Par.cs ⟨i0, i1, vc0, 0⟩) rfl ⟨_, xU (zAb w10 ⟨i0, i1, vc0, 0⟩ _ rfl)⟩ (Par.cs_one ⟨i0, i1, vc0, 0⟩) (by simp only [maxLen]; omega) (by omega) (by simp; omega) ?_;intro v4 w12 ho4 hg4 _;replace hg4 := kv hg4;have HO4 := hid (zn.snoc (x := ⟨i0, i1, vc0, 0⟩) ho4);obtain ⟨A4, c4n, rfl, hc4, hr4⟩ := HO4.out.form;clear hr4 hc4 ho4;have t12 := (N9.out.tk.alloc (.cells #[.int .i64 i0, .int .i64 i1, .int .i64 0, .int .i64 0, .int .i64 0, .int .i64 0, .int .i64 0, .int .i64 0, .int .i64 0] 57)).grown hg4 HOG.out;have h5w := t12.c5;rw [HV.out] at h5w;have f5w := t12.fr 5
 refine yi hK ?_;clear hK K;refine zG 9 ?_;refine zG 10 ?_;refine zG 11 ?_;refine zY 12 ?_;refine kW ?_
 have HO5 : Hid (zn w12 (g + 1) (.slice A4 (d.sc.pairs.length + 1) c4n) (d.sc.pairs ++ [⟨i0, i1, vc0, 0⟩])) := by
  have := HO4.out;rw [List.length_append] at this;exact this
 have hgx : (w10.alloc (.cells #[.int .i64 i0, .int .i64 i1, .int .i64 0, .int .i64 0, .int .i64 0, .int .i64 0, .int .i64 0, .int .i64 0, .int .i64 0] 57)).grownBy w12 x.p.ownBlock := by rw [HV.out]; exact hg4
 have TD := hid (Dr.addp D10.out N9.out.tk hgx HO5.out);have hb0 : Far g gm x W w10 := BG.out.trans N9.out.only.away;have hb4 : Far g gm x W w12 := (hb0.alloc (.cells #[.int .i64 i0, .int .i64 i1, .int .i64 0, .int .i64 0, .int .i64 0, .int .i64 0, .int .i64 0, .int .i64 0, .int .i64 0] 57)).grown hgx (fun b hb => Or.inr (Or.inr (Or.inr (Or.inl hb))));exact zLl) : p := h
theorem m16 {p : Prop} (h : p := by
 go_enter Tryz.func159, Tryz.ntmps159
 go_upto_region 3 with (fail)
 obtain ⟨w1, hw1⟩ : ∃ w1, w1 = (w.alloc (.cells vc0.cells 53)).alloc (.cells vc0.cells 53) := ⟨_, rfl⟩
 have B1 : Hid (Below w.heap.size w w1) := hid (by rw [hw1]; exact ((Below.refl _ _).alloc (Nat.le_refl _) _).alloc (by simp) _);have Z1 : Hid (Blk w1 w.heap.size 53 vc0.cells) := hid (by rw [hw1]; exact (Blk.new _ _ _).alloc _);have K1 : Hid (Blk w1 (w.heap.size + 1) 53 vc0.cells) := hid (by rw [hw1]; exact zBN w _ _ _ _ rfl);have e1 : (w.alloc (.cells #[.int .i64 0, .int .i64 0, .int .i64 0, .int .i64 0, .int .i64 0, .int .i64 0] 53)).alloc (.cells #[.int .i64 0, .int .i64 0, .int .i64 0, .int .i64 0, .int .i64 0, .int .i64 0] 53) = w1 := hw1.symm;rw [e1];clear e1 hw1;go_wp2_with (first | (refine zp 53 K1.out Tryz.underlying53 zR ?_) | (refine zI rfl 53 (.tmp 4) (.tmp 23) rfl w.heap.size vc0.cells rfl rfl 53 vc0.cells Z1.out zR rfl (by simp [Value.oneCell']) ?_; intro w9 b9 g9 z9; replace b9 := hid b9; replace g9 := hid g9; clear z9; try simp only [Act.put, sS]))
 refine bodyPost_ret (vT rfl _ ⟨w.heap.size, 0, none⟩ rfl _ Tryz.underlying53 rfl _ vc0.cells zR (zO b9.out)) rfl ?_;exact ⟨rfl, B1.out.grown g9.out B1.out.size (fun y e => by injection e with e; omega)⟩) : p := h
theorem m17 {p : Prop} (h : p := by
 simp only [Act.put, sS];refine zA (.bool (decide (c < 0))) ?_ (hC := fun _ _ => by simp [go_sem, b1]);refine zA (.bool (!decide (c < 0))) ?_ (hC := fun _ _ => by simp [go_sem, b1]);refine wpQuiet_nil ?_;clear r1 r2 r3 r4;intro w2 hb2;have H2 := hid (HW.out.below hb2);rcases hl : lt x y with _ | _
 ·
  have hneg : ¬ c < 0 := by rw [hc, hl]; simp; split <;> omega
  have hnb : (!decide (c < 0)) = true := by simp [hneg]
  rw [hnb];rw [hx.out, hy.out, hq.out] at hl;have HA2 := hid (zMK HO.out HS1.out HS2.out HM.out ⟨HMID.out.1, HMID.out.2.1, HMID.out.2.2.1⟩ (Nat.le_of_lt ham) (show h < r1x by have := HH.out; omega) hl);clear hc hcall c1 c2 hbl hl;go_wp2
  go_roundw
  case rel => exact ⟨h + 1, j, by have := HH.out; omega, by have := HH.out; omega, hjr, rfl, rfl, H2, HA2, HB⟩
  case measure => have := HH.out; simp [zD]; omega
 have hneg : c < 0 := by rw [hc, hl]; simp
 have hnb : (!decide (c < 0)) = false := by simp [hneg]
 rw [hnb];rw [hx.out, hy.out, hq.out] at hl;have HB2 := hid (zM9 HO.out HS1.out HS2.out HM.out ⟨HMID.out.1, HMID.out.2.1, HMID.out.2.2.1⟩ (Nat.le_of_lt ham) (show s0 ≤ h by have := HH.out; omega) hl);clear hc hcall c1 c2 hbl hl;go_wp2
 go_roundw
 case rel => exact ⟨i, h, hsi, by have := HH.out; omega, by have := HH.out; omega, rfl, rfl, H2, HA, HB2⟩
 case measure => have := HH.out; simp [zD]; omega) : p := h
theorem m18 {p : Prop} (h : p := by
 refine xn 9 ?_;intro K hK;refine xt _ (by rfl) (.tmp 7) (.tmp 10) 24 3 (.int .i64 0) 1 8 rfl Tryz.underlying24 zFd rfl (by decide) (g + 1) _ (itg d.sc.cad).length (zW Itg.cs (itg d.sc.cad)) rfl (HV.out ▸ ((HD.out.only H.out o1).up ((Below.refl w1.heap.size w1).alloc (Nat.le_refl _) _)).q) _ 1 1 [.int .i64 n] rfl ⟨_, zHW w1 ⟨n⟩ _ rfl⟩ (Itg.cs_one ⟨n⟩) (by simp only [maxLen]; have := HIL.out; omega) (by have := HIL.out; omega) (by have := t1.lt; simp; omega) ?_;intro v4 w4 ho4 hg4 _;have HO4 := hid (yO.snoc (x := ⟨n⟩) ho4);obtain ⟨A4, c4, rfl, hc4, hr4⟩ := HO4.out.form;clear hr4 hc4 ho4;have c6w := H6.out w4 _ ((t1.alloc (.cells #[.int .i64 n] 3)).grown hg4 (HV.out ▸ xp HD.out.q));have f6w := ((t1.alloc (.cells #[.int .i64 n] 3)).grown hg4 (HV.out ▸ xp HD.out.q)).fr 6;refine yi hK ?_;clear hK K;refine zG 10 ?_;refine zG 11 ?_;refine zG 12 ?_;refine zY 13 ?_;refine kW ?_
 have HO5 : Hid (yO w4 (g + 1) (.slice A4 ((itg d.sc.cad).length + 1) c4) (itg d.sc.cad ++ [⟨n⟩])) := by
  have := HO4.out;rw [List.length_append] at this;exact this
 have TD := hid (Dr.addq ((HD.out.only H.out o1).up ((Below.refl w1.heap.size w1).alloc (Nat.le_refl _) (.cells #[.int .i64 n] 3))) (t1.alloc (.cells #[.int .i64 n] 3)) _ n HO5.out (HV.out ▸ hg4));have hb4 : Far g gm x W w4 := (((o1.alloc (.cells #[.int .i64 n] 3)).away).grown hg4 (fun b hb => Or.inr (Or.inr (Or.inr (Or.inr (HV.out ▸ hb))))))
 have HB5 := hid (hb4.setCell 6 (.slice A4 ((itg d.sc.cad).length + 1) c4));generalize w4.setCell ⟨g, 6, none⟩ (.slice A4 ((itg d.sc.cad).length + 1) c4) = w5 at *;clear hb4 hg4 c6w f6w HO4 HO5 c61;go_wp2_with (go_at_call 60; refine (H2.out _ _ TD.out.1).mono ?_; rintro e w6 ⟨o6, rfl, t6⟩; replace o6 := hid o6; replace t6 := hid t6)
 go_end0
 exact yr.ok (HB5.out.trans o6.out.away) t6.out (TD.out.2.only TD.out.1 o6.out)) : p := h
theorem m19 {p : Prop} (h : p := by
 refine xn 9 ?_;intro K hK;refine xt _ (by rfl) (.tmp 7) (.tmp 10) 24 3 (.int .i64 0) 1 8 rfl Tryz.underlying24 zFd rfl (by decide) (g + 1) _ (itg d.sc.cad).length (zW Itg.cs (itg d.sc.cad)) rfl (HV.out ▸ ((HD.out.only H.out o1).up ((Below.refl w1.heap.size w1).alloc (Nat.le_refl _) _)).q) _ 1 1 [.int .i64 n] rfl ⟨_, zHW w1 ⟨n⟩ _ rfl⟩ (Itg.cs_one ⟨n⟩) (by simp only [maxLen]; have := HIL.out; omega) (by have := HIL.out; omega) (by have := t1.lt; simp; omega) ?_;intro v4 w4 ho4 hg4 _;have HO4 := hid (yO.snoc (x := ⟨n⟩) ho4);obtain ⟨A4, c4, rfl, hc4, hr4⟩ := HO4.out.form;clear hr4 hc4 ho4;have c6w := H6.out w4 _ ((t1.alloc (.cells #[.int .i64 n] 3)).grown hg4 (HV.out ▸ xp HD.out.q));have f6w := ((t1.alloc (.cells #[.int .i64 n] 3)).grown hg4 (HV.out ▸ xp HD.out.q)).fr 6;refine yi hK ?_;clear hK K;refine zG 10 ?_;refine zG 11 ?_;refine zG 12 ?_;refine zY 13 ?_;refine kW ?_
 have HO5 : Hid (yO w4 (g + 1) (.slice A4 ((itg d.sc.cad).length + 1) c4) (itg d.sc.cad ++ [⟨n⟩])) := by
  have := HO4.out;rw [List.length_append] at this;exact this
 have TD := hid (Dr.addq ((HD.out.only H.out o1).up ((Below.refl w1.heap.size w1).alloc (Nat.le_refl _) (.cells #[.int .i64 n] 3))) (t1.alloc (.cells #[.int .i64 n] 3)) _ n HO5.out (HV.out ▸ hg4));have hb4 : Far g gm x W w4 := (((o1.alloc (.cells #[.int .i64 n] 3)).away).grown hg4 (fun b hb => Or.inr (Or.inr (Or.inr (Or.inr (HV.out ▸ hb))))))
 have HB5 := hid (hb4.setCell 6 (.slice A4 ((itg d.sc.cad).length + 1) c4));generalize w4.setCell ⟨g, 6, none⟩ (.slice A4 ((itg d.sc.cad).length + 1) c4) = w5 at *;clear hb4 hg4 c6w f6w HO4 HO5 c61;go_wp2_with (go_at_call 60; refine (H2.out _ _ TD.out.1).mono ?_; rintro e w6 ⟨o6, rfl⟩; replace o6 := hid o6)
 exact ⟨rfl, yr.err (HB5.out.trans o6.out.away)⟩) : p := h
theorem m20 {p : Prop} (h : p := by
 have hk : 1 + (r.takeWhile zd).length = 1 + m := by rw [hm]
 obtain ⟨k, hkk⟩ : ∃ k, k = 1 + m := ⟨_, rfl⟩
 rw [← hkk] at hk;have hqk : q = p + k := by omega
 have HS := hid (HSW.out k hk);have hex := zFy s p q;rw [zFp HRD.out hqk] at hex;have HQ := hid hqk;have hqp : p < q := by omega
 have HNV : Hid (k ≤ 7 → min (num 0 (x :: r.take m)) 10000000 = num 0 (x :: r.takeWhile zd)) := hid fun h7 => by
  have e : r.takeWhile zd = r.take m := by
   rw [← hm];exact List.prefix_iff_eq_take.1 (List.takeWhile_prefix zd)
  rw [← e]
  have hall : ∀ y ∈ x :: r.takeWhile zd, zd y = true := fun y hy => by
   rcases List.mem_cons.1 hy with rfl | hy
   · exact hx4
   exact zG0 _ _ y hy
  have hb := zJN (x :: r.takeWhile zd) hall 0;(have hl : (x :: r.takeWhile zd).length ≤ 7 := by rw [List.length_cons]; omega);have hp := Nat.pow_le_pow_right (show 0 < 10 by omega) hl;(have : (10 : Nat) ^ 7 = 10000000 := by decide);omega
 obtain ⟨nv, hnv⟩ : ∃ nv, nv = min (num 0 (x :: r.take m)) 10000000 := ⟨_, rfl⟩
 rw [← hnv] at HNV ⊢;clear HTW hm hk hkk hnv;by_cases h7 : 7 < k
 · rw [if_pos (Or.inl h7)] at HS;have h7i : (7 : Int) < (q : Int) - (p : Int) := by omega
   clear h7 hqk hex;exact zL9
 have h7i : ¬ (7 : Int) < (q : Int) - (p : Int) := by omega
 have HN7 := hid (HNV.out (by omega));by_cases h48 : x = 48
 ·
  subst h48;by_cases h1 : 1 < k
  ·
   rw [if_pos (Or.inr ⟨h1, rfl⟩)] at HS;have h1i : (1 : Int) < (q : Int) - (p : Int) := by omega
   clear h1 h7 hqk hex;exact zL9
  rw [if_neg (by rintro (h | ⟨h, -⟩); exact h7 h; exact h1 h)] at HS;have h1i : ¬ (1 : Int) < (q : Int) - (p : Int) := by omega
  have hpq1 : (p : Int) ≤ (q : Int) := by omega
  rw [← HN7.out] at HS;clear h1 h7 hqk;go_wp2_with (at_builtin; go_must (refine vF _ rfl _ _ rfl w.heap.size _ T rfl (HA.out.2.2.2.1.on ((Below.refl wo.heap.size wo).alloc (Nat.le_refl _) _)) _ _ _ ⟨2, p, nv, ((48 : UInt8) :: r).take k⟩ rfl (vl _ ⟨2, p, nv, ((48 : UInt8) :: r).take k⟩ _ rfl) (by have := HA.out.2.1; omega) (by have := HA.out.2.2.1.size; simp; omega) ?_); intro v4 w4 ho4 hg4 _; replace ho4 := hid ho4; replace hg4 := hid hg4)
  go_roundw
  case rel => exact ⟨p + k, T ++ [⟨2, p, nv, ((48 : UInt8) :: r).take k⟩], zBF p q k HQ.out, hid (vk HA.out HRD.out HS.out ((Below.refl wo.heap.size wo).alloc (Nat.le_refl _) _) ho4.out hg4.out)⟩
  case measure => exact zFi _ _ _ (by have := HQ.out; omega) hlt
 rw [if_neg (by rintro (h | ⟨-, h⟩); exact h7 h; exact h48 h)] at HS
 have h48i : ((x.toNat : Int) == 48) = false := by
  rw [beq_eq_false_iff_ne]; intro e; apply h48;(have e2 : x.toNat = 48 := by omega);rw [← UInt8.ofNat_toNat (x := x), e2]; rfl
 have hpq1 : (p : Int) ≤ (q : Int) := by omega
 rw [← HN7.out] at HS;clear h48 h7 hqk;go_wp2_with (at_builtin; go_must (refine vF _ rfl _ _ rfl w.heap.size _ T rfl (HA.out.2.2.2.1.on ((Below.refl wo.heap.size wo).alloc (Nat.le_refl _) _)) _ _ _ ⟨2, p, nv, (x :: r).take k⟩ rfl (vl _ ⟨2, p, nv, (x :: r).take k⟩ _ rfl) (by have := HA.out.2.1; omega) (by have := HA.out.2.2.1.size; simp; omega) ?_); intro v4 w4 ho4 hg4 _; replace ho4 := hid ho4; replace hg4 := hid hg4)
 go_roundw
 case rel => exact ⟨p + k, T ++ [⟨2, p, nv, (x :: r).take k⟩], zBF p q k HQ.out, hid (vk HA.out HRD.out HS.out ((Below.refl wo.heap.size wo).alloc (Nat.le_refl _) _) ho4.out hg4.out)⟩
 case measure => exact zFi _ _ _ (by have := HQ.out; omega) hlt) : p := h
theorem m21 {p : Prop} (h : p := by
 obtain ⟨j, hj, rfl, HB, HO⟩ := hrel;by_cases hlt : j < 6
 ·
  have hix := zEy v j hlt;obtain ⟨x, hx⟩ : ∃ x, x = v.at j := ⟨_, rfl⟩
  have hsm := zDl HV.out j hlt;have HST := hid (zJ4 v j hlt);rw [← hx] at hix hsm HST;have HI := hid (zBT wr x (by omega) (by omega) (HTT.out.below HB.out));have HL := hid (zLb v j hj);obtain ⟨t1, ht1⟩ : ∃ t1, t1 = Lib.itoa x := ⟨_, rfl⟩
  rw [← ht1] at HI HST;clear ht1 hx hsm;obtain ⟨ss, hss⟩ : ∃ ss, ss = (itL v).take j := ⟨_, rfl⟩
  rw [← hss] at HO HST HL;clear hss;go_wp2_with (first | (go_at_call 43; refine HI.out.mono ?_; rintro e w3 ⟨rfl, b3⟩; have HO3 := hid (kk.on HO.out b3); replace b3 := hid b3; clear HI) | (at_builtin; go_must (refine vt _ rfl _ _ 49 9 (.string ⟨#[]⟩) 1 16 rfl Tryz.underlying49 zGK rfl (by decide) w2.heap.size _ _ _ rfl (HO3.out.alloc _) (w3.heap.size + 1) (some ⟨w3.heap.size, 0, none⟩) 1 1 [str t1] rfl (xX w3 #[str t1] 9 1 1 rfl) (zIk t1) (by have := HL.out; simp only [maxLen]; omega) (by have := HL.out; omega) (by have h2 := HB.out.size; have h3 := b3.out.size; simp; omega) ?_); intro v4 w4 ho4 hg4 _; replace ho4 := hid ho4; replace hg4 := hid hg4))
  have B4 : Hid (Below w2.heap.size w2 w4) := by
   have h1 := zB HB.out b3.out;exact hid ((h1.alloc h1.size _).grown hg4.out (by have := h1.size; simp; omega) (fun y e => (World.ownsRow.lt HO3.out y e).1))
  go_roundw
  case rel => exact ⟨j + 1, by omega, by go_num, B4, by rw [HST.out]; exact hid (kk.snoc ho4.out)⟩
  case measure => simp [zD]; omega
 obtain rfl : j = 6 := by omega
 rw [zKX] at HO;obtain ⟨g, cap, rfl, hg1, hg2⟩ := HO.out.form (by simp [itL])
 have hjs := zCS 4 (itL v) (fun y hy => by
  simp only [itL, List.mem_cons, List.not_mem_nil, or_false] at hy;have h := HV.out;obtain ⟨h0, h1, h2, h3, h4, h5⟩ := h;rcases hy with rfl | rfl | rfl | rfl | rfl | rfl <;> exact zDM _ (by omega))
 have hl6 : (itL v).length = 6 := rfl;rw [hl6] at hjs;have HJ := hid (zHP wr w2.heap.size g cap (itL v) 6 rfl HO.out (by omega) (by omega));obtain ⟨J, hJ⟩ : ∃ J, J = Lib.join (itL v) [32] := ⟨_, rfl⟩
 rw [← hJ] at HJ HR2 hjs;have hd1 : ¬ 9223372036854775807 < 1 + J.length := by omega
 have hd2 : ¬ 9223372036854775807 < 1 + J.length + 1 := by omega
 have hd3 : ¬ 9223372036854775807 < J.length + 1 := by omega
 have hd4 : ¬ 9223372036854775807 < J.length + 1 + 1 := by omega
 have WR := hid (zB W2.out HB.out);rw [hl6];clear hJ hjs HO;go_wp2_with (go_at_call 91; refine HJ.out.mono ?_; rintro e w9 ⟨rfl, b9⟩; replace b9 := hid b9)
 go_ret;refine ⟨?_, zB WR.out b9.out⟩;rw [HR2.out]
 have e : (({ data := #[91] } ++ { data := J.toArray } ++ { data := #[93] }) : ByteArray) = ⟨([91] ++ J ++ [93]).toArray⟩ := by
  apply ByteArray.ext;simp [ByteArray.data_append]
 first | rfl | (rw [← e]; rfl) | (simp only [← e]; rfl)) : p := h
theorem m22 {p : Prop} (h : p := by
 go_wp2_with fail
 rw [← hw0];clear hw0;refine jF (fun w' => Below (W.heap.size + 2) w0 w') (Below.refl _ _).drew fun hHeld => ?_
 refine zJ 0 ?_ (hy := Or.inl ⟨by rfl, fun w hSw => by (try dsimp only at hSw); go_simp; try with_reducible rfl⟩);refine zJ 1 ?_ (hy := Or.inl ⟨by rfl, fun w hSw => by (try dsimp only at hSw); (have g0 : w.cell? ⟨W.heap.size, 0, none⟩ = _ := (hSw.cell (p := ⟨W.heap.size, 0, none⟩) (show W.heap.size < W.heap.size + 2 by omega)).trans c0); go_simp; try with_reducible rfl⟩);refine zJ 2 ?_ (hy := Or.inl ⟨by rfl, fun w hSw => by (try dsimp only at hSw); go_simp; try with_reducible rfl⟩);refine zJ 3 ?_ (hy := Or.inl ⟨by rfl, fun w hSw => by (try dsimp only at hSw); (have g0 : w.cell? ⟨W.heap.size + 1, 0, none⟩ = _ := (hSw.cell (p := ⟨W.heap.size + 1, 0, none⟩) (show W.heap.size + 1 < W.heap.size + 2 by omega)).trans d0); go_simp; try with_reducible rfl⟩);refine zJ 5 ?_ (hy := Or.inl ⟨by rfl, fun w hSw => by (try dsimp only at hSw); go_simp; try with_reducible rfl⟩);refine zJ 6 ?_ (hy := Or.inl ⟨by rfl, fun w hSw => by (try dsimp only at hSw); (have g0 : w.cell? ⟨W.heap.size, 1, none⟩ = _ := (hSw.cell (p := ⟨W.heap.size, 1, none⟩) (show W.heap.size < W.heap.size + 2 by omega)).trans c1); go_simp; try with_reducible rfl⟩);refine zJ 7 ?_ (hy := Or.inl ⟨by rfl, fun w hSw => by (try dsimp only at hSw); go_simp; try with_reducible rfl⟩)
 refine zJ 8 ?_ (hy := Or.inl ⟨by rfl, fun w hSw => by (try dsimp only at hSw); (have g0 : w.cell? ⟨W.heap.size + 1, 1, none⟩ = _ := (hSw.cell (p := ⟨W.heap.size + 1, 1, none⟩) (show W.heap.size + 1 < W.heap.size + 2 by omega)).trans d1); go_simp; try with_reducible rfl⟩);refine yL 4 ?_;intro K hK;go_simp;refine (vD _ _ _).mono ?_;rintro e w2 ⟨rfl, rfl⟩;try simp only []
 refine zq hK hHeld fun hHeld => ?_
 clear hK K;refine yL 9 ?_;intro K hK;go_simp;refine (vD _ _ _).mono ?_;rintro e w2 ⟨rfl, rfl⟩;try simp only []
 refine zq hK hHeld fun hHeld => ?_
 clear hK K;refine yL 10 ?_;intro K hK;go_simp;refine zq hK (hHeld.alloc (by first | exact hz | (simp; omega)) _) fun hHeld => ?_
 clear hK K;refine yL 11 ?_;intro K hK;go_simp;refine (zJJ (xo x.a y.a) (xo x.b y.b) _ _ (by simp [go_sem]) (by simp [go_sem])).mono ?_;exact zNi) : p := h
theorem m23 {p : Prop} (h : p := by
 refine zY 7 ?_;refine xn 8 ?_;intro K hK;refine xt _ (by rfl) (.tmp 39) (.tmp 41) 23 57 (.agg #[.int .i64 0, .int .i64 0, .int .i64 0, .int .i64 0, .int .i64 0, .int .i64 0, .int .i64 0, .int .i64 0, .int .i64 0]) 9 72 rfl Tryz.underlying23 zBj rfl (by decide) (g + 1) (.slice AN d.sc.pairs.length cN) d.sc.pairs.length (zW Par.cs d.sc.pairs) rfl (N9V.out.on ((Below.refl w10.heap.size w10).alloc (Nat.le_refl _) (.cells #[.int .i64 i0, .int .i64 i1, .int .i64 p.a, .int .i64 p.b, .int .i64 p.c, .int .i64 p.d, .int .i64 p.e, .int .i64 p.f, .int .i64 kb] 57))).drw _ 1 1 (Par.cs ⟨i0, i1, p, kb⟩) rfl ⟨_, xU (zAb w10 ⟨i0, i1, p, kb⟩ _ rfl)⟩ (Par.cs_one ⟨i0, i1, p, kb⟩) (by simp only [maxLen]; omega) (by omega) (by simp; omega) ?_;intro v4 w12 ho4 hg4 _;replace hg4 := kv hg4;have HO4 := hid (zn.snoc (x := ⟨i0, i1, p, kb⟩) ho4);obtain ⟨A4, c4n, rfl, hc4, hr4⟩ := HO4.out.form;clear hr4 hc4 ho4;have t12 := (N9.out.tk.alloc (.cells #[.int .i64 i0, .int .i64 i1, .int .i64 p.a, .int .i64 p.b, .int .i64 p.c, .int .i64 p.d, .int .i64 p.e, .int .i64 p.f, .int .i64 kb] 57)).grown hg4 HOG.out;have h5w := t12.c5
 rw [HV.out] at h5w;have f5w := t12.fr 5;refine yi hK ?_;clear hK K;refine zG 9 ?_;refine zG 10 ?_;refine zG 11 ?_;refine zY 12 ?_;refine kW ?_
 have HO5 : Hid (zn w12 (g + 1) (.slice A4 (d.sc.pairs.length + 1) c4n) (d.sc.pairs ++ [⟨i0, i1, p, kb⟩])) := by
  have := HO4.out;rw [List.length_append] at this;exact this
 have hgx : (w10.alloc (.cells #[.int .i64 i0, .int .i64 i1, .int .i64 p.a, .int .i64 p.b, .int .i64 p.c, .int .i64 p.d, .int .i64 p.e, .int .i64 p.f, .int .i64 kb] 57)).grownBy w12 x.p.ownBlock := by rw [HV.out]; exact hg4
 have TD := hid (Dr.addp D10.out N9.out.tk hgx HO5.out);have hb0 : Far g gm x W w10 := BG.out.trans N9.out.only.away;have hb4 : Far g gm x W w12 := (hb0.alloc (.cells #[.int .i64 i0, .int .i64 i1, .int .i64 p.a, .int .i64 p.b, .int .i64 p.c, .int .i64 p.d, .int .i64 p.e, .int .i64 p.f, .int .i64 kb] 57)).grown hgx (fun b hb => Or.inr (Or.inr (Or.inr (Or.inl hb))));exact zLl) : p := h
theorem m24 {p : Prop} (h : p := by
 obtain rfl : k = 6 := by omega
 have hE : Hid (zAr n d = if (zm n d 6).1 = (zm n d 6).2.1 then 0 else 9) := by
  show _ = _;unfold zAr;rw [if_neg (by omega)];(have : xS n d = if (zm n d 6).1 = (zm n d 6).2.1 then some (zm n d 6).2.2 else none := if_neg (by omega));exact zMJ
 have hV : Hid (zAt n d = if (zm n d 6).1 = (zm n d 6).2.1 then (zm n d 6).2.2 else vc0) := by
  show _ = _;(have : xS n d = if (zm n d 6).1 = (zm n d 6).2.1 then some (zm n d 6).2.2 else none := if_neg (by omega));unfold zAt;exact zMJ
 obtain ⟨a1, a2, a3, a4⟩ := zCb n d 6 hn1 hd1;generalize zm n d 6 = R at *;obtain ⟨a, b, v⟩ := R;simp only at a1 a2 a3 a4 HV hE hV ⊢;have c0 := HV.out.cell 0;have c1 := HV.out.cell 1;have c2 := HV.out.cell 2;have c3 := HV.out.cell 3;have c4 := HV.out.cell 4;have c5 := HV.out.cell 5;have z0 := HZ.out.cell 0;have z1 := HZ.out.cell 1;have z2 := HZ.out.cell 2;have z3 := HZ.out.cell 3;have z4 := HZ.out.cell 4;have z5 := HZ.out.cell 5;have f0 := HZ.out.frozen 0;have f1 := HZ.out.frozen 1;have f2 := HZ.out.frozen 2;have f3 := HZ.out.frozen 3;have f4 := HZ.out.frozen 4;have f5 := HZ.out.frozen 5;by_cases hab : a = b
 · rw [if_pos hab] at hE hV;subst hab;have hq : ((a : Int) == (a : Int)) = true := beq_self_eq_true _;go_wp2
   refine bodyPost_ret (vT rfl _ ⟨w.heap.size, 0, none⟩ rfl _ Tryz.underlying53 rfl _ v.cells zR (zO (zMy HZ.out _ _ _ _ _ _))) rfl ?_;rw [hE.out, hV.out];exact ⟨rfl, zJA HB.out (Nat.le_refl _) _ _ _ _ _ _⟩
 rw [if_neg hab] at hE hV;have hq : ((a : Int) == (b : Int)) = false := by rw [beq_eq_false_iff_ne]; omega
 clear hab;go_wp2
 refine bodyPost_ret (vT rfl _ ⟨w.heap.size, 0, none⟩ rfl _ Tryz.underlying53 rfl _ vc0.cells zR (zO (zMy HZ.out _ _ _ _ _ _))) rfl ?_;rw [hE.out, hV.out];exact ⟨rfl, zJA HB.out (Nat.le_refl _) _ _ _ _ _ _⟩) : p := h
theorem m25 {p : Prop} (h : p := by
 rintro e w4 hx;rw [hq5] at hx;obtain ⟨o, rfl, y2, t2, e2⟩ := hx;have S4 := hid (S3.out.far o t2 e2);have B4 := hid (B3.out.trans (S3.out.low o));have sf := zAP hit.out;have cn := zEp (d2 := d2) (r2 := r2) (by rw [hit.out, hq5]);rw [hq5] at sf;have sl : r2.length ≤ r.length := List.IsSuffix.length_le sf;have HSF := hid sf;have HCN := hid cn;replace hq5 := hid hq5;clear o t2 e2 sf cn x3;go_wp2_with fail
 go_roundg r2.length
 case measure => omega
 case rel => exact ⟨f1, d2, r2, y2, Nat.le_refl _, hid ⟨by omega, by rw [HF.out.2, hf2.out, hit.out]; simp only [hq5.out, Rs.ok_bind]⟩, S4, B4, hid (HO2.out.suf HSF.out), hid (by have h1 := HL.out; have h2 := HCN.out; simp only [List.length_cons] at h1; omega)⟩) : p := h
theorem m26 {p : Prop} (h : p := by
 go_wp2_with (first | (go_at_call 24; with_reducible refine (H1.out _).mono ?_; rintro e w1 ⟨rfl, rfl⟩) | (go_at_call 24; with_reducible refine (H3.out _).mono ?_; rintro e w1 ⟨rfl, rfl⟩) | (go_at_call 24; with_reducible refine (H4.out _).mono ?_; rintro e w1 ⟨rfl, rfl⟩) | (go_at_call 25; with_reducible refine (H5.out _).mono ?_; rintro e w1 ⟨rfl, b1⟩; have K1 := (Blk.new wr 40 #[.int .i64 0, .int .i64 p, .int .i64 0, .string ⟨#[]⟩]).below b1 (by simp); have c0 := K1.cell 0; have f0 := K1.frozen 0; replace K1 := hid K1; have b2 := hid (((Below.refl wr.heap.size wr).alloc (Nat.le_refl _) _).trans (b1.mono (by simp))); clear b1) | (go_at_call 27; with_reducible refine (H7.out _).mono ?_; rintro e w2 ⟨rfl, b3⟩; have K2 : Blk w2 wr.heap.size 40 #[.int .i64 2, .int .i64 p, .int .i64 0, .string ⟨#[]⟩] := (zJI K1.out (.int .i64 2)).below b3 (by have := K1.out.lt; simpa [World.setCell] using this); have b4 := hid ((b2.out.setCell (p := ⟨wr.heap.size, 0, none⟩) (Nat.le_refl _) (.int .i64 2)).trans (b3.mono (by have := K1.out.lt; simp [World.setCell]; omega))); clear b3 c0 f0; have c0 := K2.cell 0; have c1 := K2.cell 1; have c2 := K2.cell 2; have f2 := K2.frozen 2; have c3 := K2.cell 3; have f3 := K2.frozen 3; clear K2) | (at_builtin; go_must (refine vF _ rfl _ _ rfl w.heap.size _ T rfl (HA.out.2.2.2.1.on (zKT b4.out _ _ _ _ _)) _ _ _ ⟨2, p, N, (x :: r).take k⟩ rfl (vl _ ⟨2, p, N, (x :: r).take k⟩ _ (by simp)) (by have := HA.out.2.1; omega) (by have := b4.out.size; have := HA.out.2.2.1.size; simp; omega) ?_); intro v4 w4 ho4 hg4 _; replace ho4 := hid ho4; replace hg4 := hid hg4))
 have hlen := HN.out;go_roundw
 case rel => exact ⟨p + k, _, by first | exact zA0 s.length p k (by omega) (by omega) | exact qR p k, vk HA.out HRD.out HS.out (zKT b4.out _ _ _ _ _) ho4.out hg4.out⟩
 case measure => first | exact qW s.length p k (by omega) (by omega) hk0 | exact jb s.length p k (by omega) hk0) : p := h
theorem m27 {p : Prop} (h : p := by
 clear x0 x1 x2 x3 x4 he0;replace ST := hid ST.out.drew;refine jF (Rdv w A n c en q v) ST.out.s fun hHeld => ?_
 refine zJ 0 ?_ (hy := Or.inl ⟨by rfl, fun w hSw => by have y0 := hSw.2.cell 0; have y1 := hSw.2.cell 1; have y2 := hSw.2.cell 2; have y3 := hSw.2.cell 3; have y4 := hSw.2.cell 4; have y5 := hSw.2.cell 5; clear hSw; go_simp; try with_reducible rfl⟩);refine zJ 1 ?_ (hy := Or.inl ⟨by rfl, fun w hSw => by have x0 := hSw.1.cell 0; have x1 := hSw.1.cell 1; have x2 := hSw.1.cell 2; have x3 := hSw.1.cell 3; have x4 := hSw.1.cell 4; clear hSw; go_simp; try with_reducible rfl⟩);refine yL 2 ?_;intro K hK;go_simp;refine (HS.out _ ST.out.b q [93] qc HQC.out hqn).mono ?_;rintro e w4 ⟨rfl, b2⟩;replace ST := hid (ST.out.up b2);clear b2;try simp only []
 refine zq hK ST.out.s fun hHeld => ?_
 clear hK K;refine yL 3 ?_;intro K hK;refine jV 53 v.cells ST.out.rv zR (by simp [Value.oneCell']) ?_;intro w6 b6 g6 z6;have RR := hid (ST.out.rr.grown g6 (by intro e; injection e with e; omega));have B6 := hid (ST.out.b.grown g6 ST.out.b.size (fun y e => by injection e with e; omega));have RV := hid b6;have SS := hid (ST.out.s.grown g6 (by omega) (by omega));clear b6 g6 z6;refine zq hK SS.out fun hHeld => ?_
 clear hK K;refine yL 4 ?_;intro K hK;refine jV 74 (qc.cells A n c en) RR.out zE (Qr.all_one _ _ _ _ _) ?_;intro w7 b7 g7 z7;have RV7 := hid (RV.out.grown g7 (by intro e; injection e with e; omega));have B7 := hid (B6.out.grown g7 B6.out.size (fun y e => by injection e with e; omega));have RR7 := hid b7;have S7 := hid (SS.out.grown g7 (by omega) (by omega));clear b7 g7 z7;refine zq hK S7.out fun hHeld => ?_
 clear hK K;refine jc ?_;go_wp2_with fail
 refine bodyPost_ret (xK rfl _ ⟨w.heap.size + 1, 0, none⟩ ⟨w.heap.size + 1 + 1, 0, none⟩ rfl rfl _ _ Tryz.underlying53 rfl Tryz.underlying74 rfl _ v.cells (qc.cells A n c en) zR zE (zO RV7.out) (zO RR7.out)) rfl ?_;exact ⟨by rw [HF.out], B7.out⟩) : p := h
theorem m28 {p : Prop} (h : p := by
 clear he;go_upto_region 18 with (fail)
 replace HF := hid HF.out.drew;refine jF (zCE [⟨w0.heap.size, 74, q.cells A n c en⟩, ⟨w0.heap.size + 1 + 1 + 1, 76, qq x V⟩]) (HF.out.sees.sub (by simp)) fun hHeld => ?_
 refine zJ 0 ?_ (hy := Or.inl ⟨by rfl, fun w hSw => by have k0 := hSw.get (k := 0) rfl; have x0 := k0.cell 0; have x1 := k0.cell 1; have x2 := k0.cell 2; have x3 := k0.cell 3; have x4 := k0.cell 4; clear k0 hSw; go_simp; try with_reducible rfl⟩);refine zJ 1 ?_ (hy := Or.inl ⟨by rfl, fun w hSw => by have k1 := hSw.get (k := 1) rfl; have x0 := k1.cell 0; have x1 := k1.cell 1; have x2 := k1.cell 2; have x3 := k1.cell 3; have x4 := k1.cell 4; clear k1 hSw; go_simp; try with_reducible rfl⟩);refine yL 2 ?_;intro K hK;refine jV 74 (q.cells A n c en) HF.out.b1 zE (Qr.all_one _ _ _ _ _) ?_;intro w9 b9 g9 z9;replace HF := hid (HF.out.p1 b9 g9);clear b9 g9 z9;refine zq hK (HF.out.sees.sub (by simp)) fun hHeld => ?_
 clear hK K;refine yL 3 ?_;intro K hK;refine jV 76 (qq x V) HF.out.b2 kj (HF.out.o.one V) ?_;intro w9 b9 g9 z9;replace HF := hid (HF.out.p2 b9 g9);clear b9 g9 z9;refine zq hK (HF.out.sees.sub (by simp)) fun hHeld => ?_
 clear hK K;refine jc ?_;go_wp2_with fail
 refine bodyPost_ret (xK rfl _ ⟨w0.heap.size + 1, 0, none⟩ ⟨w0.heap.size + 1 + 1, 0, none⟩ rfl rfl _ _ Tryz.underlying74 rfl Tryz.underlying76 rfl _ (q.cells A n c en) (qq x V) zE kj (zO HF.out.b1) (zO HF.out.b2)) rfl ?_;rw [HRX.out, ← HRK.out.v];exact ⟨x, rfl, HF.out.c.zero, HF.out.o⟩) : p := h
theorem m29 {p : Prop} (h : p := by
 refine zY 6 ?_;refine zY 7 ?_;refine zY 8 ?_;refine kW ?_;go_wp2_with fail
 go_meet
 case rel => exact ⟨hid (S2.out.only ((zH.refl g w2).drew.setCell 0 _) (zU.popn (W := w2.drew) K2.out.drew R2.out hcl.out hc1)), hid (B2.out.trans (((zH.refl g w2).drew.setCell 0 _).below (Nat.sub_le g 1) (by have := S2.out.t.lt; omega)))⟩) : p := h
theorem m30 {p : Prop} (h : p := by
 refine zY 6 ?_;refine zY 7 ?_;refine zY 8 ?_;refine kW ?_;go_wp2_with fail
 go_meet
 case rel => exact ⟨hid (S2.out.only ((zH.refl g w2).drew.setCell 0 _) (zU.pop1 (W := w2.drew) K2.out.drew R2.out hcl.out rfl)), hid (B2.out.trans (((zH.refl g w2).drew.setCell 0 _).below (Nat.sub_le g 1) (by have := S2.out.t.lt; omega)))⟩) : p := h
theorem m31 {p : Prop} (h : p := by
 have HA : Hid (qM l k i = true) := hid (HAN.out.2 (by omega))
 have I6 : Hid (kA (w5.setCell ⟨w.heap.size, i, none⟩ (.int .i64 (rk + 1))) w.heap.size (xv l i (k + 1))) := hid (by
  have := I5.out.put i (rk + 1)
  rwa [← HRK.out, zKk l (by rw [← HN.out]; exact hin) HA.out, HRK.out] at this)
 have N6 := hid (N5.out.block (w' := w5.setCell ⟨w.heap.size, i, none⟩ (.int .i64 (rk + 1))) (heap_setCell_other w5 ⟨w.heap.size, i, none⟩ (w.heap.size + 1) _ (by show w.heap.size + 1 ≠ w.heap.size; omega)));have W6 := hid (W5.out.setCell (p := ⟨w.heap.size, i, none⟩) (Nat.le_refl _) (.int .i64 (rk + 1)));clear I5 N5 W5;go_wp2_with fail
 go_roundw
 case rel => exact ⟨k + 1, by omega, by go_num, W6, I6, N6⟩
 case measure => simp [zD]; omega) : p := h
theorem m32 {p : Prop} (h : p := by
 have HF : Hid (r = false) := by
  refine hid ?_;rw [HR.out, Bool.and_eq_false_iff]
  left
  rw [Bool.eq_false_iff];intro e;have := (xN (qd s) l zF).1 e j (by rw [← HN.out]; exact hlt);rw [HX.out] at this;simp only [qd, Bool.and_eq_true, decide_eq_true_eq, ← HVV.out, ← HQB.out] at this;omega
 skip
 go_wp2
 go_ret;rw [HF.out];exact ⟨rfl, W4.out⟩) : p := h
theorem m33 {p : Prop} (h : p := by
 have hk : 1 + (r.takeWhile yD).length = 1 + m := by rw [hm]
 obtain ⟨k, hkk⟩ : ∃ k, k = 1 + m := ⟨_, rfl⟩
 rw [← hkk] at hk;have hqk : q = p + k := by omega
 have HS := hid (HSW.out k hk);have hex := zFy s p q;rw [zFp HRD.out hqk] at hex;have HQ := hid hqk;have hqp : p < q := by omega
 clear HTW hm hk hkk;by_cases h16 : 16 < k
 · rw [if_pos h16] at HS;have h16i : (16 : Int) < (q : Int) - (p : Int) := by omega
   clear h16 hqk hex;exact zL9
 rw [if_neg h16] at HS;have h16i : ¬ (16 : Int) < (q : Int) - (p : Int) := by omega
 have hpq1 : (p : Int) ≤ (q : Int) := by omega
 clear h16 hqk;go_wp2_with (at_builtin; go_must (refine vF _ rfl _ _ rfl w.heap.size _ T rfl (HA.out.2.2.2.1.on ((Below.refl wo.heap.size wo).alloc (Nat.le_refl _) _)) _ _ _ ⟨1, p, 0, (x :: r).take k⟩ rfl (vl _ ⟨1, p, 0, (x :: r).take k⟩ _ rfl) (by have := HA.out.2.1; omega) (by have := HA.out.2.2.1.size; simp; omega) ?_); intro v4 w4 ho4 hg4 _; replace ho4 := hid ho4; replace hg4 := hid hg4)
 go_roundw
 case rel => exact ⟨p + k, T ++ [⟨1, p, 0, (x :: r).take k⟩], zBF p q k HQ.out, hid (vk HA.out HRD.out HS.out ((Below.refl wo.heap.size wo).alloc (Nat.le_refl _) _) ho4.out hg4.out)⟩
 case measure => exact zFi _ _ _ (by have := HQ.out; omega) hlt) : p := h
theorem m34 {p : Prop} (h : p := by
 by_cases hk : 0 < p.bound
 · have HK := hid hk;go_wp2_with (first | (go_at_call 47; refine (HD.out _ p.bound HBD.out.2.2.1 HBD.out.2.2.2).mono ?_; rintro e w9 ⟨rfl, b9⟩; replace BJ4 := hid (zB BJ4.out b9); clear b9) | ((with_reducible show wpList _ _ _ (Oper.mk _ (Op.binOp _ _ _ _ _) _ _ _ _ :: _) _ _); refine xG rfl _ _ rfl _ _ rfl rfl (by have hq := HQ.out; simp only [List.length_append, List.length_cons, List.length_nil]; omega) ?_; try simp only [Act.put, sS]))
   exact zNs
 have HK := hid hk;go_wp2_with ((with_reducible show wpList _ _ _ (Oper.mk _ (Op.binOp _ _ _ _ _) _ _ _ _ :: _) _ _); refine xG rfl _ _ rfl _ _ rfl rfl (by have hq := HQ.out; simp only [List.length_append, List.length_cons, List.length_nil]; omega) ?_; try simp only [Act.put, sS])
 exact zNs) : p := h
theorem m35 {p : Prop} (h : p := by
 by_cases h : wr.heap.size < wc.heap.size
 · exact h
 exact absurd V6.out.ca (by simp [World.cell?, Array.getElem?_eq_none (Nat.not_lt.1 h)])) : p := h
theorem m36 {p : Prop} (h : p := by
 refine hid ?_;rw [HR.out, Bool.and_eq_false_iff]
 left
 rw [Bool.eq_false_iff];intro e;have := (xN (vG s) ps zt).1 e j (by rw [← HM.out]; exact hlt);rw [HX.out] at this;simp only [vG, Bool.and_eq_true, Bool.not_eq_true', decide_eq_true_eq, decide_eq_false_iff_not, ← HSL.out, ← HQB.out, ← HN.out] at this;omega) : p := h
theorem m37 {p : Prop} (h : p := by
 try (change wpAny _ _ _ _ _ _ ⟨_, _⟩ _)
 try simp only [Act.put, sS]
 refine zG 14 ?_;refine tR [15] (by kernel_rfl) rfl ?_;refine ko (i := 15) rfl (by kernel_rfl) (.tmp 51) (.tmp 46) rfl blk (j * 9) y rfl rfl f1 ?_ ?_
 ·
  try (change wpAny _ _ _ _ _ _ ⟨_, _⟩ _)
  try simp only [Act.put, sS]
  refine zG 16 ?_;refine tR [17] (by kernel_rfl) rfl ?_;refine ko (i := 17) rfl (by kernel_rfl) (.tmp 52) (.tmp 50) rfl blk (jp * 9) x rfl rfl g2 ?_ ?_
  ·
   try (change wpAny _ _ _ _ _ _ ⟨_, _⟩ _)
   try simp only [Act.put, sS]
   refine kW ?_;clear c1 c2 f1 g2 b1 b2;generalize (w2.drew.setCells blk (j * 9) y.cs).setCells blk (jp * 9) x.cs = w9 at HN ⊢;exact zN1
  exact rN
 exact rN) : p := h
theorem m38 {p : Prop} (h : p := by
 simp only [Act.put, sS];refine zA (.bool (decide (c < 0))) ?_ (hC := fun _ _ => by simp [go_sem, b1]);refine zA (.bool (!decide (c < 0))) ?_ (hC := fun _ _ => by simp [go_sem, b1]);refine wpQuiet_nil ?_;clear r1 r2 r3 r4;intro w2 hb2;have H2 := hid (HW.out.below hb2);rcases hl : lt x y with _ | _
 ·
  have hneg : ¬ c < 0 := by rw [hc, hl]; simp; split <;> omega
  have hnb : (!decide (c < 0)) = true := by simp [hneg]
  rw [hnb];rw [hx.out, hy.out] at hl;have HA2 := hid (zN7 HO.out HS.out (show h < m by have := HHH.out; omega) hl);clear hc hcall c1 c2 hbl hl;go_wp2
  go_roundw
  case rel => exact ⟨h + 1, j, by have := HHH.out; omega, by have := HHH.out; omega, hjm, rfl, rfl, H2, HA2, HB⟩
  case measure => have := HHH.out; simp [zD]; omega
 have hneg : c < 0 := by rw [hc, hl]; simp
 have hnb : (!decide (c < 0)) = false := by simp [hneg]
 rw [hnb];rw [hx.out, hy.out] at hl;have HB2 : Hid (h < m → lt (f m) (f h) = true) := hid (fun _ => hl);clear hc hcall c1 c2 hbl hl;go_wp2
 go_roundw
 case rel => exact ⟨i, h, hai, by have := HHH.out; omega, by have := HHH.out; omega, rfl, rfl, H2, HA, HB2⟩
 case measure => have := HHH.out; simp [zD]; omega) : p := h
theorem m39 {p : Prop} (h : p := by
 have HR2 : Hid (r = false) := hid (by
  rw [HRR.out, zCu, Bool.and_eq_false_iff]
  left
  rw [Bool.eq_false_iff];intro e;have := zEF.1 e;rw [← HV5.out.1, ← HV5.out.2.1, ← HV5.out.2.2.1, ← HV5.out.2.2.2] at this;omega)
 go_wp2_with fail
 go_ret;rw [HR2.out];exact ⟨rfl, B0.out⟩) : p := h
theorem m40 {p : Prop} (h : p := by
 clear h0 HRV;go_upto_region 2 with (fail)
 clear x0 x2 x4;go_wp2_with (first | (refine zp 74 K1.out Tryz.underlying74 zE ?_) | (go_at_call 84; with_reducible refine (HWR.out _ B1.out).mono ?_; rintro e w3 ⟨rfl, b3⟩; replace Z1 := hid (Z1.out.below b3 Z1.out.lt); replace B1 := hid (zB B1.out b3); clear b3) | (refine zI rfl 74 (.tmp 3) (.tmp 37) rfl (w.heap.size + 1) #[.slice A n c, .int .i64 (en : Int), .int .i64 (oi : Int), .int .i64 (op : Int), .int .i64 (oe : Int)] rfl rfl 74 zy Z1.out zE rfl (by simp [Value.oneCell']) ?_; intro w9 b9 g9 z9; replace b9 := hid b9; replace g9 := hid g9; clear z9; try simp only [Act.put, sS]))
 exact zNa) : p := h
theorem m41 {p : Prop} (h : p := by
 clear h0 HRV;go_upto_region 2 with (fail)
 clear x0 x2 x4;go_wp2_with (first | (refine zp 74 K1.out Tryz.underlying74 zE ?_) | (go_at_call 84; with_reducible refine (HWR.out _ B1.out).mono ?_; rintro e w3 ⟨rfl, b3⟩; replace Z1 := hid (Z1.out.below b3 Z1.out.lt); replace B1 := hid (zB B1.out b3); clear b3) | (refine zI rfl 74 (.tmp 3) (.tmp 27) rfl (w.heap.size + 1) #[.slice A n c, .int .i64 (en : Int), .int .i64 (oi : Int), .int .i64 (op : Int), .int .i64 (oe : Int)] rfl rfl 74 zy Z1.out zE rfl (by simp [Value.oneCell']) ?_; intro w9 b9 g9 z9; replace b9 := hid b9; replace g9 := hid g9; clear z9; try simp only [Act.put, sS]))
 exact zNa) : p := h
theorem m42 {p : Prop} (h : p := by
 clear c0 c3;clear x0 x2 x4;go_wp2_with (first | (refine zp 74 K1.out Tryz.underlying74 zE ?_) | (go_at_call 84; with_reducible refine (HWR.out _ B1.out).mono ?_; rintro e w3 ⟨rfl, b3⟩; replace Z1 := hid (Z1.out.below b3 Z1.out.lt); replace B1 := hid (zB B1.out b3); clear b3) | (refine zI rfl 74 (.tmp 3) (.tmp 37) rfl (w.heap.size + 1) #[.slice (some ad) n c, .int .i64 (en : Int), .int .i64 (oi : Int), .int .i64 (op : Int), .int .i64 (oe : Int)] rfl rfl 74 zy Z1.out zE rfl (by simp [Value.oneCell']) ?_; intro w9 b9 g9 z9; replace b9 := hid b9; replace g9 := hid g9; clear z9; try simp only [Act.put, sS]))
 exact zNc) : p := h
theorem m43 {p : Prop} (h : p := by
 refine yL 14 ?_;intro K hK;go_simp;refine (k8 _ g en gm x r0 d.names HD.out.m HD.out.gm.1 QT.out HTS0.out (HM.out.only QO.out HG0.out) HG0.out hHeld.2).mono ?_;rintro e w1 ⟨o, hh⟩;rw [HQ1.out] at hh;obtain ⟨rfl, t⟩ := hh;replace QN := hid (QN.out.on o t);replace QO := hid (QO.out.trans o);replace QT := hid t;clear o t;refine zq hK (PSt.of HD.out H.out QO.out QT.out) fun hHeld => ?_
 clear hK K;refine zJ 15 ?_ (hy := Or.inl ⟨by rfl, fun w hSw => by have hlk := kX hSw.2 s1 HL1.out i1 HI1.out; go_simp; try with_reducible rfl⟩);refine zJ 16 ?_;exact zMH) : p := h
theorem m44 {p : Prop} (h : p := by
 go_enter Tryz.func158, Tryz.ntmps158
 go_wp2
 go_ret;exact ⟨rfl, rfl⟩) : p := h
theorem m45 {p : Prop} (h : p := by
 refine yL 15 ?_;intro K hK;refine jV 26 (#[.int .i64 V, .slice (some ⟨gN + 1, 0, none⟩) l.length l.length, .slice Bp (yz l ps).length dp, .slice Bq (itg (vg cs)).length dq]) KC.out yy (by simp [Value.oneCell']) ?_;intro w9 b9 g9 z9;refine zq hK (HST.out.k.grown g9 (fun e => by injection e with e; have := HST.out.dm; have := HC.out; omega)) fun hHeld => ?_
 clear hK K;refine jc ?_;go_wp2_with fail
 go_meet
 exact zMc HST.out OA.out OB.out KC.out b9 g9 HC.out HA.out (by have := HCT.out; omega)) : p := h
theorem m46 {p : Prop} (h : p := by
 try (change wpAny _ _ _ _ _ _ ⟨_, _⟩ _)
 try simp only [Act.put, sS]
 refine zG 14 ?_;refine tR [15] (by kernel_rfl) rfl ?_;refine ko (i := 15) rfl (by kernel_rfl) (.tmp 127) (.tmp 122) rfl blk (k * 9) y rfl rfl f1 ?_ ?_
 ·
  try (change wpAny _ _ _ _ _ _ ⟨_, _⟩ _)
  try simp only [Act.put, sS]
  refine zG 16 ?_;refine tR [17] (by kernel_rfl) rfl ?_;refine ko (i := 17) rfl (by kernel_rfl) (.tmp 128) (.tmp 126) rfl blk (kp * 9) x rfl rfl g2 ?_ ?_
  ·
   try (change wpAny _ _ _ _ _ _ ⟨_, _⟩ _)
   try simp only [Act.put, sS]
   refine kW ?_;clear c1 c2 f1 g2 b1 b2;generalize (wr.drew.setCells blk (k * 9) y.cs).setCells blk (kp * 9) x.cs = w9 at HN ⊢;exact zN4
  exact rN
 exact rN) : p := h
theorem m47 {p : Prop} (h : p := by
 rw [HE.out] at iw9;have HL9 : Hid ((X ++ qT p).length ≤ 5000000 + 20000 * (j + 1)) := hid (by rw [← HE.out]; have h := HQ.out; simp only [List.length_append]; omega);exact zOc) : p := h
theorem m48 {p : Prop} (h : p := by
 simp only [Act.put, sS];refine zA (.bool (decide (c < 0))) ?_ (hC := fun _ _ => by simp [go_sem, b1]);refine wpQuiet_nil ?_;clear r1 r2 r3 r4;intro w2 hb2;have H2 := hid (HW.out.below hb2);rcases hl : lt x y with _ | _
 ·
  have hneg : ¬ c < 0 := by rw [hc, hl]; simp; split <;> omega
  rw [hx.out, hy.out] at hl;have HB2 := hid (zNd HO.out HS.out (show m ≤ h by have := HHH.out; omega) hl);clear hc hcall c1 c2 hbl hl;go_wp2
  go_roundw
  case rel => exact ⟨i, h, hmi, by have := HHH.out; omega, by have := HHH.out; omega, rfl, rfl, H2, HA, HB2⟩
  case measure => have := HHH.out; simp [zD]; omega
 have hneg : c < 0 := by rw [hc, hl]; simp
 rw [hx.out, hy.out] at hl;have HA2 := hid (zNR HO.out HS.out (show h < b by have := HHH.out; omega) hl);clear hc hcall c1 c2 hbl hl;go_wp2
 go_roundw
 case rel => exact ⟨h + 1, j, by have := HHH.out; omega, by have := HHH.out; omega, hjb, rfl, rfl, H2, HA2, HB⟩
 case measure => have := HHH.out; simp [zD]; omega) : p := h
theorem m49 {p : Prop} (h : p := by
 try (change wpAny _ _ _ _ _ _ ⟨_, _⟩ _)
 try simp only [Act.put, sS]
 refine zG 14 ?_;refine tR [15] (by kernel_rfl) rfl ?_;refine ko (i := 15) rfl (by kernel_rfl) (.tmp 75) (.tmp 70) rfl blk (k * 9) y rfl rfl f1 ?_ ?_
 ·
  try (change wpAny _ _ _ _ _ _ ⟨_, _⟩ _)
  try simp only [Act.put, sS]
  refine zG 16 ?_;refine tR [17] (by kernel_rfl) rfl ?_;refine ko (i := 17) rfl (by kernel_rfl) (.tmp 76) (.tmp 74) rfl blk (kq * 9) x rfl rfl g2 ?_ ?_
  ·
   try (change wpAny _ _ _ _ _ _ ⟨_, _⟩ _)
   try simp only [Act.put, sS]
   refine kW ?_;clear c1 c2 f1 g2 b1 b2;generalize (wr.drew.setCells blk (k * 9) y.cs).setCells blk (kq * 9) x.cs = w9 at HN ⊢;go_wp2
   go_roundw
   case rel => exact ⟨kq, by have := hkq.out; omega, by have := hkq.out; omega, rfl, by have e := HN.out; rw [hkq.out, zJ7 a k hak] at e; rw [hkq.out]; exact hid e⟩
   case measure => have := hkq.out; simp [zD]; omega
  exact rN
 exact rN) : p := h
theorem m50 {p : Prop} (h : p := by
 rw [hq];have HKY := hid fun W m hm => zFz W m t.text hy hm true (decide_eq_true hkey)
 clear hk hq hkey hy htw;go_enter Tryz.func104, Tryz.ntmps104
 go_wp2_with (first | (go_at_call 62; refine HN.out.mono ?_; rintro e w1 ⟨rfl, b1⟩; have hz := b1.size; obtain ⟨m1, hm1⟩ := (HM.out.below b1).below ((Below.refl w1.heap.size w1).alloc (Nat.le_refl _) (.cells #[.int .i64 t.kind, .int .i64 t.pos, .int .i64 t.n, str t.text] 40)); have H1 := hid (H.out.below b1); replace b1 := hid b1; replace hm1 := hid hm1) | (go_at_call 24; refine (HKY.out _ m1 hm1.out).mono ?_; rintro e w2 ⟨rfl, rfl⟩) | (go_at_call 63; refine (ky _ g en x (t :: r) 10 (H1.out.alloc _)).mono ?_; rintro e w2 ⟨rfl, rfl⟩))
 exact ⟨rfl, yU.err ((zH.of_below b1.out).alloc _)⟩) : p := h
theorem m51 {p : Prop} (h : p := by
 refine zJ 10 ?_;refine yL 11 ?_;intro K hK;have V5 := hid (V4.out.setA (A0 : Int)).drw;have O5 := hid ((zH.refl wr.heap.size w4).setCell 0 (.int .i64 (A0 : Int))).drew;have c0 : w4.drew.cell? ⟨wr.heap.size, 0, none⟩ = some (.int .i64 p.a) := V4.out.ca;have f0 : w4.drew.frozen? ⟨wr.heap.size, 0, none⟩ = false := V4.out.f0;go_simp;clear c0 f0 hHeld;generalize (w4.setCell ⟨wr.heap.size, 0, none⟩ (.int .i64 (A0 : Int))).drew = w5 at V5 O5 ⊢;refine zq hK O5.out fun hHeld => ?_
 clear hK K;refine zJ 12 ?_;refine yL 13 ?_;intro K hK;have V6 := hid (V5.out.setB (B0 : Int));have O6 := hid (O5.out.setCell 1 (.int .i64 (B0 : Int)));have c1 := V5.out.cb;have f1 := V5.out.f1;go_simp;clear c1 f1 hHeld;generalize w5.setCell ⟨wr.heap.size, 1, none⟩ (.int .i64 (B0 : Int)) = w6 at V6 O6 ⊢;refine zq hK O6.out fun hHeld => ?_
 clear hK K;refine jc ?_;go_wp2_with fail
 go_meet
 case rel => exact ⟨V6, O6⟩) : p := h
theorem m52 {p : Prop} (h : p := by
 try (change wpAny _ _ _ _ _ _ ⟨_, _⟩ _)
 try simp only [Act.put, sS]
 refine zG 20 ?_;refine tR [21] (by kernel_rfl) rfl ?_;refine ko (i := 21) rfl (by kernel_rfl) (.tmp 36) (.tmp 29) rfl blk (s * 9) y rfl rfl f1 ?_ ?_
 ·
  try (change wpAny _ _ _ _ _ _ ⟨_, _⟩ _)
  try simp only [Act.put, sS]
  refine zG 22 ?_;refine tR [23] (by kernel_rfl) rfl ?_;refine ko (i := 23) rfl (by kernel_rfl) (.tmp 37) (.tmp 35) rfl blk (t * 9) x rfl rfl g2 ?_ ?_
  ·
   try (change wpAny _ _ _ _ _ _ ⟨_, _⟩ _)
   try simp only [Act.put, sS]
   refine kW ?_;clear c1 c2 f1 g2 b1 b2;generalize (wr.drew.setCells blk (s * 9) y.cs).setCells blk (t * 9) x.cs = w9 at HN ⊢;go_wp2
   go_roundw
   case rel => exact ⟨j + 1, by omega, by go_num, by have e := HN.out; rw [hs.out, ht.out, zC0 a b j (by omega)] at e; exact hid e⟩
   case measure => simp [zD]; omega
  exact rN
 exact rN) : p := h
theorem m53 {p : Prop} (h : p := by
 have h' := h;rcases h'.2 with ⟨rfl, h0⟩ | ⟨g, cap, cur, rfl, -, -, hc, -⟩
 · obtain rfl := List.eq_nil_of_length_eq_zero h0;exact ⟨none, 0, rfl, Nat.le_refl _, zQ.nil_⟩
 exact ⟨_, cap, rfl, hc, zQ.of_own h⟩) : p := h
theorem m54 {p : Prop} (h : p := by
 go_wp2_with (first | (go_at_call 24; with_reducible refine (H1.out _).mono ?_; rintro e w1 ⟨rfl, rfl⟩) | (go_at_call 24; with_reducible refine (H3.out _).mono ?_; rintro e w1 ⟨rfl, rfl⟩) | (go_at_call 24; with_reducible refine (H4.out _).mono ?_; rintro e w1 ⟨rfl, rfl⟩) | (go_at_call 25; with_reducible refine (H5.out _).mono ?_; rintro e w1 ⟨rfl, b1⟩; have K1 := (Blk.new wr 40 #[.int .i64 0, .int .i64 p, .int .i64 0, .string ⟨#[]⟩]).below b1 (by simp); have c0 := K1.cell 0; have f0 := K1.frozen 0; clear K1; replace b1 := hid b1))
 go_ret3
 exact zMI) : p := h
theorem m55 {p : Prop} (h : p := by
 go_enter Tryz.func142, Tryz.ntmps142
 go_wp2
 refine bodyPost_ret (vT rfl _ ⟨w.heap.size, 0, none⟩ rfl _ Tryz.underlying53 rfl _ vc0.cells zR (zO (Blk.new w 53 vc0.cells))) rfl ?_;exact ⟨rfl, HBL.out⟩) : p := h
theorem m56 {p : Prop} (h : p := by
 refine xn 2 ?_;intro K hK;go_simp;refine (zZ _ g en x r1 _ hq2.out T5.out.drew).mono ?_;rintro e w6 ⟨o, rfl, t⟩;have S6 := hid (S5.out.only (zH.undrew o) t);have B6 := hid (B5.out.trans ((zH.undrew o).below (Nat.sub_le g 1) (by have := T5.out.lt; omega)));have c6 := t.c3;have f6 := t.fr 3;have T6 := hid t;have x6 : w6.cell? ⟨W.heap.size, 0, none⟩ = some (.pointer (some ⟨g, 0, none⟩)) := S6.out.box.cell 0;clear o t;refine yi hK ?_;clear hK K;exact zN8) : p := h
theorem m57 {p : Prop} (h : p := by
 have HF : Hid (r = false) := by
  exact m36
 go_wp2
 go_ret;rw [HF.out];exact ⟨rfl, W4.out⟩) : p := h
theorem m58 {p : Prop} (h : p := by
 go_wp2_with (first | (go_at_call 62; refine HN.out.mono ?_; rintro e w1 ⟨rfl, b1⟩; have hz := b1.size; have H1 := hid (H.out.below b1); replace b1 := hid b1) | (go_at_call 63; refine (ky _ g en x [] 10 (H1.out.alloc _)).mono ?_; rintro e w2 ⟨rfl, rfl⟩))
 exact ⟨rfl, yU.err (r := []) ((zH.of_below b1.out).alloc _)⟩) : p := h
theorem m59 {p : Prop} (h : p := by
 go_wp2_with (first | (go_at_call 62; refine HN.out.mono ?_; rintro e w1 ⟨rfl, b1⟩; have hz := b1.size; have H1 := hid (H.out.below b1); replace b1 := hid b1) | (go_at_call 63; refine (ky _ g en x (t :: r) 10 (H1.out.alloc _)).mono ?_; rintro e w2 ⟨rfl, rfl⟩))
 exact ⟨rfl, yU.err ((zH.of_below b1.out).alloc _)⟩) : p := h
theorem m60 {p : Prop} (h : p := by
 go_upto_region 8 with (fail)
 clear c1 c2 c3 c4 c5 c6 c7 c8 c9 d0 d1 d2 d3 d4 d5 d6 d7 d8 d9;go_wp2_with (first | (refine ju rfl 55 (.tmp 5) rfl wr.heap.size rfl 55 x.cells _ b46.out hun (by cases dn <;> first | rfl | cases hdn) zx ?_; try simp only [Act.put, sS]) | (refine wpList_store_mid rfl 55 (.tmp 49) (.tmp 48) rfl (w.heap.size + 1) (v * 10) x.cs.toArray rfl rfl ht zx hsz ?_; try simp only [Act.put, sS]; change wpList _ _ _ _ _ (w6.setCells (w.heap.size + 1) (v * 10) x.cs); clear ht hsz c0; generalize w6.setCells (w.heap.size + 1) (v * 10) x.cs = w9 at R7 S7 W7 ⊢))
 go_roundw
 case rel => exact ⟨j + 1, by omega, by go_num, W7, S7, R7, HT2⟩
 case measure => simp [zD]; omega) : p := h
theorem m61 {p : Prop} (h : p := by
 intro K hK;go_simp;refine (zZ _ g en x r1 _ hq2 T5.out.drew).mono ?_;rintro e w ⟨o, rfl⟩;exact zBR _ (by rfl) ((zH.undrew o).blk S5.out.fault (by have := S5.out.gf; omega)) (by simp only [vZ, hq1.out, hq2, Rs.ok_bind, Rs.err_bind]) (B5.out.trans ((zH.undrew o).below (Nat.sub_le g 1) (by have := T5.out.lt; omega))) (by have := S5.out.gf; omega)) : p := h
theorem m62 {p : Prop} (h : p := by
 refine zA (.bool false) ?_;refine zA (.bool false) ?_;refine zA (.bool false) ?_;refine wpQuiet_nil ?_;intro w2 hb2
 have HT2 : Hid (∀ i, i < j + 1 → vG s (ps.getD i zt) = true ∧ (0 < i → zv (ps.getD (i - 1) zt) (ps.getD i zt) = true)) := hid fun i hi => by
  rcases Nat.lt_or_ge i j with h | h
  · exact HT.out i h
  (obtain rfl : i = j := by omega);rw [HX.out];refine ⟨HPV.out, ?_⟩;rw [HY.out];intro _;simp only [zv, Bool.or_eq_true, Bool.and_eq_true, decide_eq_true_eq];omega
 exact zML) : p := h
theorem m63 {p : Prop} (h : p := by
 have HF : Hid (r = false) := hid (by rw [HR.out, ← HQ.out]; simp);exact zLX) : p := h
theorem m64 {p : Prop} (h : p := by
 have HA : Hid (qM l k i = false) := hid (by rw [Bool.eq_false_iff]; intro e; have := HAN.out.1 e; omega);have I6 : Hid (kA w5 w.heap.size (xv l i (k + 1))) := hid (by rw [zI6 l HA.out]; exact I5.out);clear I5 cI fI;go_wp2_with fail
 go_roundw
 case rel => exact ⟨k + 1, by omega, by go_num, W5, I6, N5⟩
 case measure => simp [zD]; omega) : p := h
theorem m65 {p : Prop} (h : p := by
 rcases (show k = 0 ∨ k = 1 ∨ k = 2 ∨ k = 3 ∨ k = 4 ∨ k = 5 by omega) with rfl | rfl | rfl | rfl | rfl | rfl <;> rfl) : p := h
theorem m66 {p : Prop} (h : p := by
 rintro e w4 hx;rw [hq5] at hx;obtain ⟨o, rfl⟩ := hx;exact zBR _ (by rfl) (S3.out.kept o).2 (by rw [← HQ.out, HF.out.2, hf2.out, hit.out]; simp only [hq5, Rs.err_bind]) (B3.out.trans (S3.out.low o)) (by have := S3.out.gf; omega)) : p := h
theorem m67 {p : Prop} (h : p := by
 rw [hq3] at HB;simp only [Rs.bind] at HB;clear hq3;go_wp2_with (first | (have _t := H1; go_at_call 106; refine (H1.out _ HA.out.tk).mono ?_; rintro e w1 ⟨rfl, o1, t1⟩; have HA1 := hid (HA.out.on o1 t1 HA.out.num); clear o1 t1 H1 _t) | (go_at_call 106; refine (H2.out _ HA1.out.tk).mono ?_; rintro e w2 ⟨rfl, o1, t1⟩; have HA2 := hid (HA1.out.on o1 t1 HN2.out); clear o1 t1) | (go_at_call 61; refine (H3.out _ HA2.out.tk).mono ?_; rintro e w3 ⟨o1, rfl⟩; replace o1 := hid o1))
 refine ⟨rfl, ?_⟩;rw [HB.out];exact yU.err (HA2.out.only.trans o1.out)) : p := h
theorem m68 {p : Prop} (h : p := by
 rw [HE.out] at iw9;have HL9 : Hid ((X ++ qi j x).length ≤ 400000 + 20000 * (j + 1)) := hid (by rw [← HE.out]; have h := HQ.out; simp only [List.length_append]; omega);exact zOc) : p := h
theorem m69 {p : Prop} (h : p := by
 clear hr
 skip
 go_enter Tryz.func74, Tryz.ntmps74
 go_wp2
 go_ret;exact ⟨by first | rfl | (simp; done) | (simp; omega), B1.out⟩) : p := h
theorem m70 {p : Prop} (h : p := by
 have HF : Hid (r = false) := by
  exact m36
 have h3t : qb = true := by cases qb <;> simp_all
 subst h3t;go_wp2_with (refine (HBD.out _).mono ?_; rintro e w5 ⟨rfl, b5⟩; have c3 := (b4.out.below b5 b4.out.lt).cell 8)
 go_ret;rw [HF.out];exact ⟨rfl, (zB W4.out b5)⟩) : p := h
theorem m71 {p : Prop} (h : p := by
 refine zq hK (hHeld.grown g3 (by simp; omega) (fun b e => by injection e with e; omega)) fun hHeld => ?_
 clear hK K;refine yL 13 ?_;intro K hK;refine jV 55 y.cells b5 zx y.all_one ?_;intro w4 b4 g4 z4;have b6 := b3.grown g4 (by intro e; injection e with e; first | omega | (simp at e) | (simp at *; omega));refine zq hK (hHeld.grown g4 (by have := g3.size; have := hHeld.size; omega) (fun b e => by injection e with e; omega)) fun hHeld => ?_
 clear hK K;refine jc ?_;go_wp2_with fail
 go_meet
 case rel => exact ⟨_, _, rfl, rfl, hid b6, hid b4, hid hHeld⟩) : p := h
theorem m72 {p : Prop} (h : p := by
 refine zA (.bool false) ?_;refine wpQuiet_nil ?_;intro w2 hb2
 have HK2 : Hid (∀ t, t < k + 1 → (l.getD t zF).voice = x.voice → (l.getD t zF).stop ≤ x.start) := hid fun t ht e => by
  rcases Nat.lt_or_ge t k with h | h
  · exact HK.out t h e
  (obtain rfl : t = k := by omega);rw [HY.out] at e ⊢;omega
 have W9 := hid (zB W8.out hb2);have S9 := hid (S8.out.below hb2 S8.out.lt);have x9 := hid (x8.out.below hb2 x8.out.lt);go_wp2_with fail
 go_roundw
 case rel => exact ⟨k + 1, by omega, by go_num, W9, S9, x9, HK2⟩
 case measure => simp [zD]; omega) : p := h
theorem m73 {p : Prop} (h : p := by
 intro K hK;go_simp;refine (k8 _ g en gm x r0 d.names HD.out.m HD.out.gm.1 QT.out HTS0.out (HM.out.only QO.out HG0.out) HG0.out hHeld.2).mono ?_;rintro e w1 ⟨o, hh⟩;rw [HQ1.out] at hh;obtain rfl := hh;refine ⟨rfl, ?_⟩;rw [← HR.out];exact yr.err (QO.out.trans o).away) : p := h
theorem m74 {p : Prop} (h : p := by
 have HOF : Hid (zn w2 w.heap.size (.slice (some ⟨g, 0, none⟩) (i + 1) c4) (yz l (ps.take (i + 1)))) := hid (by
  rw [HX.out.1, ← HPS.out, zBt (lt := zv) jY (by rw [HPS.out]; exact HX.out.2) HS.out (fun z hz => by rw [List.getLast?_append, List.getLast?_singleton] at hz; injection hz with hz; subst hz; exact HT.out)];exact zn.on HOC.out hb2)
 exact zM0) : p := h
theorem m75 {p : Prop} (h : p := by
 obtain rfl : j = a := by omega
 have t1 : ¬ (j : Int) < (j : Int) := by omega
 go_wp2_with fail
 have HB : Hid (Below wr.heap.size wr wr.drew) := hid (Below.refl _ _).drew;go_big_region
 have H2 := hid (HJ.out.below HB.out);go_wp2
 go_roundw
 case rel => exact ⟨i + 1, _, by omega, by omega, by go_num, H2, by rw [show min (i + 1) b = i + 1 by omega]; exact hid (zH3 HO.out j i j (Nat.le_refl _) hji (show min i b = i by omega ▸ HP.out) HL.out (fun h => absurd h (by omega)))⟩
 case measure => simp [zD]; omega) : p := h
theorem m76 {p : Prop} (h : p := by
 refine zA (.bool false) ?_;refine zA (.bool false) ?_;refine zA (.bool false) ?_;refine wpQuiet_nil ?_;intro w2 hb2
 have HL : Hid (false = true ↔ 0 < j ∧ ¬ yK (l.getD (j - 1) zF) x = true) := hid (by
  rw [HY.out];simp only [yK, Bool.or_eq_true, Bool.and_eq_true, decide_eq_true_eq, Bool.false_eq_true, true_iff, false_iff];omega)
 go_wp2_with fail
 go_meet
 case rel => exact ⟨false, rfl, rfl, hid hb2, hid (by first | exact HL.out | exact ⟨fun _ => HL.out.1 trivial, fun _ => rfl⟩)⟩) : p := h
theorem m77 {p : Prop} (h : p := by
 go_wp2_with (go_at_call 128; with_reducible refine (HBD.out _).mono ?_; rintro e w6 ⟨rfl, b6⟩; have p9 := (b4.out.below b6 y4.out).cell 8; replace b6 := hid b6)
 go_ret;rw [HR2.out];exact ⟨rfl, zB W4.out b6.out⟩) : p := h
theorem m78 {p : Prop} (h : p := by
 refine zA (.bool true) ?_;refine zA (.bool true) ?_;iterate 16 with_reducible refine zAF ?_
 refine zA (.bool true) ?_;refine wpQuiet_nil ?_;intro w2 hb2
 have HR2 : Hid (r = false) := hid (by
  rw [HR.out, Bool.and_eq_false_iff]
  left
  rw [Bool.eq_false_iff];intro e;have h9 := (HCO.out.1 e) j hjn;rw [HX.out] at h9;unfold jd at h9;simp only [Bool.and_eq_true, decide_eq_true_eq] at h9;omega)
 go_wp2_with fail
 go_ret;rw [HR2.out];exact ⟨rfl, zB HB.out hb2⟩) : p := h
theorem m79 {p : Prop} (h : p := by
 refine zA (.bool true) ?_;refine zA (.bool true) ?_;refine wpQuiet_nil ?_;intro w2 hb2
 have HL : Hid (true = true ↔ 0 < j ∧ ¬ yK (l.getD (j - 1) zF) x = true) := hid (by
  rw [HY.out];simp only [yK, Bool.or_eq_true, Bool.and_eq_true, decide_eq_true_eq, Bool.false_eq_true, true_iff, false_iff];omega)
 go_wp2_with fail
 go_meet
 case rel => exact ⟨true, rfl, rfl, hid hb2, hid (by first | exact HL.out | exact ⟨fun _ => HL.out.1 trivial, fun _ => rfl⟩)⟩) : p := h
theorem m80 {p : Prop} (h : p := by
 refine bodyPost_ret (yj rfl _ ⟨W.heap.size, 0, none⟩ rfl _ Tryz.underlying26 rfl _ #[.int .i64 0, .slice none 0 0, .slice none 0 0, .slice none 0 0] yy (zO b9)) rfl ?_;have g := HG.out;refine ⟨W9.out.grown g9 W9.out.size (fun y e => by injection e with e; omega), (.agg #[.int .i64 0, .slice none 0 0, .slice none 0 0, .slice none 0 0]), by rw [g.1, g.2.1]; first | rfl | simp [HSZ.out], ?_⟩;rw [g.2.2];exact zCO _) : p := h
theorem m81 {p : Prop} (h : p := by
 have hneg : ¬ c < 0 := by rw [hc, hl]; simp; split <;> omega
 have HQ : Hid (lt (fi i) (fi (j - 1)) = false) := by rw [← V.out.1, ← V.out.2.1]; exact hl
 clear hc hcall c1 c2 hbl hl;go_wp2
 go_roundw
 case rel => exact ⟨i + 1, _, by omega, by omega, by go_num, H2, by rw [show min (i + 1) b = i + 1 by omega]; exact hid (zH3 HO.out a i j haj hji (show min i b = i by omega ▸ HP.out) HL.out (fun _ => HQ.out))⟩
 case measure => simp [zD]; omega) : p := h
theorem m82 {p : Prop} (h : p := by
 go_roundw
 case rel =>
  obtain ⟨k1, k2, k3, k4⟩ := HK.out;have e1 := hm.out;have e2 := hb2.out;have e3 := hs2.out;have m1 : (k + 1) * (2 * s) = k * (2 * s) + 2 * s := Nat.succ_mul _ _;refine ⟨k + 1, b, b2, f4, rfl, rfl, hid ⟨by omega, by omega, hlt, k4.step HO.out HS.out.1 (by omega) ?_⟩, h1⟩;have e := h2.out;rw [e1, k2, k1] at e;exact e
 case measure => have := hb2.out; have := hs2.out; have := HS.out.1; simp [zD]; omega) : p := h
theorem m83 {p : Prop} (h : p := by
 clear hK K;refine yL 11 ?_;intro K hK;go_simp;refine (zJJ (xo x.start y.start) (xo x.voice y.voice) _ _ (by simp [go_sem]) (by simp [go_sem])).mono ?_;exact zNi) : p := h
theorem m84 {p : Prop} (h : p := by
 obtain ⟨k1, k2, k3, k4⟩ := HK.out;have e := hm.out;have p := HS.out.1;subst k1;rw [e];exact hid ((k4.right (by omega) (by omega)).sorted HO.out)) : p := h
theorem m85 {p : Prop} (h : p := by
 refine hid (fun t ht => ?_);rcases Nat.lt_or_ge (t + 1) j with h | h
 · exact HT.out t h
 have e := HXY.out.2.2.2;obtain rfl : t = jp := by omega
 rw [← HXY.out.1, ← HXY.out.2.2.2, ← HXY.out.2.1];exact hl) : p := h
theorem m86 {p : Prop} (h : p := by
 refine zA (.bool false) ?_;refine wpQuiet_nil ?_;intro w2 hb2;have W9 := hid (zB HB.out hb2);have N9 := hid (HR.out.block (hb2.block _ HR.out.lt));have I9 := hid (HI.out.block (hb2.block _ (Blk.lt HI.out)));clear HB HR HI;go_wp2_with fail
 go_roundw
 case rel => exact ⟨j, K, by omega, rfl, rfl, W9, I9, N9, HK2⟩
 case measure => first | (simp [zD]; done) | (simp [zD]; omega)) : p := h
theorem m87 {p : Prop} (h : p := by
 refine zA (.bool true) ?_;refine zA (.bool true) ?_;refine wpQuiet_nil ?_;intro w2 hb2
 have HR2 : Hid (r = false) := hid (by
  rw [Bool.eq_false_iff];intro e;have h9 := ((HR.out.1 e) j hlt).2 jn;rw [HX.out, HY.out] at h9;simp only [zv, Bool.or_eq_true, Bool.and_eq_true, decide_eq_true_eq] at h9;omega)
 go_wp2_with fail
 go_ret;rw [HR2.out];exact ⟨rfl, zB W8.out hb2⟩) : p := h
theorem m88 {p : Prop} (h : p := by
 go_roundw
 case rel =>
  obtain ⟨k1, k2, k3, k4⟩ := HK.out;have e1 := hm.out;have e3 := hs2.out;refine ⟨s2, f4, rfl, hid ⟨by omega, by omega, ?_⟩, h1⟩;rw [e3];have e := h2.out;rw [e1, k1] at e;exact k4.all HO.out HS.out.1 (by omega) (by omega) (fun _ => e) (fun h => absurd h (by omega))
 case measure => have := hs2.out; have := HS.out.1; simp [zD]; omega) : p := h
theorem m89 {p : Prop} (h : p := by
 refine bodyPost_ret (yj rfl _ ⟨W.heap.size, 0, none⟩ rfl _ Tryz.underlying26 rfl _ #[.int .i64 0, .slice none 0 0, .slice none 0 0, .slice none 0 0] yy (zO b9)) rfl ?_;have g := HF.out;refine ⟨BB.out.grown g9 BB.out.size (fun y e => by injection e with e; omega), _, by rw [g.1, g.2.1]; rfl, ?_⟩;rw [g.2.2];exact zCO _) : p := h
theorem m90 {p : Prop} (h : p := by
 go_roundw
 case rel => exact ⟨m + 1, by omega, (by rw [show p + 1 + (m + 1) = q + 1 by omega]; first | rfl | (congr 1)), by simp, hid (hin HPY.out)⟩
 case measure => simp [zD]; omega) : p := h
theorem m91 {p : Prop} (h : p := by
 obtain ⟨k1, k2, k3, k4⟩ := HK.out;have e := hm.out;subst k1;rw [e];exact hid ((k4.left (by omega) HS.out.1).sorted HO.out)) : p := h
theorem m92 {p : Prop} (h : p := by
 go_wp2
 go_roundw
 case rel =>
  obtain ⟨k1, k2, k3, k4⟩ := HK.out;have e1 := hm.out;have e3 := hs2.out;refine ⟨s2, f3, rfl, hid ⟨by omega, by omega, ?_⟩, HI⟩;rw [e3];exact k4.all HO.out HS.out.1 (by omega) (by omega) (fun h => absurd h (by omega)) (fun _ => rfl)
 case measure => have := hs2.out; have := HS.out.1; simp [zD]; omega) : p := h
theorem m93 {p : Prop} (h : p := by
 refine ⟨0, by omega, rfl, hid ((Blk.new W 53 (vX v 0).cells).alloc _), hid ?_, hid (((Below.refl _ _).alloc (Nat.le_refl _) _).alloc (by simp) _)⟩;have := Blk.new (W.alloc (.cells v.cells 53)) 53 vc0.cells;rw [show (W.alloc (.cells v.cells 53)).heap.size = W.heap.size + 1 by simp] at this;exact this) : p := h
theorem m94 {p : Prop} (h : p := by
 have hqk : q = p + (1 + m) := by omega
 have HS := hid (HSW.out m hm);have HQ := hid hqk;clear HTW hm hqk;go_wp2_with fail
 go_roundw
 case rel => exact ⟨p + (1 + m), T, zBF p q (1 + m) HQ.out, hid (zAH HA.out HRD.out (Below.refl _ _) (vS HS.out) (by omega))⟩
 case measure => exact zFi _ _ _ (by have := HQ.out; omega) hlt) : p := h
theorem m95 {p : Prop} (h : p := by
 have HF : Hid (r = false) := by
  refine hid ?_;rw [HR.out, Bool.and_eq_false_iff]
  left
  rw [Bool.eq_false_iff];intro e;have := (xN jd cs 0).1 e j (by rw [← HN.out]; exact hlt);rw [HC.out] at this;simp only [jd, Bool.and_eq_true, decide_eq_true_eq] at this;omega
 go_wp2
 go_ret;rw [HF.out];exact ⟨rfl, B0.out⟩) : p := h
theorem m96 {p : Prop} (h : p := by
 clear h0;go_wp2_with (first | (go_at_call 122; with_reducible refine (HF'.out _ HF.out.o s r HFR.out).mono ?_; rintro e w2 ⟨rfl, b2⟩; replace HF := hid (HF.out.up b2); clear b2))
 exact zM1) : p := h
theorem m97 {p : Prop} (h : p := by
 go_enter Tryz.func29, Tryz.ntmps29
 go_wp2
 go_ret;exact ⟨by first | (simp; done) | (simp; omega), rfl⟩) : p := h
theorem m98 {p : Prop} (h : p := by
 go_enter Tryz.func30, Tryz.ntmps30
 go_wp2
 go_ret;exact ⟨by first | (simp; done) | (simp; omega), rfl⟩) : p := h
theorem m99 {p : Prop} (h : p := by
 go_wp2_with fail
 go_roundw
 case rel => exact ⟨j + 1, by omega, by go_num, by first | exact trivial | exact hid rfl, HT2⟩
 case measure => simp [zD]; omega) : p := h
theorem zNw {p : Prop} (h : p := by
 go_enter Tryz.func106, Tryz.ntmps106
 go_wp2_with (go_at_call 62; refine HN.out.mono ?_; rintro e w' ⟨rfl, b1⟩; replace b1 := hid b1)
 go_ret;exact ⟨rfl, zH.of_below b1.out, H.out.below b1.out⟩) : p := h
theorem zNu {p : Prop} (h : p := by
 obtain rfl : k = ip := by omega
 go_wp2
 (try simp only [Exit.inBlock, Exit.then]);refine bodyPost_ret (results_none rfl _ _ _) rfl ?_;refine ⟨rfl, _, HK.out, ?_⟩;rw [hm, ← hip];exact zKN a b i (by omega) hjb (fun t h1 h2 => HA.out t (by omega) h2) (fun h => HB.out i (Nat.le_refl _) h)) : p := h
theorem zMp {p : Prop} (h : p := by
 rintro e w ⟨o, rfl⟩;simp only [hq9, Rs.err_bind] at HR;refine ⟨rfl, ?_⟩;rw [← HR.out];exact yr.err (BG.out.trans (N6.out.only.trans o).away)) : p := h
theorem zNl {p : Prop} (h : p := by
 intro K hK;go_simp;refine (k8 _ g en gm x ts d.names HD.out.m HD.out.gm.1 QT.out HTS.out (HM.out.only QO.out HG0.out) HG0.out hHeld.2).mono ?_;rintro e w0 ⟨o, hh⟩;rw [HQ0.out] at hh;obtain rfl := hh;refine ⟨rfl, ?_⟩;rw [← HR.out];exact yr.err (QO.out.trans o).away) : p := h
theorem zNI {p : Prop} (h : p := by
 go_roundw
 case rel =>
  have e1 := HZ.out;have e2 := HY.out;have e3 := HX.out;exact ⟨i, x, _, hi, by omega, hai, by omega, rfl, rfl, h1, by rw [e1, e2, e3]; exact (zMr (f := g) m i j (by omega) hlt hi).trans HE.out⟩
 case measure => have e3 := HX.out; simp [zD]; omega) : p := h
theorem zM5 {p : Prop} (h : p := by
 intro k
 induction k with
 | zero => intro u hu; rw [Lib.nDigits_small (by simpa using hu)]; omega
 | succ k ih =>
  intro u hu;by_cases h10 : u < 10
  · rw [Lib.nDigits_small h10]; omega
  rw [Lib.nDigits_big h10];have := ih (u / 10) (by rw [Nat.pow_succ] at hu; omega);omega) : p := h
theorem zNT {p : Prop} (h : p := by
 refine (zC8 _ g en _ x r0 [58] [118, 111, 105, 99, 101] (by decide) (by decide) _ hq1 N0.out.tk (by simp)).mono ?_;rintro e w ⟨o, rfl⟩;simp only [hq1, Rs.err_bind] at HR;refine ⟨rfl, ?_⟩;rw [← HR.out];exact yr.err (BG.out.trans (N0.out.only.trans o).away)) : p := h
theorem zOm {p : Prop} (h : p := by
 go_roundw
 case rel =>
  obtain ⟨k1, k2, k3, k4⟩ := HK.out;have e2 := hb2.out;refine ⟨k + 1, b, b2, f2, rfl, rfl, hid ⟨by omega, by omega, hlt, k4.step ?_⟩, h1⟩;have e := h2.out;rw [k2, k1] at e;exact e
 case measure => have := hb2.out; simp [zD]; omega) : p := h
theorem zL5 {p : Prop} (h : p := by
 clear hl;go_wp2
 go_roundw
 case rel => exact ⟨j + 1, by omega, Or.inl (by omega), by go_num, W2, HT2⟩
 case measure => simp [zD]; omega) : p := h
theorem zOj {p : Prop} (h : p := by
 obtain ⟨A, c, rfl, hc, ⟨rfl, rfl⟩ | ⟨q, rfl, hB, hr⟩⟩ := h
 · exact ⟨none, c, rfl, hc, Or.inl ⟨rfl, rfl⟩⟩
 exact ⟨_, c, rfl, hc, Or.inr ⟨q, rfl, hB, hr.block (hg.block q hr.lt (by
  rcases hne with hne | hne
  · cases hne
  exact hne))⟩⟩) : p := h
theorem zLy {p : Prop} (h : p := by
 obtain ⟨rfl, rfl⟩ := h1; rw [hn]; exact zDZ W A c en ts q (hT.up hb) (by omega) hxs) : p := h
theorem zL7 {p : Prop} (h : p := by
 go_wp2
 go_roundw
 case rel => exact ⟨k + 1, by omega, rfl, O5, by rw [TS.out _ e1.out]; exact N5⟩
 case measure => simp [zD]; omega) : p := h
theorem zNU {p : Prop} (h : p := by
 refine (zCW _ g en gm x ts d.names HD.out.m HD.out.gm.1 H.out HTS.out HM.out HG0.out HD.out.names).mono ?_;rintro e w ⟨o, h⟩;rw [hq0] at h;obtain rfl := h;simp only [hq0, Rs.err_bind] at HR;refine ⟨rfl, ?_⟩;rw [← HR.out];exact yr.err o.away) : p := h
theorem zLf {p : Prop} (h : p := by
 show zn w10 (g + 1) (.slice AN d.sc.pairs.length cN) d.sc.pairs;rw [← hv]; exact D10.out.p) : p := h
theorem zNq {p : Prop} (h : p := by
 go_roundw
 case rel =>
  have e1 := HZ.out;have e3 := HX.out;exact ⟨x, j, _, by omega, hj, by omega, hjb, rfl, rfl, h1, by rw [e1, e3]; exact (zMt (f := g) m i j (by omega) hgt hj).trans HE.out⟩
 case measure => have e3 := HX.out; simp [zD]; omega) : p := h
theorem zK3 {p : Prop} (h : p := by
 obtain ⟨rfl, rfl⟩ := h1; rw [hn]; exact zIC W A c en ts q (hT.up hb) (by omega) hts) : p := h
theorem zND {p : Prop} (h : p := by
 refine (yC _ g en _ x r2 [102, 114, 111, 109] (by decide) _ hq3 N2.out.tk (by simp)).mono ?_;rintro e w ⟨o, rfl⟩;exact zNH) : p := h
theorem zMM {p : Prop} (h : p := by
 refine ⟨a + 1, f, by omega, Or.inr rfl, rfl, H, hid (Put.refl ?_)⟩;by_cases hq : a < b
 · rw [show min (a + 1) b = a + 1 by omega, qZ f a (a + 1) (by omega), kI f (a + 1) (a + 1) (by omega)]; rfl
 rw [kI f a _ (by omega)]; rfl) : p := h
theorem zMj {p : Prop} (h : p := by
 rcases Nat.lt_or_ge t j with h' | h'
 · exact HT.out t h'
 obtain rfl : t = j := by omega
 rw [← HXY.out.1, ← HXY.out.2, hxy]) : p := h
theorem zNm {p : Prop} (h : p := by
 refine (yC _ g en _ x r4 [116, 111] (by decide) _ hq5 N4.out.tk (by simp)).mono ?_;rintro e w ⟨o, rfl⟩;simp only [hq5, Rs.err_bind] at HR;refine ⟨rfl, ?_⟩;rw [← HR.out];exact yr.err (BG.out.trans (N4.out.only.trans o).away)) : p := h
theorem zOi {p : Prop} (h : p := by
 have HR2 : Hid (r = false) := hid (by
  rw [Bool.eq_false_iff];intro e;have h9 := (HR.out.1 e) j hlt;rw [HX.out] at h9;have h8 := kV.1 h9.1;rw [← HLS.out] at h8;omega)
 go_wp2_with fail
 go_ret;rw [HR2.out];exact ⟨rfl, W4.out⟩) : p := h
theorem zMu {p : Prop} (h : p := by
 rcases (show j = 0 ∨ j = 1 ∨ j = 2 ∨ j = 3 ∨ j = 4 ∨ j = 5 by omega) with rfl | rfl | rfl | rfl | rfl | rfl <;> rfl) : p := h
theorem zNj {p : Prop} (h : p := by
 refine (yC _ g en _ x r8 [59] (by decide) _ hq9 N7.out.tk (by simp)).mono ?_;rintro e w ⟨o, rfl⟩;simp only [hq9, Rs.err_bind] at HR;refine ⟨rfl, ?_⟩;rw [← HR.out];exact yr.err (BG.out.trans (N7.out.only.trans o).away)) : p := h
theorem zN9 {p : Prop} (h : p := by
 obtain rfl : k = i := by omega
 go_wp2
 (try simp only [Exit.inBlock, Exit.then]);refine bodyPost_ret (results_none rfl _ _ _) rfl ?_;refine ⟨rfl, _, HK.out, ?_⟩;rw [hm];exact zEs HO.out a m k hai hkm HA.out (fun h => HB.out h)) : p := h
theorem zNh {p : Prop} (h : p := by
 have h1 : decide (x = y) = true := by rw [decide_eq_true_eq]; exact hxy
 simp only [h1, Bool.not_true];clear hxy neqv lx ly;go_wp2
 go_roundw
 case rel => exact ⟨j + 1, by omega, by go_num, W3, HT'⟩
 case measure => simp [zD]; omega) : p := h
theorem zOh {p : Prop} (h : p := by
 induction l generalizing ts with
 | nil => injection e with _ e; subst e; exact h
 | cons s l ih =>
  rcases hq : yv s ts with _ | r1
  · rw [zBd hq] at e; cases e
  rw [zBo hq] at e; exact ih (h.has hq) e) : p := h
theorem zMU {p : Prop} (h : p := by
 refine (zZ _ g en x r7 _ hq6 N6.out.tk).mono ?_;rintro e w ⟨o, rfl⟩;simp only [hq6, Rs.err_bind] at HR;refine ⟨rfl, ?_⟩;rw [← HR.out];exact yr.err (BG.out.trans (N6.out.only.trans o).away)) : p := h
theorem zOl {p : Prop} (h : p := by
 refine (zZ _ g en x r5 _ hq6 N5.out.tk).mono ?_;rintro e w ⟨o, rfl⟩;simp only [hq6, Rs.err_bind] at HR;refine ⟨rfl, ?_⟩;rw [← HR.out];exact yr.err (BG.out.trans (N5.out.only.trans o).away)) : p := h
theorem zNr {p : Prop} (h : p := by
 refine (zZ _ g en x r3 _ hq4 N3.out.tk).mono ?_;rintro e w ⟨o, rfl⟩;simp only [hq4, Rs.err_bind] at HR;refine ⟨rfl, ?_⟩;rw [← HR.out];exact yr.err (BG.out.trans (N3.out.only.trans o).away)) : p := h
theorem zNp {p : Prop} (h : p := by
 refine (zZ _ g en x r1 _ hq2 N1.out.tk).mono ?_;rintro e w ⟨o, rfl⟩;simp only [hq2, Rs.err_bind] at HR;refine ⟨rfl, ?_⟩;rw [← HR.out];exact yr.err (BG.out.trans (N1.out.only.trans o).away)) : p := h
theorem zMO {p : Prop} (h : p := by
 go_wp2
 go_roundw
 case rel => exact ⟨j + 1, by have := HJ.out; omega, by go_num, by rw [← hN.out, HE.out], by first | exact hid rfl | exact hid trivial⟩
 case measure => have := HJ.out; simp [zD]; omega) : p := h
theorem zNL {p : Prop} (h : p := by
 have W9 := hid (zB HB.out hb2);have S9 := hid (HS.out.below hb2 HS.out.lt);exact zMA) : p := h
theorem zMF {p : Prop} (h : p := by
 have W9 := hid (zB W6.out hb2);have S9 := hid (S6.out.below hb2 S6.out.lt);exact zMA) : p := h
theorem zNB {p : Prop} (h : p := by
 obtain ⟨A, c, rfl, hc, ⟨rfl, rfl⟩ | ⟨q, rfl, hB, hr⟩⟩ := h
 · exact ⟨none, c, rfl, hc, Or.inl ⟨rfl, rfl⟩⟩
 exact ⟨_, c, rfl, hc, Or.inr ⟨q, rfl, hB, hr.block (b.block q hr.lt)⟩⟩) : p := h
theorem zNv {p : Prop} (h : p := by
 unfold zH5 at h;rw [h1, h2, h3] at h;refine h.mono fun e w' ⟨b, v, e1, e2⟩ => ⟨b, ?_⟩
 obtain ⟨An, cn, Ap, cp, Aq, cq, rfl, -⟩ := e2.ex;exact ⟨_, An, _, cn, Ap, _, cp, Aq, _, cq, e1, e2⟩) : p := h
theorem zNW {p : Prop} (h : p := by
 have h1 : decide (x = y) = false := by rw [decide_eq_false_iff_not]; exact hxy
 simp only [h1, Bool.not_false];clear hxy neqv lx ly;go_wp2
 go_ret;exact ⟨by rw [HF.out]; rfl, W30.out⟩) : p := h
theorem zNt {p : Prop} (h : p := by
 have e1 := HI0.out;have e2 := HJ0.out;exact ⟨i0, j0, f, by omega, by omega, by omega, by omega, rfl, rfl, H, by rw [show m - i0 = a by omega, show m + j0 = b by omega]; exact rfl⟩) : p := h
theorem zNg {p : Prop} (h : p := by
 rw [if_pos h, if_pos h];rw [if_pos h] at hm;split at hb
 · exact absurd rfl hb
 next h2 =>
 rw [if_neg h2] at hm;simp only [zDO.len] at hm;rw [List.take_of_length_le (by omega)]) : p := h
theorem zOo {p : Prop} (h : p := by
 cases ts with
 | nil => cases e
 | cons t l =>
  simp only [yv] at e;split at e
  · injection e with e; subst e; exact fun u hu => h u (List.mem_cons_of_mem _ hu)
  cases e) : p := h
theorem zL4 {p : Prop} (h : p := by
 have hk : v.ownBlock = some k := hk;rw [e] at hk; injection hk with hk; exact .inr (by omega)) : p := h
theorem zNo {p : Prop} (h : p := by
 have HBF := hid (zB HBC.out hb2);go_wp2_with fail
 go_roundw
 case rel => exact ⟨j + 1, by omega, by go_num, _, rfl, HBF, HOF⟩
 case measure => simp [zD]; omega) : p := h
theorem zMz {p : Prop} (h : p := by
 unfold yE jN
 repeat' split
 all_goals first | rfl | (exfalso; omega) | (congr 1; omega)) : p := h
theorem zNV {p : Prop} (h : p := by
 exact yU.ok ((((zH.of_below b1.out).alloc _).drewN nq).setCell 0 _) (zU.popn ((HB.out.alloc _).drewN nq) (zQ.drewN (zQ.alloc HR.out (by omega) _) nq) hcl h)) : p := h
theorem zNX {p : Prop} (h : p := by
 exact yU.ok ((((zH.of_below b1.out).alloc _).drewN nq).setCell 0 _) (zU.pop1 ((HB.out.alloc _).drewN nq) (zQ.drewN (zQ.alloc HR.out (by omega) _) nq) hcl h)) : p := h
theorem zNN {p : Prop} (h : p := by
 clear ht;go_wp2_with fail
 go_roundw
 case rel => exact ⟨i + 1, by omega, by go_num, HB, HI, by rw [TS.out _ e2.out]; exact HR⟩
 case measure => simp [zD]; omega) : p := h
theorem zMG {p : Prop} (h : p := by
 obtain ⟨A, c, rfl, hc, ⟨rfl, rfl⟩ | ⟨q, rfl, hB, hr⟩⟩ := h
 · intro x hx; cases hx
 intro x hx;injection hx with hx;subst hx;exact ⟨hB, hr.lt⟩) : p := h
theorem zOe {p : Prop} (h : p := by
 rintro e w ⟨o, rfl⟩;simp only [hq9, Rs.err_bind] at HR;refine ⟨rfl, ?_⟩;rw [← HR.out];exact yr.err (BG.out.trans (N8.out.only.trans o).away)) : p := h
theorem zN5 {p : Prop} (h : p := by
 rw [hq, List.getElem?_cons_succ] at this;have hmem := List.mem_of_getElem? this;rw [List.mem_reverse] at hmem;have := hall _ hmem;simp [hv] at this) : p := h
theorem zN3 {p : Prop} (h : p := by
 have hm : jO ts q = false := by unfold jO; rw [show isQ ts q [93] = true from e2]; simp
 simp only [v9, e1, zAi, hm];exact ⟨h3, rfl⟩) : p := h
theorem zMD {p : Prop} (h : p := by
 simp only [yw, Bool.or_eq_false_iff, beq_eq_false_iff_ne];exact ⟨⟨hn 32 (by decide), hn 9 (by decide)⟩, hn 10 (by decide)⟩) : p := h
theorem zM2 {p : Prop} (h : p := by
 rcases Nat.lt_or_ge t j with h' | h'
 · exact HT.out t h'
 obtain rfl : t = j := by omega
 rw [← HXY.out.1, ← HXY.out.2];exact hxy) : p := h
theorem zM8 {p : Prop} (h : p := by
 go_enter Tryz.func109, Tryz.ntmps109
 go_wp2
 go_ret;exact ⟨rfl, rfl⟩) : p := h
theorem zOk {p : Prop} (h : p := by
 go_wp2_with (refine (HBD.out _).mono ?_; rintro e w5 ⟨rfl, b5⟩)
 go_ret;rw [HF.out];exact ⟨rfl, (zB W4.out b5)⟩) : p := h
theorem zOf {p : Prop} (h : p := by
 go_end0
 refine ⟨rfl, ?_⟩;have e1 := HZ.out;rw [← HE.out, ← zLW (f := g) m i (by omega), ← e1];exact h1.out) : p := h
theorem zMP {p : Prop} (h : p := by
 have := hat bs.length hm (by omega);rw [List.getElem?_append_right (by simp)] at this;simp at this;exact this.symm) : p := h
theorem zOb {p : Prop} (h : p := by
 obtain ⟨a1, a2, a3⟩ := zFs (s := s) (by rw [← hE]; exact h0);exact hid ⟨a3, by rw [a1, hE], a2⟩) : p := h
theorem zOn {p : Prop} (h : p := by
 unfold j5 at h;rw [h1, h2, h3] at h;exact h.mono fun e w' ⟨b, A, c, e1, e2, _⟩ => ⟨b, A, c, e1, e2⟩) : p := h
theorem zNb {p : Prop} (h : p := by
 rintro e w ⟨o, rfl, hx⟩;go_wp2_with fail
 first | exact ⟨o, rfl, hx⟩ | (go_end0; exact ⟨o, rfl, hx⟩)) : p := h
theorem zNS {p : Prop} (h : p := by
 obtain ⟨k1, k2, k3, k4⟩ := HK.out;have e := h2.out;rw [k1] at e;exact hid (k4.all (by omega) (by omega) e)) : p := h
theorem zMR {p : Prop} (h : p := by
 obtain rfl := List.eq_nil_of_length_eq_zero h0;exact ⟨none, 0, rfl, Nat.le_refl _, Or.inl ⟨rfl, rfl⟩⟩) : p := h
theorem zMN {p : Prop} (h : p := by
 go_wp2
 go_end0
 refine ⟨rfl, fi, HI.out, ?_⟩;have e := HP.out;rw [show min i b = b by omega] at e;exact e) : p := h
theorem zNC {p : Prop} (h : p := by
 rintro e w' ⟨rfl, rfl⟩;exact ⟨rfl, ⟨none, c, rfl, hc, Or.inl ⟨rfl, rfl⟩⟩, zGR _ _⟩) : p := h
theorem zNF {p : Prop} (h : p := by
 refine hid ?_;rw [Bool.eq_false_iff];intro e;have := (zJW v m).1 e k hlt;rw [hx] at this;exact hs this) : p := h
theorem zN2 {p : Prop} (h : p := by
 refine List.ext_getElem? fun j => ?_
 by_cases h : j < ps.length
 · simp [jP, h]
 simp [jP, h]) : p := h
theorem zNY {p : Prop} (h : p := by
 simp only [zAD, yE]
 repeat' split
 all_goals first | rfl | (exfalso; omega) | (congr 1; omega)) : p := h
theorem zNe {p : Prop} (h : p := by
 obtain ⟨s1, s2, s3⟩ := hs;rw [jS _ _ (by rw [s2]; exact s1)];exact ⟨s1, s2, s3⟩) : p := h
theorem zMX {p : Prop} (h : p := by
 split
 case h_1 r h => exact Rs.suf_up (zI9 r) (ve h)
 case h_2 => exact Rs.suf_ok _) : p := h
theorem zNQ {p : Prop} (h : p := by
 rcases Nat.lt_or_ge j k with h | h
 · exact HK.out j h
 rw [show j = k by omega, hx]; exact hs) : p := h
theorem zMS {p : Prop} (h : p := by
 by_cases h2 : j < i
 · rw [if_pos h2, if_pos (by omega)]
 rw [if_neg h2, if_neg (by omega)]) : p := h
theorem zNM {p : Prop} (h : p := by
 show seg g _ _ = _;rw [hp.seg, zB5 (f := f) (g := f0) _ _ fun t h1 h2 => h.out t h1]) : p := h
theorem zM7 {p : Prop} (h : p := by
 clear H;obtain ⟨i, j, hsi, hij, hjr, rfl, rfl, HW, HA, HB⟩ := hrel;by_cases hlt : i < j
 ·
  have qm := HMID.out;have qs := HSR.out;obtain ⟨s, hs⟩ : ∃ s, s = i + j := ⟨_, rfl⟩
  obtain ⟨h, hh⟩ : ∃ h, h = s / 2 := ⟨_, rfl⟩
  have HF := hid (xR (i := i) (j := j) (n := n) (by omega) hs hh (by omega) (by omega));obtain ⟨q, hq⟩ : ∃ q, q = mid + m - 1 - h := ⟨_, rfl⟩
  have r6 : IntKind.i64.wrap ((p : Int) - (h : Int)) = (q : Int) := by rw [IntKind.wrap_i64]; omega
  have HH : Hid (i ≤ h ∧ h < j) := hid ⟨by omega, by omega⟩;obtain ⟨x, hx⟩ : ∃ x, x = f q := ⟨_, rfl⟩
  obtain ⟨y, hy⟩ : ∃ y, y = f h := ⟨_, rfl⟩
  have c1 := HW.out.cell q (by omega);have c2 := HW.out.cell h (by omega);have o1 := HW.out.ok q (by omega);have o2 := HW.out.ok h (by omega);rw [← hx] at c1 o1;rw [← hy] at c2 o2;have hbl := HW.out.lt;have b1 : q < n := by omega
  have b2 : h < n := by omega
  have hcall : ∀ w', Below wr.heap.size wr w' → Calls Tryz.prog g (#[.agg x.cs.toArray, .agg y.cs.toArray] ++ cb) w' fun e w'' => e = .returned (.int .i64 (if lt x y = true then -1 else if lt y x = true then 1 else 0)) ∧ Below wr.heap.size wr w'' := fun w' hb => (HC.out w' (HW.out.only.trans (zH.of_below hb)) x y o1 o2).mono fun e w'' h => ⟨h.1, zB hb h.2⟩
  obtain ⟨c, hc⟩ : ∃ c : Int, c = (if lt x y = true then -1 else if lt y x = true then 1 else 0) := ⟨_, rfl⟩
  rw [← hc] at hcall;replace hx := hid hx;replace hy := hid hy;replace hq := hid hq;have HHH : Hid (h = s / 2 ∧ s = i + j) := hid ⟨hh, hs⟩;clear o1 o2 qm qs hs hh;obtain ⟨r1, r2, r3, r4, r5⟩ := HF.out;go_wp2_with fail
  refine yo ?_;refine zA (.func (.func g) #[] cb) ?_;refine zA (.slice (some ⟨blk, 0, none⟩) n cap) ?_;refine zA (.int .i64 (p : Int)) ?_;refine zA (.int .i64 (h : Int)) ?_;refine zA (.int .i64 (q : Int)) ?_ (hC := fun _ _ => by simp [go_sem, r6]);refine zA (.pointer (some ⟨blk, q * 9, none⟩)) ?_ (hC := fun _ _ => by simp [go_sem, b1]);refine zL 57 ⟨blk, q * 9, none⟩ (.agg x.cs.toArray) (fun w' hb => k7 _ _ _ _ (yH hb hbl c1)) ?_;refine zA (.slice (some ⟨blk, 0, none⟩) n cap) ?_;refine zA (.int .i64 (h : Int)) ?_;refine zA (.pointer (some ⟨blk, h * 9, none⟩)) ?_ (hC := fun _ _ => by simp [go_sem, b2]);refine zL 57 ⟨blk, h * 9, none⟩ (.agg y.cs.toArray) (fun w' hb => k7 _ _ _ _ (yH hb hbl c2)) ?_;refine zf (by kernel_rfl) (.int .i64 c) g (#[.agg x.cs.toArray, .agg y.cs.toArray] ++ cb) ?_ ?_ ?_
  · intro w';simp [go_sem, eg]
  · intro w' hb;exact hcall w' hb
  exact m17
 exact m5) : p := h
theorem zNK {p : Prop} (h : p := by
 clear H;obtain ⟨i, j, hsi, hij, hjr, rfl, rfl, HW, HA, HB⟩ := hrel;by_cases hlt : i < j
 ·
  have qm := HMID.out;have qs := HSR.out;obtain ⟨s, hs⟩ : ∃ s, s = i + j := ⟨_, rfl⟩
  obtain ⟨h, hh⟩ : ∃ h, h = s / 2 := ⟨_, rfl⟩
  have HF := hid (xR (i := i) (j := j) (n := n) (by omega) hs hh (by omega) (by omega));obtain ⟨q, hq⟩ : ∃ q, q = mid + m - 1 - h := ⟨_, rfl⟩
  have r6 : IntKind.i64.wrap ((p : Int) - (h : Int)) = (q : Int) := by rw [IntKind.wrap_i64]; omega
  have HH : Hid (i ≤ h ∧ h < j) := hid ⟨by omega, by omega⟩;obtain ⟨x, hx⟩ : ∃ x, x = f q := ⟨_, rfl⟩
  obtain ⟨y, hy⟩ : ∃ y, y = f h := ⟨_, rfl⟩
  have c1 := HW.out.cell q (by omega);have c2 := HW.out.cell h (by omega);have o1 := HW.out.ok q (by omega);have o2 := HW.out.ok h (by omega);rw [← hx] at c1 o1;rw [← hy] at c2 o2;have hbl := HW.out.lt;have b1 : q < n := by omega
  have b2 : h < n := by omega
  have hcall : ∀ w', Below wr.heap.size wr w' → Calls Tryz.prog g (#[.int .i64 x, .int .i64 y] ++ cb) w' fun e w'' => e = .returned (.int .i64 (if lt x y = true then -1 else if lt y x = true then 1 else 0)) ∧ Below wr.heap.size wr w'' := fun w' hb => (HC.out w' (HW.out.only.trans (zH.of_below hb)) x y o1 o2).mono fun e w'' h => ⟨h.1, zB hb h.2⟩
  obtain ⟨c, hc⟩ : ∃ c : Int, c = (if lt x y = true then -1 else if lt y x = true then 1 else 0) := ⟨_, rfl⟩
  rw [← hc] at hcall;replace hx := hid hx;replace hy := hid hy;replace hq := hid hq;have HHH : Hid (h = s / 2 ∧ s = i + j) := hid ⟨hh, hs⟩;clear o1 o2 qm qs hs hh;obtain ⟨r1, r2, r3, r4, r5⟩ := HF.out;go_wp2_with fail
  refine yo ?_;refine zA (.func (.func g) #[] cb) ?_;refine zA (.slice (some ⟨blk, 0, none⟩) n cap) ?_;refine zA (.int .i64 (p : Int)) ?_;refine zA (.int .i64 (h : Int)) ?_;refine zA (.int .i64 (q : Int)) ?_ (hC := fun _ _ => by simp [go_sem, r6]);refine zA (.pointer (some ⟨blk, q, none⟩)) ?_ (hC := fun _ _ => by simp [go_sem, b1]);refine zL 3 ⟨blk, q, none⟩ (.int .i64 x) (fun w' hb => zC _ _ _ ((hb.cell hbl).trans c1)) ?_;refine zA (.slice (some ⟨blk, 0, none⟩) n cap) ?_;refine zA (.int .i64 (h : Int)) ?_;refine zA (.pointer (some ⟨blk, h, none⟩)) ?_ (hC := fun _ _ => by simp [go_sem, b2]);refine zL 3 ⟨blk, h, none⟩ (.int .i64 y) (fun w' hb => zC _ _ _ ((hb.cell hbl).trans c2)) ?_;refine zf (by kernel_rfl) (.int .i64 c) g (#[.int .i64 x, .int .i64 y] ++ cb) ?_ ?_ ?_
  · intro w';simp [go_sem, eg]
  · intro w' hb;exact hcall w' hb
  exact m17
 exact m6) : p := h
theorem zMf {p : Prop} (h : p := by
 refine yi hK ?_;clear hK K;refine zG 7 ?_;refine xn 6 ?_;intro K hK;go_simp;refine (qH wc.drew p.wish HSM.out).mono ?_;rintro e w7 ⟨rfl, b7⟩;have hb7 : Below wc.heap.size wc w7 := (Below.refl wc.heap.size wc).drew.trans b7
 have hgl : wr.heap.size < wc.heap.size := by
  exact m35
 have V7 := hid (V6.out.block (hb7.block wr.heap.size hgl));have N7 := hid (N6.out.trans (hb7.mono (Nat.le_of_lt hgl)));clear b7 hb7 hgl;try simp only []
 refine yi hK ?_;clear hK K;exact m1) : p := h
theorem zMQ {p : Prop} (h : p := by
 refine zY 11 ?_;refine kW ?_;have T11 := hid (N9.out.tk.grownm hgw D10.out.gm);have B11 := hid (N9.out.blk.grown hgw (by intro e; injection e with e; exact ye D10.out.names N9.out.blk e.symm));have n11 := hid (yY.kept D10.out.n hgw (.inr (xi D10.out.names D10.out.n)));have n11v : yY w11 (g + 1) (.slice AN d.sc.notes.length cN) d.sc.notes := by rw [← HV.out]; exact n11.out
 have N11V := hid n11v;have hog := xp n11v;have HOG := hid hog;clear n11v hog;have h4 := T11.out.c4;rw [HV.out] at h4;have hg11 := T11.out.lt;have hh11 := B11.out.lt;have c0 := B11.out.cell 0;have c1 := B11.out.cell 1;have c2 := B11.out.cell 2;have c3 := B11.out.cell 3;have c4 := B11.out.cell 4;have c5 := B11.out.cell 5;have c6 := B11.out.cell 6;have c7 := B11.out.cell 7;have c8 := B11.out.cell 8;have c9 := B11.out.cell 9;have NM := hid NM;have HGW := hid hgw;clear hmu hgw g2 g4;go_wp2_with fail
 refine kQ ?_;refine zG 0 ?_;refine zG 1 ?_;refine zG 2 ?_;refine zG 3 ?_;refine zG 4 ?_;refine yg [5, 6] ?_;refine xj ?_ ?_
 · refine zY 6 ?_;refine zY 7 ?_;exact m2
 refine vI ?_;refine yg [5, 7] ?_;refine xj ?_ ?_
 · refine zY 7 ?_;exact m2
 refine vI ?_;refine zY 5 ?_;exact m2) : p := h
theorem zN6 {p : Prop} (h : p := by
 refine yi hK ?_;clear hK K;refine yg [1, 6] ?_;refine zBn ?_ ?_
 · intro K hK;have c1 : wc.drew.cell? ⟨wr.heap.size, 1, none⟩ = _ := V6.out.cb;go_simp;exact zMf
 refine zAv ?_;intro K hK;go_simp;refine (qH wc.drew p.wish HSM.out).mono ?_;rintro e w7 ⟨rfl, b7⟩;have hb7 : Below wc.heap.size wc w7 := (Below.refl wc.heap.size wc).drew.trans b7
 have hgl : wr.heap.size < wc.heap.size := by
  exact m35
 have V7 := hid (V6.out.block (hb7.block wr.heap.size hgl));have N7 := hid (N6.out.trans (hb7.mono (Nat.le_of_lt hgl)));clear b7 hb7 hgl;try simp only []
 exact zNE) : p := h
theorem zME {p : Prop} (h : p := by
 refine yi hK ?_;clear hK K;refine yg [3, 6] ?_;refine zBn ?_ ?_
 · intro K hK;have c0 : wc.drew.cell? ⟨wr.heap.size, 0, none⟩ = _ := V6.out.ca;go_simp;exact zMf
 refine zAv ?_;intro K hK;go_simp;refine (qH wc.drew p.wish HSM.out).mono ?_;rintro e w7 ⟨rfl, b7⟩;have hb7 : Below wc.heap.size wc w7 := (Below.refl wc.heap.size wc).drew.trans b7
 have hgl : wr.heap.size < wc.heap.size := by
  exact m35
 have V7 := hid (V6.out.block (hb7.block wr.heap.size hgl));have N7 := hid (N6.out.trans (hb7.mono (Nat.le_of_lt hgl)));clear b7 hb7 hgl;try simp only []
 exact zOg) : p := h
theorem zNZ {p : Prop} (h : p := by
 try (change wpAny _ _ _ _ _ _ ⟨_, _⟩ _)
 try simp only [Act.put, sS]
 refine zG 14 ?_;refine tR [15] (by kernel_rfl) rfl ?_;refine ko (i := 15) rfl (by kernel_rfl) (.tmp 113) (.tmp 108) rfl g (k * 9) y rfl rfl f1 ?_ ?_
 ·
  try (change wpAny _ _ _ _ _ _ ⟨_, _⟩ _)
  try simp only [Act.put, sS]
  refine zG 16 ?_;refine tR [17] (by kernel_rfl) rfl ?_;refine ko (i := 17) rfl (by kernel_rfl) (.tmp 114) (.tmp 112) rfl g (kp * 9) x rfl rfl g2 ?_ ?_
  ·
   try (change wpAny _ _ _ _ _ _ ⟨_, _⟩ _)
   try simp only [Act.put, sS]
   refine kW ?_;rw [← HWZ.out];clear HWZ;go_wp2_with fail
   go_roundw
   case rel => exact ⟨p', y :: s, by rw [HK.out.1], hid (by rw [← HPS.out]; simp), hid (fun z hz => by rcases List.mem_cons.1 hz with rfl | hz <;> first | exact zCe.2 (by have := HT.out; omega) | exact HS.out z hz), HBN, HN⟩
   case measure => have := HK.out; simp [zD]; omega
  exact rN
 exact rN) : p := h
theorem zMH {p : Prop} (h : p := by
 refine yL 18 ?_;intro K hK;refine kD rfl 57 (.tmp 3) (.tmp 20) rfl _ #[.int .i64 i0, .int .i64 i1, .int .i64 0, .int .i64 0, .int .i64 0, .int .i64 0, .int .i64 0, .int .i64 0, .int .i64 0] rfl rfl _ _ QN.out.blk vN rfl (by simp [Value.oneCell']) ?_;intro w9 b9 q9 s9;refine zq hK (PSt.of HD.out H.out (QA.out.trans (NS.put9 QN.out b9 q9 s9).only) (NS.put9 QN.out b9 q9 s9).tk) fun hHeld => ?_
 clear hK K;refine jc ?_;try dsimp only
 try simp only [Act.put, sS]
 go_wp2_with fail
 go_meet
 refine ⟨_, ?_, QA.out, NS.put9 QN.out b9 q9 s9⟩;rfl) : p := h
theorem zN1 {p : Prop} (h : p := by
 go_wp2
 go_roundw
 case rel => exact ⟨jp, by have := V.out.2.2; omega, by have := V.out.2.2; omega, rfl, by have h3 := V.out.2.2; have h4 := zFE (f := fi) i j hji (by omega); rw [show j - 1 = jp by omega] at h4; exact hid (h4 ▸ HN.out), hid (fun t h1 h2 => by
  by_cases ht : j ≤ t
  · exact HL.out t ht h2
  have h3 := V.out.2.2;(obtain rfl : t = jp := by omega);have h4 := hlx.out;rw [V.out.1, V.out.2.1, show j - 1 = t by omega] at h4;exact h4)⟩
 case measure => have := V.out.2.2; simp [zD]; omega) : p := h
theorem zMV {p : Prop} (h : p := by
 refine zq hK HST.out.k fun hHeld => ?_
 clear hK K;refine yL 12 ?_;intro K hK;go_simp;refine (HPC.out _ HST.out).mono ?_;rintro e wb ⟨vq, rfl, bb, ob⟩;obtain ⟨Bq, dq, rfl, -, -⟩ := ob.form;replace HST := hid (HST.out.up bb);replace OA := hid (OA.out.on bb);replace KC := hid (KC.out.below bb KC.out.lt);have OB := hid ob;clear bb ob;refine zq hK HST.out.k fun hHeld => ?_
 clear hK K;refine zJ 13 ?_;exact m45) : p := h
theorem zMZ {p : Prop} (h : p := by
 refine yi hK ?_;clear hK K;refine xn 1 ?_;intro K hK;go_simp;with_reducible refine (HS.out _ HF.out.b q [110, 111, 116, 101] qk HQK.out hi).mono ?_
 rintro e wa ⟨rfl, b2⟩;replace HF := hid (HF.out.up b2);clear b2;exact zNx) : p := h
theorem zNO {p : Prop} (h : p := by
 refine yi hK ?_;clear hK K;refine xn 1 ?_;intro K hK;go_simp;with_reducible refine (HS.out _ HF.out.b q [116, 105, 101, 100] qk HQK.out hi).mono ?_
 rintro e wa ⟨rfl, b2⟩;replace HF := hid (HF.out.up b2);clear b2;exact zNn) : p := h
theorem zNc {p : Prop} (h : p := by
 refine bodyPost_ret (yZ rfl _ ⟨w.heap.size + 1, 0, none⟩ rfl _ Tryz.underlying74 rfl _ #[.slice (some ad) n c, .int .i64 (en : Int), .int .i64 (oi : Int), .int .i64 (op : Int), .int .i64 (oe : Int)] zE (zO b9.out)) rfl ?_;exact zNJ) : p := h
theorem zNy {p : Prop} (h : p := by
 refine yi hK ?_;clear hK K;refine xn 1 ?_;intro K hK;go_simp;with_reducible refine (HS.out _ HF.out.b q [112, 97, 105, 114] qk HQK.out hi).mono ?_
 rintro e wa ⟨rfl, b2⟩;replace HF := hid (HF.out.up b2);clear b2;exact zMY) : p := h
theorem zNa {p : Prop} (h : p := by
 refine bodyPost_ret (yZ rfl _ ⟨w.heap.size + 1, 0, none⟩ rfl _ Tryz.underlying74 rfl _ #[.slice A n c, .int .i64 (en : Int), .int .i64 (oi : Int), .int .i64 (op : Int), .int .i64 (oe : Int)] zE (zO b9.out)) rfl ?_;exact zNJ) : p := h
theorem zLl {p : Prop} (h : p := by
 have HB5 := hid (hb4.setCell 5 (.slice A4 (d.sc.pairs.length + 1) c4n));go_end0
 rw [← HR.out];exact yr.ok HB5.out TD.out.1 TD.out.2) : p := h
theorem zMo {p : Prop} (h : p := by
 go_end0
 exact ⟨rfl, fr, HR.out, FIN.out fr fr HP1.out (kM (by have := HK.out; omega) (by have := HK.out; omega) (by omega))⟩) : p := h
theorem zK7 {p : Prop} (h : p := by
 go_end0
 exact ⟨rfl, g1, HG.out, FIN.out g1 g1 HP1.out (kM (by have := HK.out; omega) (by have := HK.out; omega) (by omega))⟩) : p := h
theorem zN8 {p : Prop} (h : p := by
 refine zY 3 ?_;refine zY 4 ?_;refine zY 5 ?_;refine zY 6 ?_;refine kW ?_;go_wp2_with fail
 go_meet
 case rel => exact ⟨{ x with v := .int .i64 v }, hid (S6.out.far ((Far.refl g gm x w6).setCell 3 (.int .i64 v)) (T6.out.setv (.int .i64 v)) (S6.out.d.setv T6.out v)), hid (B6.out.trans (S6.out.low ((Far.refl g gm x w6).setCell 3 (.int .i64 v))))⟩) : p := h
theorem zMA {p : Prop} (h : p := by
 go_wp2_with fail
 go_roundw
 case rel => exact ⟨j + 1, by omega, by go_num, W9, S9, HT2⟩
 case measure => simp [zD]; omega) : p := h
theorem zMs {p : Prop} (h : p := by
 have h1 := HLT.out;rw [zGA HF.out.b0, zGA HM.out, if_pos h1.2.2];by_cases e : q2.e = 0
 · have := h1.1 e;rw [if_pos e];omega
 rw [if_neg e];omega) : p := h
theorem zN4 {p : Prop} (h : p := by
 go_wp2
 go_roundw
 case rel => exact ⟨kp, by have := hkp.out; omega, by have := hkp.out; omega, rfl, by have h4 := zFE (f := f) m k hkm (by omega); rw [show k - 1 = kp by have := hkp.out; omega] at h4; exact hid (h4 ▸ HN.out)⟩
 case measure => have := hkp.out; simp [zD]; omega) : p := h
theorem zNs {p : Prop} (h : p := by
 go_roundw
 case rel => exact ⟨j + 1, by omega, by go_num, _, rfl, hid (by rw [← HST.out]; simp [qT, HPL.out, HK.out]), BJ4, hid (by have hq := HQ.out; simp only [List.length_append, List.length_cons, List.length_nil]; omega)⟩
 case measure => simp [zD]; omega) : p := h
theorem zNi {p : Prop} (h : p := by
 rintro e w2 ⟨rfl, rfl⟩;try simp only []
 refine zq hK hHeld fun hHeld => ?_
 clear hK K;refine zJ 12 ?_ (hy := Or.inl ⟨by rfl, fun w hSw => by (try dsimp only at hSw); go_simp; try with_reducible rfl⟩);refine jc ?_;go_wp2
 go_ret;exact hpost _ hHeld) : p := h
theorem zMb {p : Prop} (h : p := by
 have HB5 := hid (hb4.setCell 4 (.slice A4 (d.sc.notes.length + 1) c4n));go_end0
 rw [← HR.out];exact yr.ok HB5.out TD.out.1 TD.out.2) : p := h
theorem zLX {p : Prop} (h : p := by
 go_wp2_with (refine HI.out.mono ?_; rintro e w2 ⟨rfl, b2⟩)
 go_ret;rw [HF.out];exact ⟨rfl, zB WW.out b2⟩) : p := h
theorem zMI {p : Prop} (h : p := by
 exact jU HA.out HRD.out HS.out H8.out ((((Below.refl wr.heap.size wr).alloc (Nat.le_refl _) _).trans (b1.out.mono (by simp))).setCell (p := ⟨wr.heap.size, 0, none⟩) (Nat.le_refl _) _)) : p := h
theorem zNA {p : Prop} (h : p := by
 have HR2 : Hid (r = false) := hid (by
  rw [Bool.eq_false_iff];intro e;have h9 := (HR.out.1 e) j hlt;rw [HX.out] at h9;have h8 := kV.1 h9.1;rw [← HLS.out] at h8;omega)
 exact m77) : p := h
theorem zM0 {p : Prop} (h : p := by
 have HBF := hid (zB HBC.out hb2);go_wp2_with fail
 go_roundw
 case rel => exact ⟨i + 1, by omega, by go_num, _, rfl, HBF, HOF⟩
 case measure => simp [zD]; omega) : p := h
theorem zL9 {p : Prop} (h : p := by
 go_wp2_with fail
 go_ret3
 exact jU HA.out HRD.out HS.out H8.out (Below.refl _ _)) : p := h
theorem zOc {p : Prop} (h : p := by
 go_wp2
 go_roundw
 case rel => exact ⟨j + 1, by omega, by go_num, by rw [HST.out]; exact iw9, bw9, by rw [HST.out]; exact HL9⟩
 case measure => simp [zD]; omega) : p := h
theorem zNk {p : Prop} (h : p := by
 go_ret;exact ⟨congrArg Ending.returned (zKe _ _ (by rw [HF.out]; apply ByteArray.ext; simp [ByteArray.data_append])), B1.out⟩) : p := h
theorem zNP {p : Prop} (h : p := by
 rw [hq];clear hk hq;go_enter Tryz.func104, Tryz.ntmps104
 exact m59) : p := h
theorem zNH {p : Prop} (h : p := by
 simp only [hq3, Rs.err_bind] at HR;refine ⟨rfl, ?_⟩;rw [← HR.out];exact yr.err (BG.out.trans (N2.out.only.trans o).away)) : p := h
theorem zN0 {p : Prop} (h : p := by
 clear h hns hM hN;go_enter Tryz.func104, Tryz.ntmps104
 exact m58) : p := h
theorem zMJ {p : Prop} (h : p := by
 rw [this];by_cases h : (zm n d 6).1 = (zm n d 6).2.1
 · rw [if_pos h, if_pos h]; rfl
 rw [if_neg h, if_neg h]; rfl) : p := h
theorem zM1 {p : Prop} (h : p := by
 go_meet
 case rel => exact ⟨by first | rfl | (rw [HX.out.1, HX.out.2]; done) | (rw [HX.out.1]; done), HF⟩) : p := h
theorem zM3 {p : Prop} (h : p := by
 go_simp;refine yi hK ?_;clear hK K;refine xn 5 ?_;intro K hK;refine zAA (by rfl) 53 (.tmp 114) rfl wr.heap.size 2 rfl p.wish.cells.toList _ (yR V6.out.cw) Tryz.underlying53 rfl zR ?_;exact zMf) : p := h
theorem zNz {p : Prop} (h : p := by
 have HP1 : Hid (Put fr fr a mid (zV lt (seg fr a i) (seg fr i mid))) := hid (kM (by have := HK.out; omega) (by have := HK.out; omega) (by omega));go_wp2_with fail
 exact zMo) : p := h
theorem zNx {p : Prop} (h : p := by
 refine yi hK ?_;clear hK K;refine xn 3 ?_;intro K hK;go_simp;with_reducible refine (HND.out _ HF.out.b qk x d HF.out.o HCP.out hik V false (q2, d2) HV.out).mono ?_
 exact m9) : p := h
theorem zNn {p : Prop} (h : p := by
 refine yi hK ?_;clear hK K;refine xn 3 ?_;intro K hK;go_simp;with_reducible refine (HND.out _ HF.out.b qk x d HF.out.o HCP.out hik V true (q2, d2) HV.out).mono ?_
 exact m9) : p := h
theorem zMY {p : Prop} (h : p := by
 refine yi hK ?_;clear hK K;refine xn 3 ?_;intro K hK;go_simp;with_reducible refine (HPD.out _ HF.out.b qk x d HF.out.o HCP.out hik V (q2, d2) HV.out).mono ?_
 exact m9) : p := h
theorem zNE {p : Prop} (h : p := by
 refine yi hK ?_;clear hK K;refine xn 1 ?_;intro K hK;have c1 := V7.out.cb;go_simp;refine yi hK ?_;clear hK K;refine zG 7 ?_;exact m1) : p := h
theorem zOg {p : Prop} (h : p := by
 refine yi hK ?_;clear hK K;refine xn 3 ?_;intro K hK;have c0 := V7.out.ca;go_simp;refine yi hK ?_;clear hK K;refine zG 7 ?_;exact m1) : p := h
theorem zNJ {p : Prop} (h : p := by
 refine ⟨by rw [HRR.out.1, HRR.out.2]; rfl, B1.out.grown g9.out B1.out.size (fun y e => by injection e with e; omega)⟩) : p := h
theorem zML {p : Prop} (h : p := by
 have W9 := hid (zB W8.out hb2);have S9 := hid (S8.out.below hb2 S8.out.lt);exact zMA) : p := h
end Go.Proofs.YtcjhihmaegagdaaGreatDoor
