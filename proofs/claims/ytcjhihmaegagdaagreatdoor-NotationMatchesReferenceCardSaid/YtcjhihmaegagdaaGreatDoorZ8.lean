/- Texts of the Notation chapter, together: Zu. -/
import Derived.Test.YtcjhihmaegagdaaGreatDoorZ7
import Derived.Test.YtcjhihmaegagdaaGreatDoorG1
set_option maxRecDepth 100000
set_option maxHeartbeats 8000000
set_option linter.unusedSimpArgs false
set_option linter.unusedVariables false
set_option linter.unusedSectionVars false
set_option linter.unnecessarySimpa false
namespace Go.Proofs.YtcjhihmaegagdaaGreatDoor
open Go.RowKit Go.Deep
theorem zn.look {w : World} {base : Nat} {A : Option Addr} {m c : Nat} {l : List Par} (h : zn w base (.slice A m c) l) {i : Nat} (hi : i < l.length) : ∃ g, A = some ⟨g, 0, none⟩ ∧ base ≤ g ∧ vW Par.cs 9 zt w g l := by
 rcases jz.of_own h with ⟨A', c', hv, hc, (⟨rfl, rfl⟩ | ⟨q, rfl, hB, hr⟩)⟩
 · simp at hi
 injection hv with hv;exact ⟨q, hv, hB, hr⟩
theorem zBy {w : World} {g : Nat} {l : List Par} (h : vW Par.cs 9 zt w g l) {i : Nat} (hi : i < l.length) (d : Nat) (v : Value) (hv : (l.getD i zt).cells[d]? = some v) : w.cell? ⟨g, i * 9 + d, none⟩ = some v := h.cell i hi d v (by rw [← hv]; simp [Par.cs])
theorem zF7 (l : List Nte) (ps : List Par) (x : Par) : yz l (ps ++ [x]) = vV zv (jr (zj l) x) (yz l ps) := by
 unfold yz;rw [List.map_append];exact xC _ _
theorem zD3 (l : List Nte) (ps : List Par) : zT zv (yz l ps) := kH jY _
theorem zHo (l : List Nte) (ps : List Par) : (yz l ps).length = ps.length := by unfold yz; rw [jT, List.length_map]
theorem zCe {x y : Par} : zv x y = true ↔ x.a < y.a ∨ (x.a = y.a ∧ x.b < y.b) := by simp only [zv, Bool.or_eq_true, Bool.and_eq_true, decide_eq_true_eq]
theorem qv {o : Oper} {a : Act} {w : World} (ty : TypeId) (x : Operand) (ho : o.op = .load ty x) (ad : Addr) (v : Value) (hx : a.eval x = .pointer (some ad))
 (hC : (Instr.loadAt ty (.pointer (some ad))).run Tryz.prog w = .ok v w) : (execOp a.eval o).run Tryz.prog w = .ok (.value v) w := by
 unfold execOp;simp only [ho, hx, Sem.run_bind, hC, Result.andThen_ok, Sem.run_pure]
theorem zI3 {W : World} {g : Nat} {x : Par} (h : Blk W g 57 x.cells) : (Instr.loadAt 53 (.pointer (some ⟨g, 2, none⟩))).run Tryz.prog W = .ok (.agg x.wish.cells) W :=
 jw _ _ Tryz.underlying53 rfl _ _ _ zR fun j u hu => by
  have hj : j < 6 := (List.getElem?_eq_some_iff.1 hu).1;rw [Addr.add_mid, h.cell];rcases (by omega : j = 0 ∨ j = 1 ∨ j = 2 ∨ j = 3 ∨ j = 4 ∨ j = 5) with rfl | rfl | rfl | rfl | rfl | rfl <;> exact hu
theorem zBp {v : Value} {g : Nat} (h : ∀ u, v.ownBlock = some u → u ≠ g) : v.ownBlock = none ∨ v.ownBlock ≠ some g := by
 rcases hv : v.ownBlock with _ | u
 · exact .inl rfl
 exact .inr fun e => by injection e with e; exact h u hv e
theorem zH.setCells' {g : Nat} {w : World} (h : zH g w w) (i : Nat) (vs : List Value) : zH g w (w.setCells g i vs) := zH.setCells vs i w h
theorem zGG (w : World) (A : Option Addr) (c pg : Nat) (l : List Nte) (ps : List Par) (hps : RdP w w.heap.size A ps) (hpg : pg < w.heap.size) (hpl : kA w pg (xv l l.length 0)) (hm : ps.length ≤ 100000) (hn : l.length ≤ 100000)
 (hix : ∀ p ∈ ps, 0 ≤ p.a ∧ p.a < l.length ∧ 0 ≤ p.b ∧ p.b < l.length ∧ p.wish.small 1000000000000) :
 Calls Tryz.prog 37 #[.slice A ps.length c, .slice (some ⟨pg, 0, none⟩) l.length l.length] w fun e w' => ∃ v, e = .returned v ∧ Below w.heap.size w w' ∧ zn w' w.heap.size v (yz l ps) := by
 have HP := hid hps;have HPL := hid hpl;have HPG := hid hpg;obtain ⟨m, hm0⟩ : ∃ m, m = ps.length := ⟨_, rfl⟩
 obtain ⟨n, hn0⟩ : ∃ n, n = l.length := ⟨_, rfl⟩
 rw [← hm0] at hm;rw [← hn0] at hn
 have HIX : Hid (∀ i, i < m → 0 ≤ (ps.getD i zt).a ∧ (ps.getD i zt).a < n ∧ 0 ≤ (ps.getD i zt).b ∧ (ps.getD i zt).b < n ∧ (ps.getD i zt).wish.small 1000000000000) := hid fun i hi => by
  rw [hm0] at hi;rw [zN hi, hn0];exact hix _ (List.getElem_mem hi)
 rw [← hm0, ← hn0];have HM := hid hm0;have HLN := hid hn0;clear hps hpl hpg hm0 hn0 hix;go_enter Tryz.func37, Tryz.ntmps37
 go_wp2_with fail
 go_loopw [5, 6] (fun v u wx => ∃ i : Nat, i ≤ m ∧ u = .int .i64 i ∧ ∃ v0, v = v0 ∧ Hid (Below w.heap.size w wx) ∧ Hid (zn wx w.heap.size v0 (yz l (ps.take i)))) (fun _ u _ => m - (zD u).toNat)
 case atStart => exact ⟨0, Nat.zero_le _, rfl, _, rfl, hid (Below.refl _ _), hid (zn.start _ _)⟩
 case round =>
  obtain ⟨i, hi, rfl, v0, rfl, HB, HO⟩ := hrel;by_cases him : i < m
  ·
   obtain ⟨ap, rfl, hld⟩ := kC HP.out (Nat.le_refl _) HB.out (i := i) (by rw [← HM.out]; exact him);have hl0 := hld _ (Below.refl _ _);obtain ⟨z, hz⟩ : ∃ x, ps.getD i zt = x := ⟨_, rfl⟩
   rw [hz] at hl0;have HZ := hid hz;have r1 : IntKind.i64.wrap ((i : Int) + 1) = ((i + 1 : Nat) : Int) := by rw [IntKind.wrap_i64]; omega
   have r2 : IntKind.i64.wrap (((i + 1 : Nat) : Int) - 1) = (i : Int) := by rw [IntKind.wrap_i64]; omega
   obtain ⟨za0, za1, zb0, zb1, zw⟩ := HIX.out i him;rw [hz] at za0 za1 zb0 zb1 zw;obtain ⟨ia, hia⟩ : ∃ i : Nat, z.a = i := ⟨z.a.toNat, by omega⟩
   obtain ⟨ib, hib⟩ : ∃ i : Nat, z.b = i := ⟨z.b.toNat, by omega⟩
   have han : ia < n := by omega
   have hbn : ib < n := by omega
   have GI := hid (And.intro hia hib);have HZW := hid zw;obtain ⟨a, ha⟩ : ∃ a, yz l (ps.take i) = a := ⟨_, rfl⟩
   rw [ha] at HO;have hal : a.length = i := by rw [← ha, zHo, List.length_take, ← HM.out]; omega
   obtain ⟨x, hx⟩ : ∃ x, jr (zj l) z = x := ⟨_, rfl⟩
   have HX : Hid (yz l (ps.take (i + 1)) = vV zv x a ∧ zT zv a) := hid ⟨by rw [zEh ps zt (by rw [← HM.out]; exact him), zF7, ha, hz, hx], by rw [← ha]; exact zD3 _ _⟩;obtain ⟨pa, hpa⟩ : ∃ p, zj l ia = p := ⟨_, rfl⟩
   obtain ⟨pb, hpb⟩ : ∃ p, zj l ib = p := ⟨_, rfl⟩
   have HXE : Hid (x = if pb < pa then ⟨pb, pa, z.wish.neg, z.bound⟩ else ⟨pa, pb, z.wish, z.bound⟩) := hid (by
    rw [← hx];unfold jr;rw [hia, hib, Int.toNat_natCast, Int.toNat_natCast, hpa, hpb])
   have HAL := hid hal
   have cA : ∀ W, Below w.heap.size w W → W.cell? ⟨pg, ia, none⟩ = some (.int .i64 (pa : Int)) := fun W hb => by
    have h1 := (HPL.out.block (hb.block pg HPG.out)).cell ia (by rw [vM, ← HLN.out]; exact han);rw [zEQ l (by rw [← HLN.out]; exact han), hpa] at h1;exact h1
   have cB : ∀ W, Below w.heap.size w W → W.cell? ⟨pg, ib, none⟩ = some (.int .i64 (pb : Int)) := fun W hb => by
    have h1 := (HPL.out.block (hb.block pg HPG.out)).cell ib (by rw [vM, ← HLN.out]; exact hbn);rw [zEQ l (by rw [← HLN.out]; exact hbn), hpb] at h1;exact h1
   have HCA := hid cA;have HCB := hid cB;clear hz hld za0 za1 zb0 zb1 zw hia hib ha hx hpa hpb hal cA cB;have hal := z.all_one;go_upto_region 6 with (first | ((with_reducible show wpList _ _ _ (Oper.mk _ (Op.load _ _) _ _ _ _ :: _) _ _); refine yB rfl 57 (.tmp 17) rfl _ z.cells rfl hl0 ?_; try simp only [Act.put, sS]) | ((with_reducible show wpList _ _ _ (Oper.mk _ (Op.store _ _ _) _ _ _ _ :: _) _ _); refine zI rfl 57 (.tmp 7) (.tmp 18) rfl wr.heap.size z.cells rfl rfl 57 zt.cells (Blk.new wr _ _) vN rfl hal ?_; intro w4 b4 g4 z4; replace b4 := hid b4; replace g4 := hid g4; replace z4 := hid z4; try simp only [Act.put, sS]))
   have B4 : Hid (Below wr.heap.size wr w4) := hid (((Below.refl _ _).alloc (Nat.le_refl _) _).grown g4.out (by simp) (fun b e => by injection e with e; omega));obtain ⟨gP, hG⟩ : ∃ g, g = wr.heap.size := ⟨_, rfl⟩
   have HGP : Hid (w.heap.size ≤ gP) := hid (by rw [hG]; exact HB.out.size);have HOP : Hid (∀ u, u5.ownBlock = some u → u ≠ gP) := hid (fun u hu => by have := (World.ownsRow.lt HO.out u hu).2; omega);rw [← hG] at b4 ⊢;have y4 : Hid (gP < w4.heap.size) := hid (by rw [z4.out, hG]; simp);clear hl0 g4 hal z4 hG;have W4 := hid (zB HB.out B4.out);have O4 := hid (zn.on HO.out B4.out);have hgP : w.heap.size ≤ gP := HGP.out;have hoP : ∀ u, u5.ownBlock = some u → u ≠ gP := HOP.out;have p0 : w4.cell? ⟨gP, 0, none⟩ = some (.int .i64 (ia : Int)) := by rw [← GI.out.1]; exact b4.out.cell 0
   have f0 := b4.out.frozen 0;have ca := HCA.out w4 W4.out;clear HB HO B4 y4;go_upto_region 7 with (fail)
   have K5 : Hid (Blk (w4.setCell ⟨gP, 0, none⟩ (.int .i64 (pa : Int))) gP 57 ({ z with a := pa } : Par).cells) := hid (by simpa using b4.out.set_ 0 (.int .i64 (pa : Int)));have W5 := hid (W4.out.setCell (p := ⟨gP, 0, none⟩) hgP (.int .i64 (pa : Int)));have O5 : Hid (zn (w4.setCell ⟨gP, 0, none⟩ (.int .i64 (pa : Int))) w.heap.size u5 a) := hid (O4.out.kept (xO (jk gP 0 _)) (zBp hoP));obtain ⟨w5, hw5⟩ : ∃ w5, w5 = w4.setCell ⟨gP, 0, none⟩ (.int .i64 (pa : Int)) := ⟨_, rfl⟩
   rw [← hw5] at K5 W5 O5 ⊢;clear hw5 W4 O4 b4 p0 f0 ca;have p1 : w5.cell? ⟨gP, 1, none⟩ = some (.int .i64 (ib : Int)) := by rw [← GI.out.2]; exact K5.out.cell 1
   have f1 := K5.out.frozen 1;have cb := HCB.out w5 W5.out;go_upto_region 8 with (fail)
   have K6 : Hid (Blk (w5.setCell ⟨gP, 1, none⟩ (.int .i64 (pb : Int))) gP 57 (⟨pa, pb, z.wish, z.bound⟩ : Par).cells) := hid (by simpa using K5.out.set_ 1 (.int .i64 (pb : Int)));have W6 := hid (W5.out.setCell (p := ⟨gP, 1, none⟩) hgP (.int .i64 (pb : Int)));have O6 : Hid (zn (w5.setCell ⟨gP, 1, none⟩ (.int .i64 (pb : Int))) w.heap.size u5 a) := hid (O5.out.kept (xO (jk gP 1 _)) (zBp hoP));obtain ⟨w6, hw6⟩ : ∃ w6, w6 = w5.setCell ⟨gP, 1, none⟩ (.int .i64 (pb : Int)) := ⟨_, rfl⟩
   rw [← hw6] at K6 W6 O6 ⊢;clear hw6 W5 O5 K5 p1 f1 cb;have p0 : w6.cell? ⟨gP, 0, none⟩ = some (.int .i64 (pa : Int)) := K6.out.cell 0;have p1 : w6.cell? ⟨gP, 1, none⟩ = some (.int .i64 (pb : Int)) := K6.out.cell 1;go_upto_if 35 with (fail)
   clear p0 p1;go_cut [] from 36 to 45 (fun wx => Hid (Below w.heap.size w wx) ∧ Hid (Blk wx gP 57 x.cells) ∧ Hid (zn wx w.heap.size u5 a))
   case first =>
    by_cases hlt : pb < pa
    ·
     have L1 : ∀ W, Blk W gP 57 (⟨pa, pb, z.wish, z.bound⟩ : Par).cells → (Instr.loadAt 3 (.pointer (some ⟨gP, 1, none⟩))).run Tryz.prog W = .ok (.int .i64 (pb : Int)) W := fun W h => zC _ _ _ (h.cell 1)
     have L0 : ∀ W, Blk W gP 57 (⟨pa, pb, z.wish, z.bound⟩ : Par).cells → (Instr.loadAt 3 (.pointer (some ⟨gP, 0, none⟩))).run Tryz.prog W = .ok (.int .i64 (pa : Int)) W := fun W h => zC _ _ _ (h.cell 0)
     have L8 : ∀ W, Blk W gP 57 (⟨pa, pb, z.wish, z.bound⟩ : Par).cells → (Instr.loadAt 3 (.pointer (some ⟨gP, 8, none⟩))).run Tryz.prog W = .ok (.int .i64 z.bound) W := fun W h => zC _ _ _ (h.cell 8)
     have L2 : ∀ W, Blk W gP 57 (⟨pa, pb, z.wish, z.bound⟩ : Par).cells → (Instr.loadAt 53 (.pointer (some ⟨gP, 2, none⟩))).run Tryz.prog W = .ok (.agg z.wish.cells) W := fun W h => zI3 (x := ⟨pa, pb, z.wish, z.bound⟩) h
     have HL := hid (And.intro L0 (And.intro L1 (And.intro L2 L8)));clear L0 L1 L2 L8;have HOPP := hid fun W => zD2 W z.wish HZW.out
     have e1 : Hid (x = ⟨pb, pa, z.wish.neg, z.bound⟩) := hid (by rw [HXE.out, if_pos hlt]);go_upto_region 9 with (fail)
     rename_i hq
     clear hq hlt HP HPL HPG HIX HM HLN HX HXE HAL HCA HCB GI HZ HZW HGP r1 r2 han hbn him hi hm hn;replace W6 := hid W6.out.drew;replace K6 := hid K6.out.drew;replace O6 := hid (zn.on O6.out (Below.refl _ w6).drew);refine zOu 10 (fun W => Blk W gP 57 (⟨pa, pb, z.wish, z.bound⟩ : Par).cells) ?_;refine zz.take (i := 0) (v := .pointer (some ⟨gP, 1, none⟩)) rfl (by kernel_rfl) (by kernel_rfl) (by kernel_rfl) (by kernel_rfl) (fun _ _ _ h => h) (Or.inl ⟨by rfl, ?_⟩) K6.out ?_
     · intro W hW;clear hW;go_simp;try with_reducible rfl
     try (change zz _ _ _ _ _ _ _ _ ⟨_, _⟩ _)
     try simp only [Act.put, sS]
     refine zz.take (i := 1) (v := .int .i64 (pb : Int)) rfl (by kernel_rfl) (by kernel_rfl) (by kernel_rfl) (by kernel_rfl) (fun _ _ _ h => h) (Or.inl ⟨by rfl, ?_⟩) K6.out ?_
     · intro W hW;exact qv 3 (.tmp 36) rfl ⟨gP, 1, none⟩ _ rfl (HL.out.2.1 W hW)
     try (change zz _ _ _ _ _ _ _ _ ⟨_, _⟩ _)
     try simp only [Act.put, sS]
     refine zz.take (i := 2) (v := .pointer (some ⟨gP, 0, none⟩)) rfl (by kernel_rfl) (by kernel_rfl) (by kernel_rfl) (by kernel_rfl) (fun _ _ _ h => h) (Or.inl ⟨by rfl, ?_⟩) K6.out ?_
     · intro W hW;clear hW;go_simp;try with_reducible rfl
     try (change zz _ _ _ _ _ _ _ _ ⟨_, _⟩ _)
     try simp only [Act.put, sS]
     refine zz.take (i := 3) (v := .int .i64 (pa : Int)) rfl (by kernel_rfl) (by kernel_rfl) (by kernel_rfl) (by kernel_rfl) (fun _ _ _ h => h) (Or.inl ⟨by rfl, ?_⟩) K6.out ?_
     · intro W hW;exact qv 3 (.tmp 38) rfl ⟨gP, 0, none⟩ _ rfl (HL.out.1 W hW)
     try (change zz _ _ _ _ _ _ _ _ ⟨_, _⟩ _)
     try simp only [Act.put, sS]
     refine zz.take (i := 4) (v := .pointer (some ⟨gP, 2, none⟩)) rfl (by kernel_rfl) (by kernel_rfl) (by kernel_rfl) (by kernel_rfl) (fun _ _ _ h => h) (Or.inl ⟨by rfl, ?_⟩) K6.out ?_
     · intro W hW;clear hW;go_simp;try with_reducible rfl
     try (change zz _ _ _ _ _ _ _ _ ⟨_, _⟩ _)
     try simp only [Act.put, sS]
     refine zz.take (i := 5) (v := .agg z.wish.cells) rfl (by kernel_rfl) (by kernel_rfl) (by kernel_rfl) (by kernel_rfl) (fun _ _ _ h => h) (Or.inl ⟨by rfl, ?_⟩) K6.out ?_
     · intro W hW;exact qv 53 (.tmp 40) rfl ⟨gP, 2, none⟩ _ rfl (HL.out.2.2.1 W hW)
     try (change zz _ _ _ _ _ _ _ _ ⟨_, _⟩ _)
     try simp only [Act.put, sS]
     refine zz.take (i := 7) (v := .pointer (some ⟨gP, 8, none⟩)) rfl (by kernel_rfl) (by kernel_rfl) (by kernel_rfl) (by kernel_rfl) (fun _ _ _ h => h) (Or.inl ⟨by rfl, ?_⟩) K6.out ?_
     · intro W hW;clear hW;go_simp;try with_reducible rfl
     try (change zz _ _ _ _ _ _ _ _ ⟨_, _⟩ _)
     try simp only [Act.put, sS]
     refine zz.take (i := 8) (v := .int .i64 z.bound) rfl (by kernel_rfl) (by kernel_rfl) (by kernel_rfl) (by kernel_rfl) (fun _ _ _ h => h) (Or.inl ⟨by rfl, ?_⟩) K6.out ?_
     · intro W hW;exact qv 3 (.tmp 43) rfl ⟨gP, 8, none⟩ _ rfl (HL.out.2.2.2 W hW)
     try (change zz _ _ _ _ _ _ _ _ ⟨_, _⟩ _)
     try simp only [Act.put, sS]
     refine zMT 6 ?_;intro K hK;go_simp;refine (HOPP.out _).mono ?_;rintro e w7 ⟨rfl, b7⟩;replace W6 := hid (zB W6.out b7);replace K6 := hid (K6.out.below b7 K6.out.lt);replace O6 := hid (zn.on O6.out b7);clear b7;refine zNG hK (.inr K6.out) ?_;clear hK K;refine zz.take (i := 9) (v := .agg (⟨pb, pa, z.wish.neg, z.bound⟩ : Par).cells) rfl (by kernel_rfl) (by kernel_rfl) (by kernel_rfl) (by kernel_rfl) (fun _ _ _ h => h) (Or.inl ⟨by rfl, ?_⟩) K6.out ?_
     · intro W hW;clear hW;first | rfl | (go_simp; done) | (go_simp; rfl)
     try (change zz _ _ _ _ _ _ _ _ ⟨_, _⟩ _)
     try simp only [Act.put, sS]
     refine zMT 10 ?_;intro K hK;refine jV 57 (⟨pb, pa, z.wish.neg, z.bound⟩ : Par).cells K6.out vN (by simp [Value.oneCell']) ?_;intro w9 b9 g9 z9;refine zNG hK (.inl rfl) ?_;clear hK K;replace W6 := hid (W6.out.grown g9 W6.out.size (fun y e => by injection e with e; omega));replace O6 := hid (O6.out.kept g9 (zBp HOP.out));replace K6 := hid b9;clear b9 g9 z9;try (change zz _ _ _ _ _ _ _ _ ⟨_, _⟩ _)
     try simp only [Act.put, sS]
     refine zOq ?_;go_wp2_with fail
     go_meet
     exact ⟨W6, by rw [e1.out]; exact K6, O6⟩
    have e1 : Hid (x = ⟨pa, pb, z.wish, z.bound⟩) := hid (by rw [HXE.out, if_neg hlt]);go_wp2_with fail
    go_meet
    case rel => exact ⟨W6, by rw [e1.out]; exact K6, O6⟩
   case rest =>
    clear W6 K6 O6;obtain ⟨WC, KC, OC⟩ := hcut;obtain ⟨Ao, co, hv, -, -⟩ := OC.out.form;rw [HAL.out] at hv;subst hv;have HA := hid (zn.on OC.out ((Below.refl _ wc).alloc (Nat.le_refl _) (.cells x.cells 57)));have hbs := WC.out.size;go_upto_region 11 with (first | ((with_reducible show wpList _ _ _ (Oper.mk _ (Op.load _ _) _ _ _ _ :: _) _ _); refine zp 57 KC.out Tryz.underlying57 vN ?_) | (at_builtin; go_must (refine vt _ rfl _ _ 23 57 (.agg #[.int .i64 0, .int .i64 0, .int .i64 0, .int .i64 0, .int .i64 0, .int .i64 0, .int .i64 0, .int .i64 0, .int .i64 0]) 9 72 rfl Tryz.underlying23 zBj rfl (by decide) w.heap.size (.slice Ao i co) i (zW Par.cs a) rfl (by have := HA.out; unfold zn at this; rw [HAL.out] at this; exact this) _ (some ⟨wc.heap.size, 0, none⟩) 1 1 (Par.cs x) rfl (zAb wc x _ rfl) (Par.cs_one x) (by simp only [maxLen]; omega) (by omega) (by simp; omega) ?_); intro v4 w4 ho4 hg4 hv4; replace ho4 := hid ho4; replace hg4 := hid hg4; clear hv4))
    have HO4 : Hid (zn w4 w.heap.size v4 (a ++ [x])) := hid (zn.snoc (by have := ho4.out; rw [← HAL.out] at this; exact this));have HB4 : Hid (Below w.heap.size w w4) := hid ((WC.out.alloc hbs (.cells x.cells 57)).grown hg4.out (by simp; omega) (fun y e => (World.ownsRow.lt HA.out y e).1));clear ho4 hg4 HA WC KC OC hbs;obtain ⟨A4, c4, hv, -, -⟩ := HO4.out.form;rw [List.length_append, HAL.out] at hv;replace hv : v4 = .slice A4 (i + 1) c4 := hv;subst hv;obtain ⟨g, rfl, -, -⟩ := HO4.out.look (i := i) (by rw [List.length_append, HAL.out]; exact Nat.lt_succ_self _);go_wp2_with fail
    go_loopw [8] (fun u wx => ∃ p s : List Par, u = .int .i64 (p.length : Int) ∧ Hid (p ++ s = a) ∧ Hid (∀ y ∈ s, zv x y = true) ∧ Hid (Below w.heap.size w wx) ∧ Hid (zn wx w.heap.size (.slice (some ⟨g, 0, none⟩) (i + 1) c4) (p ++ x :: s))) (fun u _ => (zD u).toNat)
    case atStart => exact ⟨a, [], by rw [HAL.out], hid (List.append_nil a), hid (fun y hy => by cases hy), HB4, HO4⟩
    case round =>
     clear HO4 HB4;obtain ⟨p, s, rfl, HPS, HS, HBC, HOC⟩ := hrel;rcases zC2 p with rfl | ⟨p', y, rfl⟩
     ·
      have jn : ¬ (0 : Int) < ((0 : Nat) : Int) := by omega
      rw [List.length_nil];go_wp2_with fail
      refine yo ?_;refine zA (.int .i64 ((0 : Nat) : Int)) ?_;refine zA (.bool false) ?_;refine zA (.bool false) ?_;iterate 40 with_reducible refine zAF ?_
      refine zA (.bool false) ?_;refine wpQuiet_nil ?_;intro w2 hb2
      have HOF : Hid (zn w2 w.heap.size (.slice (some ⟨g, 0, none⟩) (i + 1) c4) (yz l (ps.take (i + 1)))) := hid (by
       rw [HX.out.1, ← HPS.out, zBt (lt := zv) jY (by rw [HPS.out]; exact HX.out.2) HS.out (fun y hy => by cases hy)];exact zn.on HOC.out hb2)
      exact zM0
     (obtain ⟨kp, hkp⟩ : ∃ kp, p'.length = kp := ⟨_, rfl⟩);(obtain ⟨k, hk⟩ : ∃ k, (p' ++ [y]).length = k := ⟨_, rfl⟩);(have hkk : k = kp + 1 := by rw [← hk, ← hkp]; simp);(have hjl : kp + 1 + s.length = i := by rw [← HAL.out, ← HPS.out, ← hkp]; simp; omega);rw [hk];(have rk : IntKind.i64.wrap ((k : Int) - 1) = (kp : Int) := by rw [IntKind.wrap_i64]; omega);(have bk : ¬ ((i : Int) + 1 ≤ (k : Int)) := by omega);(have bp : ¬ ((i : Int) + 1 ≤ (kp : Int)) := by omega);obtain ⟨g', e', -, hrw⟩ := HOC.out.look (i := k) (by simp; omega);injection e' with e';injection e' with e' _ _;subst e';have hbl := hrw.lt;(have hkL : k < ((p' ++ [y]) ++ x :: s).length := by simp; omega);(have hpL : kp < ((p' ++ [y]) ++ x :: s).length := by simp; omega);(have gx : ((p' ++ [y]) ++ x :: s).getD k zt = x := by rw [← hk]; exact zE3 _ _ _ _);(have gy : ((p' ++ [y]) ++ x :: s).getD kp zt = y := by rw [← hkp]; exact zAT _ _ _ _ _);have x0 : wr.cell? ⟨g, k * 9, none⟩ = some (.int .i64 x.a) := zBy hrw hkL 0 _ (by rw [gx]; rfl);have x1 : wr.cell? ⟨g, k * 9 + 1, none⟩ = some (.int .i64 x.b) := zBy hrw hkL 1 _ (by rw [gx]; rfl);have y0 : wr.cell? ⟨g, kp * 9, none⟩ = some (.int .i64 y.a) := zBy hrw hpL 0 _ (by rw [gy]; rfl)
     have y1 : wr.cell? ⟨g, kp * 9 + 1, none⟩ = some (.int .i64 y.b) := zBy hrw hpL 1 _ (by rw [gy]; rfl);clear hrw hkL hpL gx gy;have HK := hid (And.intro hkp (And.intro hk hkk));(have kn : 0 < k := by omega);have HJL := hid hjl;clear hkp hk hkk hjl;by_cases t1 : x.a < y.a
     · have HT : Hid (x.a < y.a ∨ (x.a = y.a ∧ x.b < y.b)) := hid (.inl t1);go_wp2_with fail
       refine yo ?_;refine zA (.int .i64 (k : Int)) ?_;refine zA (.bool true) ?_ (hC := fun _ _ => by simp [go_sem, kn]);refine zA (.bool true) ?_;refine zA (.slice (some ⟨g, 0, none⟩) (i + 1) c4) ?_;refine zA (.int .i64 (k : Int)) ?_;refine zA (.pointer (some ⟨g, k * 9, none⟩)) ?_ (hC := fun _ _ => by simp [go_sem, bk]);refine zA (.pointer (some ⟨g, k * 9, none⟩)) ?_ (hC := fun _ _ => by simp [go_sem, Addr.add]);refine zL 3 (⟨g, k * 9, none⟩) (.int .i64 x.a) (fun w' hb => zC _ _ _ ((hb.cell hbl).trans x0)) ?_;refine zA (.slice (some ⟨g, 0, none⟩) (i + 1) c4) ?_;refine zA (.int .i64 (k : Int)) ?_;refine zA (.int .i64 (kp : Int)) ?_ (hC := fun _ _ => by simp [go_sem, rk]);refine zA (.pointer (some ⟨g, kp * 9, none⟩)) ?_ (hC := fun _ _ => by simp [go_sem, bp]);refine zA (.pointer (some ⟨g, kp * 9, none⟩)) ?_ (hC := fun _ _ => by simp [go_sem, Addr.add]);refine zL 3 (⟨g, kp * 9, none⟩) (.int .i64 y.a) (fun w' hb => zC _ _ _ ((hb.cell hbl).trans y0)) ?_;refine zA (.bool true) ?_ (hC := fun _ _ => by simp [go_sem, t1]);refine zA (.bool true) ?_;iterate 26 with_reducible refine zAF ?_
       refine zA (.bool true) ?_;refine zA (.bool true) ?_;refine wpQuiet_nil ?_;intro w2 hb2;clear t1;exact m11
     by_cases t2 : x.a = y.a
     ·
      by_cases t3 : x.b < y.b
      ·
       have HT : Hid (x.a < y.a ∨ (x.a = y.a ∧ x.b < y.b)) := hid (.inr ⟨t2, t3⟩);go_wp2_with fail
       refine yo ?_;refine zA (.int .i64 (k : Int)) ?_;refine zA (.bool true) ?_ (hC := fun _ _ => by simp [go_sem, kn]);refine zA (.bool true) ?_;refine zA (.slice (some ⟨g, 0, none⟩) (i + 1) c4) ?_;refine zA (.int .i64 (k : Int)) ?_;refine zA (.pointer (some ⟨g, k * 9, none⟩)) ?_ (hC := fun _ _ => by simp [go_sem, bk]);refine zA (.pointer (some ⟨g, k * 9, none⟩)) ?_ (hC := fun _ _ => by simp [go_sem, Addr.add]);refine zL 3 (⟨g, k * 9, none⟩) (.int .i64 x.a) (fun w' hb => zC _ _ _ ((hb.cell hbl).trans x0)) ?_;refine zA (.slice (some ⟨g, 0, none⟩) (i + 1) c4) ?_;refine zA (.int .i64 (k : Int)) ?_;refine zA (.int .i64 (kp : Int)) ?_ (hC := fun _ _ => by simp [go_sem, rk]);refine zA (.pointer (some ⟨g, kp * 9, none⟩)) ?_ (hC := fun _ _ => by simp [go_sem, bp]);refine zA (.pointer (some ⟨g, kp * 9, none⟩)) ?_ (hC := fun _ _ => by simp [go_sem, Addr.add]);refine zL 3 (⟨g, kp * 9, none⟩) (.int .i64 y.a) (fun w' hb => zC _ _ _ ((hb.cell hbl).trans y0)) ?_;refine zA (.bool false) ?_ (hC := fun _ _ => by simp [go_sem, t1]);refine zA (.bool false) ?_;refine zA (.slice (some ⟨g, 0, none⟩) (i + 1) c4) ?_;refine zA (.int .i64 (k : Int)) ?_
       refine zA (.pointer (some ⟨g, k * 9, none⟩)) ?_ (hC := fun _ _ => by simp [go_sem, bk]);refine zA (.pointer (some ⟨g, k * 9, none⟩)) ?_ (hC := fun _ _ => by simp [go_sem, Addr.add]);refine zL 3 (⟨g, k * 9, none⟩) (.int .i64 x.a) (fun w' hb => zC _ _ _ ((hb.cell hbl).trans x0)) ?_;refine zA (.slice (some ⟨g, 0, none⟩) (i + 1) c4) ?_;refine zA (.int .i64 (k : Int)) ?_;refine zA (.int .i64 (kp : Int)) ?_ (hC := fun _ _ => by simp [go_sem, rk]);refine zA (.pointer (some ⟨g, kp * 9, none⟩)) ?_ (hC := fun _ _ => by simp [go_sem, bp]);refine zA (.pointer (some ⟨g, kp * 9, none⟩)) ?_ (hC := fun _ _ => by simp [go_sem, Addr.add]);refine zL 3 (⟨g, kp * 9, none⟩) (.int .i64 y.a) (fun w' hb => zC _ _ _ ((hb.cell hbl).trans y0)) ?_;refine zA (.bool true) ?_ (hC := fun _ _ => by simp [go_sem, t2]);refine zA (.bool true) ?_;refine zA (.slice (some ⟨g, 0, none⟩) (i + 1) c4) ?_;refine zA (.int .i64 (k : Int)) ?_;refine zA (.pointer (some ⟨g, k * 9, none⟩)) ?_ (hC := fun _ _ => by simp [go_sem, bk]);refine zA (.pointer (some ⟨g, k * 9 + 1, none⟩)) ?_ (hC := fun _ _ => by simp [go_sem, Addr.add]);refine zL 3 (⟨g, k * 9 + 1, none⟩) (.int .i64 x.b) (fun w' hb => zC _ _ _ ((hb.cell hbl).trans x1)) ?_
       refine zA (.slice (some ⟨g, 0, none⟩) (i + 1) c4) ?_;refine zA (.int .i64 (k : Int)) ?_;refine zA (.int .i64 (kp : Int)) ?_ (hC := fun _ _ => by simp [go_sem, rk]);refine zA (.pointer (some ⟨g, kp * 9, none⟩)) ?_ (hC := fun _ _ => by simp [go_sem, bp]);refine zA (.pointer (some ⟨g, kp * 9 + 1, none⟩)) ?_ (hC := fun _ _ => by simp [go_sem, Addr.add]);refine zL 3 (⟨g, kp * 9 + 1, none⟩) (.int .i64 y.b) (fun w' hb => zC _ _ _ ((hb.cell hbl).trans y1)) ?_;refine zA (.bool true) ?_ (hC := fun _ _ => by simp [go_sem, t3]);refine zA (.bool true) ?_;refine zA (.bool true) ?_;refine zA (.bool true) ?_;refine wpQuiet_nil ?_;intro w2 hb2;clear t1 t2 t3;exact m11
      have HT : Hid (zv x y = false) := hid (by rw [Bool.eq_false_iff]; intro e; have := zCe.1 e; omega);go_wp2_with fail
      refine yo ?_;refine zA (.int .i64 (k : Int)) ?_;refine zA (.bool true) ?_ (hC := fun _ _ => by simp [go_sem, kn]);refine zA (.bool true) ?_;refine zA (.slice (some ⟨g, 0, none⟩) (i + 1) c4) ?_;refine zA (.int .i64 (k : Int)) ?_;refine zA (.pointer (some ⟨g, k * 9, none⟩)) ?_ (hC := fun _ _ => by simp [go_sem, bk]);refine zA (.pointer (some ⟨g, k * 9, none⟩)) ?_ (hC := fun _ _ => by simp [go_sem, Addr.add]);refine zL 3 (⟨g, k * 9, none⟩) (.int .i64 x.a) (fun w' hb => zC _ _ _ ((hb.cell hbl).trans x0)) ?_;refine zA (.slice (some ⟨g, 0, none⟩) (i + 1) c4) ?_;refine zA (.int .i64 (k : Int)) ?_;refine zA (.int .i64 (kp : Int)) ?_ (hC := fun _ _ => by simp [go_sem, rk]);refine zA (.pointer (some ⟨g, kp * 9, none⟩)) ?_ (hC := fun _ _ => by simp [go_sem, bp]);refine zA (.pointer (some ⟨g, kp * 9, none⟩)) ?_ (hC := fun _ _ => by simp [go_sem, Addr.add]);refine zL 3 (⟨g, kp * 9, none⟩) (.int .i64 y.a) (fun w' hb => zC _ _ _ ((hb.cell hbl).trans y0)) ?_;refine zA (.bool false) ?_ (hC := fun _ _ => by simp [go_sem, t1]);refine zA (.bool false) ?_;refine zA (.slice (some ⟨g, 0, none⟩) (i + 1) c4) ?_;refine zA (.int .i64 (k : Int)) ?_
      refine zA (.pointer (some ⟨g, k * 9, none⟩)) ?_ (hC := fun _ _ => by simp [go_sem, bk]);refine zA (.pointer (some ⟨g, k * 9, none⟩)) ?_ (hC := fun _ _ => by simp [go_sem, Addr.add]);refine zL 3 (⟨g, k * 9, none⟩) (.int .i64 x.a) (fun w' hb => zC _ _ _ ((hb.cell hbl).trans x0)) ?_;refine zA (.slice (some ⟨g, 0, none⟩) (i + 1) c4) ?_;refine zA (.int .i64 (k : Int)) ?_;refine zA (.int .i64 (kp : Int)) ?_ (hC := fun _ _ => by simp [go_sem, rk]);refine zA (.pointer (some ⟨g, kp * 9, none⟩)) ?_ (hC := fun _ _ => by simp [go_sem, bp]);refine zA (.pointer (some ⟨g, kp * 9, none⟩)) ?_ (hC := fun _ _ => by simp [go_sem, Addr.add]);refine zL 3 (⟨g, kp * 9, none⟩) (.int .i64 y.a) (fun w' hb => zC _ _ _ ((hb.cell hbl).trans y0)) ?_;refine zA (.bool true) ?_ (hC := fun _ _ => by simp [go_sem, t2]);refine zA (.bool true) ?_;refine zA (.slice (some ⟨g, 0, none⟩) (i + 1) c4) ?_;refine zA (.int .i64 (k : Int)) ?_;refine zA (.pointer (some ⟨g, k * 9, none⟩)) ?_ (hC := fun _ _ => by simp [go_sem, bk]);refine zA (.pointer (some ⟨g, k * 9 + 1, none⟩)) ?_ (hC := fun _ _ => by simp [go_sem, Addr.add]);refine zL 3 (⟨g, k * 9 + 1, none⟩) (.int .i64 x.b) (fun w' hb => zC _ _ _ ((hb.cell hbl).trans x1)) ?_
      refine zA (.slice (some ⟨g, 0, none⟩) (i + 1) c4) ?_;refine zA (.int .i64 (k : Int)) ?_;refine zA (.int .i64 (kp : Int)) ?_ (hC := fun _ _ => by simp [go_sem, rk]);refine zA (.pointer (some ⟨g, kp * 9, none⟩)) ?_ (hC := fun _ _ => by simp [go_sem, bp]);refine zA (.pointer (some ⟨g, kp * 9 + 1, none⟩)) ?_ (hC := fun _ _ => by simp [go_sem, Addr.add]);refine zL 3 (⟨g, kp * 9 + 1, none⟩) (.int .i64 y.b) (fun w' hb => zC _ _ _ ((hb.cell hbl).trans y1)) ?_;refine zA (.bool false) ?_ (hC := fun _ _ => by simp [go_sem, t3]);refine zA (.bool false) ?_;refine zA (.bool false) ?_;refine zA (.bool false) ?_;refine wpQuiet_nil ?_;intro w2 hb2;clear t1 t2 t3 kn bk bp hbl x0 x1 y0 y1;exact m74
     have HT : Hid (zv x y = false) := hid (by rw [Bool.eq_false_iff]; intro e; have := zCe.1 e; omega);(go_wp2_with fail);refine yo ?_;refine zA (.int .i64 (k : Int)) ?_;refine zA (.bool true) ?_ (hC := fun _ _ => by simp [go_sem, kn]);refine zA (.bool true) ?_;refine zA (.slice (some ⟨g, 0, none⟩) (i + 1) c4) ?_;refine zA (.int .i64 (k : Int)) ?_;refine zA (.pointer (some ⟨g, k * 9, none⟩)) ?_ (hC := fun _ _ => by simp [go_sem, bk]);refine zA (.pointer (some ⟨g, k * 9, none⟩)) ?_ (hC := fun _ _ => by simp [go_sem, Addr.add]);refine zL 3 (⟨g, k * 9, none⟩) (.int .i64 x.a) (fun w' hb => zC _ _ _ ((hb.cell hbl).trans x0)) ?_;refine zA (.slice (some ⟨g, 0, none⟩) (i + 1) c4) ?_;refine zA (.int .i64 (k : Int)) ?_;refine zA (.int .i64 (kp : Int)) ?_ (hC := fun _ _ => by simp [go_sem, rk]);refine zA (.pointer (some ⟨g, kp * 9, none⟩)) ?_ (hC := fun _ _ => by simp [go_sem, bp]);refine zA (.pointer (some ⟨g, kp * 9, none⟩)) ?_ (hC := fun _ _ => by simp [go_sem, Addr.add]);refine zL 3 (⟨g, kp * 9, none⟩) (.int .i64 y.a) (fun w' hb => zC _ _ _ ((hb.cell hbl).trans y0)) ?_;refine zA (.bool false) ?_ (hC := fun _ _ => by simp [go_sem, t1])
     refine zA (.bool false) ?_;refine zA (.slice (some ⟨g, 0, none⟩) (i + 1) c4) ?_;refine zA (.int .i64 (k : Int)) ?_;refine zA (.pointer (some ⟨g, k * 9, none⟩)) ?_ (hC := fun _ _ => by simp [go_sem, bk]);refine zA (.pointer (some ⟨g, k * 9, none⟩)) ?_ (hC := fun _ _ => by simp [go_sem, Addr.add]);refine zL 3 (⟨g, k * 9, none⟩) (.int .i64 x.a) (fun w' hb => zC _ _ _ ((hb.cell hbl).trans x0)) ?_;refine zA (.slice (some ⟨g, 0, none⟩) (i + 1) c4) ?_;refine zA (.int .i64 (k : Int)) ?_;refine zA (.int .i64 (kp : Int)) ?_ (hC := fun _ _ => by simp [go_sem, rk]);refine zA (.pointer (some ⟨g, kp * 9, none⟩)) ?_ (hC := fun _ _ => by simp [go_sem, bp]);refine zA (.pointer (some ⟨g, kp * 9, none⟩)) ?_ (hC := fun _ _ => by simp [go_sem, Addr.add]);refine zL 3 (⟨g, kp * 9, none⟩) (.int .i64 y.a) (fun w' hb => zC _ _ _ ((hb.cell hbl).trans y0)) ?_;refine zA (.bool false) ?_ (hC := fun _ _ => by simp [go_sem, t2]);refine zA (.bool false) ?_;(iterate 12 with_reducible refine zAF ?_);refine zA (.bool false) ?_;refine zA (.bool false) ?_;refine zA (.bool false) ?_;refine wpQuiet_nil ?_;intro w2 hb2;clear t1 t2 kn bk bp hbl x0 x1 y0 y1;exact m74
  have HE : Hid (ps.take i = ps) := hid (List.take_of_length_le (by rw [← HM.out]; omega));(go_wp2_with fail);go_ret;rw [HE.out] at HO;exact ⟨_, rfl, HB.out, HO.out⟩
end Go.Proofs.YtcjhihmaegagdaaGreatDoor
