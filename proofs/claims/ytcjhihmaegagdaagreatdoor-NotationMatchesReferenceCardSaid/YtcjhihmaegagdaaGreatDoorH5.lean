/- Texts of the Notation chapter, together: Vk. -/
import Derived.Test.YtcjhihmaegagdaaGreatDoorG1
import Derived.Test.YtcjhihmaegagdaaGreatDoorH3
import Derived.Test.YtcjhihmaegagdaaGreatDoorH1
import Derived.Deep.Cut
set_option maxRecDepth 100000
set_option maxHeartbeats 8000000
set_option linter.unusedSimpArgs false
set_option linter.unusedVariables false
set_option linter.unusedSectionVars false
set_option linter.unnecessarySimpa false
namespace Go.Proofs.YtcjhihmaegagdaaGreatDoor
open Go.RowKit Go.Deep
def qJ (n i : Nat) : List Int := (List.range n).map fun t => if t < i then (t : Int) else 0
theorem zFj (n i : Nat) : (qJ n i).length = n := by simp [qJ]
theorem zG4 (n : Nat) : qJ n 0 = List.replicate n 0 := by
 refine List.ext_getElem? fun j => ?_
 by_cases h : j < n
 · simp [qJ, h]
 simp [qJ, List.getElem?_replicate, h]
theorem zIS (n i : Nat) (h : i < n) : (qJ n i).set i (i : Int) = qJ n (i + 1) := by
 refine List.ext_getElem? fun j => ?_
 rw [List.getElem?_set];by_cases hj : j < n
 ·
  by_cases e : i = j
  · subst e;simp [qJ, hj]
  rw [if_neg e];simp only [qJ, List.getElem?_map, List.getElem?_range hj, Option.map_some];exact zMS
 simp [qJ, hj];intro e;omega
theorem zGY (n : Nat) : qJ n n = (List.range n).map Int.ofNat := by
 unfold qJ;refine List.map_congr_left fun t ht => ?_
 rw [if_pos (List.mem_range.1 ht)];rfl
structure Ar1 (W : World) (b : Nat) (V : Int) (vn vp vq : Value) (w : World) : Prop where
 sc : Blk w b 26 #[.int .i64 V, vn, vp, vq]
 res : Blk w (b + 1) 26 #[.int .i64 0, .slice none 0 0, .slice none 0 0, .slice none 0 0]
 low : Below W.heap.size W w
theorem zI1 {W : World} {B n c : Nat} {A : Option Addr} {l : List Nte} (h : yY W B (.slice A n c) l) (hn : n = l.length) : n = 0 ∨ ∃ nb, A = some ⟨nb, 0, none⟩ ∧ nb < W.heap.size ∧ jW W nb l := by
 have h' := h;rcases h'.2 with ⟨e, h0⟩ | ⟨g, cap, cur, e, -, hg, -⟩
 · exact Or.inl (by omega)
 right
 have hl := World.ownsRow.lt h g (by rw [e]; rfl);injection e with e1 e2 e3;subst e1;refine ⟨g, rfl, hl.2, fun i hi => ?_⟩;obtain ⟨A', c', e', -, hr⟩ := h.form;injection e' with e4 e5 e6;subst e4;obtain ⟨ad, ha, -, x⟩ := hr.at hi;injection ha with ha;subst ha;rw [zN hi];have a0 : (⟨g, 0, none⟩ : Addr).add (i * 10) = ⟨g, i * 10, none⟩ := by unfold Addr.add; split <;> simp_all
 rw [a0] at x;intro j v hv
 have hj : j < 10 := by
  have := (List.getElem?_eq_some_iff.1 hv).1;rw [Nte.cs_len] at this;exact this
 rw [← hv];rcases (show j = 0 ∨ j = 1 ∨ j = 2 ∨ j = 3 ∨ j = 4 ∨ j = 5 ∨ j = 6 ∨ j = 7 ∨ j = 8 ∨ j = 9 by omega) with rfl | rfl | rfl | rfl | rfl | rfl | rfl | rfl | rfl | rfl
 · exact x.c0
 · exact x.c1
 · exact x.c2
 · exact x.c3
 · exact x.c4
 · exact x.c5
 · exact x.c6
 · exact x.c7
 · exact x.c8
 exact x.c9
def zG7 (l : List Nte) (x y : Int) : Bool := yK (l.getD x.toNat zF) (l.getD y.toNat zF)
theorem zKM (l : List Nte) : Swo (zG7 l) := ja.pull (fun x : Int => l.getD x.toNat zF)
theorem zHb (W w1 : World) (b0 ob n cn : Nat) (V : Int) (An : Option Addr) (vp vq : Value) (l : List Nte) (hln : n = l.length) (hf : n = 0 ∨ ∃ nb, An = some ⟨nb, 0, none⟩ ∧ nb < W.heap.size ∧ jW W nb l) (hb : Below W.heap.size W w1) (hsc : Blk w1 b0 26 #[.int .i64 V, .slice An n cn, vp, vq]) (h1 : b0 ≠ ob) (h2 : W.heap.size ≤ ob) :
 zFA w1 ob (fun x => 0 ≤ x ∧ x < n) (zG7 l) 65 #[.pointer (some ⟨b0, 0, none⟩)] := by
 intro w ho x y hx hy;rcases hf with h0 | ⟨nb, rfl, hnb, hN⟩
 · omega
 obtain ⟨i, rfl⟩ := Int.eq_ofNat_of_zero_le hx.1;obtain ⟨k, rfl⟩ := Int.eq_ofNat_of_zero_le hy.1;have hi : i < n := by have := hx.2; omega
 have hk : k < n := by have := hy.2; omega
 have hs := (ho.blk hsc h1).cell 1;have hne : nb ≠ ob := by omega
 have hsz := hb.size;have e : w.heap[nb]? = w1.heap[nb]? := ho.block nb hne (by omega);have N1 := hN.below hb hnb;refine (zKy w b0 nb i k n cn (l.getD i zF) (l.getD k zF) hs (vw e (N1 i (by omega))) (vw e (N1 k (by omega))) hi hk (by have := ho.size; omega)).mono ?_;rintro e2 w2 ⟨rfl, b2⟩;exact ⟨by simp [zG7], b2⟩
theorem zHa (l : List Nte) (f : Nat → Int) (h : seg f 0 l.length = yh (zG7 l) (seg (fun t => (t : Int)) 0 l.length)) (t : Nat) (ht : t < l.length) : f t = ((zl l).getD t 0 : Nat) := by
 have e1 : seg (fun t : Nat => (t : Int)) 0 l.length = (List.range l.length).map Int.ofNat := by
  unfold seg;rw [Nat.sub_zero, ← List.range_eq_range'];rfl
 have e2 : yh (zG7 l) ((List.range l.length).map Int.ofNat) = (zl l).map Int.ofNat := zI8 Int.ofNat (fun a b => by simp [zG7]) _;rw [e1, e2] at h;have h3 : (seg f 0 l.length)[t]? = ((zl l).map Int.ofNat)[t]? := by rw [h]
 have hs := zDU f 0 l.length t (by omega);rw [hs, List.getElem?_map] at h3;have ho : t < (zl l).length := by rw [yQ]; exact ht
 rw [List.getElem?_eq_getElem ho] at h3;simp only [Option.map_some, Option.some.injEq, Nat.zero_add] at h3;rw [h3];simp [List.getD, ho]
theorem yy : (Tryz.prog.info? 26).map (·.size) = some 4 := by kernel_rfl
theorem qO (l : List Nte) : (vd l).length = l.length := by unfold vd; rw [qu, List.length_map, yQ]
theorem zLH (l : List Nte) (p : Par) (a b : Nat) (ha : p.a = (a : Int)) (hb : p.b = (b : Int)) : jr (zj l) p = if zj l b < zj l a then ⟨zj l b, zj l a, p.wish.neg, p.bound⟩ else ⟨zj l a, zj l b, p.wish, p.bound⟩ := by
 unfold jr;rw [ha, hb, Int.toNat_natCast, Int.toNat_natCast]
theorem zF1 (W : World) (B : Nat) (V : Int) (vn vp vq : Value) (l : List Nte) (ps : List Par) (cs : List Int) (hn : yY W B vn l) (hp : zn W B vp ps) (hq : yO W B vq (itg cs)) (hl : l.length ≤ 8000) (hps : ps.length ≤ 8000) (hcs : cs.length ≤ 8000) (hB : B ≤ W.heap.size)
 (hix : ∀ p ∈ ps, 0 ≤ p.a ∧ p.a < l.length ∧ 0 ≤ p.b ∧ p.b < l.length ∧ p.wish.small 1000000000000) :
 Calls Tryz.prog 33 #[.agg #[.int .i64 V, vn, vp, vq]] W fun e w' => ∃ un up uq : Value, e = .returned (.agg #[.int .i64 V, un, up, uq]) ∧ ShN w' B un (vd l) ∧ ShP w' B up (yz l ps) ∧ ShC w' B uq (vg cs) ∧ Below B W w' := by
 have HNn := hid hn;have HPp := hid (jz.of_own hp);have HQq := hid (j3.of_own hq);have HPQ := hid (zMi hp hq);have HIX := hid hix;have HPS := hid (And.intro hps hcs);obtain ⟨An, cn, rfl, hcn, -⟩ := hn.form;obtain ⟨n, hln⟩ : ∃ n, n = l.length := ⟨_, rfl⟩
 rw [← hln] at hl hcn ⊢;have HLN := hid hln;have hmk := zEv n (by omega);have hmn := zDo n (by omega);clear hn hp hq hln hix hps hcs;obtain ⟨w0, hw0⟩ : ∃ w0, w0 = ((W.alloc (.cells #[.int .i64 V, .slice An n cn, vp, vq] 26)).alloc (.cells #[.int .i64 0, .slice none 0 0, .slice none 0 0, .slice none 0 0] 26)).alloc (.cells (vC (List.replicate n 0)).toArray 3) := ⟨_, rfl⟩
 go_enter Tryz.func33, Tryz.ntmps33
 go_upto_region 2 with (fail)
 rw [← hw0]
 have K0 : Hid (Ar1 W W.heap.size V (.slice An n cn) vp vq w0) := by
  rw [hw0];have b1 := Blk.new (W.alloc (.cells #[.int .i64 V, .slice An n cn, vp, vq] 26)) 26 #[.int .i64 0, .slice none 0 0, .slice none 0 0, .slice none 0 0];rw [show (W.alloc (.cells #[.int .i64 V, .slice An n cn, vp, vq] 26)).heap.size = W.heap.size + 1 by simp] at b1;exact hid ⟨((Blk.new W _ _).alloc _).alloc _, b1.alloc _, (((Below.refl _ _).alloc (Nat.le_refl _) _).alloc (by simp) _).alloc (by simp; omega) _⟩
 have O0 : Hid (kA w0 (W.heap.size + 1 + 1) (qJ n 0)) := by
  rw [hw0, zG4];have := Blk.new ((W.alloc (.cells #[.int .i64 V, .slice An n cn, vp, vq] 26)).alloc (.cells #[.int .i64 0, .slice none 0 0, .slice none 0 0, .slice none 0 0] 26)) 3 (vC (List.replicate n 0)).toArray;rw [show ((W.alloc (.cells #[.int .i64 V, .slice An n cn, vp, vq] 26)).alloc (.cells #[.int .i64 0, .slice none 0 0, .slice none 0 0, .slice none 0 0] 26)).heap.size = W.heap.size + 1 + 1 by simp] at this;exact hid this
 obtain ⟨b0, hb0⟩ : ∃ b0, b0 = W.heap.size := ⟨_, rfl⟩
 obtain ⟨ob, hob⟩ : ∃ ob, ob = W.heap.size + 1 + 1 := ⟨_, rfl⟩
 rw [← hob] at O0 ⊢;clear hw0;have HOB := hid hob;clear hob hb0;go_wp2
 go_loopw [20] (fun v wx => ∃ i : Nat, i ≤ n ∧ v = .int .i64 i ∧ Hid (zH ob w0 wx) ∧ Hid (kA wx ob (qJ n i))) (fun v _ => n - (zD v).toNat)
 case atStart => exact ⟨0, Nat.zero_le _, rfl, hid (zH.refl _ _), O0⟩
 case round =>
  clear O0;obtain ⟨i, hi, rfl, HO, HR⟩ := hrel;by_cases hlt : i < n
  ·
   have c0 := HR.out.cell i (by rw [zFj]; exact hlt);have f0 := HR.out.frozen i;have r1 : IntKind.i64.wrap ((i : Int) + 1) = ((i + 1 : Nat) : Int) := by rw [IntKind.wrap_i64]; omega
   have R1 := hid (HR.out.put i (i : Int));rw [zIS n i hlt] at R1;have O1 := hid (HO.out.setCell i (.int .i64 (i : Int)));go_wp2
   go_roundw
   case rel => exact ⟨i + 1, by omega, rfl, O1, R1⟩
   case measure => simp [zD]; omega
  (obtain rfl : n = i := by omega);rw [zGY] at HR;(have NF : Hid (n = 0 ∨ ∃ nb, An = some ⟨nb, 0, none⟩ ∧ nb < W.heap.size ∧ jW W nb l) := by have := zI1 HNn.out rfl; rw [← HLN.out] at this; exact this);have eg : ∀ args w, (callFunc 65 args).run Tryz.prog w = .ok (.enter 65 args) w := fun args w => by go_simp
  have I0 : ze wr ob (fun x => 0 ≤ x ∧ x < n) (fun t => (t : Int)) n wr := ⟨zH.refl _ _, fun t ht => by
   have := HR.out.cell t (by simpa using ht);rw [this];simp [List.getD, ht], fun t _ => HR.out.frozen t, fun t ht => ⟨by omega, by omega⟩, Blk.lt HR.out⟩
  have sc1 := HO.out.blk K0.out.sc (by have := HOB.out; omega);have re1 := HO.out.blk K0.out.res (by have := HOB.out; omega);have lo1 := K0.out.low.trans (HO.out.below (B := W.heap.size) (by have := HOB.out; omega) K0.out.low.size);have HS := hid (zDE wr wr ob n n 65 #[.pointer (some ⟨W.heap.size, 0, none⟩)] (fun x => 0 ≤ x ∧ x < n) (zG7 l) (fun t => (t : Int)) (zKM l) (zHb W wr W.heap.size ob n cn V An vp vq l HLN.out NF.out lo1 sc1 (by have := HOB.out; omega) (by have := HOB.out; omega)) eg I0 (by omega));have K1 : Hid (Ar1 W W.heap.size V (.slice An n cn) vp vq wr) := hid ⟨sc1, re1, lo1⟩;clear I0 sc1 re1 lo1 eg K0 HO HR hlt;(go_wp2_with fail);refine HS.out.mono ?_;rintro e w1 ⟨rfl, f1, i1, p1⟩
  have O1 : Hid (∀ t, t < n → w1.cell? ⟨ob, t, none⟩ = some (.int .i64 ((zl l).getD t 0 : Nat))) := hid (fun t ht => by
   rw [i1.cell t ht, zHa l f1 (by have := p1.seg; rw [HLN.out] at this; exact this) t (by rw [← HLN.out]; exact ht)])
  have K2 : Hid (Ar1 W W.heap.size V (.slice An n cn) vp vq w1) := hid ⟨i1.only.blk K1.out.sc (by have := HOB.out; omega), i1.only.blk K1.out.res (by have := HOB.out; omega), K1.out.low.trans (i1.only.below (B := W.heap.size) (by have := HOB.out; omega) K1.out.low.size)⟩;have L1 := hid i1.lt;clear HS K1 i1 p1;(go_wp2_with fail);go_cut [5, 6] (fun u v wx => ∃ pb nb : Nat, u = .slice (some ⟨pb, 0, none⟩) n n ∧ v = .slice (some ⟨nb, 0, none⟩) n n ∧ Hid (kA wx pb (List.replicate n 0)) ∧ Hid (yk wx nb (List.replicate n zF)) ∧ Hid (Below w1.heap.size w1 wx) ∧ Hid (w1.heap.size ≤ pb ∧ w1.heap.size ≤ nb ∧ pb ≠ nb))
  case first =>
   (refine jF (fun w' => Below w1.heap.size w1 w') (Below.refl _ _).drew fun hHeld => ?_);refine zJ 0 ?_;refine zJ 1 ?_;refine zJ 3 ?_;refine zJ 4 ?_;refine zDq [2, 5] ?_;refine zDW ?_ ?_
   ·
    intro K hK;go_simp;refine zq hK (hHeld.alloc (by first | exact Nat.le_refl _ | (simp; done) | (simp; omega)) _) fun hHeld => ?_
    clear hK K;refine zJ 6 ?_;refine yL 5 ?_;intro K hK;go_simp;refine zq hK (hHeld.alloc (by first | exact Nat.le_refl _ | (simp; done) | (simp; omega)) _) fun hHeld => ?_
    clear hK K;refine zJ 7 ?_;refine jc ?_;go_wp2_with fail
    go_meet
    case rel => exact ⟨w1.heap.size, w1.heap.size + 1, rfl, rfl, hid ((Blk.new w1.drew _ _).alloc _), hid (by have := zBh (w1.drew.alloc (.cells (vC (List.replicate n 0)).toArray 3)) n; rw [show (w1.drew.alloc (.cells (vC (List.replicate n 0)).toArray 3)).heap.size = w1.heap.size + 1 by simp] at this; exact this), hid hHeld, hid ⟨Nat.le_refl _, Nat.le_succ _, by omega⟩⟩
   refine zDu ?_;intro K hK;go_simp;(refine zq hK (hHeld.alloc (by first | exact Nat.le_refl _ | (simp; done) | (simp; omega)) _) fun hHeld => ?_);clear hK K;refine yL 2 ?_;intro K hK;go_simp;(refine zq hK (hHeld.alloc (by first | exact Nat.le_refl _ | (simp; done) | (simp; omega)) _) fun hHeld => ?_);clear hK K;refine zJ 6 ?_;refine zJ 7 ?_;refine jc ?_;(go_wp2_with fail);go_meet
   case rel => exact ⟨w1.heap.size + 1, w1.heap.size, rfl, rfl, hid (by have := Blk.new (w1.drew.alloc (.cells (madeCells zF.cells (n * 10)) 55)) 3 (vC (List.replicate n 0)).toArray; rw [show (w1.drew.alloc (.cells (madeCells zF.cells (n * 10)) 55)).heap.size = w1.heap.size + 1 by simp] at this; exact this), hid ((zBh w1.drew n).block (heap_alloc_old _ _ (by simp))), hid hHeld, hid ⟨Nat.le_succ _, Nat.le_refl _, by omega⟩⟩
  case rest =>
   obtain ⟨pb, nb, rfl, rfl, HPB, HNB, HW2, HPN⟩ := hcut;have O2 : Hid (∀ t, t < n → wc.cell? ⟨ob, t, none⟩ = some (.int .i64 ((zl l).getD t 0 : Nat))) := hid (fun t ht => (HW2.out.cell (p := ⟨ob, t, none⟩) L1.out).trans (O1.out t ht));have hw1 := K2.out.low.size;have K3 : Hid (Ar1 W W.heap.size V (.slice An n cn) vp vq wc) := hid ⟨K2.out.sc.below HW2.out (by have := HOB.out; have := L1.out; omega), K2.out.res.below HW2.out (by have := HOB.out; have := L1.out; omega), K2.out.low.trans (HW2.out.mono hw1)⟩;have HOBn : Hid (ob < w1.heap.size ∧ W.heap.size < ob ∧ W.heap.size + 1 < ob) := hid ⟨L1.out, by have := HOB.out; omega, by have := HOB.out; omega⟩;replace hw1 := hid hw1;(have P0 : Hid (kA wc pb (zAs l 0)) := by rw [zJi, ← HLN.out]; exact HPB);(have N0 : Hid (yk wc nb (zAp l 0)) := by rw [zIK, ← HLN.out]; exact HNB);obtain ⟨d, hu, hd⟩ := zBG;clear O1 K2 HPB HNB L1;(go_wp2);go_loopw [39] (fun v wx => ∃ k : Nat, k ≤ n ∧ v = .int .i64 k ∧ Hid (Two pb nb wc wx) ∧ Hid (kA wx pb (zAs l k)) ∧ Hid (yk wx nb (zAp l k))) (fun v _ => n - (zD v).toNat)
   case atStart => exact ⟨0, Nat.zero_le _, rfl, hid (Two.refl _ _ _), P0, N0⟩
   case round =>
    clear P0 N0;obtain ⟨k, hk, rfl, HT, HP, HN⟩ := hrel;by_cases hlt : k < n
    ·
     obtain ⟨i, hi⟩ : ∃ i, i = (zl l).getD k 0 := ⟨_, rfl⟩
     have q1 := HOBn.out;have q2 := HPN.out;have q3 := HLN.out;have hin : i < n := by rw [hi, q3]; exact zDC l (by omega)
     obtain ⟨nb0, rfl, hnb0, hN0⟩ : ∃ nb0, An = some ⟨nb0, 0, none⟩ ∧ nb0 < W.heap.size ∧ jW W nb0 l := by
      rcases NF.out with h | h
      · omega
      exact h
     have co : wr.cell? ⟨ob, k, none⟩ = some (.int .i64 (i : Int)) := by rw [World.cell?_of_block (a := ⟨ob, k, none⟩) (HT.out.block ob (by omega) (by omega) (by have := HW2.out.size; omega)), O2.out k hlt, hi]
     have cs1 : wr.cell? ⟨W.heap.size, 1, none⟩ = some (.slice (some ⟨nb0, 0, none⟩) n cn) := (HT.out.blk K3.out.sc (by omega) (by omega)).cell 1;obtain ⟨x, hx⟩ : ∃ x, x = l.getD i zF := ⟨_, rfl⟩
     have hr : wr.rangeAt nb0 (i * 10) x.cs := by rw [hx]; exact vw (HT.out.block nb0 (by omega) (by omega) (by have := K3.out.low.size; omega)) (yH K3.out.low hnb0 (hN0 i (by omega)))
     have cp := HP.out.cell i (by rw [vv]; omega);have fp := HP.out.frozen i;have P1 := hid (HP.out.put i (k : Int));rw [hi, zJY l k (by omega), ← hi] at P1;have N1 := HN.out.block (w' := wr.setCell ⟨pb, i, none⟩ (.int .i64 (k : Int))) (heap_setCell_other wr ⟨pb, i, none⟩ nb _ (by show nb ≠ pb; omega));have ht := N1.fr k (by rw [vE]; omega);have N2 := hid (N1.set k x (by rw [vE]; omega));rw [hx, hi, zJx l k (by omega), ← hi, ← hx] at N2;have T2 := hid ((HT.out.left ((zH.refl pb wr).setCell i (.int .i64 (k : Int)))).right (zH.setCells x.cs (k * 10) _ (zH.refl nb _)));have P2 := hid (P1.out.block (w' := (wr.setCell ⟨pb, i, none⟩ (.int .i64 (k : Int))).setCells nb (k * 10) x.cs) ((zH.setCells x.cs (k * 10) _ (zH.refl nb _)).block pb (by omega) P1.out.lt));have r1 : IntKind.i64.wrap ((k : Int) + 1) = ((k + 1 : Nat) : Int) := by rw [IntKind.wrap_i64]; omega
     have hsz : x.cs.toArray.all (·.oneCell') = true := all_oneCell_toArray x.cs_one;clear hx hi q1 q2 q3 N1 P1 HP HN hN0;go_wp2_with (first | (refine wpList_load_mid rfl 55 (.tmp 52) rfl nb0 (i * 10) rfl x.cs d hr hu hd zx ?_; try simp only [Act.put, sS]) | (refine wpList_store_mid rfl 55 (.tmp 55) (.tmp 53) rfl nb (k * 10) x.cs.toArray rfl rfl ht zx hsz ?_; try simp only [Act.put, sS]; change wpList _ _ _ _ _ ((wr.setCell ⟨pb, i, none⟩ (.int .i64 (k : Int))).setCells nb (k * 10) x.cs); clear ht hsz hr co cs1 cp fp; generalize (wr.setCell ⟨pb, i, none⟩ (.int .i64 (k : Int))).setCells nb (k * 10) x.cs = w9 at T2 P2 N2 ⊢))
     go_roundw
     case rel => exact ⟨k + 1, by omega, rfl, T2, P2, N2⟩
     case measure => simp [zD]; omega
    (obtain rfl : n = k := by omega);clear hlt hk;replace HLN := hid HLN.out;have T0 := HT;clear HT O2 HW2;(go_wp2);go_loopw [59] (fun v wx => ∃ k : Nat, k ≤ n ∧ v = .int .i64 k ∧ Hid (zH nb wr wx) ∧ Hid (yk wx nb (zAo (zAp l n) k))) (fun v _ => n - (zD v).toNat)
    case atStart => exact ⟨0, Nat.zero_le _, rfl, hid (zH.refl _ _), HN⟩
    case round =>
     clear HN;obtain ⟨k, hk, rfl, HO3, HN⟩ := hrel;by_cases hlt : k < n
     ·
      obtain ⟨tl, htl⟩ : ∃ tl, tl = zAo (zAp l n) k := ⟨_, rfl⟩
      have hlen : tl.length = n := by rw [htl, qu, vE]; exact HLN.out.symm
      rw [← htl] at HN;obtain ⟨m, hm⟩ : ∃ m, m = tl.getD k zF := ⟨_, rfl⟩
      have hr := HN.out.cell k (by omega);rw [← hm] at hr;have HM := hid hm;have HTL := hid htl;have HLE := hid hlen;clear hm htl hlen;go_wp2_with (first | (refine wpList_load_mid rfl 55 (.tmp 62) rfl nb (k * 10) rfl m.cs d hr hu hd zx ?_; try simp only [Act.put, sS]) | (refine zI rfl 55 (.tmp 10) (.tmp 63) rfl wr.heap.size m.cells rfl rfl 55 zF.cells (Blk.new wr _ _) zx rfl m.all_one ?_; intro w4 b4 g4 z4; replace b4 := hid b4; replace g4 := hid g4; replace z4 := hid z4; try simp only [Act.put, sS]))
      have B4 : Hid (Below wr.heap.size wr w4) := hid (((Below.refl _ _).alloc (Nat.le_refl _) _).grown g4.out (by simp) (fun b e => by injection e with e; omega));have N4 := hid (HN.out.block (B4.out.block nb HN.out.lt));have HX := zDF w4 nb wr.heap.size n m tl b4.out N4.out.cell N4.out.lt (by rw [HLE.out]; omega);rw [HLE.out] at HX;have TS : Hid (∀ r, qj tl k = r → zAo (zAp l n) (k + 1) = r) := hid (fun r h => by rw [zBi, ← HTL.out]; exact h);have hat : tl[k]? = some m := by rw [HM.out, zN (by rw [HLE.out]; exact hlt), List.getElem?_eq_getElem (by rw [HLE.out]; exact hlt)]
      replace hat := hid hat;have r1 : IntKind.i64.wrap ((k : Int) + 1) = ((k + 1 : Nat) : Int) := by rw [IntKind.wrap_i64]; omega
      rcases hb : kw tl m with _ | j
      ·
       rw [hb] at HX;simp only [zLE] at HX;replace hb := hid hb;refine HX.mono ?_;rintro e w5 ⟨rfl, b5⟩;have N5 := hid (N4.out.block (b5.block nb N4.out.lt));have O5 := hid (HO3.out.trans (zH.of_below (zB B4.out b5)));have t9 : w5.cell? ⟨wr.heap.size, 9, none⟩ = some (.bool m.tied) := (b4.out.below b5 b4.out.lt).cell 9;have e1 : qj tl k = tl := by unfold qj; rw [hat.out]; simp only []; split <;> simp [hb.out]
       replace e1 := hid e1;clear HX b5 hr N4 HN;rcases ht : m.tied with _ | _
       · rw [ht] at t9;exact zL7
       rw [ht] at t9;exact zL7
      have hjn := zJn hb;rw [HLE.out] at hjn;rw [hb] at HX;simp only [zLE] at HX;replace hb := hid hb;refine HX.mono ?_;rintro e w5 ⟨rfl, b5⟩;have N5 := hid (N4.out.block (b5.block nb N4.out.lt));have O5 := hid (HO3.out.trans (zH.of_below (zB B4.out b5)));have t9 : w5.cell? ⟨wr.heap.size, 9, none⟩ = some (.bool m.tied) := (b4.out.below b5 b4.out.lt).cell 9;clear HX b5 hr N4 HN;rcases ht : m.tied with _ | _
      ·
       rw [ht] at t9;have e1 : qj tl k = tl := by unfold qj; rw [hat.out]; simp [ht]
       replace e1 := hid e1;exact zL7
      rw [ht] at t9;have e1 : qj tl k = tl.set k { (tl.getD k zF) with place := (tl.getD j zF).place } := by unfold qj; rw [hat.out]; have q := hb.out; simp only [ht, if_true, q]; rw [← HM.out, ht]
      obtain ⟨u, hu9⟩ : ∃ u, u = (tl.getD j zF).place := ⟨_, rfl⟩
      have pr := N5.out.placed j (by rw [HLE.out]; exact hjn);have th := N5.out.there3 k (by rw [HLE.out]; exact hlt);have N6 := hid (N5.out.place k u (by rw [HLE.out]; exact hlt));have O6 := hid (O5.out.trans (zH.setCells u.cells.toList (k * 10 + 3) _ (zH.refl nb _)));rw [← hu9] at e1 pr;replace e1 := hid e1;have one : u.cells.toList.toArray.all (·.oneCell') = true := by simp [Value.oneCell']
      have hj0 : (0 : Int) ≤ (j : Int) := by omega
      clear hu9;go_wp2_with (first | (refine wpList_load_mid rfl 53 (.tmp 78) rfl nb (j * 10 + 3) rfl u.cells.toList _ pr Tryz.underlying53 rfl zR ?_; try simp only [Act.put, sS]) | (refine wpList_store_mid rfl 53 (.tmp 81) (.tmp 79) rfl nb (k * 10 + 3) u.cells.toList.toArray rfl rfl th zR one ?_; try simp only [Act.put, sS]; change wpList _ _ _ _ _ (w5.setCells nb (k * 10 + 3) u.cells.toList); clear th pr t9 one; generalize w5.setCells nb (k * 10 + 3) u.cells.toList = w9 at N6 O6 ⊢))
      go_roundw
      case rel => exact ⟨k + 1, by omega, rfl, O6, by rw [TS.out _ e1.out]; exact N6⟩
      case measure => simp [zD]; omega
     (obtain rfl : n = k := by omega);clear hlt hk;have q1 := HOBn.out;have q2 := HPN.out;have TQ := T0.out.right HO3.out;have hs1 := hw1.out;have hs2 := K3.out.low.size;have low2 : Below W.heap.size W wr := K3.out.low.trans (TQ.below (B := W.heap.size) (by omega) (by omega) hs2)
     have hnt : yk wr nb (vd l) := by
      have h := HN.out;rw [HLN.out, zIp] at h;exact h
     have hpl : kA wr pb (zAs l l.length) := by
      have h := HP.out.block (HO3.out.block pb (by omega) (Blk.lt HP.out));rw [HLN.out] at h;exact h
     have A3 : Hid (Ap3 B W.heap.size nb pb vp vq) := hid ⟨by omega, by omega, by omega, hB, HPp.out.ownLt, HQq.out.ownLt, HPQ.out⟩;have K4 : Hid (Ar3 B W.heap.size nb pb V (.slice An n cn) vp vq l ps cs wr) := hid ⟨TQ.blk K3.out.sc (by omega) (by omega), TQ.blk K3.out.res (by omega) (by omega), hnt, hpl, HPp.out.up low2, HQq.out.up low2⟩;have L4 := hid (low2.mono hB);obtain ⟨Ap, cp, rfl, hcp, -⟩ := HPp.out;obtain ⟨Aq, cq, rfl, hcq, -⟩ := HQq.out;(obtain ⟨m, hm⟩ : ∃ m, m = ps.length := ⟨_, rfl⟩);(obtain ⟨mq, hmq⟩ : ∃ mq, mq = cs.length := ⟨_, rfl⟩);rw [← hm, ← hmq] at K4 A3;have HM := hid hm;have HMQ := hid hmq;have HNB : Hid (W.heap.size + 1 < nb ∧ W.heap.size + 1 < pb ∧ nb ≠ pb) := hid ⟨by omega, by omega, by omega⟩;clear hm hmq hcp hcq hnt hpl low2 TQ q1 q2 hs1 hs2 HN HP T0 HO3 K3 HPp HQq HPQ NF HPN HOBn hw1 HNn;have s1 := K4.out.sc.cell 1;have f1 := K4.out.sc.frozen 1;have K5 := hid (K4.out.store1 A3.out (.slice (some ⟨nb, 0, none⟩) n n));have L5 := hid (L4.out.setCell (p := ⟨W.heap.size, 1, none⟩) hB (.slice (some ⟨nb, 0, none⟩) n n));have s2 := K5.out.sc.cell 2;clear K4 L4;(go_wp2);go_loopw [88] (fun v wx => ∃ i : Nat, i ≤ m ∧ v = .int .i64 i ∧ Hid (Ar3 B W.heap.size nb pb V (.slice (some ⟨nb, 0, none⟩) n n) (.slice Ap m cp) (.slice Aq mq cq) l (jP l ps i) cs wx) ∧ Hid (Below B W wx)) (fun v _ => m - (zD v).toNat)
     case atStart => exact ⟨0, Nat.zero_le _, rfl, by rw [zHI]; exact K5, L5⟩
     case round =>
      clear K5 L5 s1 f1 s2;obtain ⟨i, hi, rfl, K6, L6⟩ := hrel;by_cases hlt : i < m
      ·
       have hi9 : i < (jP l ps i).length := by rw [jQ, ← HM.out]; exact hlt
       obtain ⟨q, rfl⟩ := K6.out.addr (by omega);obtain ⟨p, hp⟩ : ∃ p, p = ps.getD i zt := ⟨_, rfl⟩
       have hr : wr.rangeAt q (i * 9) p.cs := by
        have := K6.out.row.cell i hi9;rw [zKo l ps i (by rw [← HM.out]; exact hlt), ← hp] at this;exact this
       have hpm : p ∈ ps := by rw [hp, zN (by rw [← HM.out]; exact hlt)]; exact List.getElem_mem _
       obtain ⟨x1, x2, x3, x4, x5⟩ := HIX.out p hpm;obtain ⟨a, ha⟩ := Int.eq_ofNat_of_zero_le x1;obtain ⟨b, hb⟩ := Int.eq_ofNat_of_zero_le x3;have hal : a < l.length := by omega
       have hbl : b < l.length := by omega
       have han : a < n := by rw [HLN.out]; exact hal
       have hbn : b < n := by rw [HLN.out]; exact hbl
       have HTR := hid (zLH l p a b ha hb);obtain ⟨A0, hA0⟩ : ∃ A0, A0 = zj l a := ⟨_, rfl⟩
       obtain ⟨B0, hB0⟩ : ∃ B0, B0 = zj l b := ⟨_, rfl⟩
       rw [← hA0, ← hB0] at HTR;have pA := K6.out.pl.cell a (by rw [vv]; exact hal);rw [zEk l hal, ← hA0] at pA;have pB := K6.out.pl.cell b (by rw [vv]; exact hbl);rw [zEk l hbl, ← hB0] at pB;replace pA := hid pA;replace pB := hid pB;have HSM := hid x5;have HAB := hid (And.intro ha hb);have HPD := hid hp;have HI9 := hid hi9;have PBL := hid (Blk.lt K6.out.pl);obtain ⟨dp, hup, hdp⟩ := zCL;clear hp hpm x1 x2 x3 x4 x5 ha hb hA0 hB0 hal hbl hi9;go_wp2_with (first | (refine wpList_load_mid rfl 57 (.tmp 91) rfl q (i * 9) rfl p.cs dp hr hup hdp vN ?_; try simp only [Act.put, sS]) | (refine zI rfl 57 (.tmp 13) (.tmp 92) rfl wr.heap.size p.cells rfl rfl 57 zt.cells (Blk.new wr _ _) vN rfl p.all_one ?_; intro w4 b4 g4 z4; replace b4 := hid b4; replace g4 := hid g4; replace z4 := hid z4; try simp only [Act.put, sS]))
       have B4 : Hid (Below wr.heap.size wr w4) := hid (((Below.refl _ _).alloc (Nat.le_refl _) _).grown g4.out (by simp) (fun b e => by injection e with e; omega));have V4 := hid (kS.of_blk b4.out);clear hr b4 g4 z4;have PA4 : Hid (w4.cell? ⟨pb, a, none⟩ = some (.int .i64 (A0 : Int))) := hid ((World.cell?_of_block (a := ⟨pb, a, none⟩) (B4.out.block pb PBL.out)).trans pA.out);have PB4 : Hid (w4.cell? ⟨pb, b, none⟩ = some (.int .i64 (B0 : Int))) := hid ((World.cell?_of_block (a := ⟨pb, b, none⟩) (B4.out.block pb PBL.out)).trans pB.out);clear pA pB;go_cut [] (fun wx => Hid (kS wx wr.heap.size ⟨A0, B0, p.wish, p.bound⟩) ∧ Hid (zH wr.heap.size w4 wx))
       case first =>
        refine jF (fun w' => zH wr.heap.size w4 w') (zH.refl _ _).drew fun hHeld => ?_
        refine zJ 0 ?_;refine zJ 1 ?_;refine zJ 5 ?_;refine zJ 6 ?_;refine zDq [2, 7] ?_;refine zDW ?_ ?_
        ·
         intro K hK;have c0 : w4.drew.cell? ⟨wr.heap.size, 0, none⟩ = some (.int .i64 (a : Int)) := by rw [← HAB.out.1]; exact V4.out.ca
         go_simp;refine zq hK hHeld fun hHeld => ?_
         clear hK K;refine zJ 3 ?_;refine zJ 4 ?_ (hy := Or.inl ⟨by rfl, fun w hSw => by (try dsimp only at hSw); (have g0 : w.cell? ⟨pb, a, none⟩ = _ := (World.cell?_of_block (a := ⟨pb, a, none⟩) (hSw.block pb (by have := PBL.out; omega) (Nat.lt_of_lt_of_le PBL.out B4.out.size))).trans PA4.out); go_simp; try with_reducible rfl⟩);refine yL 7 ?_;intro K hK;have c1 : w4.drew.cell? ⟨wr.heap.size, 1, none⟩ = some (.int .i64 (b : Int)) := by rw [← HAB.out.2]; exact V4.out.cb
         go_simp;refine zq hK hHeld fun hHeld => ?_
         clear hK K;refine zJ 8 ?_;refine zJ 9 ?_ (hy := Or.inl ⟨by rfl, fun w hSw => by (try dsimp only at hSw); (have g0 : w.cell? ⟨pb, b, none⟩ = _ := (World.cell?_of_block (a := ⟨pb, b, none⟩) (hSw.block pb (by have := PBL.out; omega) (Nat.lt_of_lt_of_le PBL.out B4.out.size))).trans PB4.out); go_simp; try with_reducible rfl⟩);exact m51
        refine zDu ?_;intro K hK;have c1 : w4.drew.cell? ⟨wr.heap.size, 1, none⟩ = some (.int .i64 (b : Int)) := by rw [← HAB.out.2]; exact V4.out.cb
        go_simp;refine zq hK hHeld fun hHeld => ?_
        clear hK K;refine zJ 8 ?_;refine zJ 9 ?_ (hy := Or.inl ⟨by rfl, fun w hSw => by (try dsimp only at hSw); (have g0 : w.cell? ⟨pb, b, none⟩ = _ := (World.cell?_of_block (a := ⟨pb, b, none⟩) (hSw.block pb (by have := PBL.out; omega) (Nat.lt_of_lt_of_le PBL.out B4.out.size))).trans PB4.out); go_simp; try with_reducible rfl⟩);refine yL 2 ?_;intro K hK;have c0 : w4.drew.cell? ⟨wr.heap.size, 0, none⟩ = some (.int .i64 (a : Int)) := by rw [← HAB.out.1]; exact V4.out.ca
        go_simp;refine zq hK hHeld fun hHeld => ?_
        clear hK K;refine zJ 3 ?_;refine zJ 4 ?_ (hy := Or.inl ⟨by rfl, fun w hSw => by (try dsimp only at hSw); (have g0 : w.cell? ⟨pb, a, none⟩ = _ := (World.cell?_of_block (a := ⟨pb, a, none⟩) (hSw.block pb (by have := PBL.out; omega) (Nat.lt_of_lt_of_le PBL.out B4.out.size))).trans PA4.out); go_simp; try with_reducible rfl⟩);exact m51
       case rest =>
        obtain ⟨V6, O6⟩ := hcut;have N6 : Hid (Below wr.heap.size wr wc) := hid (B4.out.trans (O6.out.below (Nat.le_refl _) B4.out.size));clear V4 PA4 PB4 O6 B4;have c0 := V6.out.ca;have c1 := V6.out.cb;go_upto_if 109 with (fail)
        clear c0 c1;go_cut [] from 105 to 119 (fun wx => Hid (kS wx wr.heap.size (jr (zj l) p)) ∧ Hid (Below wr.heap.size wr wx))
        case first =>
         by_cases hBA : B0 < A0
         ·
          have HTQ : Hid (jr (zj l) p = ⟨B0, A0, p.wish.neg, p.bound⟩) := hid (by rw [HTR.out, if_pos hBA]);go_wp2_with fail
          refine kQ ?_;refine zG 0 ?_;refine zG 2 ?_;refine zG 4 ?_;refine yg [1, 3, 5] ?_;refine zBn ?_ ?_
          ·
           intro K hK;have c1 : wc.drew.cell? ⟨wr.heap.size, 1, none⟩ = _ := V6.out.cb;go_simp;refine yi hK ?_;clear hK K;refine yg [3, 5] ?_;refine zBn ?_ ?_
           · intro K hK;have c0 : wc.drew.cell? ⟨wr.heap.size, 0, none⟩ = _ := V6.out.ca;exact zM3
           refine zAv ?_;intro K hK;refine zAA (by rfl) 53 (.tmp 114) rfl wr.heap.size 2 rfl p.wish.cells.toList _ (yR V6.out.cw) Tryz.underlying53 rfl zR ?_;exact zME
          refine zBn ?_ ?_
          ·
           intro K hK;have c0 : wc.drew.cell? ⟨wr.heap.size, 0, none⟩ = _ := V6.out.ca;go_simp;refine yi hK ?_;clear hK K;refine yg [1, 5] ?_;refine zBn ?_ ?_
           · intro K hK;have c1 : wc.drew.cell? ⟨wr.heap.size, 1, none⟩ = _ := V6.out.cb;exact zM3
           refine zAv ?_;intro K hK;refine zAA (by rfl) 53 (.tmp 114) rfl wr.heap.size 2 rfl p.wish.cells.toList _ (yR V6.out.cw) Tryz.underlying53 rfl zR ?_;exact zN6
          refine zAv ?_;intro K hK;refine zAA (by rfl) 53 (.tmp 114) rfl wr.heap.size 2 rfl p.wish.cells.toList _ (yR V6.out.cw) Tryz.underlying53 rfl zR ?_;refine yi hK ?_;clear hK K;refine yg [1, 3, 6] ?_;refine zBn ?_ ?_
          · intro K hK;have c1 : wc.drew.cell? ⟨wr.heap.size, 1, none⟩ = _ := V6.out.cb;go_simp;exact zME
          refine zBn ?_ ?_
          · intro K hK;have c0 : wc.drew.cell? ⟨wr.heap.size, 0, none⟩ = _ := V6.out.ca;go_simp;exact zN6
          refine zAv ?_;intro K hK;go_simp;refine (qH wc.drew p.wish HSM.out).mono ?_;rintro e w7 ⟨rfl, b7⟩;have hb7 : Below wc.heap.size wc w7 := (Below.refl wc.heap.size wc).drew.trans b7
          have hgl : wr.heap.size < wc.heap.size := by
           exact m35
          have V7 := hid (V6.out.block (hb7.block wr.heap.size hgl));have N7 := hid (N6.out.trans (hb7.mono (Nat.le_of_lt hgl)));clear b7 hb7 hgl;try simp only []
          refine yi hK ?_;clear hK K;refine yg [1, 3] ?_;refine zBn ?_ ?_
          · intro K hK;have c1 := V7.out.cb;go_simp;exact zOg
          refine zAv ?_;intro K hK;have c0 := V7.out.ca;go_simp;exact zNE
         have HTQ : Hid (jr (zj l) p = ⟨A0, B0, p.wish, p.bound⟩) := hid (by rw [HTR.out, if_neg hBA]);(go_wp2_with fail);go_meet
         case rel => exact ⟨by rw [HTQ.out]; exact V6, N6⟩
        case rest =>
         obtain ⟨V7, N7⟩ := hcut;have K7 := hid (K6.out.below N7.out);have L7 : Hid (Below B W wc) := hid (L6.out.trans (N7.out.mono (Nat.le_trans A3.out.hB (Nat.le_trans (Nat.le_of_lt K6.out.sc.lt) (Nat.le_refl _)))));(obtain ⟨x, hx⟩ : ∃ x, x = jr (zj l) p := ⟨_, rfl⟩);rw [← hx] at V7;have s2 := K7.out.sc.cell 2;have hw := V7.out.whole;have ht := K7.out.row.fr i HI9.out;have K8 := hid (K7.out.put A3.out i x HI9.out);rw [hx, HPD.out, zJd l ps i (by rw [← HM.out]; exact hlt), ← HPD.out, ← hx] at K8;have L8 : Hid (Below B W (wc.setCells q (i * 9) x.cs)) := hid (L7.out.trans ((zH.setCells x.cs (i * 9) wc (zH.refl q wc)).below (A3.out.hp q rfl).1 (Nat.le_trans A3.out.hB (Nat.le_of_lt K7.out.sc.lt))));have hsz : x.cs.toArray.all (·.oneCell') = true := all_oneCell_toArray x.cs_one;(have r1 : IntKind.i64.wrap ((i : Int) + 1) = ((i + 1 : Nat) : Int) := by rw [IntKind.wrap_i64]; have := HM.out; have := HPS.out.1; omega);clear hx K7 L7 N7;go_wp2_with (first | (refine wpList_load_mid rfl 57 (.tmp 13) rfl wr.heap.size 0 rfl x.cs dp hw hup hdp vN ?_; try simp only [Act.put, sS]) | (refine wpList_store_mid rfl 57 (.tmp 124) (.tmp 123) rfl q (i * 9) x.cs.toArray rfl rfl ht vN hsz ?_; try simp only [Act.put, sS]; change wpList _ _ _ _ _ (wc.setCells q (i * 9) x.cs); clear ht hsz hw s2 V7; generalize wc.setCells q (i * 9) x.cs = w9 at K8 L8 ⊢))
         go_roundw
         case rel => exact ⟨i + 1, by omega, rfl, K8, L8⟩
         case measure => simp [zD]; omega
      (obtain rfl : m = i := by omega);clear hlt hi
      have K7 : Hid (Ar3 B W.heap.size nb pb V (.slice (some ⟨nb, 0, none⟩) n n) (.slice Ap m cp) (.slice Aq mq cq) l (ps.map (jr (zj l))) cs wr) := by
       have h := K6.out;have e := zHw l ps;rw [← HM.out] at e;rw [e] at h;exact hid h
      (have hml : m ≤ 8000 ∧ mq ≤ 8000 := by rw [HM.out, HMQ.out]; exact HPS.out);have s2 := K7.out.sc.cell 2;have HS := hid (zHL wr B (.slice Ap m cp) (ps.map (jr (zj l))) K7.out.pr (by rw [List.length_map, ← HM.out]; omega));clear K6;(go_wp2_with fail);refine HS.out.mono ?_;rintro e w6 ⟨rfl, p6, g6⟩;have K8 : Hid (Ar3 B W.heap.size nb pb V (.slice (some ⟨nb, 0, none⟩) n n) (.slice Ap m cp) (.slice Aq mq cq) l (yz l ps) cs w6) := hid (K7.out.sortp A3.out p6 g6);have L8 := hid (L6.out.grown g6 (Nat.le_trans A3.out.hB (Nat.le_of_lt K7.out.sc.lt)) (fun y e => (A3.out.hp y e).1));have s3 := K8.out.sc.cell 3;have HS2 := hid (zIO w6 B (.slice Aq mq cq) cs K8.out.cr (by rw [← HMQ.out]; omega));clear HS s2 K7 L6 p6 g6;(go_wp2_with fail);refine HS2.out.mono ?_;rintro e w7 ⟨rfl, p7, g7⟩;have K9 := hid (K8.out.sortc A3.out p7 g7);have L9 := hid (L8.out.grown g7 (Nat.le_trans A3.out.hB (Nat.le_of_lt K8.out.sc.lt)) (fun y e => (A3.out.hq y e).1));clear HS2 s3 K8 L8 p7 g7;go_wp2_with (first | (refine zp 26 K9.out.sc Tryz.underlying26 yy ?_ (cs := #[.int .i64 V, .slice (some ⟨nb, 0, none⟩) n n, .slice Ap m cp, .slice Aq mq cq])) | (refine xJ 26 #[.int .i64 V, .slice (some ⟨nb, 0, none⟩) n n, .slice Ap m cp, .slice Aq mq cq] K9.out.res yy (by simp [Value.oneCell']) ?_; intro w9 b9 g9 z9; try simp only [Act.put, sS]))
      (try simp only [Exit.inBlock, Exit.then]);refine bodyPost_ret (yN rfl _ ⟨W.heap.size + 1, 0, none⟩ rfl _ Tryz.underlying26 rfl _ #[.int .i64 V, .slice (some ⟨nb, 0, none⟩) n n, .slice Ap m cp, .slice Aq mq cq] yy (zO b9)) rfl ?_;have q1 := HNB.out;(have hne : ∀ v, zFU B W.heap.size v → v.ownBlock = none ∨ v.ownBlock ≠ some (W.heap.size + 1) := fun v h => Or.inr fun e => by have := h _ e; omega);have nt9 := K9.out.nt.block (g9.block nb K9.out.nt.lt (fun e => by injection e with e; omega));have pr9 := K9.out.pr.kept g9 (hne _ A3.out.hp);have cr9 := K9.out.cr.kept g9 (hne _ A3.out.hq);exact ⟨_, _, _, rfl, nt9.sh (by rw [qO]; exact HLN.out) (Nat.le_refl _) (by have := A3.out.hB; omega), pr9.sh, cr9.sh, L9.out.grown g9 (Nat.le_trans A3.out.hB (Nat.le_of_lt K9.out.sc.lt)) (fun y e => by injection e with e; have := A3.out.hB; omega)⟩
end Go.Proofs.YtcjhihmaegagdaaGreatDoor
