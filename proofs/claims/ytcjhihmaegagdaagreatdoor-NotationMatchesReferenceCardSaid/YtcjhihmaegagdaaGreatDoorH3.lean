/- Texts of the Notation chapter, together: Va, Vb, Vc, Vd, Ve, Vf, Vh, Vi, Vj, Vl, Vm, Vn. -/
import Derived.Test.YtcjhihmaegagdaaGreatDoorG1
import Derived.Test.YtcjhihmaegagdaaGreatDoorG3
import Derived.Test.YtcjhihmaegagdaaGreatDoorH1
import Derived.Deep.RegionHeld
import Derived.Deep.DeepCutAuto
import Derived.Test.YtcjhihmaegagdaaGreatDoorSi
import Derived.Test.YtcjhihmaegagdaaGreatDoorG2
import Derived.Deep.OwnRows
set_option maxRecDepth 100000
set_option maxHeartbeats 8000000
set_option linter.unusedSimpArgs false
set_option linter.unusedVariables false
set_option linter.unusedSectionVars false
set_option linter.unnecessarySimpa false
namespace Go.Proofs.YtcjhihmaegagdaaGreatDoor
open Go.RowKit Go.Deep
def xo (x y : Int) : Int := if x < y then -1 else if y < x then 1 else 0
def or3 (x y : Int) : Int := if x = 0 then y else x
theorem zJf (x : Int) (w : World) : Calls Tryz.prog 111 #[.int .i64 x] w fun e w' => e = .returned (.bool false) ∧ w' = w := by
 go_enter Tryz.func111, Tryz.ntmps111
 go_wp2
 go_ret;exact ⟨by simp, rfl⟩
theorem vD (x y : Int) (w : World) : Calls Tryz.prog 67 #[.int .i64 x, .int .i64 y] w fun e w' => e = .returned (.int .i64 (xo x y)) ∧ w' = w := by
 obtain ⟨c, hc⟩ : ∃ c, c = xo x y := ⟨_, rfl⟩
 have HC := hid hc;have hn := zJf;rw [← hc];clear hc;by_cases h1 : x < y
 ·
  go_enter Tryz.func67, Tryz.ntmps67
  go_wp2_with (go_at_call 111; refine (hn _ _).mono ?_; rintro e w1 ⟨rfl, rfl⟩)
  all_goals go_ret
  all_goals exact ⟨by rw [HC.out]; simp [xo, h1], rfl⟩
 by_cases h2 : y < x
 ·
  go_enter Tryz.func67, Tryz.ntmps67
  go_wp2_with (go_at_call 111; refine (hn _ _).mono ?_; rintro e w1 ⟨rfl, rfl⟩)
  all_goals go_ret
  all_goals exact ⟨by rw [HC.out]; simp [xo, h1, h2], rfl⟩
 go_enter Tryz.func67, Tryz.ntmps67
 go_wp2_with (go_at_call 111; refine (hn _ _).mono ?_; rintro e w1 ⟨rfl, rfl⟩)
 all_goals go_ret
 all_goals have hv : xo x y = 0 := by unfold xo; rw [if_neg (by omega), if_neg (by omega)]
 all_goals exact ⟨by rw [HC.out, hv]; rfl, rfl⟩
theorem zJJ (x y : Int) (b : Nat) (w : World) (h0 : w.cell? ⟨b, 0, none⟩ = some (.int .i64 x)) (h1 : w.cell? ⟨b, 1, none⟩ = some (.int .i64 y)) :
 Calls Tryz.prog 66 #[.slice (some ⟨b, 0, none⟩) 2 2] w fun e w' => e = .returned (.int .i64 (or3 x y)) ∧ w' = w := by
 obtain ⟨c, hc⟩ : ∃ c, c = or3 x y := ⟨_, rfl⟩
 have HC := hid hc;rw [← hc];clear hc;go_enter Tryz.func66, Tryz.ntmps66
 go_wp2
 go_loopw [8] (fun i wx => ∃ k : Nat, k ≤ 2 ∧ i = .int .i64 k ∧ wx = w ∧ Hid ((1 ≤ k → x = 0) ∧ (2 ≤ k → y = 0))) (fun i _ => 2 - (zD i).toNat)
 case atStart => exact ⟨0, by omega, rfl, rfl, hid ⟨fun h => absurd h (by omega), fun h => absurd h (by omega)⟩⟩
 case round =>
  obtain ⟨k, hk, rfl, rfl, HK⟩ := hrel;by_cases k0 : k = 0
  ·
   subst k0;by_cases hx : x = 0
   ·
    have hxb : (x != 0) = false := by simp [hx]
    have HX := hid hx;clear hx;go_wp2
    go_roundw
    case rel => exact ⟨1, by omega, (by first | rfl | trivial | go_num), (by first | rfl | trivial | go_num), hid ⟨fun _ => HX.out, fun h => absurd h (by omega)⟩⟩
    case measure => simp [zD]
   have hxb : (x != 0) = true := by simp [hx]
   have HX := hid hx;clear hx;go_wp2
   go_ret;exact ⟨by simp [HC.out, or3, HX.out], rfl⟩
  by_cases k1 : k = 1
  ·
   subst k1;have HX := hid (HK.out.1 (Nat.le_refl _));by_cases hy : y = 0
   ·
    have hyb : (y != 0) = false := by simp [hy]
    have HY := hid hy;clear hy;go_wp2
    go_roundw
    case rel => exact ⟨2, by omega, (by first | rfl | trivial | go_num), (by first | rfl | trivial | go_num), hid ⟨fun _ => HX.out, fun _ => HY.out⟩⟩
    case measure => simp [zD]
   have hyb : (y != 0) = true := by simp [hy]
   have HY := hid hy;clear hy;go_wp2
   go_ret;exact ⟨by simp [HC.out, or3, HX.out], rfl⟩
  (obtain rfl : k = 2 := by omega);have HX := hid (HK.out.1 (by omega));have HY := hid (HK.out.2 (by omega));(go_wp2);go_ret;exact ⟨by simp [HC.out, or3, HX.out, HY.out], rfl⟩
theorem zFg (a b c d : Int) : or3 (xo a b) (xo c d) = if decide (a < b) || (decide (a = b) && decide (c < d)) then -1 else if decide (b < a) || (decide (b = a) && decide (d < c)) then 1 else 0 := by
 unfold or3 xo;by_cases h1 : a < b
 · simp [h1]
 by_cases h2 : b < a
 · have h3 : ¬ a = b := by omega
   simp [h1, h2, h3]
 have h3 : a = b := by omega
 subst h3;simp
open Go.RowKit Go.Deep
theorem zLj (W : World) (x y : Par) : Calls Tryz.prog 72 #[.agg x.cs.toArray, .agg y.cs.toArray] W fun e w' => e = .returned (.int .i64 (if zv x y = true then -1 else if zv y x = true then 1 else 0)) ∧ Below W.heap.size W w' := by
 have hpv : or3 (xo x.a y.a) (xo x.b y.b) = if zv x y = true then -1 else if zv y x = true then 1 else 0 := zFg _ _ _ _
 rw [← hpv];obtain ⟨c, hc⟩ : ∃ c, c = or3 (xo x.a y.a) (xo x.b y.b) := ⟨_, rfl⟩
 rw [← hc];have HC := hid hc;clear hpv hc;change Calls _ _ #[.agg x.cells, .agg y.cells] _ _;obtain ⟨w0, hw0⟩ : ∃ w0, w0 = (W.alloc (.cells x.cells 57)).alloc (.cells y.cells 57) := ⟨_, rfl⟩
 have hz : W.heap.size + 2 ≤ w0.heap.size := by rw [hw0]; simp
 have c0 : w0.cell? ⟨W.heap.size, 0, none⟩ = some (.int .i64 x.a) := by rw [hw0]; simp [go_sem]
 have c1 : w0.cell? ⟨W.heap.size, 1, none⟩ = some (.int .i64 x.b) := by rw [hw0]; simp [go_sem]
 have d0 : w0.cell? ⟨W.heap.size + 1, 0, none⟩ = some (.int .i64 y.a) := by rw [hw0]; simp [go_sem]
 have d1 : w0.cell? ⟨W.heap.size + 1, 1, none⟩ = some (.int .i64 y.b) := by rw [hw0]; simp [go_sem]
 have B0 : Hid (Below W.heap.size W w0) := hid (by rw [hw0]; exact ((Below.refl _ _).alloc (Nat.le_refl _) _).alloc (by simp) _);have hpost : ∀ w', Below (W.heap.size + 2) w0 w' → Ending.returned (.int .i64 (or3 (xo x.a y.a) (xo x.b y.b))) = Ending.returned (.int .i64 c) ∧ Below W.heap.size W w' := fun w' h => ⟨by rw [HC.out], B0.out.trans (h.mono (by omega))⟩
 go_enter Tryz.func72, Tryz.ntmps72
 exact m22
open Go.RowKit Go.Deep
theorem zBG : ∃ d : TypeDesc, Tryz.prog.underlying 55 = some d ∧ d.isRow = true := by
 have h : (Tryz.prog.underlying 55).map (·.isRow) = some true := by kernel_rfl
 cases hq : Tryz.prog.underlying 55 with
 | none => rw [hq] at h; cases h
 | some d => exact ⟨d, rfl, by rw [hq] at h; simpa using h⟩
theorem zKy (W : World) (sb nb i k n cap : Nat) (x y : Nte) (hs : W.cell? ⟨sb, 1, none⟩ = some (.slice (some ⟨nb, 0, none⟩) n cap)) (hx : W.rangeAt nb (i * 10) x.cs) (hy : W.rangeAt nb (k * 10) y.cs) (hi : i < n) (hk : k < n) (hnl : nb < W.heap.size) :
 Calls Tryz.prog 65 #[.int .i64 i, .int .i64 k, .pointer (some ⟨sb, 0, none⟩)] W fun e w' => e = .returned (.int .i64 (if yK x y = true then -1 else if yK y x = true then 1 else 0)) ∧ Below W.heap.size W w' := by
 have hpv : or3 (xo x.start y.start) (xo x.voice y.voice) = if yK x y = true then -1 else if yK y x = true then 1 else 0 := zFg _ _ _ _
 rw [← hpv];obtain ⟨c, hc⟩ : ∃ c, c = or3 (xo x.start y.start) (xo x.voice y.voice) := ⟨_, rfl⟩
 rw [← hc];have HC := hid hc;clear hpv hc;have hsl := World.block_lt_of_cell? W _ hs;obtain ⟨d, hu, hd⟩ := zBG;have hz0 : Blk ((W.drew.alloc (.cells zF.cells 55)).alloc (.cells zF.cells 55)) W.heap.size 55 zF.cells := (Blk.new W.drew 55 zF.cells).alloc (.cells zF.cells 55)
 have hz1 : Blk ((W.drew.alloc (.cells zF.cells 55)).alloc (.cells zF.cells 55)) (W.heap.size + 1) 55 zF.cells := by
  have := Blk.new (W.drew.alloc (.cells zF.cells 55)) 55 zF.cells;simpa using this
 go_enter Tryz.func65, Tryz.ntmps65
 go_upto_region 1 with (fail)
 go_cut [6, 7] (fun u v wx => ∃ p q : Nat, u = .pointer (some ⟨p, 0, none⟩) ∧ v = .pointer (some ⟨q, 0, none⟩) ∧ Hid (Blk wx p 55 x.cells) ∧ Hid (Blk wx q 55 y.cells) ∧ Hid (Below W.heap.size W wx))
 case first =>
  (refine jF (fun w' => Below W.heap.size W w') (Below.refl _ _).drew fun hHeld => ?_);refine zJ 0 ?_ (hy := Or.inl ⟨by rfl, fun w hSw => by (try dsimp only at hSw); go_simp; try with_reducible rfl⟩);refine zJ 1 ?_ (hy := Or.inl ⟨by rfl, fun w hSw => by (try dsimp only at hSw); have g0 : w.cell? ⟨sb, 1, none⟩ = _ := (hSw.cell (p := ⟨sb, 1, none⟩) hsl).trans hs; go_simp; try with_reducible rfl⟩);refine zJ 2 ?_ (hy := Or.inl ⟨by rfl, fun w hSw => by (try dsimp only at hSw); go_simp; try with_reducible rfl⟩);refine zJ 3 ?_ (hy := Or.inl ⟨by rfl, fun w hSw => by (try dsimp only at hSw); go_simp; try with_reducible rfl⟩);refine wpAnyH_take (i := 4) rfl (by kernel_rfl) (by kernel_rfl) (by kernel_rfl) (fun _ _ _ h => h) (yieldsIf_load_mid (by rfl) 55 (.tmp 11) rfl nb (i * 10) rfl x.cs d (fun w hSw => yH hSw hnl hx) hu hd zx) hHeld ?_;(try (change wpAnyH _ _ _ _ _ _ _ ⟨_, _⟩ _));(try simp only [Act.put, sS]);refine zJ 5 ?_ (hy := Or.inl ⟨by rfl, fun w hSw => by (try dsimp only at hSw); go_simp; try with_reducible rfl⟩);refine zJ 6 ?_ (hy := Or.inl ⟨by rfl, fun w hSw => by (try dsimp only at hSw); have g0 : w.cell? ⟨sb, 1, none⟩ = _ := (hSw.cell (p := ⟨sb, 1, none⟩) hsl).trans hs; go_simp; try with_reducible rfl⟩)
  refine zJ 7 ?_ (hy := Or.inl ⟨by rfl, fun w hSw => by (try dsimp only at hSw); go_simp; try with_reducible rfl⟩);refine zJ 8 ?_ (hy := Or.inl ⟨by rfl, fun w hSw => by (try dsimp only at hSw); go_simp; try with_reducible rfl⟩);refine wpAnyH_take (i := 9) rfl (by kernel_rfl) (by kernel_rfl) (by kernel_rfl) (fun _ _ _ h => h) (yieldsIf_load_mid (by rfl) 55 (.tmp 16) rfl nb (k * 10) rfl y.cs d (fun w hSw => yH hSw hnl hy) hu hd zx) hHeld ?_;(try (change wpAnyH _ _ _ _ _ _ _ ⟨_, _⟩ _));(try simp only [Act.put, sS]);refine zDq [10, 11] ?_;refine zDW ?_ ?_
  · intro K hK;go_simp;refine zq hK (hHeld.alloc (by first | exact Nat.le_refl _ | (simp; done) | (simp; omega)) _) fun hHeld => ?_
    clear hK K;refine yL 11 ?_;intro K hK;go_simp;refine zq hK (hHeld.alloc (by first | exact Nat.le_refl _ | (simp; done) | (simp; omega)) _) fun hHeld => ?_
    clear hK K;refine yL 12 ?_;intro K hK;refine jV 55 x.cells hz0 zx x.all_one ?_;intro w3 b3 g3 z3;have b5 := hz1.grown g3 (by intro e; injection e with e; omega);exact m71
  refine zDu ?_;intro K hK;go_simp;(refine zq hK (hHeld.alloc (by first | exact Nat.le_refl _ | (simp; done) | (simp; omega)) _) fun hHeld => ?_);clear hK K;refine yL 10 ?_;intro K hK;go_simp;(refine zq hK (hHeld.alloc (by first | exact Nat.le_refl _ | (simp; done) | (simp; omega)) _) fun hHeld => ?_);clear hK K;refine yL 12 ?_;intro K hK;refine jV 55 x.cells hz1 zx x.all_one ?_;intro w3 b3 g3 z3;have b5 := hz0.grown g3 (by intro e; injection e with e; omega);exact m71
 case rest =>
  obtain ⟨p, q, rfl, rfl, b6, b4, hB⟩ := hcut;have c0 : wc.cell? ⟨p, 1, none⟩ = some (.int .i64 x.start) := b6.out.cell 1;have c1 : wc.cell? ⟨p, 0, none⟩ = some (.int .i64 x.voice) := b6.out.cell 0;have d0 : wc.cell? ⟨q, 1, none⟩ = some (.int .i64 y.start) := b4.out.cell 1;have d1 : wc.cell? ⟨q, 0, none⟩ = some (.int .i64 y.voice) := b4.out.cell 0;have hp := b6.out.lt;have hq := b4.out.lt;(have hpost : ∀ w', Below wc.heap.size wc w' → Ending.returned (.int .i64 (or3 (xo x.start y.start) (xo x.voice y.voice))) = Ending.returned (.int .i64 c) ∧ Below W.heap.size W w' := fun w' h => ⟨by rw [HC.out], hB.out.trans (h.mono hB.out.size)⟩);clear hx hy hs hu hd hz0 hz1;(go_wp2_with fail);(refine jF (fun w' => Below wc.heap.size wc w') (Below.refl _ _).drew fun hHeld => ?_);refine zJ 0 ?_ (hy := Or.inl ⟨by rfl, fun w hSw => by (try dsimp only at hSw); go_simp; try with_reducible rfl⟩);refine zJ 1 ?_ (hy := Or.inl ⟨by rfl, fun w hSw => by (try dsimp only at hSw); have g0 : w.cell? ⟨p, 1, none⟩ = _ := (hSw.cell (p := ⟨p, 1, none⟩) hp).trans c0; go_simp; try with_reducible rfl⟩);refine zJ 2 ?_ (hy := Or.inl ⟨by rfl, fun w hSw => by (try dsimp only at hSw); go_simp; try with_reducible rfl⟩)
  refine zJ 3 ?_ (hy := Or.inl ⟨by rfl, fun w hSw => by (try dsimp only at hSw); have g0 : w.cell? ⟨q, 1, none⟩ = _ := (hSw.cell (p := ⟨q, 1, none⟩) hq).trans d0; go_simp; try with_reducible rfl⟩);refine zJ 5 ?_ (hy := Or.inl ⟨by rfl, fun w hSw => by (try dsimp only at hSw); go_simp; try with_reducible rfl⟩);refine zJ 6 ?_ (hy := Or.inl ⟨by rfl, fun w hSw => by (try dsimp only at hSw); have g0 : w.cell? ⟨p, 0, none⟩ = _ := (hSw.cell (p := ⟨p, 0, none⟩) hp).trans c1; go_simp; try with_reducible rfl⟩);refine zJ 7 ?_ (hy := Or.inl ⟨by rfl, fun w hSw => by (try dsimp only at hSw); go_simp; try with_reducible rfl⟩);refine zJ 8 ?_ (hy := Or.inl ⟨by rfl, fun w hSw => by (try dsimp only at hSw); have g0 : w.cell? ⟨q, 0, none⟩ = _ := (hSw.cell (p := ⟨q, 0, none⟩) hq).trans d1; go_simp; try with_reducible rfl⟩);refine yL 4 ?_;intro K hK;go_simp;refine (vD _ _ _).mono ?_;rintro e w2 ⟨rfl, rfl⟩;(try simp only []);(refine zq hK hHeld fun hHeld => ?_);clear hK K;refine yL 9 ?_;intro K hK;go_simp;refine (vD _ _ _).mono ?_;rintro e w2 ⟨rfl, rfl⟩;(try simp only []);(refine zq hK hHeld fun hHeld => ?_);clear hK K;refine yL 10 ?_;intro K hK;go_simp;refine zq hK (hHeld.alloc (by first | exact Nat.le_refl _ | (simp; done) | (simp; omega)) _) fun hHeld => ?_
  exact m83
open Go.RowKit Go.Deep
def vK (x m : Nte) : Bool := decide (m.voice = x.voice) && decide (m.stop = x.start)
theorem zHl (W : World) (p : Nat) (m x : Nte) (hx : Blk W p 55 x.cells) :
 Calls Tryz.prog 69 #[.agg m.cells, .pointer (some ⟨p, 0, none⟩)] W fun e w' => e = .returned (.bool (vK x m)) ∧ Below W.heap.size W w' := by
 have hl := hx.lt;have c0 : (W.alloc (.cells m.cells 55)).cell? ⟨p, 0, none⟩ = some (.int .i64 x.voice) := (hx.alloc _).cell 0;have c1 : (W.alloc (.cells m.cells 55)).cell? ⟨p, 1, none⟩ = some (.int .i64 x.start) := (hx.alloc _).cell 1;have d0 : (W.alloc (.cells m.cells 55)).cell? ⟨W.heap.size, 0, none⟩ = some (.int .i64 m.voice) := (Blk.new W _ _).cell 0;have d2 : (W.alloc (.cells m.cells 55)).cell? ⟨W.heap.size, 2, none⟩ = some (.int .i64 m.stop) := (Blk.new W _ _).cell 2;have B0 := hid ((Below.refl W.heap.size W).alloc (Nat.le_refl _) (.cells m.cells 55));clear hx;obtain ⟨b, hb⟩ : ∃ b, b = vK x m := ⟨_, rfl⟩
 rw [← hb];by_cases h1 : m.voice = x.voice
 ·
  have hb1 : (m.voice == x.voice) = true := by simp [h1]
  have hb2 : (m.stop == x.start) = b := by rw [hb]; simp only [vK, h1, decide_true, Bool.true_and]; by_cases e : m.stop = x.start <;> simp [e]
  clear hb h1;go_enter Tryz.func69, Tryz.ntmps69
  go_wp2
  go_ret;exact ⟨by first | rfl | simp [hb2], B0.out⟩
 have hb1 : (m.voice == x.voice) = false := by simp [h1]
 have hb2 : b = false := by rw [hb]; simp [vK, h1]
 clear hb h1;subst hb2;go_enter Tryz.func69, Tryz.ntmps69
 go_wp2
 go_ret;exact ⟨rfl, B0.out⟩
def zLE : Option Nat → Int
 | some j => j
 | none => -1
def jW (w : World) (nb : Nat) (l : List Nte) : Prop := ∀ i, i < l.length → w.rangeAt nb (i * 10) (l.getD i zF).cs
theorem jW.below {w w' : World} {B nb : Nat} {l : List Nte} (h : jW w nb l) (hb : Below B w w') (hl : nb < B) : jW w' nb l := fun i hi => yH hb hl (h i hi)
theorem zN {α : Type} {l : List α} {i : Nat} (h : i < l.length) (d : α) : l.getD i d = l[i] := by simp [List.getD, h]
theorem zFc {α : Type} {p : α → Bool} {l : List α} {i : Nat} (d : α) (hi : i < l.length) (h : p (l.getD i d) = true) (hb : ∀ j, j < i → p (l.getD j d) = false) : l.findIdx? p = some i := by
 rw [List.findIdx?_eq_some_iff_getElem];refine ⟨hi, by rw [← zN hi d]; exact h, fun j hj => ?_⟩;have := hb j hj;rw [zN (by omega) d] at this;simp [this]
theorem zFe {α : Type} {p : α → Bool} {l : List α} (d : α) (hb : ∀ j, j < l.length → p (l.getD j d) = false) : l.findIdx? p = none := by
 rw [List.findIdx?_eq_none_iff];intro x hx;obtain ⟨j, hj, rfl⟩ := List.getElem_of_mem hx;have := hb j hj;rw [zN hj d] at this;exact this
theorem jt (l : List Nte) (x : Nte) : kw l x = l.findIdx? (vK x) := rfl
theorem zDF (W : World) (nb p cap : Nat) (x : Nte) (l : List Nte) (hx : Blk W p 55 x.cells) (hr : jW W nb l) (hnl : nb < W.heap.size) (hn : l.length < 1099511627776) :
 Calls Tryz.prog 68 #[.slice (some ⟨nb, 0, none⟩) l.length cap, .func (.func 69) #[] #[.pointer (some ⟨p, 0, none⟩)]] W
  fun e w' => e = .returned (.int .i64 (zLE (kw l x))) ∧ Below W.heap.size W w' := by
 obtain ⟨c, hc⟩ : ∃ c, c = zLE (kw l x) := ⟨_, rfl⟩
 rw [← hc]
 have HC := hid hc
 have HX := hid hx
 have HR := hid hr
 obtain ⟨d, hu, hd⟩ := zBG
 obtain ⟨n, hln⟩ : ∃ n, n = l.length := ⟨_, rfl⟩
 rw [← hln] at hn ⊢
 have HN := hid hln
 clear hc hx hr hln
 go_enter Tryz.func68, Tryz.ntmps68
 go_wp2
 go_loopw [8] (fun v wx => ∃ i : Nat, i ≤ n ∧ v = .int .i64 i ∧ Hid (Below W.heap.size W wx) ∧ Hid (∀ j, j < i → vK x (l.getD j zF) = false)) (fun v _ => n - (zD v).toNat)
 case atStart => exact ⟨0, Nat.zero_le _, rfl, hid (Below.refl _ _), hid (fun j h => absurd h (Nat.not_lt_zero _))⟩
 case round =>
  obtain ⟨i, hi, rfl, HB, HJ⟩ := hrel;by_cases hlt : i < n
  ·
   obtain ⟨m, hm⟩ : ∃ m, m = l.getD i zF := ⟨_, rfl⟩
   have hmr : wr.rangeAt nb (i * 10) m.cs := by rw [hm]; exact yH HB.out hnl (HR.out i (by rw [← HN.out]; exact hlt))
   have HM := hid hm;have HE := hid (zHl wr p m x (HX.out.below HB.out HX.out.lt));clear hm;have r1 : IntKind.i64.wrap ((i : Int) + 1) = ((i + 1 : Nat) : Int) := by rw [IntKind.wrap_i64]; omega
   cases hq : vK x m with
   | true =>
    rw [hq] at HE;go_wp2_with (first | (refine wpList_load_mid rfl 55 (.tmp 14) rfl nb (i * 10) rfl m.cs d hmr hu hd zx ?_; try simp only [Act.put, sS]) | (go_at_call 69; refine HE.out.mono ?_; rintro e w1 ⟨rfl, b1⟩; replace b1 := hid b1))
    go_ret;refine ⟨?_, HB.out.trans (b1.out.mono HB.out.size)⟩;have := zFc (p := vK x) (l := l) zF (by rw [← HN.out]; exact hlt) (by rw [← HM.out]; exact hq) HJ.out;rw [HC.out, jt, this];rfl
   | false =>
    rw [hq] at HE;go_wp2_with (first | (refine wpList_load_mid rfl 55 (.tmp 14) rfl nb (i * 10) rfl m.cs d hmr hu hd zx ?_; try simp only [Act.put, sS]) | (go_at_call 69; refine HE.out.mono ?_; rintro e w1 ⟨rfl, b1⟩; replace b1 := hid b1))
    go_roundw
    case rel => exact ⟨i + 1, by omega, rfl, hid (HB.out.trans (b1.out.mono HB.out.size)), hid (fun j h => by
     by_cases e : j = i
     · rw [e, ← HM.out]; exact hq
     exact HJ.out j (by omega))⟩
    case measure => simp [zD]; omega
  (go_wp2);go_ret;refine ⟨?_, HB.out⟩;have := zFe (p := vK x) (l := l) zF (fun j hj => HJ.out j (by rw [← HN.out] at hj; omega));rw [HC.out, jt, this];rfl
open Go.RowKit Go.Deep
def vX (v : Vc) (i : Nat) : Vc := ⟨if 0 < i then -v.a else v.a, if 1 < i then -v.b else v.b, if 2 < i then -v.c else v.c, if 3 < i then -v.d else v.d, if 4 < i then -v.e else v.e, if 5 < i then -v.f else v.f⟩
def Vc.small (v : Vc) (m : Nat) : Prop := v.a.natAbs ≤ m ∧ v.b.natAbs ≤ m ∧ v.c.natAbs ≤ m ∧ v.d.natAbs ≤ m ∧ v.e.natAbs ≤ m ∧ v.f.natAbs ≤ m
theorem qH (W : World) (v : Vc) (hv : v.small 1000000000000) :
 Calls Tryz.prog 70 #[.agg v.cells] W fun e w' => e = .returned (.agg v.neg.cells) ∧ Below W.heap.size W w' := by
 obtain ⟨h0, h1, h2, h3, h4, h5⟩ := hv;have r0 : IntKind.i64.wrap (-v.a) = -v.a := by rw [IntKind.wrap_i64]; omega
 have r1 : IntKind.i64.wrap (-v.b) = -v.b := by rw [IntKind.wrap_i64]; omega
 have r2 : IntKind.i64.wrap (-v.c) = -v.c := by rw [IntKind.wrap_i64]; omega
 have r3 : IntKind.i64.wrap (-v.d) = -v.d := by rw [IntKind.wrap_i64]; omega
 have r4 : IntKind.i64.wrap (-v.e) = -v.e := by rw [IntKind.wrap_i64]; omega
 have r5 : IntKind.i64.wrap (-v.f) = -v.f := by rw [IntKind.wrap_i64]; omega
 clear h0 h1 h2 h3 h4 h5;go_enter Tryz.func70, Tryz.ntmps70
 go_wp2
 go_loopw [4] (fun s wx => ∃ i : Nat, i ≤ 6 ∧ s = .int .i64 i ∧ Hid (Blk wx W.heap.size 53 (vX v i).cells) ∧ Hid (Blk wx (W.heap.size + 1) 53 vc0.cells) ∧ Hid (Below W.heap.size W wx)) (fun s _ => 6 - (zD s).toNat)
 case atStart =>
  exact m93
 case round =>
  exact m10
open Go.RowKit Go.Deep
theorem zD9 {l m : List Int} (hp : l.Perm m) (h1 : l.Pairwise (· ≤ ·)) (h2 : m.Pairwise (· ≤ ·)) : l = m := by
 induction l generalizing m with
 | nil => exact (List.Perm.nil_eq hp)
 | cons x l ih =>
  cases m with
  | nil => exact absurd hp.length_eq (by simp)
  | cons y m =>
   have a1 := List.pairwise_cons.1 h1;have a2 := List.pairwise_cons.1 h2;have hx : x ∈ y :: m := hp.mem_iff.1 (List.mem_cons_self ..);have hy : y ∈ x :: l := hp.mem_iff.2 (List.mem_cons_self ..)
   have e : x = y := by
    have b1 : y ≤ x := by
     rcases List.mem_cons.1 hx with r | r
     · omega
     exact a2.1 x r
    have b2 : x ≤ y := by
     rcases List.mem_cons.1 hy with r | r
     · omega
     exact a1.1 y r
    omega
   subst e;rw [ih (List.perm_cons x |>.1 hp) a1.2 a2.2]
theorem zLC : Swo (fun a b : Int => decide (a < b)) := ⟨fun x => by simp, fun x y z h1 h2 => by simp at *; omega, fun x y z h1 h2 => by simp at *; omega⟩
theorem zIv (l : List Int) : (l.mergeSort fun x y => decide (x ≤ y)) = vg l := by
 refine zD9 ((List.mergeSort_perm _ _).trans (kg l).symm) ?_ ?_
 · have := List.pairwise_mergeSort (le := fun x y : Int => decide (x ≤ y)) (fun a b c h1 h2 => by simp at *; omega) (fun a b => by simp; omega) l;exact this.imp (fun h => by simpa using h)
 have := kH zLC l;exact List.Pairwise.imp (fun {a b} h => by simpa using h) this
structure zLP (w : World) (b : Nat) (l : List Int) : Prop where
 cell : ∀ t, t < l.length → w.cell? ⟨b, t, none⟩ = some (.int .i64 (l.getD t 0))
 fr : ∀ t, t < l.length → w.frozen? ⟨b, t, none⟩ = false
theorem zIA (W : World) (b cap : Nat) (l : List Int) (h : zLP W b l) (hb : b < W.heap.size) (hn : l.length < 4611686018427387904) :
 Calls Tryz.prog 73 #[.slice (some ⟨b, 0, none⟩) l.length cap] W fun e w' => e = .returned (.tuple #[]) ∧ zH b W w' ∧ zLP w' b (vg l) := by
 have hH : Sort.Holds (Value.int .i64) W b 0 l.toArray := by
  intro j hj;(have hj' : j < l.length := by simpa using hj);rw [Nat.zero_add];refine ⟨?_, h.fr j hj'⟩;rw [h.cell j hj', zN hj'];simp [hj']
 refine (Tryz.slices_Sort_int b 0 cap l W hH hb hn).mono ?_;rintro e w' ⟨rfl, n, os, rfl⟩;rw [zIv];have hp : (vg l).length = l.length := (kg (lt := fun a b : Int => decide (a < b)) l).length_eq;have h2 : Sort.Holds (Value.int .i64) (Sort.ahead W n) b 0 l.toArray := fun j hj => hH j hj
 have h3 := Sort.holds_putRow (Value.int .i64) (Sort.ahead W n) b 0 l.toArray (vg l).toArray h2 (by simp [hp]);have h4 := Sort.holds_grow (Value.int .i64) _ os b 0 (vg l).toArray (by rw [Sort.size_putRow]; exact hb) h3;refine ⟨rfl, ⟨rfl, rfl, rfl, by rw [Sort.size_grow, Sort.size_putRow]; exact Nat.le_add_right _ _, fun k hk hl => ?_⟩, fun t ht => ?_, fun t ht => ?_⟩
 · rw [Sort.heap_grow_old _ _ (by rw [Sort.size_putRow]; exact hl)];simp only [Sort.putRow, Sort.mapBlock, Array.getElem?_modify];rw [if_neg (fun e => hk e.symm)];rfl
 · have := (h4 t (by simpa using ht)).1;rw [Nat.zero_add] at this;rw [this, zN ht];simp [ht]
 have := (h4 t (by simpa using ht)).2;rw [Nat.zero_add] at this;exact this
open Go.RowKit Go.Deep
theorem zBf (W : World) (A : Option Addr) (cap : Nat) (fv : Value) :
 Calls Tryz.prog 145 #[.slice A 0 cap, .int .i64 0, .int .i64 0, fv] W fun e w' => e = .returned (.tuple #[]) ∧ w' = W := by
 go_enter Tryz.func145, Tryz.ntmps145
 go_wp2
 go_loopw [8] (fun s wx => s = .int .i64 1 ∧ wx = W) (fun _ _ => 0)
 case atStart => exact ⟨rfl, rfl⟩
 case round =>
  obtain ⟨rfl, rfl⟩ := hrel;(go_wp2);(go_end0);exact ⟨rfl, rfl⟩
theorem zCC (W : World) (A : Option Addr) (cap : Nat) (fv : Value) :
 Calls Tryz.prog 112 #[.slice A 0 cap, .int .i64 0, fv] W fun e w' => e = .returned (.tuple #[]) ∧ w' = W := by
 have HI := hid (zBf W A cap fv);go_enter Tryz.func112, Tryz.ntmps112
 go_wp2
 go_loopw [7, 8] (fun s t wx => s = .int .i64 0 ∧ t = .int .i64 20 ∧ wx = W) (fun _ _ _ => 0)
 case atStart => exact ⟨rfl, rfl, rfl⟩
 case round =>
  obtain ⟨rfl, rfl, rfl⟩ := hrel;(go_wp2_with (go_at_call 145; refine HI.out.mono ?_; rintro e w1 ⟨rfl, rfl⟩));go_loopw [6] (fun s wx => s = .int .i64 20 ∧ wx = w1) (fun _ _ => 0)
  case atStart => exact ⟨rfl, rfl⟩
  case round =>
   obtain ⟨rfl, rfl⟩ := hrel;(go_wp2);(go_end0);exact ⟨rfl, rfl⟩
theorem zA2 (W : World) (A : Option Addr) (cap : Nat) (fv : Value) :
 Calls Tryz.prog 71 #[.slice A 0 cap, fv] W fun e w' => e = .returned (.tuple #[]) ∧ w' = W := by
 have HS := hid (zCC W A cap fv);go_enter Tryz.func71, Tryz.ntmps71
 go_wp2_with (go_at_call 112; refine HS.out.mono ?_; rintro e w1 ⟨rfl, rfl⟩)
 go_end0
 exact ⟨rfl, rfl⟩
open Go.RowKit Go.Deep
theorem vw {w w' : World} {b s : Nat} {cs : List Value} (e : w'.heap[b]? = w.heap[b]?) (h : w.rangeAt b s cs) : w'.rangeAt b s cs := fun j v hv => (World.cell?_of_block (a := ⟨b, s + j, none⟩) e).trans (h j v hv)
theorem zAI {w w' : World} {b s n : Nat} (e : w'.heap[b]? = w.heap[b]?) (h : w.there b s n) : w'.there b s n := fun j hj => by
 exact ⟨by rw [World.cell?_of_block (a := ⟨b, s + j, none⟩) e]; exact (h j hj).1, by rw [World.frozen?_of_block (a := ⟨b, s + j, none⟩) e]; exact (h j hj).2⟩
structure yk (w : World) (g : Nat) (l : List Nte) : Prop where
 cell : jW w g l
 fr : ∀ i, i < l.length → w.there g (i * 10) 10
 lt : g < w.heap.size
theorem yk.block {w w' : World} {g : Nat} {l : List Nte} (h : yk w g l) (e : w'.heap[g]? = w.heap[g]?) : yk w' g l :=
 ⟨fun i hi => vw e (h.cell i hi), fun i hi => zAI e (h.fr i hi), by
  have h1 := Array.getElem?_eq_some_iff.2 ⟨h.lt, rfl⟩;rw [← e] at h1;exact (Array.getElem?_eq_some_iff.1 h1).1⟩
theorem zC6 {α : Type} (l : List α) (i j : Nat) (x d : α) (hj : j < l.length) : (l.set i x).getD j d = if i = j then x else l.getD j d := by
 simp only [List.getD, List.getElem?_set];by_cases e : i = j
 · subst e; simp [hj]
 simp [e]
theorem yk.set {w : World} {g : Nat} {l : List Nte} (h : yk w g l) (i : Nat) (x : Nte) (hi : i < l.length) : yk (w.setCells g (i * 10) x.cs) g (l.set i x) := by
 refine ⟨fun j hj => ?_, fun j hj => World.there_setCells (h.fr j (by simpa using hj)) _ _ _, by rw [vf]; exact h.lt⟩;have hj' : j < l.length := by simpa using hj
 rw [zC6 l i j x zF hj'];by_cases e : i = j
 · subst e;rw [if_pos rfl];exact World.rangeAt_setCells_same w g (i * 10) x.cs (h.fr i hi)
 rw [if_neg e];refine World.rangeAt_setCells_apart (h.cell j hj') _ _ _ ?_;have h1 := Nte.cs_len (l.getD j zF);have h2 := Nte.cs_len x
 right; omega
theorem yk.place {w : World} {g : Nat} {l : List Nte} (h : yk w g l) (i : Nat) (v : Vc) (hi : i < l.length) :
 yk (w.setCells g (i * 10 + 3) v.cells.toList) g (l.set i { (l.getD i zF) with place := v }) := by
 refine ⟨fun j hj => ?_, fun j hj => World.there_setCells (h.fr j (by simpa using hj)) _ _ _, by rw [vf]; exact h.lt⟩;have hj' : j < l.length := by simpa using hj
 rw [zC6 l i j _ zF hj']
 have t3 : w.there g (i * 10 + 3) 6 := fun k hk => by
  have := h.fr i hi (3 + k) (by omega);rw [← Nat.add_assoc] at this;exact this
 by_cases e : i = j
 ·
  subst e;rw [if_pos rfl];intro k u hu
  have hk : k < 10 := by
   have := (List.getElem?_eq_some_iff.1 hu).1;rw [Nte.cs_len] at this;exact this
  by_cases hin : 3 ≤ k ∧ k < 9
  ·
   have := World.rangeAt_setCells_same w g (i * 10 + 3) v.cells.toList t3 (k - 3) u (by
    rw [← hu];rcases (show k = 3 ∨ k = 4 ∨ k = 5 ∨ k = 6 ∨ k = 7 ∨ k = 8 by omega) with rfl | rfl | rfl | rfl | rfl | rfl <;> rfl)
   rw [show i * 10 + 3 + (k - 3) = i * 10 + k by omega] at this;exact this
  rw [World.cell?_setCells_out g v.cells.toList (i * 10 + 3) w ⟨g, i * 10 + k, none⟩ (fun _ _ => by
   show i * 10 + k < i * 10 + 3 ∨ i * 10 + 3 + 6 ≤ i * 10 + k;omega)]
  refine h.cell i hj' k u ?_;rw [← hu];rcases (show k = 0 ∨ k = 1 ∨ k = 2 ∨ k = 9 by omega) with rfl | rfl | rfl | rfl <;> rfl
 rw [if_neg e];refine World.rangeAt_setCells_apart (h.cell j hj') _ _ _ ?_;have h1 := Nte.cs_len (l.getD j zF);have h2 : v.cells.toList.length = 6 := rfl
 right; omega
open Go.RowKit Go.Deep
def vC (v : List Int) : List Value := v.map fun x => Value.int .i64 x
theorem zJo (v : List Int) (j : Nat) (hj : j < v.length) : (vC v)[j]? = some (.int .i64 (v.getD j 0)) := by
 simp [vC, List.getD, hj]
def kA (w : World) (g : Nat) (l : List Int) : Prop := Blk w g 3 (vC l).toArray
theorem kA.cell {w : World} {g : Nat} {l : List Int} (h : kA w g l) (k : Nat) (hk : k < l.length) : w.cell? ⟨g, k, none⟩ = some (.int .i64 (l.getD k 0)) := by
 rw [Blk.cell h, List.getElem?_toArray, zJo l k hk]
theorem kA.frozen {w : World} {g : Nat} {l : List Int} (h : kA w g l) (i : Nat) : w.frozen? ⟨g, i, none⟩ = false := Blk.frozen h i
theorem kA.put {w : World} {g : Nat} {l : List Int} (h : kA w g l) (k : Nat) (x : Int) : kA (w.setCell ⟨g, k, none⟩ (.int .i64 x)) g (l.set k x) := by
 have := Blk.set_ h k (.int .i64 x);simp only [List.setIfInBounds_toArray] at this;unfold kA;rw [show vC (l.set k x) = (vC l).set k (.int .i64 x) by simp [vC, List.map_set]];exact this
theorem kA.block {w w' : World} {g : Nat} {l : List Int} (h : kA w g l) (e : w'.heap[g]? = w.heap[g]?) : kA w' g l := e.trans h
theorem zIF (N : Nat) (z : Array Value) (hz : ∀ i, i < z.size → z[i]! = .int .i64 0) (hs : 0 < z.size) : madeCells z N = (List.replicate N (Value.int .i64 0)).toArray := by
 refine Array.ext (by simp [size_madeCells]) fun i h1 h2 => ?_
 simp [madeCells];exact hz _ (Nat.mod_lt _ hs)
theorem zKf : (Tryz.prog.info? 3).map (fun i => (i.zero, i.size, i.bytes)) = some (some (.int .i64 0), 1, 8) := by kernel_rfl
theorem zEv (n : Nat) (hn : n ≤ 1000000) (w : World) : (Instr.makeSlice 24 (.int .i64 (n : Int)) (.int .i64 (n : Int))).run Tryz.prog w = .ok (.slice (some ⟨w.heap.size, 0, none⟩) n n) (w.alloc (.cells (vC (List.replicate n 0)).toArray 3)) := by
 have := run_make_row' (P := Tryz.prog) 24 3 (.int .i64 0) 8 Tryz.underlying24 zKf rfl .i64 .i64 n (by omega) (by omega) w
 rw [zIF _ _ (fun i h => by
  (obtain rfl : i = 0 := by have : i < 1 := h; omega);rfl) (by simp)] at this
 rw [this];simp [vC]
theorem zDo (n : Nat) (hn : n ≤ 1000000) (w : World) : (Instr.makeSlice 22 (.int .i64 (n : Int)) (.int .i64 (n : Int))).run Tryz.prog w = .ok (.slice (some ⟨w.heap.size, 0, none⟩) n n) (w.alloc (.cells (madeCells zF.cells (n * 10)) 55)) := by
 have hinf := zBq
 cases hq : Tryz.prog.info? 55 with
 | none => rw [hq] at hinf; cases hinf
 | some i =>
  rw [hq] at hinf;simp only [Option.map_some, Option.some.injEq, Prod.mk.injEq] at hinf;obtain ⟨hz, hs, hb⟩ := hinf;have hr := run_make (P := Tryz.prog) w 22 55 i _ Tryz.underlying22 hq hz .i64 .i64 n n (by omega) (Int.le_refl _) (by rw [hb]; omega) (by omega);simp only [Int.toNat_natCast, hs] at hr;exact hr
theorem zBh (w : World) (n : Nat) : yk (w.alloc (.cells (madeCells zF.cells (n * 10)) 55)) w.heap.size (List.replicate n zF) := by
 have b := Blk.new w 55 (madeCells zF.cells (n * 10));have hsz : (madeCells zF.cells (n * 10)).size = n * 10 := size_madeCells _ _
 have at_ : ∀ i j, i < n → j < 10 → (madeCells zF.cells (n * 10))[i * 10 + j]? = zF.cells[j]? := fun i j hi hj => by
  (have h1 : i * 10 + j < n * 10 := by omega);rw [Array.getElem?_eq_getElem (by rw [hsz]; exact h1)];simp [madeCells];rcases (show j = 0 ∨ j = 1 ∨ j = 2 ∨ j = 3 ∨ j = 4 ∨ j = 5 ∨ j = 6 ∨ j = 7 ∨ j = 8 ∨ j = 9 by omega) with rfl | rfl | rfl | rfl | rfl | rfl | rfl | rfl | rfl | rfl <;> rfl
 refine ⟨fun i hi => ?_, fun i hi => ?_, by simp⟩
 ·
  have hi' : i < n := by simpa using hi
  rw [show (List.replicate n zF).getD i zF = zF by simp [List.getD, List.getElem?_replicate, hi']];intro j v hv
  have hj : j < 10 := by
   have := (List.getElem?_eq_some_iff.1 hv).1;rw [Nte.cs_len] at this;exact this
  rw [b.cell, at_ i j hi' hj, ← hv];simp [Nte.cs]
 have hi' : i < n := by simpa using hi
 intro j hj;refine ⟨?_, b.frozen _⟩;rw [b.cell, Array.getElem?_eq_getElem (by rw [hsz]; omega)];rfl
open Go.RowKit Go.Deep
structure Two (a b : Nat) (w w' : World) : Prop where
 os : w'.os = w.os
 tape : w'.tape = w.tape
 output : w'.output = w.output
 size : w.heap.size ≤ w'.heap.size
 block : ∀ k, k ≠ a → k ≠ b → k < w.heap.size → w'.heap[k]? = w.heap[k]?
theorem Two.refl (a b : Nat) (w : World) : Two a b w w := ⟨rfl, rfl, rfl, Nat.le_refl _, fun _ _ _ _ => rfl⟩
theorem Two.left {a b : Nat} {u w w' : World} (h : Two a b u w) (o : zH a w w') : Two a b u w' :=
 ⟨o.os.trans h.os, o.tape.trans h.tape, o.output.trans h.output, Nat.le_trans h.size o.size, fun k h1 h2 hl => (o.block k h1 (Nat.lt_of_lt_of_le hl h.size)).trans (h.block k h1 h2 hl)⟩
theorem Two.right {a b : Nat} {u w w' : World} (h : Two a b u w) (o : zH b w w') : Two a b u w' :=
 ⟨o.os.trans h.os, o.tape.trans h.tape, o.output.trans h.output, Nat.le_trans h.size o.size, fun k h1 h2 hl => (o.block k h2 (Nat.lt_of_lt_of_le hl h.size)).trans (h.block k h1 h2 hl)⟩
theorem Two.below {a b B : Nat} {w w' : World} (h : Two a b w w') (ha : B ≤ a) (hb : B ≤ b) (hs : B ≤ w.heap.size) : Below B w w' := ⟨h.os, h.tape, h.output, h.size, fun k hk => h.block k (by omega) (by omega) (by omega)⟩
theorem Two.blk {a b x : Nat} {w w' : World} {t : TypeId} {cs : Array Value} (h : Two a b w w') (hb : Blk w x t cs) (h1 : x ≠ a) (h2 : x ≠ b) : Blk w' x t cs := (h.block x h1 h2 hb.lt).trans hb
def zAs (l : List Nte) (k : Nat) : List Int := (List.range l.length).map fun t => if zj l t < k then (zj l t : Int) else 0
def zAp (l : List Nte) (k : Nat) : List Nte := (List.range l.length).map fun t => if t < k then l.getD ((zl l).getD t 0) zF else zF
theorem vv (l : List Nte) (k : Nat) : (zAs l k).length = l.length := by simp [zAs]
theorem vE (l : List Nte) (k : Nat) : (zAp l k).length = l.length := by simp [zAp]
theorem zJi (l : List Nte) : zAs l 0 = List.replicate l.length 0 := by
 refine List.ext_getElem? fun j => ?_
 by_cases h : j < l.length
 · simp [zAs, h]
 simp [zAs, List.getElem?_replicate, h]
theorem zIK (l : List Nte) : zAp l 0 = List.replicate l.length zF := by
 refine List.ext_getElem? fun j => ?_
 by_cases h : j < l.length
 · simp [zAp, h]
 simp [zAp, List.getElem?_replicate, h]
theorem zDC (l : List Nte) {k : Nat} (h : k < l.length) : (zl l).getD k 0 < l.length := by
 have hk : k < (zl l).length := by rw [yQ]; exact h
 have e : (zl l).getD k 0 = (zl l)[k] := by simp [List.getD, hk]
 rw [e];exact zJc l (List.getElem_mem hk)
theorem zJY (l : List Nte) (k : Nat) (h : k < l.length) : (zAs l k).set ((zl l).getD k 0) (k : Int) = zAs l (k + 1) := by
 refine List.ext_getElem? fun j => ?_
 rw [List.getElem?_set];by_cases hj : j < l.length
 ·
  by_cases e : (zl l).getD k 0 = j
  ·
   rw [if_pos e];have hp : zj l j = k := by rw [← e]; exact zEc l h
   have h2 : (zl l).getD k 0 < (zAs l k).length := by rw [vv, e]; exact hj
   rw [e] at h2;rw [if_pos (by rw [e]; exact h2)];simp only [zAs, List.getElem?_map, List.getElem?_range hj, Option.map_some, hp];rw [if_pos (Nat.lt_succ_self k)]
  rw [if_neg e];have hp : zj l j ≠ k := fun e2 => e (by rw [← e2]; exact zC4 l hj)
  simp only [zAs, List.getElem?_map, List.getElem?_range hj, Option.map_some];by_cases h2 : zj l j < k
  · rw [if_pos h2, if_pos (by omega)]
  rw [if_neg h2, if_neg (by omega)]
 have h1 : (zAs l k)[j]? = none := List.getElem?_eq_none (by rw [vv]; omega);have h2 : (zAs l (k + 1))[j]? = none := List.getElem?_eq_none (by rw [vv]; omega);have h3 : (zl l).getD k 0 ≠ j := fun e => by have := zDC l h; omega
 rw [if_neg h3, h1, h2]
theorem zJx (l : List Nte) (k : Nat) (h : k < l.length) : (zAp l k).set k (l.getD ((zl l).getD k 0) zF) = zAp l (k + 1) := by
 refine List.ext_getElem? fun j => ?_
 rw [List.getElem?_set];by_cases hj : j < l.length
 ·
  by_cases e : k = j
  · subst e;rw [if_pos rfl, if_pos (by rw [vE]; exact h)];simp only [zAp, List.getElem?_map, List.getElem?_range hj, Option.map_some];rw [if_pos (Nat.lt_succ_self k)]
  rw [if_neg e];simp only [zAp, List.getElem?_map, List.getElem?_range hj, Option.map_some];by_cases h2 : j < k
  · rw [if_pos h2, if_pos (by omega)]
  rw [if_neg h2, if_neg (by omega)]
 have h1 : (zAp l k)[j]? = none := List.getElem?_eq_none (by rw [vE]; omega);have h2 : (zAp l (k + 1))[j]? = none := List.getElem?_eq_none (by rw [vE]; omega);rw [if_neg (by omega), h1, h2]
theorem zIp (l : List Nte) : zAp l l.length = (zl l).map fun i => l.getD i zF := by
 refine List.ext_getElem? fun j => ?_
 by_cases hj : j < l.length
 · have hk : j < (zl l).length := by rw [yQ]; exact hj
   simp only [zAp, List.getElem?_map, List.getElem?_range hj, Option.map_some];rw [if_pos hj, List.getElem?_eq_getElem hk];simp [List.getD, hk]
 rw [List.getElem?_eq_none (by rw [vE]; omega), List.getElem?_eq_none (by rw [List.length_map, yQ]; omega)]
theorem zEk (l : List Nte) {t : Nat} (h : t < l.length) : (zAs l l.length).getD t 0 = (zj l t : Int) := by
 have := zCa l h;simp [zAs, List.getD, h, this]
theorem yk.placed {w : World} {g : Nat} {l : List Nte} (h : yk w g l) (j : Nat) (hj : j < l.length) : w.rangeAt g (j * 10 + 3) (l.getD j zF).place.cells.toList := fun i v hv => by
 have hi : i < 6 := (List.getElem?_eq_some_iff.1 hv).1
 have := h.cell j hj (3 + i) v (by
  rw [← hv];rcases (show i = 0 ∨ i = 1 ∨ i = 2 ∨ i = 3 ∨ i = 4 ∨ i = 5 by omega) with rfl | rfl | rfl | rfl | rfl | rfl <;> rfl)
 rw [← Nat.add_assoc] at this;exact this
theorem yk.there3 {w : World} {g : Nat} {l : List Nte} (h : yk w g l) (j : Nat) (hj : j < l.length) : w.there g (j * 10 + 3) 6 := fun k hk => by
 have := h.fr j hj (3 + k) (by omega);rw [← Nat.add_assoc] at this;exact this
theorem zJn {l : List Nte} {x : Nte} {j : Nat} (h : kw l x = some j) : j < l.length := by
 rw [jt, List.findIdx?_eq_some_iff_getElem] at h;exact h.1
open Go.RowKit Go.Deep
structure vW {α : Type} (cf : α → List Value) (k : Nat) (d0 : α) (w : World) (q : Nat) (l : List α) : Prop where
 cell : ∀ i, i < l.length → w.rangeAt q (i * k) (cf (l.getD i d0))
 fr : ∀ i, i < l.length → w.there q (i * k) k
 lt : q < w.heap.size
section
variable {α : Type} {cf : α → List Value} {k : Nat} {d0 : α} {w w' : World} {q : Nat} {l : List α}
theorem vW.shows (h : vW cf k d0 w q l) (hk : ∀ x, (cf x).length = k) (hk0 : 0 < k) : zQ w w.heap.size k (some ⟨q, 0, none⟩) l.length (zW cf l) := by
 refine ⟨xQ cf k hk l, fun _ => ⟨_, rfl, h.lt, fun j hj => ?_⟩⟩;rw [xQ cf k hk] at hj;have hi : j / k < l.length := (Nat.div_lt_iff_lt_mul hk0).2 hj;have hr := Nat.mod_lt j hk0;have e : j / k * k + j % k = j := by rw [Nat.mul_comm]; exact Nat.div_add_mod j k
 rw [Addr.add_mid, Nat.zero_add];have h1 := zAX cf k hk l (j / k) (j % k) hi hr;rw [e] at h1;rw [h1];have hlen : j % k < (cf l[j / k]).length := by rw [hk]; exact hr
 have := h.cell (j / k) hi (j % k) ((cf l[j / k])[j % k]) (by rw [zN hi]; exact List.getElem?_eq_getElem hlen);rw [e] at this;rw [this];exact (List.getElem?_eq_getElem hlen).symm
theorem vW.block (h : vW cf k d0 w q l) (e : w'.heap[q]? = w.heap[q]?) : vW cf k d0 w' q l :=
 ⟨fun i hi => vw e (h.cell i hi), fun i hi => zAI e (h.fr i hi), by
  have h1 := Array.getElem?_eq_some_iff.2 ⟨h.lt, rfl⟩;rw [← e] at h1;exact (Array.getElem?_eq_some_iff.1 h1).1⟩
theorem vW.set (h : vW cf k d0 w q l) (hk : ∀ x, (cf x).length = k) (i : Nat) (x : α) (hi : i < l.length) : vW cf k d0 (w.setCells q (i * k) (cf x)) q (l.set i x) := by
 refine ⟨fun j hj => ?_, fun j hj => World.there_setCells (h.fr j (by simpa using hj)) _ _ _, by rw [vf]; exact h.lt⟩;have hj' : j < l.length := by simpa using hj
 rw [zC6 l i j x d0 hj'];have hf := h.fr i hi;rw [← hk x] at hf;by_cases e : i = j
 · subst e;rw [if_pos rfl];have := World.rangeAt_setCells_same w q (i * k) (cf x) (by rw [← hk x] at *; exact hf);rw [← hk x] at *;exact this
 rw [if_neg e];refine World.rangeAt_setCells_apart (h.cell j hj') _ _ _ ?_;rw [hk, hk]
 right
 rcases Nat.lt_or_gt_of_ne e with h1 | h1
 · have : i * k + k ≤ j * k := by rw [← Nat.succ_mul]; exact Nat.mul_le_mul_right _ h1
   omega
 have : j * k + k ≤ i * k := by rw [← Nat.succ_mul]; exact Nat.mul_le_mul_right _ h1
 omega
theorem vW.of_cells {e : TypeId} {cur : Array Value} {cap : Nat} (hk : ∀ x, (cf x).length = k) (hg : w.heap[q]? = some (.cells cur e (0, 0))) (hc : l.length ≤ cap) (hs : cur.size = cap * k) (ht : cur.toList.take (l.length * k) = zW cf l) : vW cf k d0 w q l := by
 have hB : Blk w q e cur := hg
 have hle : ∀ i j, i < l.length → j < k → i * k + j < l.length * k := fun i j hi hj => by
  (have : i * k + k ≤ l.length * k := by rw [← Nat.succ_mul]; exact Nat.mul_le_mul_right _ hi);omega
 have hle2 : l.length * k ≤ cap * k := Nat.mul_le_mul_right _ hc
 have hat : ∀ i j (hi : i < l.length), j < k → cur[i * k + j]? = (cf l[i])[j]? := fun i j hi hj => by
  rw [← zAX cf k hk l i j hi hj, ← ht, List.getElem?_take, if_pos (hle i j hi hj)];simp
 refine ⟨fun i hi j v hv => ?_, fun i hi j hj => ⟨?_, hB.frozen _⟩, hB.lt⟩
 ·
  have hj : j < k := by
   have := (List.getElem?_eq_some_iff.1 hv).1;rw [hk] at this;exact this
  rw [hB.cell, hat i j hi hj, ← hv, zN hi]
 rw [hB.cell, hat i j hi hj];have : j < (cf l[i]).length := by rw [hk]; exact hj
 rw [List.getElem?_eq_getElem this];rfl
end
def zt : Par := ⟨0, 0, vc0, 0⟩
def jz (w : World) (B : Nat) (v : Value) (l : List Par) : Prop := ∃ A c, v = .slice A l.length c ∧ l.length ≤ c ∧ ((A = none ∧ l = []) ∨ ∃ q, A = some ⟨q, 0, none⟩ ∧ B ≤ q ∧ vW Par.cs 9 zt w q l)
theorem jz.of_own {w : World} {B : Nat} {v : Value} {l : List Par} (h : zn w B v l) : jz w B v l := by
 have h' := h;rcases h'.2 with ⟨rfl, h0⟩ | ⟨g, cap, cur, rfl, hB, hg, hc, -, hs, ht⟩
 · exact zMR
 exact ⟨_, cap, rfl, hc, Or.inr ⟨g, rfl, hB, vW.of_cells Par.cs_len hg hc hs ht⟩⟩
theorem jz.rd {w : World} {B : Nat} {v : Value} {l : List Par} (h : jz w B v l) : ∃ A c, v = .slice A l.length c ∧ l.length ≤ c ∧ RdP w w.heap.size A l := by
 obtain ⟨A, c, rfl, hc, ⟨rfl, rfl⟩ | ⟨q, rfl, -, hr⟩⟩ := h
 · exact ⟨none, c, rfl, hc, RdP.nil _ _ _⟩
 exact ⟨_, c, rfl, hc, hr.shows Par.cs_len (by omega)⟩
theorem jz.kept {w w' : World} {B : Nat} {v : Value} {l : List Par} {r : Option Nat} (h : jz w B v l) (hg : w.grownBy w' r) (hne : v.ownBlock = none ∨ v.ownBlock ≠ r) : jz w' B v l := by
 exact zOj
def j3 (w : World) (B : Nat) (v : Value) (l : List Int) : Prop := ∃ A c, v = .slice A l.length c ∧ l.length ≤ c ∧ ((A = none ∧ l = []) ∨ ∃ q, A = some ⟨q, 0, none⟩ ∧ B ≤ q ∧ vW Itg.cs 1 ⟨0⟩ w q (itg l))
theorem zo (l : List Int) : (itg l).length = l.length := by simp [itg]
theorem zDb (l : List Int) (i : Nat) : (itg l).getD i ⟨0⟩ = ⟨l.getD i 0⟩ := by
 simp only [itg, List.getD, List.getElem?_map];cases l[i]? <;> rfl
theorem j3.of_own {w : World} {B : Nat} {v : Value} {l : List Int} (h : yO w B v (itg l)) : j3 w B v l := by
 have h' := h;rcases h'.2 with ⟨rfl, h0⟩ | ⟨g, cap, cur, rfl, hB, hg, hc, -, hs, ht⟩
 · rw [zo] at h0;exact zMR
 rw [zo] at hc;exact ⟨_, cap, by rw [zo], hc, Or.inr ⟨g, rfl, hB, vW.of_cells Itg.cs_len hg (by rw [zo]; exact hc) hs ht⟩⟩
theorem j3.rd {w : World} {B : Nat} {v : Value} {l : List Int} (h : j3 w B v l) : ∃ A c, v = .slice A l.length c ∧ l.length ≤ c ∧ RdC w w.heap.size A (itg l) := by
 obtain ⟨A, c, rfl, hc, ⟨rfl, rfl⟩ | ⟨q, rfl, -, hr⟩⟩ := h
 · exact ⟨none, c, rfl, hc, RdC.nil _ _ _⟩
 exact ⟨_, c, rfl, hc, hr.shows Itg.cs_len (by omega)⟩
theorem j3.kept {w w' : World} {B : Nat} {v : Value} {l : List Int} {r : Option Nat} (h : j3 w B v l) (hg : w.grownBy w' r) (hne : v.ownBlock = none ∨ v.ownBlock ≠ r) : j3 w' B v l := by
 exact zOj
theorem xO {b : Nat} {w w' : World} (o : zH b w w') : w.grownBy w' (some b) := ⟨o.os, o.tape, o.output, o.size, fun k hk e => o.block k (fun e' => e (by rw [e'])) hk⟩
theorem zKD {α : Type} (l : List α) (d : α) : seg (fun t => l.getD t d) 0 l.length = l := zL1 (by simp) fun t ht => by
 have : t < l.length := by omega
 simp [List.getD, this]
theorem zHL (W : World) (B : Nat) (v : Value) (l : List Par) (h : jz W B v l) (hn : l.length < 1099511627776) :
 Calls Tryz.prog 71 #[v, .func (.func 72) #[] #[]] W fun e w' => e = .returned (.tuple #[]) ∧ jz w' B v (yh zv l) ∧ W.grownBy w' v.ownBlock := by
 have hlen : (yh zv l).length = l.length := jT l;obtain ⟨A, c, rfl, hc, ⟨rfl, rfl⟩ | ⟨q, rfl, hB, hr⟩⟩ := h
 · refine (zA2 W none c _).mono ?_;exact zNC
 have hC : zFa W q (fun _ => True) zv 72 #[] := fun w _ x y _ _ => zLj w x y
 refine (zDv W W q l.length c _ #[] (fun _ => True) zv (fun t => l.getD t zt) jY hC (fun args w => by go_simp) ⟨zH.refl _ _, hr.cell, hr.fr, fun _ _ => trivial, hr.lt⟩ hn).mono ?_;rintro e w' ⟨rfl, f', hp, hput⟩;refine ⟨rfl, ⟨_, c, by rw [hlen], by rw [hlen]; exact hc, Or.inr ⟨q, rfl, hB, ?_⟩⟩, xO hp.only⟩;have hs := hput.seg;rw [zKD] at hs
 have hat : ∀ i, i < l.length → (yh zv l).getD i zt = f' i := fun i hi => by
  rw [← hs, List.getD_eq_getElem?_getD, zDU _ _ _ _ (by omega), Nat.zero_add];rfl
 refine ⟨fun i hi => ?_, fun i hi => hp.fr i (by rw [← hlen]; exact hi), hp.lt⟩;rw [hlen] at hi;rw [hat i hi];exact hp.cell i hi
theorem zIO (W : World) (B : Nat) (v : Value) (l : List Int) (h : j3 W B v l) (hn : l.length < 1099511627776) :
 Calls Tryz.prog 73 #[v] W fun e w' => e = .returned (.tuple #[]) ∧ j3 w' B v (vg l) ∧ W.grownBy w' v.ownBlock := by
 have hlen : (vg l).length = l.length := (kg (lt := fun a b : Int => decide (a < b)) l).length_eq;obtain ⟨A, c, rfl, hc, ⟨rfl, rfl⟩ | ⟨q, rfl, hB, hr⟩⟩ := h
 · refine (Tryz.slices_Sort_int_none none c W).mono ?_;exact zNC
 have hcell : ∀ t, t < l.length → W.cell? ⟨q, t, none⟩ = some (.int .i64 (l.getD t 0)) := fun t ht => by
  have := hr.cell t (by rw [zo]; exact ht) 0 (.int .i64 (l.getD t 0)) (by rw [zDb]; rfl);simpa using this
 have hfr : ∀ t, t < l.length → W.frozen? ⟨q, t, none⟩ = false := fun t ht => by
  have := (hr.fr t (by rw [zo]; exact ht) 0 (by omega)).2;simpa using this
 refine (zIA W q c l ⟨hcell, hfr⟩ hr.lt (by omega)).mono ?_;rintro e w' ⟨rfl, ho, hcad⟩;refine ⟨rfl, ⟨_, c, by rw [hlen], by rw [hlen]; exact hc, Or.inr ⟨q, rfl, hB, ⟨fun i hi => ?_, fun i hi => ?_, Nat.lt_of_lt_of_le hr.lt ho.size⟩⟩⟩, xO ho⟩
 ·
  rw [zo] at hi;intro j u hu;rw [zDb] at hu
  have hj : j = 0 := by
   have := (List.getElem?_eq_some_iff.1 hu).1;have h1 : (Itg.cs ⟨(vg l).getD i 0⟩).length = 1 := rfl;omega
  subst hj
  have hu' : u = .int .i64 ((vg l).getD i 0) := by
   have h1 : (Itg.cs ⟨(vg l).getD i 0⟩)[0]? = some (.int .i64 ((vg l).getD i 0)) := rfl;rw [h1] at hu;injection hu with hu;exact hu.symm
  rw [hu', Nat.add_zero, Nat.mul_one];exact hcad.cell i hi
 rw [zo] at hi;intro j hj;obtain rfl : j = 0 := by omega
 rw [Nat.add_zero, Nat.mul_one];exact ⟨by rw [hcad.cell i hi]; rfl, hcad.fr i hi⟩
def jP (l : List Nte) (ps : List Par) (i : Nat) : List Par := (List.range ps.length).map fun t => if t < i then jr (zj l) (ps.getD t zt) else ps.getD t zt
theorem jQ (l : List Nte) (ps : List Par) (i : Nat) : (jP l ps i).length = ps.length := by simp [jP]
theorem zHI (l : List Nte) (ps : List Par) : jP l ps 0 = ps := by
 exact zN2
theorem zKo (l : List Nte) (ps : List Par) (i : Nat) (h : i < ps.length) : (jP l ps i).getD i zt = ps.getD i zt := by
 simp [jP, List.getD, h]
theorem zJd (l : List Nte) (ps : List Par) (i : Nat) (h : i < ps.length) : (jP l ps i).set i (jr (zj l) (ps.getD i zt)) = jP l ps (i + 1) := by
 refine List.ext_getElem? fun j => ?_
 rw [List.getElem?_set];by_cases hj : j < ps.length
 ·
  by_cases e : i = j
  · subst e;rw [if_pos rfl, if_pos (by rw [jQ]; exact h)];simp [jP, hj]
  rw [if_neg e];simp only [jP, List.getElem?_map, List.getElem?_range hj, Option.map_some];exact zMS
 have h1 : (jP l ps i)[j]? = none := List.getElem?_eq_none (by rw [jQ]; omega);have h2 : (jP l ps (i + 1))[j]? = none := List.getElem?_eq_none (by rw [jQ]; omega);rw [if_neg (by omega), h1, h2]
theorem zHw (l : List Nte) (ps : List Par) : jP l ps ps.length = ps.map (jr (zj l)) := by
 exact zN2
def ShN (w : World) (B : Nat) (v : Value) (l : List Nte) : Prop := ∃ A c, v = .slice A l.length c ∧ l.length ≤ c ∧ RdN w w.heap.size A l ∧ ∀ ad, A = some ad → B ≤ ad.block
def ShP (w : World) (B : Nat) (v : Value) (l : List Par) : Prop := ∃ A c, v = .slice A l.length c ∧ l.length ≤ c ∧ RdP w w.heap.size A l ∧ ∀ ad, A = some ad → B ≤ ad.block
def ShC (w : World) (B : Nat) (v : Value) (l : List Int) : Prop := ∃ A c, v = .slice A l.length c ∧ l.length ≤ c ∧ RdC w w.heap.size A (itg l) ∧ ∀ ad, A = some ad → B ≤ ad.block
theorem yk.sh {w : World} {B g n c : Nat} {l : List Nte} (h : yk w g l) (hn : n = l.length) (hc : n ≤ c) (hB : B ≤ g) : ShN w B (.slice (some ⟨g, 0, none⟩) n c) l := by
 subst hn;exact ⟨_, c, rfl, hc, vW.shows (d0 := zF) ⟨h.cell, h.fr, h.lt⟩ Nte.cs_len (by omega), fun ad e => by injection e with e; subst e; exact hB⟩
theorem jz.sh {w : World} {B : Nat} {v : Value} {l : List Par} (h : jz w B v l) : ShP w B v l := by
 obtain ⟨A, c, rfl, hc, ⟨rfl, rfl⟩ | ⟨q, rfl, hB, hr⟩⟩ := h
 · exact ⟨none, c, rfl, hc, RdP.nil _ _ _, fun ad e => by cases e⟩
 exact ⟨_, c, rfl, hc, hr.shows Par.cs_len (by omega), fun ad e => by injection e with e; subst e; exact hB⟩
theorem j3.sh {w : World} {B : Nat} {v : Value} {l : List Int} (h : j3 w B v l) : ShC w B v l := by
 obtain ⟨A, c, rfl, hc, ⟨rfl, rfl⟩ | ⟨q, rfl, hB, hr⟩⟩ := h
 · exact ⟨none, c, rfl, hc, RdC.nil _ _ _, fun ad e => by cases e⟩
 exact ⟨_, c, rfl, hc, hr.shows Itg.cs_len (by omega), fun ad e => by injection e with e; subst e; exact hB⟩
theorem zQ.kept {w w' : World} {B Bh size n : Nat} {A : Option Addr} {xs : List Value} (h : zQ w Bh size A n xs) (hb : Bh ≤ w.heap.size) (hl : ∀ ad, A = some ad → B ≤ ad.block) {r : Option Nat} (hg : w.grownBy w' r) (hr : ∀ y, r = some y → y < B) : zQ w' Bh size A n xs := by
 refine ⟨h.1, fun hn => ?_⟩;obtain ⟨ad, e, h1, h2⟩ := h.2 hn;have h3 := hl ad e
 exact ⟨ad, e, h1, fun j hj => by
  rw [World.cell?_of_block (hg.block (ad.add j).block (by rw [zs]; omega) (fun e => by rw [zs] at e; have := hr _ e.symm; omega))];exact h2 j hj⟩
open Go.RowKit Go.Deep
theorem jz.up {w w' : World} {B : Nat} {v : Value} {l : List Par} (h : jz w B v l) (b : Below w.heap.size w w') : jz w' B v l := by
 exact zNB
theorem j3.up {w w' : World} {B : Nat} {v : Value} {l : List Int} (h : j3 w B v l) (b : Below w.heap.size w w') : j3 w' B v l := by
 exact zNB
def zFU (B b : Nat) (v : Value) : Prop := ∀ x, v.ownBlock = some x → B ≤ x ∧ x < b
theorem jz.ownLt {w : World} {B : Nat} {v : Value} {l : List Par} (h : jz w B v l) : zFU B w.heap.size v := by
 exact zMG
theorem j3.ownLt {w : World} {B : Nat} {v : Value} {l : List Int} (h : j3 w B v l) : zFU B w.heap.size v := by
 exact zMG
theorem zMi {w : World} {B : Nat} {vp vq : Value} {ps : List Par} {cs : List Itg} (hp : zn w B vp ps) (hq : yO w B vq cs) : vp.ownBlock = none ∨ vq.ownBlock = none ∨ vq.ownBlock ≠ vp.ownBlock := by
 rcases hp.2 with ⟨rfl, -⟩ | ⟨g, cap, cur, rfl, hB, hg, -⟩
 · exact Or.inl rfl
 right; right
 intro e;exact xZ hq (b := g) hg (by decide) e
structure Ar3 (B b nb pb : Nat) (V : Int) (vn vp vq : Value) (l : List Nte) (ps : List Par) (cs : List Int) (w : World) : Prop where
 sc : Blk w b 26 #[.int .i64 V, vn, vp, vq]
 res : Blk w (b + 1) 26 #[.int .i64 0, .slice none 0 0, .slice none 0 0, .slice none 0 0]
 nt : yk w nb (vd l)
 pl : kA w pb (zAs l l.length)
 pr : jz w B vp ps
 cr : j3 w B vq cs
structure Ap3 (B b nb pb : Nat) (vp vq : Value) : Prop where
 hnb : b + 1 < nb
 hpb : b + 1 < pb
 hne : nb ≠ pb
 hB : B ≤ b
 hp : zFU B b vp
 hq : zFU B b vq
 hpq : vp.ownBlock = none ∨ vq.ownBlock = none ∨ vq.ownBlock ≠ vp.ownBlock
section
variable {B b nb pb : Nat} {V : Int} {vn vp vq : Value} {l : List Nte} {ps : List Par} {cs : List Int} {w w' : World}
theorem Ar3.below (h : Ar3 B b nb pb V vn vp vq l ps cs w) (k : Below w.heap.size w w') : Ar3 B b nb pb V vn vp vq l ps cs w' :=
 ⟨h.sc.below k h.sc.lt, h.res.below k h.res.lt, h.nt.block (k.block nb h.nt.lt), h.pl.block (k.block pb (Blk.lt h.pl)), h.pr.up k, h.cr.up k⟩
theorem v3 {r : Option Nat} {x : Nat} {t : TypeId} {cs : Array Value} (hg : w.grownBy w' r) (h : Blk w x t cs) (hne : ∀ y, r = some y → y ≠ x) : Blk w' x t cs := (hg.block x h.lt (fun e => hne x e.symm rfl)).trans h
theorem Ar3.grown (h : Ar3 B b nb pb V vn vp vq l ps cs w) (a : Ap3 B b nb pb vp vq) {r : Option Nat} (hg : w.grownBy w' r) (hr : ∀ y, r = some y → y < b) {ps' : List Par} {cs' : List Int} (hp : jz w' B vp ps') (hq : j3 w' B vq cs') :
 Ar3 B b nb pb V vn vp vq l ps' cs' w' := by
 have a1 := a.hnb;have a2 := a.hpb
 exact ⟨v3 hg h.sc (fun y hy e => by have := hr y hy; omega), v3 hg h.res (fun y hy e => by have := hr y hy; omega),
  h.nt.block (hg.block nb h.nt.lt (fun e => by have := hr _ e.symm; omega)), h.pl.block (hg.block pb (Blk.lt h.pl) (fun e => by have := hr _ e.symm; omega)), hp, hq⟩
theorem Ar3.sortp (h : Ar3 B b nb pb V vn vp vq l ps cs w) (a : Ap3 B b nb pb vp vq) {ps' : List Par} (hp : jz w' B vp ps') (hg : w.grownBy w' vp.ownBlock) : Ar3 B b nb pb V vn vp vq l ps' cs w' := by
 refine h.grown a hg (fun y hy => (a.hp y hy).2) hp ?_;rcases a.hpq with e | e | e
 ·
  exact h.cr.kept (r := none) ⟨hg.os, hg.tape, hg.output, hg.size, fun k hk _ => hg.block k hk (by rw [e]; simp)⟩ (by
   rcases e2 : vq.ownBlock with _ | x
   · exact Or.inl rfl
   right; simp)
 · exact h.cr.kept hg (Or.inl e)
 exact h.cr.kept hg (Or.inr e)
theorem Ar3.sortc (h : Ar3 B b nb pb V vn vp vq l ps cs w) (a : Ap3 B b nb pb vp vq) {cs' : List Int} (hq : j3 w' B vq cs') (hg : w.grownBy w' vq.ownBlock) : Ar3 B b nb pb V vn vp vq l ps cs' w' := by
 refine h.grown a hg (fun y hy => (a.hq y hy).2) ?_ hq;rcases a.hpq with e | e | e
 · exact h.pr.kept hg (Or.inl e)
 ·
  exact h.pr.kept (r := none) ⟨hg.os, hg.tape, hg.output, hg.size, fun k hk _ => hg.block k hk (by rw [e]; simp)⟩ (by
   rcases e2 : vp.ownBlock with _ | x
   · exact Or.inl rfl
   right; simp)
 exact h.pr.kept hg (Or.inr fun e' => e e'.symm)
theorem Ar3.put {q m c : Nat} (h : Ar3 B b nb pb V vn (.slice (some ⟨q, 0, none⟩) m c) vq l ps cs w) (a : Ap3 B b nb pb (.slice (some ⟨q, 0, none⟩) m c) vq) (i : Nat) (x : Par) (hi : i < ps.length) :
 Ar3 B b nb pb V vn (.slice (some ⟨q, 0, none⟩) m c) vq l (ps.set i x) cs (w.setCells q (i * 9) x.cs) := by
 refine h.sortp a ?_ (xO (zH.setCells x.cs (i * 9) w (zH.refl q w)));obtain ⟨A, c', e, hc, ⟨rfl, rfl⟩ | ⟨q', rfl, hB, hr⟩⟩ := h.pr
 · cases e
 injection e with e1 e2 e3;injection e1 with e1;injection e1 with e1;subst e1 e2 e3;exact ⟨_, c, by rw [List.length_set], by rw [List.length_set]; exact hc, Or.inr ⟨q, rfl, hB, hr.set Par.cs_len i x hi⟩⟩
theorem Ar3.row {q m c : Nat} (h : Ar3 B b nb pb V vn (.slice (some ⟨q, 0, none⟩) m c) vq l ps cs w) : vW Par.cs 9 zt w q ps := by
 obtain ⟨A, c', e, hc, ⟨rfl, rfl⟩ | ⟨q', rfl, hB, hr⟩⟩ := h.pr
 · cases e
 injection e with e1 e2 e3;injection e1 with e1;injection e1 with e1;subst e1 e2 e3;exact hr
theorem Ar3.addr {A : Option Addr} {m c : Nat} (h : Ar3 B b nb pb V vn (.slice A m c) vq l ps cs w) (hm : 0 < ps.length) : ∃ q, A = some ⟨q, 0, none⟩ := by
 obtain ⟨A', c', e, hc, ⟨rfl, rfl⟩ | ⟨q', rfl, hB, hr⟩⟩ := h.pr
 · simp at hm
 injection e with e1 e2 e3;exact ⟨q', e1⟩
theorem Ar3.len {A : Option Addr} {m c : Nat} (h : Ar3 B b nb pb V vn (.slice A m c) vq l ps cs w) : m = ps.length := by
 obtain ⟨A', c', e, -⟩ := h.pr;injection e
theorem Ar3.store1 (h : Ar3 B b nb pb V vn vp vq l ps cs w) (a : Ap3 B b nb pb vp vq) (u : Value) : Ar3 B b nb pb V u vp vq l ps cs (w.setCell ⟨b, 1, none⟩ u) := by
 have s1 := h.sc.set_ 1 u;simp at s1;have a1 := a.hnb;have a2 := a.hpb;have hg := xO ((zH.refl b w).setCell 1 u);refine ⟨s1, h.res.far (p := ⟨b, 1, none⟩) (by show b + 1 ≠ b; omega) u, h.nt.block (hg.block nb h.nt.lt (fun e => by injection e with e; omega)), h.pl.block (hg.block pb (Blk.lt h.pl) (fun e => by injection e with e; omega)), h.pr.kept hg ?_, h.cr.kept hg ?_⟩
 · right; intro e
   have := a.hp b e;omega
 right; intro e
 have := a.hq b e;omega
end
structure kS (w : World) (g : Nat) (x : Par) : Prop where
 ca : w.cell? ⟨g, 0, none⟩ = some (.int .i64 x.a)
 cb : w.cell? ⟨g, 1, none⟩ = some (.int .i64 x.b)
 cw : w.rangeAt g 2 x.wish.cells.toList
 ck : w.cell? ⟨g, 8, none⟩ = some (.int .i64 x.bound)
 fr : w.there g 0 9
theorem kS.of_blk {w : World} {g : Nat} {x : Par} (h : Blk w g 57 x.cells) : kS w g x := by
 refine ⟨h.cell 0, h.cell 1, fun j v hv => ?_, h.cell 8, fun j hj => ⟨?_, h.frozen _⟩⟩
 · have hj : j < 6 := (List.getElem?_eq_some_iff.1 hv).1;rw [h.cell, ← hv];exact zMu
 rw [h.cell];rcases (show j = 0 ∨ j = 1 ∨ j = 2 ∨ j = 3 ∨ j = 4 ∨ j = 5 ∨ j = 6 ∨ j = 7 ∨ j = 8 by omega) with rfl | rfl | rfl | rfl | rfl | rfl | rfl | rfl | rfl <;> rfl
section
variable {w w' : World} {g : Nat} {x : Par}
theorem kS.whole (h : kS w g x) : w.rangeAt g 0 x.cs := fun j v hv => by
 have hj : j < 9 := (List.getElem?_eq_some_iff.1 hv).1;rw [Nat.zero_add, ← hv];rcases (show j = 0 ∨ j = 1 ∨ j = 2 ∨ j = 3 ∨ j = 4 ∨ j = 5 ∨ j = 6 ∨ j = 7 ∨ j = 8 by omega) with rfl | rfl | rfl | rfl | rfl | rfl | rfl | rfl | rfl
 · exact h.ca
 · exact h.cb
 · exact h.cw 0 _ rfl
 · exact h.cw 1 _ rfl
 · exact h.cw 2 _ rfl
 · exact h.cw 3 _ rfl
 · exact h.cw 4 _ rfl
 · exact h.cw 5 _ rfl
 exact h.ck
theorem kS.block (h : kS w g x) (e : w'.heap[g]? = w.heap[g]?) : kS w' g x :=
 ⟨(World.cell?_of_block (a := ⟨g, 0, none⟩) e).trans h.ca, (World.cell?_of_block (a := ⟨g, 1, none⟩) e).trans h.cb, vw e h.cw, (World.cell?_of_block (a := ⟨g, 8, none⟩) e).trans h.ck, zAI e h.fr⟩
theorem kS.drw (h : kS w g x) : kS w.drew g x := ⟨h.ca, h.cb, h.cw, h.ck, h.fr⟩
theorem kS.f0 (h : kS w g x) : w.frozen? ⟨g, 0, none⟩ = false := (h.fr 0 (by omega)).2
theorem kS.f1 (h : kS w g x) : w.frozen? ⟨g, 1, none⟩ = false := (h.fr 1 (by omega)).2
theorem kS.th2 (h : kS w g x) : w.there g 2 6 := fun j hj => by
 have := h.fr (2 + j) (by omega);rw [Nat.zero_add] at this;exact this
theorem zMn {g i j : Nat} (h : i ≠ j) : (⟨g, i, none⟩ : Addr) ≠ ⟨g, j, none⟩ := fun e => by injection e with _ e; exact h e
theorem oth (w : World) (g i j : Nat) (u : Value) (h : i ≠ j) : (w.setCell ⟨g, i, none⟩ u).cell? ⟨g, j, none⟩ = w.cell? ⟨g, j, none⟩ := World.cell?_setCell_other w ⟨g, i, none⟩ ⟨g, j, none⟩ u (zMn h)
theorem kS.setA (h : kS w g x) (v : Int) : kS (w.setCell ⟨g, 0, none⟩ (.int .i64 v)) g { x with a := v } :=
 ⟨World.cell?_setCell_same' w _ _ (by rw [h.ca]; rfl), (oth w g 0 1 _ (by omega)).trans h.cb, fun j u hu => (oth w g 0 (2 + j) _ (by omega)).trans (h.cw j u hu), (oth w g 0 8 _ (by omega)).trans h.ck,
  World.there_setCells h.fr g 0 [.int .i64 v]⟩
theorem kS.setB (h : kS w g x) (v : Int) : kS (w.setCell ⟨g, 1, none⟩ (.int .i64 v)) g { x with b := v } :=
 ⟨(oth w g 1 0 _ (by omega)).trans h.ca, World.cell?_setCell_same' w _ _ (by rw [h.cb]; rfl), fun j u hu => (oth w g 1 (2 + j) _ (by omega)).trans (h.cw j u hu), (oth w g 1 8 _ (by omega)).trans h.ck,
  World.there_setCells h.fr g 1 [.int .i64 v]⟩
theorem kS.setW (h : kS w g x) (v : Vc) : kS (w.setCells g 2 v.cells.toList) g { x with wish := v } :=
 ⟨(World.cell?_setCells_out g v.cells.toList 2 w ⟨g, 0, none⟩ (fun _ _ => Or.inl (by show 0 < 2; omega))).trans h.ca, (World.cell?_setCells_out g v.cells.toList 2 w ⟨g, 1, none⟩ (fun _ _ => Or.inl (by show 1 < 2; omega))).trans h.cb,
  World.rangeAt_setCells_same w g 2 v.cells.toList h.th2, (World.cell?_setCells_out g v.cells.toList 2 w ⟨g, 8, none⟩ (fun _ _ => Or.inr (by show 2 + 6 ≤ 8; omega))).trans h.ck,
  World.there_setCells h.fr _ _ _⟩
end
end Go.Proofs.YtcjhihmaegagdaaGreatDoor
