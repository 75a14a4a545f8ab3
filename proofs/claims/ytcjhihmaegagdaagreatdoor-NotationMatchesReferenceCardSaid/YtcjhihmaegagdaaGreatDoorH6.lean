/- Texts of the Notation chapter, together: Wa, Wb, Wc, Wx, Wd, We. -/
import Derived.Test.YtcjhihmaegagdaaGreatDoorH3
import Derived.Test.YtcjhihmaegagdaaGreatDoorH1
import Derived.Deep.RegionHeld
import Derived.Test.YtcjhihmaegagdaaGreatDoorG1
import Derived.DeepKeys
set_option maxRecDepth 100000
set_option maxHeartbeats 8000000
set_option linter.unusedSimpArgs false
set_option linter.unusedVariables false
set_option linter.unusedSectionVars false
set_option linter.unnecessarySimpa false
namespace Go.Proofs.YtcjhihmaegagdaaGreatDoor
open Go.RowKit Go.Deep
theorem zKK (W : World) (x y : Par) : Calls Tryz.prog 119 #[.agg x.cells, .agg y.cells] W fun e w' => e = .returned (.int .i64 (if zv x y = true then -1 else if zv y x = true then 1 else 0)) ∧ Below W.heap.size W w' := by
 have hpv : or3 (xo x.a y.a) (xo x.b y.b) = if zv x y = true then -1 else if zv y x = true then 1 else 0 := zFg _ _ _ _
 rw [← hpv];obtain ⟨c, hc⟩ : ∃ c, c = or3 (xo x.a y.a) (xo x.b y.b) := ⟨_, rfl⟩
 rw [← hc];have HC := hid hc;clear hpv hc;obtain ⟨w0, hw0⟩ : ∃ w0, w0 = (W.alloc (.cells x.cells 57)).alloc (.cells y.cells 57) := ⟨_, rfl⟩
 have hz : W.heap.size + 2 ≤ w0.heap.size := by rw [hw0]; simp
 have c0 : w0.cell? ⟨W.heap.size, 0, none⟩ = some (.int .i64 x.a) := by rw [hw0]; simp [go_sem]
 have c1 : w0.cell? ⟨W.heap.size, 1, none⟩ = some (.int .i64 x.b) := by rw [hw0]; simp [go_sem]
 have d0 : w0.cell? ⟨W.heap.size + 1, 0, none⟩ = some (.int .i64 y.a) := by rw [hw0]; simp [go_sem]
 have d1 : w0.cell? ⟨W.heap.size + 1, 1, none⟩ = some (.int .i64 y.b) := by rw [hw0]; simp [go_sem]
 have B0 : Hid (Below W.heap.size W w0) := hid (by rw [hw0]; exact ((Below.refl _ _).alloc (Nat.le_refl _) _).alloc (by simp) _);have hpost : ∀ w', Below (W.heap.size + 2) w0 w' → Ending.returned (.int .i64 (or3 (xo x.a y.a) (xo x.b y.b))) = Ending.returned (.int .i64 c) ∧ Below W.heap.size W w' := fun w' h => ⟨by rw [HC.out], B0.out.trans (h.mono (by omega))⟩
 go_enter Tryz.func119, Tryz.ntmps119
 exact m22
theorem zKv (W : World) (x y : Nte) : Calls Tryz.prog 117 #[.agg x.cells, .agg y.cells] W fun e w' => e = .returned (.int .i64 (if yK x y = true then -1 else if yK y x = true then 1 else 0)) ∧ Below W.heap.size W w' := by
 have hpv : or3 (xo x.start y.start) (xo x.voice y.voice) = if yK x y = true then -1 else if yK y x = true then 1 else 0 := zFg _ _ _ _
 rw [← hpv];obtain ⟨c, hc⟩ : ∃ c, c = or3 (xo x.start y.start) (xo x.voice y.voice) := ⟨_, rfl⟩
 rw [← hc];have HC := hid hc;clear hpv hc;obtain ⟨w0, hw0⟩ : ∃ w0, w0 = (W.alloc (.cells x.cells 55)).alloc (.cells y.cells 55) := ⟨_, rfl⟩
 have hz : W.heap.size + 2 ≤ w0.heap.size := by rw [hw0]; simp
 have c0 : w0.cell? ⟨W.heap.size, 1, none⟩ = some (.int .i64 x.start) := by rw [hw0]; simp [go_sem]
 have c1 : w0.cell? ⟨W.heap.size, 0, none⟩ = some (.int .i64 x.voice) := by rw [hw0]; simp [go_sem]
 have d0 : w0.cell? ⟨W.heap.size + 1, 1, none⟩ = some (.int .i64 y.start) := by rw [hw0]; simp [go_sem]
 have d1 : w0.cell? ⟨W.heap.size + 1, 0, none⟩ = some (.int .i64 y.voice) := by rw [hw0]; simp [go_sem]
 have B0 : Hid (Below W.heap.size W w0) := hid (by rw [hw0]; exact ((Below.refl _ _).alloc (Nat.le_refl _) _).alloc (by simp) _);have hpost : ∀ w', Below (W.heap.size + 2) w0 w' → Ending.returned (.int .i64 (or3 (xo x.start y.start) (xo x.voice y.voice))) = Ending.returned (.int .i64 c) ∧ Below W.heap.size W w' := fun w' h => ⟨by rw [HC.out], B0.out.trans (h.mono (by omega))⟩
 go_enter Tryz.func117, Tryz.ntmps117
 go_wp2_with fail
 rw [← hw0];clear hw0;refine jF (fun w' => Below (W.heap.size + 2) w0 w') (Below.refl _ _).drew fun hHeld => ?_
 refine zJ 0 ?_ (hy := Or.inl ⟨by rfl, fun w hSw => by (try dsimp only at hSw); go_simp; try with_reducible rfl⟩);refine zJ 1 ?_ (hy := Or.inl ⟨by rfl, fun w hSw => by (try dsimp only at hSw); (have g0 : w.cell? ⟨W.heap.size, 1, none⟩ = _ := (hSw.cell (p := ⟨W.heap.size, 1, none⟩) (show W.heap.size < W.heap.size + 2 by omega)).trans c0); go_simp; try with_reducible rfl⟩);refine zJ 2 ?_ (hy := Or.inl ⟨by rfl, fun w hSw => by (try dsimp only at hSw); go_simp; try with_reducible rfl⟩);refine zJ 3 ?_ (hy := Or.inl ⟨by rfl, fun w hSw => by (try dsimp only at hSw); (have g0 : w.cell? ⟨W.heap.size + 1, 1, none⟩ = _ := (hSw.cell (p := ⟨W.heap.size + 1, 1, none⟩) (show W.heap.size + 1 < W.heap.size + 2 by omega)).trans d0); go_simp; try with_reducible rfl⟩);refine zJ 5 ?_ (hy := Or.inl ⟨by rfl, fun w hSw => by (try dsimp only at hSw); go_simp; try with_reducible rfl⟩);refine zJ 6 ?_ (hy := Or.inl ⟨by rfl, fun w hSw => by (try dsimp only at hSw); (have g0 : w.cell? ⟨W.heap.size, 0, none⟩ = _ := (hSw.cell (p := ⟨W.heap.size, 0, none⟩) (show W.heap.size < W.heap.size + 2 by omega)).trans c1); go_simp; try with_reducible rfl⟩);refine zJ 7 ?_ (hy := Or.inl ⟨by rfl, fun w hSw => by (try dsimp only at hSw); go_simp; try with_reducible rfl⟩)
 refine zJ 8 ?_ (hy := Or.inl ⟨by rfl, fun w hSw => by (try dsimp only at hSw); (have g0 : w.cell? ⟨W.heap.size + 1, 0, none⟩ = _ := (hSw.cell (p := ⟨W.heap.size + 1, 0, none⟩) (show W.heap.size + 1 < W.heap.size + 2 by omega)).trans d1); go_simp; try with_reducible rfl⟩);refine yL 4 ?_;intro K hK;go_simp;refine (vD _ _ _).mono ?_;rintro e w2 ⟨rfl, rfl⟩;try simp only []
 refine zq hK hHeld fun hHeld => ?_
 clear hK K;refine yL 9 ?_;intro K hK;go_simp;refine (vD _ _ _).mono ?_;rintro e w2 ⟨rfl, rfl⟩;try simp only []
 refine zq hK hHeld fun hHeld => ?_
 clear hK K;refine yL 10 ?_;intro K hK;go_simp;refine zq hK (hHeld.alloc (by first | exact hz | (simp; omega)) _) fun hHeld => ?_
 exact m83
open Go.RowKit Go.Deep
section
variable {α : Type} (lt : α → α → Bool) (l : List α) (d : α)
theorem kf (h : ∀ t, t + 1 < l.length → lt (l.getD t d) (l.getD (t + 1) d) = true) : xE lt l = true := by
 induction l with
 | nil => rfl
 | cons x l ih =>
  cases l with
  | nil => rfl
  | cons y l =>
   rw [xE, Bool.and_eq_true];exact ⟨by simpa using h 0 (by simp), ih fun t ht => by simpa using h (t + 1) (by simp at *; omega)⟩
theorem zAL {i : Nat} (hi : i + 1 < l.length) (h : lt (l.getD i d) (l.getD (i + 1) d) = false) : xE lt l = false := by
 induction l generalizing i with
 | nil => simp at hi
 | cons x l ih =>
  cases l with
  | nil => simp at hi
  | cons y l =>
   rw [xE]
   cases i with
   | zero =>
    (have : lt x y = false := by simpa using h);rw [this, Bool.false_and]
   | succ i =>
    rw [ih (i := i) (by simp at *; omega) (by simpa using h), Bool.and_false]
end
def ltI (a b : Int) : Bool := decide (a < b)
theorem zGp (x y : Int) (w : World) : Calls Tryz.prog 67 #[.int .i64 x, .int .i64 y] w fun e w' => e = .returned (.int .i64 (if ltI x y = true then -1 else if ltI y x = true then 1 else 0)) ∧ w' = w := by
 have e : (if ltI x y = true then (-1 : Int) else if ltI y x = true then 1 else 0) = xo x y := by
  unfold ltI xo;simp only [decide_eq_true_eq]
 rw [e];exact vD x y w
theorem yt {w wx : World} {B : Nat} {A : Option Addr} {l : List Nte} (h : RdN w B A l) (hB : B ≤ w.heap.size) (hb : Below w.heap.size w wx) {i : Nat} (hi : i < l.length) :
 ∃ ad, A = some ad ∧ ∀ w', Below wx.heap.size wx w' → (Instr.loadAt 55 (.pointer (some (ad.add (i * 10))))).run Tryz.prog w' = .ok (.agg (l.getD i zF).cells) w' := by
 obtain ⟨ad, rfl, h1, h2⟩ := zQ.rec Nte.cs 10 Nte.cs_len h rfl hi;obtain ⟨d, hu, hd⟩ := zBG;refine ⟨ad, rfl, fun w' hb' => jw 55 d hu (by cases d <;> first | rfl | cases hd) w' _ _ zx fun j v hv => ?_⟩;have hj : j < 10 := (List.getElem?_eq_some_iff.1 hv).1;have hblk : ((ad.add (i * 10)).add j).block < B := by rw [zs, zs]; exact h1
 rw [hb'.cell (Nat.lt_of_lt_of_le hblk (Nat.le_trans hB hb.size)), hb.cell (Nat.lt_of_lt_of_le hblk hB), h2 j hj, ← hv, zN hi];rfl
theorem kC {w wx : World} {B : Nat} {A : Option Addr} {l : List Par} (h : RdP w B A l) (hB : B ≤ w.heap.size) (hb : Below w.heap.size w wx) {i : Nat} (hi : i < l.length) :
 ∃ ad, A = some ad ∧ ∀ w', Below wx.heap.size wx w' → (Instr.loadAt 57 (.pointer (some (ad.add (i * 9))))).run Tryz.prog w' = .ok (.agg (l.getD i zt).cells) w' := by
 obtain ⟨ad, rfl, h1, h2⟩ := zQ.rec Par.cs 9 Par.cs_len h rfl hi;obtain ⟨d, hu, hd⟩ := zCL;refine ⟨ad, rfl, fun w' hb' => jw 57 d hu (by cases d <;> first | rfl | cases hd) w' _ _ vN fun j v hv => ?_⟩;have hj : j < 9 := (List.getElem?_eq_some_iff.1 hv).1;have hblk : ((ad.add (i * 9)).add j).block < B := by rw [zs, zs]; exact h1
 rw [hb'.cell (Nat.lt_of_lt_of_le hblk (Nat.le_trans hB hb.size)), hb.cell (Nat.lt_of_lt_of_le hblk hB), h2 j hj, ← hv, zN hi];rfl
theorem ji {w wx : World} {B : Nat} {A : Option Addr} {l : List Int} (h : RdC w B A (itg l)) (hB : B ≤ w.heap.size) (hb : Below w.heap.size w wx) {i : Nat} (hi : i < l.length) :
 ∃ ad, A = some ad ∧ ∀ w', Below wx.heap.size wx w' → w'.cell? (ad.add i) = some (.int .i64 (l.getD i 0)) := by
 obtain ⟨ad, rfl, h1, h2⟩ := zQ.rec Itg.cs 1 Itg.cs_len h rfl (by rw [zo]; exact hi);refine ⟨ad, rfl, fun w' hb' => ?_⟩;have h3 := h2 0 (by omega);rw [Nat.mul_one, show (ad.add i).add 0 = ad.add i from by simp [Addr.add]] at h3;have hblk : (ad.add i).block < B := by rw [zs]; exact h1
 rw [hb'.cell (Nat.lt_of_lt_of_le hblk (Nat.le_trans hB hb.size)), hb.cell (Nat.lt_of_lt_of_le hblk hB), h3];simp [itg, Itg.cs, hi]
theorem zBV {w wx : World} {B : Nat} {A : Option Addr} {l : List Int} (h : RdC w B A (itg l)) (hB : B ≤ w.heap.size) (hb : Below w.heap.size w wx) {i : Nat} (hi : i < l.length) :
 ∃ ad, A = some ad ∧ ∀ w', Below wx.heap.size wx w' → (Instr.loadAt 3 (.pointer (some (ad.add i)))).run Tryz.prog w' = .ok (.int .i64 (l.getD i 0)) w' := by
 obtain ⟨ad, rfl, h1⟩ := ji h hB hb hi;exact ⟨ad, rfl, fun w' hb' => zC _ _ _ (h1 w' hb')⟩
theorem zHv (w : World) (B : Nat) (A : Option Addr) (c : Nat) (l : List Nte) (hl : RdN w B A l) (hB : B ≤ w.heap.size) (hn : l.length ≤ 4611686018427387904) :
 Calls Tryz.prog 116 #[.slice A l.length c, .func (.func 117) #[] #[]] w fun e w' => e = .returned (.bool (xE yK l)) ∧ Below w.heap.size w w' := by
 obtain ⟨r, hr⟩ : ∃ r, r = xE yK l := ⟨_, rfl⟩
 rw [← hr];have HR := hid hr;have HL := hid hl;have HBB := hid hB;obtain ⟨n, hn0⟩ : ∃ n, n = l.length := ⟨_, rfl⟩
 rw [← hn0] at hn ⊢;have HN := hid hn0;clear hr hl hB hn0;go_enter Tryz.func116, Tryz.ntmps116
 go_wp2
 go_loopw [5] (fun i wx => ∃ j : Nat, 1 ≤ j ∧ (j ≤ n ∨ j = 1) ∧ i = .int .i64 j ∧ Hid (Below w.heap.size w wx) ∧ Hid (∀ t, t + 1 < j → yK (l.getD t zF) (l.getD (t + 1) zF) = true)) (fun i _ => n - (zD i).toNat)
 case atStart => exact ⟨1, Nat.le_refl _, Or.inr rfl, rfl, hid (Below.refl _ _), hid (fun t ht => by omega)⟩
 case round =>
  obtain ⟨j, hj1, hj2, rfl, HW, HT⟩ := hrel;by_cases hlt : j < n
  ·
   obtain ⟨jp, hjp⟩ : ∃ jp, j = jp + 1 := ⟨j - 1, by omega⟩
   have e1 : IntKind.i64.wrap ((j : Int) - 1) = (jp : Int) := by rw [IntKind.wrap_i64]; omega
   have r1 : IntKind.i64.wrap ((j : Int) + 1) = ((j + 1 : Nat) : Int) := by rw [IntKind.wrap_i64]; omega
   obtain ⟨x, hx⟩ : ∃ x, x = l.getD jp zF := ⟨_, rfl⟩
   obtain ⟨y, hy⟩ : ∃ y, y = l.getD j zF := ⟨_, rfl⟩
   obtain ⟨ad, rfl, lx⟩ := yt HL.out HBB.out HW.out (i := jp) (by rw [← HN.out]; omega);obtain ⟨ad', e', ly⟩ := yt HL.out HBB.out HW.out (i := j) (by rw [← HN.out]; omega);injection e' with e';subst e';rw [← hx] at lx;rw [← hy] at ly;have b1 : j < n := hlt;have b2 : jp < n := by omega
   obtain ⟨q, hq⟩ : ∃ q : Int, q = (if yK x y = true then -1 else if yK y x = true then 1 else 0) := ⟨_, rfl⟩
   have hcall : ∀ w', Below wr.heap.size wr w' → Calls Tryz.prog 117 #[.agg x.cells, .agg y.cells] w' fun e w'' => e = .returned (.int .i64 q) ∧ Below wr.heap.size wr w'' := fun w' hb => (zKv w' x y).mono fun e w'' h => ⟨by rw [hq]; exact h.1, zB hb h.2⟩
   have HXY := hid (And.intro hx (And.intro hy (And.intro hq hjp)));clear hx hy hq hjp;go_wp2_with fail
   refine yo ?_;refine zA (.func (.func 117) #[] #[]) ?_;refine zA (.slice (some ad) n c) ?_;refine zA (.int .i64 (j : Int)) ?_;refine zA (.int .i64 (jp : Int)) ?_ (hC := fun _ _ => by simp [go_sem, e1]);refine zA (.pointer (some (ad.add (jp * 10)))) ?_ (hC := fun _ _ => by simp [go_sem, b2]);refine zL 55 (ad.add (jp * 10)) (.agg x.cells) (fun w' hb => lx _ hb) ?_;refine zA (.slice (some ad) n c) ?_;refine zA (.int .i64 (j : Int)) ?_;refine zA (.pointer (some (ad.add (j * 10)))) ?_ (hC := fun _ _ => by simp [go_sem, b1]);refine zL 55 (ad.add (j * 10)) (.agg y.cells) (fun w' hb => ly _ hb) ?_;refine zf (by kernel_rfl) (.int .i64 q) 117 (#[.agg x.cells, .agg y.cells]) (fun _ => by go_simp; done) (fun w' hb => hcall _ hb) ?_;simp only [Act.put, sS];refine zA (.bool (decide (0 ≤ q))) ?_;refine wpQuiet_nil ?_;intro w2 hb2;have W2 := hid (zB HW.out hb2);clear lx ly hcall hb2 e1 b2;rcases hl : yK x y with _ | _
   ·
    have hneg : 0 ≤ q := by rw [HXY.out.2.2.1, hl]; simp; split <;> omega
    have HF : Hid (r = false) := by
     refine hid ?_;rw [HR.out, zAL yK l zF (i := jp) (by have := HXY.out.2.2.2; have := HN.out; omega)];rw [← HXY.out.1, ← HXY.out.2.2.2, ← HXY.out.2.1];exact hl
    clear hl;go_wp2
    go_ret;rw [HF.out];exact ⟨rfl, W2.out⟩
   have hneg : ¬ 0 ≤ q := by rw [HXY.out.2.2.1, hl]; simp
   have HT2 : Hid (∀ t, t + 1 < j + 1 → yK (l.getD t zF) (l.getD (t + 1) zF) = true) := by
    exact m85
   exact zL5
  have HF : Hid (r = true) := by
   refine hid ?_;rw [HR.out];exact kf yK l zF fun t ht => HT.out t (by have := HN.out; omega)
  (go_wp2);go_ret;rw [HF.out];exact ⟨rfl, HW.out⟩
theorem zHE (w : World) (B : Nat) (A : Option Addr) (c : Nat) (l : List Par) (hl : RdP w B A l) (hB : B ≤ w.heap.size) (hn : l.length ≤ 4611686018427387904) :
 Calls Tryz.prog 118 #[.slice A l.length c, .func (.func 119) #[] #[]] w fun e w' => e = .returned (.bool (xE zv l)) ∧ Below w.heap.size w w' := by
 obtain ⟨r, hr⟩ : ∃ r, r = xE zv l := ⟨_, rfl⟩
 rw [← hr];have HR := hid hr;have HL := hid hl;have HBB := hid hB;obtain ⟨n, hn0⟩ : ∃ n, n = l.length := ⟨_, rfl⟩
 rw [← hn0] at hn ⊢;have HN := hid hn0;clear hr hl hB hn0;go_enter Tryz.func118, Tryz.ntmps118
 go_wp2
 go_loopw [5] (fun i wx => ∃ j : Nat, 1 ≤ j ∧ (j ≤ n ∨ j = 1) ∧ i = .int .i64 j ∧ Hid (Below w.heap.size w wx) ∧ Hid (∀ t, t + 1 < j → zv (l.getD t zt) (l.getD (t + 1) zt) = true)) (fun i _ => n - (zD i).toNat)
 case atStart => exact ⟨1, Nat.le_refl _, Or.inr rfl, rfl, hid (Below.refl _ _), hid (fun t ht => by omega)⟩
 case round =>
  obtain ⟨j, hj1, hj2, rfl, HW, HT⟩ := hrel;by_cases hlt : j < n
  ·
   obtain ⟨jp, hjp⟩ : ∃ jp, j = jp + 1 := ⟨j - 1, by omega⟩
   have e1 : IntKind.i64.wrap ((j : Int) - 1) = (jp : Int) := by rw [IntKind.wrap_i64]; omega
   have r1 : IntKind.i64.wrap ((j : Int) + 1) = ((j + 1 : Nat) : Int) := by rw [IntKind.wrap_i64]; omega
   obtain ⟨x, hx⟩ : ∃ x, x = l.getD jp zt := ⟨_, rfl⟩
   obtain ⟨y, hy⟩ : ∃ y, y = l.getD j zt := ⟨_, rfl⟩
   obtain ⟨ad, rfl, lx⟩ := kC HL.out HBB.out HW.out (i := jp) (by rw [← HN.out]; omega);obtain ⟨ad', e', ly⟩ := kC HL.out HBB.out HW.out (i := j) (by rw [← HN.out]; omega);injection e' with e';subst e';rw [← hx] at lx;rw [← hy] at ly;have b1 : j < n := hlt;have b2 : jp < n := by omega
   obtain ⟨q, hq⟩ : ∃ q : Int, q = (if zv x y = true then -1 else if zv y x = true then 1 else 0) := ⟨_, rfl⟩
   have hcall : ∀ w', Below wr.heap.size wr w' → Calls Tryz.prog 119 #[.agg x.cells, .agg y.cells] w' fun e w'' => e = .returned (.int .i64 q) ∧ Below wr.heap.size wr w'' := fun w' hb => (zKK w' x y).mono fun e w'' h => ⟨by rw [hq]; exact h.1, zB hb h.2⟩
   have HXY := hid (And.intro hx (And.intro hy (And.intro hq hjp)));clear hx hy hq hjp;go_wp2_with fail
   refine yo ?_;refine zA (.func (.func 119) #[] #[]) ?_;refine zA (.slice (some ad) n c) ?_;refine zA (.int .i64 (j : Int)) ?_;refine zA (.int .i64 (jp : Int)) ?_ (hC := fun _ _ => by simp [go_sem, e1]);refine zA (.pointer (some (ad.add (jp * 9)))) ?_ (hC := fun _ _ => by simp [go_sem, b2]);refine zL 57 (ad.add (jp * 9)) (.agg x.cells) (fun w' hb => lx _ hb) ?_;refine zA (.slice (some ad) n c) ?_;refine zA (.int .i64 (j : Int)) ?_;refine zA (.pointer (some (ad.add (j * 9)))) ?_ (hC := fun _ _ => by simp [go_sem, b1]);refine zL 57 (ad.add (j * 9)) (.agg y.cells) (fun w' hb => ly _ hb) ?_;refine zf (by kernel_rfl) (.int .i64 q) 119 (#[.agg x.cells, .agg y.cells]) (fun _ => by go_simp; done) (fun w' hb => hcall _ hb) ?_;simp only [Act.put, sS];refine zA (.bool (decide (0 ≤ q))) ?_;refine wpQuiet_nil ?_;intro w2 hb2;have W2 := hid (zB HW.out hb2);clear lx ly hcall hb2 e1 b2;rcases hl : zv x y with _ | _
   ·
    have hneg : 0 ≤ q := by rw [HXY.out.2.2.1, hl]; simp; split <;> omega
    have HF : Hid (r = false) := by
     refine hid ?_;rw [HR.out, zAL zv l zt (i := jp) (by have := HXY.out.2.2.2; have := HN.out; omega)];rw [← HXY.out.1, ← HXY.out.2.2.2, ← HXY.out.2.1];exact hl
    clear hl;go_wp2
    go_ret;rw [HF.out];exact ⟨rfl, W2.out⟩
   have hneg : ¬ 0 ≤ q := by rw [HXY.out.2.2.1, hl]; simp
   have HT2 : Hid (∀ t, t + 1 < j + 1 → zv (l.getD t zt) (l.getD (t + 1) zt) = true) := by
    exact m85
   exact zL5
  have HF : Hid (r = true) := by
   refine hid ?_;rw [HR.out];exact kf zv l zt fun t ht => HT.out t (by have := HN.out; omega)
  (go_wp2);go_ret;rw [HF.out];exact ⟨rfl, HW.out⟩
theorem zHg (w : World) (B : Nat) (A : Option Addr) (c : Nat) (l : List Int) (hl : RdC w B A (itg l)) (hB : B ≤ w.heap.size) (hn : l.length ≤ 4611686018427387904) :
 Calls Tryz.prog 120 #[.slice A l.length c, .func (.func 67) #[] #[]] w fun e w' => e = .returned (.bool (xE ltI l)) ∧ Below w.heap.size w w' := by
 obtain ⟨r, hr⟩ : ∃ r, r = xE ltI l := ⟨_, rfl⟩
 rw [← hr];have HR := hid hr;have HL := hid hl;have HBB := hid hB;obtain ⟨n, hn0⟩ : ∃ n, n = l.length := ⟨_, rfl⟩
 rw [← hn0] at hn ⊢;have HN := hid hn0;clear hr hl hB hn0;go_enter Tryz.func120, Tryz.ntmps120
 go_wp2
 go_loopw [5] (fun i wx => ∃ j : Nat, 1 ≤ j ∧ (j ≤ n ∨ j = 1) ∧ i = .int .i64 j ∧ Hid (Below w.heap.size w wx) ∧ Hid (∀ t, t + 1 < j → ltI (l.getD t 0) (l.getD (t + 1) 0) = true)) (fun i _ => n - (zD i).toNat)
 case atStart => exact ⟨1, Nat.le_refl _, Or.inr rfl, rfl, hid (Below.refl _ _), hid (fun t ht => by omega)⟩
 case round =>
  obtain ⟨j, hj1, hj2, rfl, HW, HT⟩ := hrel;by_cases hlt : j < n
  ·
   obtain ⟨jp, hjp⟩ : ∃ jp, j = jp + 1 := ⟨j - 1, by omega⟩
   have e1 : IntKind.i64.wrap ((j : Int) - 1) = (jp : Int) := by rw [IntKind.wrap_i64]; omega
   have r1 : IntKind.i64.wrap ((j : Int) + 1) = ((j + 1 : Nat) : Int) := by rw [IntKind.wrap_i64]; omega
   obtain ⟨x, hx⟩ : ∃ x, x = l.getD jp 0 := ⟨_, rfl⟩
   obtain ⟨y, hy⟩ : ∃ y, y = l.getD j 0 := ⟨_, rfl⟩
   obtain ⟨ad, rfl, lx⟩ := zBV HL.out HBB.out HW.out (i := jp) (by rw [← HN.out]; omega);obtain ⟨ad', e', ly⟩ := zBV HL.out HBB.out HW.out (i := j) (by rw [← HN.out]; omega);injection e' with e';subst e';rw [← hx] at lx;rw [← hy] at ly;have b1 : j < n := hlt;have b2 : jp < n := by omega
   obtain ⟨q, hq⟩ : ∃ q : Int, q = (if ltI x y = true then -1 else if ltI y x = true then 1 else 0) := ⟨_, rfl⟩
   have hcall : ∀ w', Below wr.heap.size wr w' → Calls Tryz.prog 67 #[.int .i64 x, .int .i64 y] w' fun e w'' => e = .returned (.int .i64 q) ∧ Below wr.heap.size wr w'' := fun w' hb => (zGp x y w').mono fun e w'' h => ⟨by rw [hq]; exact h.1, by rw [h.2]; exact hb⟩
   have HXY := hid (And.intro hx (And.intro hy (And.intro hq hjp)));clear hx hy hq hjp;go_wp2_with fail
   refine yo ?_;refine zA (.func (.func 67) #[] #[]) ?_;refine zA (.slice (some ad) n c) ?_;refine zA (.int .i64 (j : Int)) ?_;refine zA (.int .i64 (jp : Int)) ?_ (hC := fun _ _ => by simp [go_sem, e1]);refine zA (.pointer (some (ad.add jp))) ?_ (hC := fun _ _ => by simp [go_sem, b2]);refine zL 3 (ad.add jp) (.int .i64 x) (fun w' hb => lx _ hb) ?_;refine zA (.slice (some ad) n c) ?_;refine zA (.int .i64 (j : Int)) ?_;refine zA (.pointer (some (ad.add j))) ?_ (hC := fun _ _ => by simp [go_sem, b1]);refine zL 3 (ad.add j) (.int .i64 y) (fun w' hb => ly _ hb) ?_;refine zf (by kernel_rfl) (.int .i64 q) 67 (#[.int .i64 x, .int .i64 y]) (fun _ => by go_simp; done) (fun w' hb => hcall _ hb) ?_;simp only [Act.put, sS];refine zA (.bool (decide (0 ≤ q))) ?_;refine wpQuiet_nil ?_;intro w2 hb2;have W2 := hid (zB HW.out hb2);clear lx ly hcall hb2 e1 b2;rcases hl : ltI x y with _ | _
   ·
    have hneg : 0 ≤ q := by rw [HXY.out.2.2.1, hl]; simp; split <;> omega
    have HF : Hid (r = false) := by
     refine hid ?_;rw [HR.out, zAL ltI l 0 (i := jp) (by have := HXY.out.2.2.2; have := HN.out; omega)];rw [← HXY.out.1, ← HXY.out.2.2.2, ← HXY.out.2.1];exact hl
    clear hl;go_wp2
    go_ret;rw [HF.out];exact ⟨rfl, W2.out⟩
   have hneg : ¬ 0 ≤ q := by rw [HXY.out.2.2.1, hl]; simp
   have HT2 : Hid (∀ t, t + 1 < j + 1 → ltI (l.getD t 0) (l.getD (t + 1) 0) = true) := by
    exact m85
   exact zL5
  have HF : Hid (r = true) := by
   refine hid ?_;rw [HR.out];exact kf ltI l 0 fun t ht => HT.out t (by have := HN.out; omega)
  (go_wp2);go_ret;rw [HF.out];exact ⟨rfl, HW.out⟩
def Vc.sm (v : Vc) (m : Nat) (k : Nat) : Prop := ∀ j, j < k → -(m : Int) ≤ v.at j ∧ v.at j ≤ m
theorem zJW (v : Vc) (m : Nat) : v.le m = true ↔ v.sm m 6 := by
 unfold Vc.le Vc.sm;simp only [Bool.and_eq_true, decide_eq_true_eq];constructor
 · intro h j hj;rcases (show j = 0 ∨ j = 1 ∨ j = 2 ∨ j = 3 ∨ j = 4 ∨ j = 5 by omega) with rfl | rfl | rfl | rfl | rfl | rfl <;> simp only [Vc.at] <;> omega
 intro h;have h0 := h 0 (by omega); have h1 := h 1 (by omega); have h2 := h 2 (by omega); have h3 := h 3 (by omega); have h4 := h 4 (by omega); have h5 := h 5 (by omega);simp only [Vc.at] at h0 h1 h2 h3 h4 h5;omega
theorem zCy (w : World) (v : Vc) (m : Nat) (hm : m ≤ 1000) :
 Calls Tryz.prog 115 #[.agg v.cells, .int .i64 (m : Int)] w fun e w' => e = .returned (.bool (v.le m)) ∧ Below w.heap.size w w' := by
 have rm : IntKind.i64.wrap (-(m : Int)) = -(m : Int) := by rw [IntKind.wrap_i64]; omega
 have c0 : (w.alloc (.cells v.cells 53)).cell? ⟨w.heap.size, 0, none⟩ = some (.int .i64 v.a) := (Blk.new w _ _).cell 0;have c1 : (w.alloc (.cells v.cells 53)).cell? ⟨w.heap.size, 1, none⟩ = some (.int .i64 v.b) := (Blk.new w _ _).cell 1;have c2 : (w.alloc (.cells v.cells 53)).cell? ⟨w.heap.size, 2, none⟩ = some (.int .i64 v.c) := (Blk.new w _ _).cell 2;have c3 : (w.alloc (.cells v.cells 53)).cell? ⟨w.heap.size, 3, none⟩ = some (.int .i64 v.d) := (Blk.new w _ _).cell 3;have c4 : (w.alloc (.cells v.cells 53)).cell? ⟨w.heap.size, 4, none⟩ = some (.int .i64 v.e) := (Blk.new w _ _).cell 4;have c5 : (w.alloc (.cells v.cells 53)).cell? ⟨w.heap.size, 5, none⟩ = some (.int .i64 v.f) := (Blk.new w _ _).cell 5;go_enter Tryz.func115, Tryz.ntmps115
 go_wp2
 clear c0 c1 c2 c3 c4 c5;go_loopw [8] (fun i wx => ∃ k : Nat, k ≤ 6 ∧ i = .int .i64 k ∧ Hid (Below w.heap.size w wx) ∧ Hid (v.sm m k)) (fun i _ => 6 - (zD i).toNat)
 case atStart => exact ⟨0, by omega, rfl, hid ((Below.refl _ _).alloc (Nat.le_refl _) _), hid (fun j hj => by omega)⟩
 case round =>
  obtain ⟨k, hk, rfl, HB, HK⟩ := hrel;by_cases hlt : k < 6
  ·
   have hix := zEy v k hlt;obtain ⟨x, hx⟩ : ∃ x, v.at k = x := ⟨_, rfl⟩
   rw [hx] at hix;by_cases hs : -(m : Int) ≤ x ∧ x ≤ m
   ·
    have HK2 : Hid (v.sm m (k + 1)) := hid fun j hj => by
     exact zNQ
    obtain ⟨h1, h2⟩ := hs;have n1 : ¬ x < -(m : Int) := by omega
    have n2 : ¬ (m : Int) < x := by omega
    clear hx h1 h2;go_wp2
    go_roundw
    case rel => exact ⟨k + 1, by omega, by go_num, HB, HK2⟩
    case measure => simp [zD]; omega
   have HR : Hid (v.le m = false) := by
    exact zNF
   clear hx;by_cases n1 : x < -(m : Int)
   ·
    clear hs;go_wp2
    go_ret;rw [HR.out];exact ⟨rfl, HB.out⟩
   have n2 : (m : Int) < x := by omega
   clear hs;go_wp2
   go_ret;rw [HR.out];exact ⟨rfl, HB.out⟩
  have HR : Hid (v.le m = true) := hid ((zJW v m).2 fun j hj => HK.out j (by omega));(go_wp2);go_ret;rw [HR.out];exact ⟨rfl, HB.out⟩
open Go.RowKit Go.Deep
theorem yB {ops : Array Oper} {rest : List Oper} {o : Oper} {a : Act} {w : World} {Q : Exit → Act → World → Prop} (hgd : o.guard = none) (ty : TypeId) (x : Operand) (ho : o.op = .load ty x) (ad : Addr) (cs : Array Value) (hx : a.eval x = .pointer (some ad))
 (hC : (Instr.loadAt ty (.pointer (some ad))).run Tryz.prog w = .ok (.agg cs) w) (h : wpList Tryz.prog ops Q rest (a.put o.dst (.agg cs)) w) : wpList Tryz.prog ops Q (o :: rest) a w := by
 refine wpList_plain hgd fun _ hK => ?_
 unfold Oper.wp execOp;simp only [ho, hx, Sem.run_bind, hC, Result.andThen_ok, Sem.run_pure];exact hK _ _ h
structure kU (w : World) (B : Nat) (v : Value) (s : Scr) : Prop where
 ex : ∃ An cn Ap cp Aq cq, v = .agg #[.int .i64 s.voices, .slice An s.notes.length cn, .slice Ap s.pairs.length cp, .slice Aq s.cad.length cq] ∧ RdN w B An s.notes ∧ RdP w B Ap s.pairs ∧ RdC w B Aq (itg s.cad)
 le : B ≤ w.heap.size
 ln : s.notes.length ≤ 4611686018427387904
 lp : s.pairs.length ≤ 4611686018427387904
 lc : s.cad.length ≤ 4611686018427387904
theorem kU.up {w w' : World} {B : Nat} {v : Value} {s : Scr} (h : kU w B v s) (b : Below w.heap.size w w') : kU w' B v s := by
 obtain ⟨An, cn, Ap, cp, Aq, cq, e, h1, h2, h3⟩ := h.ex;have b' := b.mono h.le;exact ⟨⟨An, cn, Ap, cp, Aq, cq, e, h1.below b', h2.below b', h3.below b'⟩, Nat.le_trans h.le b.size, h.ln, h.lp, h.lc⟩
theorem zID (w : World) (V : Int) (An Ap Aq : Option Addr) (n p q cn cp cq : Nat) (hn : n ≤ 4611686018427387904) (hp : p ≤ 4611686018427387904) (hq : q ≤ 4611686018427387904) :
 Calls Tryz.prog 74 #[.agg #[.int .i64 V, .slice An n cn, .slice Ap p cp, .slice Aq q cq]] w fun e w' => e = .returned (.bool (decide (1 ≤ V) && decide (V ≤ 8) && decide (n ≤ 200) && decide (p ≤ 400) && decide (q < 16))) ∧ Below w.heap.size w w' := by
 obtain ⟨r, hr⟩ : ∃ r, r = (decide (1 ≤ V) && decide (V ≤ 8) && decide (n ≤ 200) && decide (p ≤ 400) && decide (q < 16)) := ⟨_, rfl⟩
 rw [← hr];have B1 := hid ((Below.refl w.heap.size w).alloc (Nat.le_refl _) (.cells #[.int .i64 V, .slice An n cn, .slice Ap p cp, .slice Aq q cq] 26));by_cases h0 : ¬ 1 ≤ V
 · obtain rfl : r = false := by rw [hr]; simp [h0]
   exact m69
 skip
 by_cases h1 : ¬ V ≤ 8
 · obtain rfl : r = false := by rw [hr]; simp [h0, h1]
   exact m69
 skip
 by_cases h2 : ¬ n ≤ 200
 · obtain rfl : r = false := by rw [hr]; simp [h0, h1, h2]
   exact m69
 skip
 by_cases h3 : ¬ p ≤ 400
 · obtain rfl : r = false := by rw [hr]; simp [h0, h1, h2, h3]
   exact m69
 skip
 by_cases h4 : ¬ q < 16
 · obtain rfl : r = false := by rw [hr]; simp [h0, h1, h2, h3, h4]
   exact m69
 skip
 have g0 := Decidable.not_not.1 h0;have g1 := Decidable.not_not.1 h1;have g2 := Decidable.not_not.1 h2;have g3 := Decidable.not_not.1 h3;have g4 := Decidable.not_not.1 h4;clear h0 h1 h2 h3 h4;obtain rfl : r = true := by rw [hr]; simp [g0, g1, g2, g3, g4]
 clear hr
 skip
 go_enter Tryz.func74, Tryz.ntmps74
 go_wp2
 go_ret;exact ⟨by first | rfl | (simp; done) | (simp; omega), B1.out⟩
theorem xN {α : Type} (p : α → Bool) (l : List α) (d : α) : l.all p = true ↔ ∀ t, t < l.length → p (l.getD t d) = true := by
 rw [List.all_eq_true];constructor
 · intro h t ht;exact h _ (by rw [zN ht]; exact List.getElem_mem ht)
 intro h x hx;obtain ⟨t, ht, rfl⟩ := List.getElem_of_mem hx;have := h t ht
 rwa [zN ht] at this
def jd (c : Int) : Bool := decide (1 ≤ c) && decide (c < 100000)
theorem zH2 (s : Scr) : zCD s = (s.cad.all jd && xE ltI s.cad) := rfl
theorem zFu (w : World) (B : Nat) (v : Value) (s : Scr) (h : kU w B v s) : Calls Tryz.prog 78 #[v] w fun e w' => e = .returned (.bool (zCD s)) ∧ Below w.heap.size w w' := by
 obtain ⟨r, hr⟩ : ∃ r, r = zCD s := ⟨_, rfl⟩
 rw [← hr];have HR := hid hr;obtain ⟨An, cn, Ap, cp, Aq, cq, rfl, -, -, h3⟩ := h.ex;have HQ := hid h3;have HBB := hid h.le;obtain ⟨V, hV⟩ : ∃ V, V = s.voices := ⟨_, rfl⟩
 obtain ⟨cs, hcs⟩ : ∃ cs, cs = s.cad := ⟨_, rfl⟩
 obtain ⟨nn, hnn⟩ : ∃ nn, nn = s.notes.length := ⟨_, rfl⟩
 obtain ⟨np, hnp⟩ : ∃ np, np = s.pairs.length := ⟨_, rfl⟩
 have hln := h.lc;rw [← hV, ← hcs, ← hnn, ← hnp];rw [← hcs] at HQ hln;rw [zH2, ← hcs] at HR;obtain ⟨n, hn⟩ : ∃ n, n = cs.length := ⟨_, rfl⟩
 rw [← hn] at hln ⊢;have HN := hid hn;clear hr h3 hV hcs hnn hnp hn h;have S0 := hid (Blk.new w 26 #[.int .i64 V, .slice An nn cn, .slice Ap np cp, .slice Aq n cq]);have B0 := hid ((Below.refl w.heap.size w).alloc (Nat.le_refl _) (.cells #[.int .i64 V, .slice An nn cn, .slice Ap np cp, .slice Aq n cq] 26));obtain ⟨w0, hw0⟩ : ∃ w0, w0 = w.alloc (.cells #[.int .i64 V, .slice An nn cn, .slice Ap np cp, .slice Aq n cq] 26) := ⟨_, rfl⟩
 rw [← hw0] at S0 B0;have s3 := S0.out.cell 3;go_enter Tryz.func78, Tryz.ntmps78
 go_upto_region 1 with (fail)
 rw [← hw0];clear hw0;go_wp2
 go_loopw [8] (fun i wx => ∃ j : Nat, j ≤ n ∧ i = .int .i64 j ∧ Hid (wx = w0) ∧ Hid (∀ t, t < j → jd (cs.getD t 0) = true)) (fun i _ => n - (zD i).toNat)
 case atStart => exact ⟨0, Nat.zero_le _, rfl, hid rfl, hid fun t ht => by omega⟩
 case round =>
  obtain ⟨j, hj, rfl, HW, HT⟩ := hrel;obtain rfl : wr = w0 := HW.out;by_cases hlt : j < n
  ·
   obtain ⟨ad, rfl, hc⟩ := ji HQ.out HBB.out B0.out (i := j) (by rw [← HN.out]; exact hlt);have c0 := hc _ (Below.refl _ _);obtain ⟨c, hcc⟩ : ∃ c, cs.getD j 0 = c := ⟨_, rfl⟩
   rw [hcc] at c0;have HC := hid hcc;clear hcc hc;have r1 : IntKind.i64.wrap ((j : Int) + 1) = ((j + 1 : Nat) : Int) := by rw [IntKind.wrap_i64]; omega
   by_cases h0 : c < 1
   · exact m95
   skip
   by_cases h1 : 100000 ≤ c
   · exact m95
   skip
   have HT2 : Hid (∀ t, t < j + 1 → jd (cs.getD t 0) = true) := by
    refine hid fun t ht => ?_
    rcases Nat.lt_or_ge t j with h | h
    · exact HT.out t h
    obtain rfl : t = j := by omega
    rw [HC.out];simp only [jd, Bool.and_eq_true, decide_eq_true_eq];omega
   go_wp2
   go_roundw
   case rel => exact ⟨j + 1, by omega, by go_num, by first | exact hid rfl | exact hid trivial, HT2⟩
   case measure => simp [zD]; omega
  have HA : Hid (cs.all jd = true) := hid ((xN jd cs 0).2 fun t ht => HT.out t (by have := HN.out; omega));have HI := hid (zHg wr B Aq cq cs (HQ.out.below (B0.out.mono HBB.out)) (Nat.le_trans HBB.out B0.out.size) (by rw [← HN.out]; omega));rw [← HN.out] at HI;have HF : Hid (r = xE ltI cs) := hid (by rw [HR.out, HA.out, Bool.true_and]);have s3 := S0.out.cell 3;(go_wp2_with (refine HI.out.mono ?_; rintro e w2 ⟨rfl, b2⟩));go_ret;rw [HF.out];exact ⟨rfl, zB B0.out b2⟩
theorem zAY (s : Scr) : vQ s = (s.notes.all (qd s) && xE yK s.notes) := rfl
theorem zJe (w : World) (B : Nat) (v : Value) (s : Scr) (h : kU w B v s) : Calls Tryz.prog 75 #[v] w fun e w' => e = .returned (.bool (vQ s)) ∧ Below w.heap.size w w' := by
 obtain ⟨r, hr⟩ : ∃ r, r = vQ s := ⟨_, rfl⟩
 rw [← hr];have HR := hid hr;obtain ⟨An, cn, Ap, cp, Aq, cq, rfl, h1, -, -⟩ := h.ex;have HQ := hid h1;have HBB := hid h.le;obtain ⟨V, hV⟩ : ∃ V, V = s.voices := ⟨_, rfl⟩
 obtain ⟨l, hl⟩ : ∃ l, l = s.notes := ⟨_, rfl⟩
 obtain ⟨nc, hnc⟩ : ∃ nc, nc = s.cad.length := ⟨_, rfl⟩
 obtain ⟨np, hnp⟩ : ∃ np, np = s.pairs.length := ⟨_, rfl⟩
 have hln := h.ln;rw [← hV, ← hl, ← hnc, ← hnp];rw [← hl] at HQ hln;rw [zAY, ← hl] at HR;obtain ⟨n, hn⟩ : ∃ n, n = l.length := ⟨_, rfl⟩
 rw [← hn] at hln ⊢;have HN := hid hn;have HVV := hid hV;clear hr h1 hV hl hnc hnp hn h;have S0 := hid (Blk.new w 26 #[.int .i64 V, .slice An n cn, .slice Ap np cp, .slice Aq nc cq]);have B0 := hid ((Below.refl w.heap.size w).alloc (Nat.le_refl _) (.cells #[.int .i64 V, .slice An n cn, .slice Ap np cp, .slice Aq nc cq] 26));obtain ⟨w0, hw0⟩ : ∃ w0, w0 = w.alloc (.cells #[.int .i64 V, .slice An n cn, .slice Ap np cp, .slice Aq nc cq] 26) := ⟨_, rfl⟩
 rw [← hw0] at S0 B0;have s1 := S0.out.cell 1;go_enter Tryz.func75, Tryz.ntmps75
 go_upto_region 1 with (fail)
 rw [← hw0];clear hw0;go_wp2
 clear s1;go_loopw [8] (fun i wx => ∃ j : Nat, j ≤ n ∧ i = .int .i64 j ∧ Hid (Below w0.heap.size w0 wx) ∧ Hid (∀ t, t < j → qd s (l.getD t zF) = true)) (fun i _ => n - (zD i).toNat)
 case atStart => exact ⟨0, Nat.zero_le _, rfl, hid (Below.refl _ _), hid fun t ht => by omega⟩
 case round =>
  obtain ⟨j, hj, rfl, HW, HT⟩ := hrel;have WW := hid (zB B0.out HW.out);have SS := hid (S0.out.below HW.out S0.out.lt);by_cases hlt : j < n
  ·
   obtain ⟨ad, rfl, hld⟩ := yt HQ.out HBB.out WW.out (i := j) (by rw [← HN.out]; exact hlt);have hl0 := hld _ (Below.refl _ _);obtain ⟨x, hx⟩ : ∃ x, l.getD j zF = x := ⟨_, rfl⟩
   rw [hx] at hl0;have HX := hid hx;clear hx hld;have r1 : IntKind.i64.wrap ((j : Int) + 1) = ((j + 1 : Nat) : Int) := by rw [IntKind.wrap_i64]; omega
   obtain ⟨qb, hqb⟩ : ∃ qb, qb = x.place.le 24 := ⟨_, rfl⟩
   have HQB := hid hqb
   have HBD : Hid (∀ w1 : World, Calls Tryz.prog 115 #[.agg x.place.cells, .int .i64 24] w1 fun e w' => e = .returned (.bool qb) ∧ Below w1.heap.size w1 w') := by
    rw [hqb];exact hid fun w1 => zCy w1 x.place 24 (by omega)
   clear hqb;have hal := x.all_one;go_upto_region 4 with (first | (refine yB rfl 55 (.tmp 10) rfl _ x.cells rfl hl0 ?_; try simp only [Act.put, sS]) | (refine zI rfl 55 (.tmp 4) (.tmp 11) rfl wr.heap.size x.cells rfl rfl 55 zF.cells (Blk.new wr _ _) zx rfl hal ?_; intro w4 b4 g4 z4; replace b4 := hid b4; replace g4 := hid g4; replace z4 := hid z4; try simp only [Act.put, sS]))
   have B4 : Hid (Below wr.heap.size wr w4) := hid (((Below.refl _ _).alloc (Nat.le_refl _) _).grown g4.out (by simp) (fun b e => by injection e with e; omega));have W4 := hid (zB WW.out B4.out);have W40 := hid (zB HW.out B4.out);have s0 := (SS.out.below B4.out SS.out.lt).cell 0;have c0 := b4.out.cell 0;have c1 := b4.out.cell 1;have c2 := b4.out.cell 2;have c3 := b4.out.cell 3;have c4 := b4.out.cell 4;have c5 := b4.out.cell 5;have c6 := b4.out.cell 6;have c7 := b4.out.cell 7;have c8 := b4.out.cell 8;have c9 := b4.out.cell 9;by_cases h0 : x.voice < 0
   · exact m32
   skip
   by_cases h1 : V ≤ x.voice
   · exact m32
   skip
   by_cases h2 : x.start < 0
   · exact m32
   skip
   by_cases h3 : x.stop ≤ x.start
   · exact m32
   skip
   by_cases h4 : 100000 < x.stop
   · exact m32
   skip
   by_cases h5 : qb = false
   ·
    have HF : Hid (r = false) := by
     refine hid ?_;rw [HR.out, Bool.and_eq_false_iff]
     left
     rw [Bool.eq_false_iff];intro e;have := (xN (qd s) l zF).1 e j (by rw [← HN.out]; exact hlt);rw [HX.out] at this;simp only [qd, Bool.and_eq_true, decide_eq_true_eq, ← HVV.out, ← HQB.out] at this;rw [this.2] at h5;cases h5
    skip
    subst h5;exact zOk
   skip
   have h6 : qb = true := by cases qb <;> simp_all
   subst h6
   have HT2 : Hid (∀ t, t < j + 1 → qd s (l.getD t zF) = true) := by
    refine hid fun t ht => ?_
    rcases Nat.lt_or_ge t j with h | h
    · exact HT.out t h
    obtain rfl : t = j := by omega
    rw [HX.out];simp only [qd, Bool.and_eq_true, decide_eq_true_eq, ← HVV.out, ← HQB.out, and_true];omega
   go_wp2_with (refine (HBD.out _).mono ?_; rintro e w5 ⟨rfl, b5⟩)
   go_roundw
   case rel => exact ⟨j + 1, by omega, by go_num, hid (zB W40.out b5), HT2⟩
   case measure => simp [zD]; omega
  have HA : Hid (l.all (qd s) = true) := hid ((xN (qd s) l zF).2 fun t ht => HT.out t (by have := HN.out; omega));have HI := hid (zHv wr B An cn l (HQ.out.below (WW.out.mono HBB.out)) (Nat.le_trans HBB.out WW.out.size) (by rw [← HN.out]; omega));rw [← HN.out] at HI;have HF : Hid (r = xE yK l) := hid (by rw [HR.out, HA.out, Bool.true_and]);have s1 := SS.out.cell 1;exact zLX
open Go.RowKit Go.Deep
theorem zLV (d : Nat) (a b : Int) (w : World) : (Op.equalIn (d + 1) 3 (.int .i64 a) (.int .i64 b)).run Tryz.prog w = .ok (a == b) w := by
 simp [Op.equalIn, run_underlying Tryz.underlying3]
theorem zEr (d : Nat) (xs ys : Array Value) (w : World) : ∀ (is : List Nat) (f g : Nat → Int), (∀ i ∈ is, xs[i]? = some (.int .i64 (f i)) ∧ ys[i]? = some (.int .i64 (g i))) →
 (Op.eqItems (d + 1) 3 1 xs ys is).run Tryz.prog w = .ok (decide (∀ i ∈ is, f i = g i)) w
 | [], f, g, h => by simp [Op.eqItems]
 | i :: is, f, g, h => by
  have hi := h i (by simp);(have hp : Program.plainKey Tryz.prog 3 = true := by kernel_rfl);have p1 := run_part_plain (P := Tryz.prog) w hp hi.1;have p2 := run_part_plain (P := Tryz.prog) w hp hi.2;simp only [Op.eqItems, Sem.run_bind, Nat.mul_one, p1, p2, Result.andThen_ok, zLV];by_cases e : f i = g i
  · have e' : (f i == g i) = true := by simpa using e
    simp only [e', Bool.not_true, Bool.false_eq_true, if_false];rw [zEr d xs ys w is f g (fun j hj => h j (by simp [hj]))];simp [e]
  (have e' : (f i == g i) = false := by simpa using e);simp [e', e]
theorem zHC (d : Nat) (x y : Vc) (w : World) : (Op.equalIn (d + 1 + 1) 53 (.agg #[.int .i64 x.a, .int .i64 x.b, .int .i64 x.c, .int .i64 x.d, .int .i64 x.e, .int .i64 x.f]) (.agg #[.int .i64 y.a, .int .i64 y.b, .int .i64 y.c, .int .i64 y.d, .int .i64 y.e, .int .i64 y.f])).run Tryz.prog w = .ok (decide (x = y)) w := by
 obtain ⟨i, hi⟩ := info_of_underlying Tryz.underlying3;have hc : Program.cellsOf Tryz.prog 3 = 1 := by kernel_rfl
 rw [run_equalIn_array w (d + 1) _ _ Tryz.underlying53 hi, hc];rw [zEr d _ _ w (List.range 6) (fun i => [x.a, x.b, x.c, x.d, x.e, x.f].getD i 0) (fun i => [y.a, y.b, y.c, y.d, y.e, y.f].getD i 0)]
 · congr 1;cases x; cases y
   simp [List.range, List.range.loop]
 intro i hi;have : i < 6 := by simpa using hi
 have : i = 0 ∨ i = 1 ∨ i = 2 ∨ i = 3 ∨ i = 4 ∨ i = 5 := by omega
 rcases this with rfl | rfl | rfl | rfl | rfl | rfl <;> exact ⟨rfl, rfl⟩
theorem vj (x y : Vc) (w : World) : (binOp .neq 53 (.agg #[.int .i64 x.a, .int .i64 x.b, .int .i64 x.c, .int .i64 x.d, .int .i64 x.e, .int .i64 x.f]) (.agg #[.int .i64 y.a, .int .i64 y.b, .int .i64 y.c, .int .i64 y.d, .int .i64 y.e, .int .i64 y.f])).run Tryz.prog w = .ok (.bool (!decide (x = y))) w := by
 have h := zHC 9998 x y w;simp only [binOp, Op.equal, Sem.run_bind];rw [show Op.maxDepth = 9998 + 1 + 1 from rfl, h];rfl
open Go.RowKit Go.Deep
def jm (l : List Nte) (i : Nat) : List Nte := (List.range 8).map fun v : Nat => j4 l i (v : Int)
theorem xI (l : List Nte) (i : Nat) : (jm l i).length = 8 := by simp [jm]
theorem zKj (l : List Nte) (i v : Nat) (h : v < 8) : (jm l i).getD v zF = j4 l i v := by simp [jm, List.getD, h]
theorem zDt (l : List Nte) (i : Nat) (v : Int) (h : i < l.length) : j4 l (i + 1) v = if (l.getD i zF).voice = v then l.getD i zF else j4 l i v := by
 unfold j4;rw [List.take_succ_eq_append_getElem h, List.reverse_append];simp only [List.reverse_cons, List.reverse_nil, List.nil_append, List.cons_append, List.find?_cons, zN h];by_cases e : l[i].voice = v
 · simp [e]
 simp [e]
theorem zGS (l : List Nte) : jm l 0 = List.replicate 8 zF := by
 refine List.ext_getElem? fun j => ?_
 rw [List.getElem?_replicate];by_cases h : j < 8
 · rw [if_pos h];simp only [jm, List.getElem?_map, List.getElem?_range h, Option.map_some];rfl
 rw [if_neg h];simp [jm, h]
theorem zEb (l : List Nte) (i v : Nat) (h : i < l.length) (hv : v < 8) (e : (l.getD i zF).voice = (v : Int)) : (jm l i).set v (l.getD i zF) = jm l (i + 1) := by
 refine List.ext_getElem? fun j => ?_
 rw [List.getElem?_set];by_cases hj : j < 8
 ·
  by_cases e2 : v = j
  · subst e2;rw [if_pos rfl, if_pos (by rw [xI]; exact hj)];simp only [jm, List.getElem?_map, List.getElem?_range hj, Option.map_some];rw [zDt l i _ h, if_pos e]
  rw [if_neg e2];simp only [jm, List.getElem?_map, List.getElem?_range hj, Option.map_some];rw [zDt l i _ h, if_neg (by rw [e]; omega)]
 have h1 : (jm l i)[j]? = none := List.getElem?_eq_none (by rw [xI]; omega);have h2 : (jm l (i + 1))[j]? = none := List.getElem?_eq_none (by rw [xI]; omega);rw [if_neg (by omega), h1, h2]
theorem zGo : Tryz.zeroCells146.toList = zW Nte.cs (List.replicate 8 zF) := by kernel_rfl
theorem zJg {w : World} {q : Nat} (h : Blk w q 146 Tryz.zeroCells146) : vW Nte.cs 10 zF w q (List.replicate 8 zF) := by
 have hl : Tryz.zeroCells146.toList.length = 80 := by rw [zGo, xQ Nte.cs 10 Nte.cs_len]; rfl
 refine vW.of_cells (cap := 8) Nte.cs_len h (by simp) (by rw [← Array.length_toList, hl]) ?_;rw [List.take_of_length_le (by rw [hl]; simp), zGo]
theorem zDk (s : Scr) : xz s = (List.range s.notes.length).all fun k => vm s.notes k (s.notes.getD k zF) := rfl
theorem jZ (n : Nat) (p : Nat → Bool) : (List.range n).all p = true ↔ ∀ k, k < n → p k = true := by
 rw [List.all_eq_true];exact ⟨fun h k hk => h k (List.mem_range.2 hk), fun h k hk => h k (List.mem_range.1 hk)⟩
theorem zHG (w : World) (B : Nat) (v : Value) (s : Scr) (h : kU w B v s) (hv : ∀ x ∈ s.notes, 0 ≤ x.voice ∧ x.voice < 8) : Calls Tryz.prog 76 #[v] w fun e w' => e = .returned (.bool (xz s)) ∧ Below w.heap.size w w' := by
 obtain ⟨r, hr⟩ : ∃ r, r = xz s := ⟨_, rfl⟩
 rw [← hr];have HR := hid hr;have HV8 := hid hv;obtain ⟨An, cn, Ap, cp, Aq, cq, rfl, h1, -, -⟩ := h.ex;have HQ := hid h1;have HBB := hid h.le;obtain ⟨V, hV⟩ : ∃ V, V = s.voices := ⟨_, rfl⟩
 obtain ⟨l, hl⟩ : ∃ l, l = s.notes := ⟨_, rfl⟩
 obtain ⟨nc, hnc⟩ : ∃ nc, nc = s.cad.length := ⟨_, rfl⟩
 obtain ⟨np, hnp⟩ : ∃ np, np = s.pairs.length := ⟨_, rfl⟩
 have hln := h.ln;rw [← hV, ← hl, ← hnc, ← hnp];rw [← hl] at HQ hln HV8;rw [zDk, ← hl] at HR;obtain ⟨n, hn⟩ : ∃ n, n = l.length := ⟨_, rfl⟩
 rw [← hn] at hln ⊢;have HN := hid hn;clear hr h1 hV hl hnc hnp hn h hv;have S0 := hid ((Blk.new w 26 #[.int .i64 V, .slice An n cn, .slice Ap np cp, .slice Aq nc cq]).alloc (.cells Tryz.zeroCells146 146));have B0 := hid (((Below.refl w.heap.size w).alloc (Nat.le_refl _) (.cells #[.int .i64 V, .slice An n cn, .slice Ap np cp, .slice Aq nc cq] 26)).alloc (by simp) (.cells Tryz.zeroCells146 146))
 have R0 : Hid (vW Nte.cs 10 zF ((w.alloc (.cells #[.int .i64 V, .slice An n cn, .slice Ap np cp, .slice Aq nc cq] 26)).alloc (.cells Tryz.zeroCells146 146)) (w.heap.size + 1) (jm l 0)) := by
  rw [zGS];have := Blk.new (w.alloc (.cells #[.int .i64 V, .slice An n cn, .slice Ap np cp, .slice Aq nc cq] 26)) 146 Tryz.zeroCells146;rw [show (w.alloc (.cells #[.int .i64 V, .slice An n cn, .slice Ap np cp, .slice Aq nc cq] 26)).heap.size = w.heap.size + 1 by simp] at this;exact hid (zJg this)
 obtain ⟨w0, hw0⟩ : ∃ w0, w0 = (w.alloc (.cells #[.int .i64 V, .slice An n cn, .slice Ap np cp, .slice Aq nc cq] 26)).alloc (.cells Tryz.zeroCells146 146) := ⟨_, rfl⟩
 rw [← hw0] at S0 B0 R0;have s1 := S0.out.cell 1;go_enter Tryz.func76, Tryz.ntmps76
 go_upto_region 2 with (fail)
 rw [← hw0];clear hw0;go_wp2
 clear s1;go_loopw [10] (fun i wx => ∃ j : Nat, j ≤ n ∧ i = .int .i64 j ∧ Hid (Below w.heap.size w wx) ∧ Hid (Blk wx w.heap.size 26 #[.int .i64 V, .slice An n cn, .slice Ap np cp, .slice Aq nc cq]) ∧ Hid (vW Nte.cs 10 zF wx (w.heap.size + 1) (jm l j)) ∧ Hid (∀ t, t < j → vm l t (l.getD t zF) = true)) (fun i _ => n - (zD i).toNat)
 case atStart => exact ⟨0, Nat.zero_le _, rfl, B0, S0, R0, hid fun t ht => by omega⟩
 case round =>
  obtain ⟨j, hj, rfl, WW, SS, RR, HT⟩ := hrel;by_cases hlt : j < n
  ·
   obtain ⟨ad, rfl, hld⟩ := yt HQ.out HBB.out WW.out (i := j) (by rw [← HN.out]; exact hlt);have hl0 := hld _ (Below.refl _ _);obtain ⟨x, hx⟩ : ∃ x, l.getD j zF = x := ⟨_, rfl⟩
   rw [hx] at hl0;have hxm : x ∈ l := by rw [← hx, zN (by rw [← HN.out]; exact hlt)]; exact List.getElem_mem _
   obtain ⟨v0, v8⟩ := HV8.out x hxm;obtain ⟨v, hv⟩ := Int.eq_ofNat_of_zero_le v0;have hvl : v < 8 := by omega
   have HX := hid (And.intro hx hv);clear hx hld hxm v0 v8 hv;obtain ⟨b, hb⟩ : ∃ b, j4 l j (v : Int) = b := ⟨_, rfl⟩
   have HB := hid hb;clear hb;have r1 : IntKind.i64.wrap ((j : Int) + 1) = ((j + 1 : Nat) : Int) := by rw [IntKind.wrap_i64]; omega
   have hal := x.all_one;go_upto_region 5 with (first | (refine yB rfl 55 (.tmp 12) rfl _ x.cells rfl hl0 ?_; try simp only [Act.put, sS]) | (refine zI rfl 55 (.tmp 5) (.tmp 13) rfl wr.heap.size x.cells rfl rfl 55 zF.cells (Blk.new wr _ _) zx rfl hal ?_; intro w4 b4 g4 z4; replace b4 := hid b4; replace g4 := hid g4; replace z4 := hid z4; try simp only [Act.put, sS]))
   have B4 : Hid (Below wr.heap.size wr w4) := hid (((Below.refl _ _).alloc (Nat.le_refl _) _).grown g4.out (by simp) (fun b e => by injection e with e; omega));have W4 := hid (zB WW.out B4.out);have S4 := hid (SS.out.below B4.out SS.out.lt);have R4 := hid (RR.out.block (B4.out.block _ RR.out.lt));clear hl0 g4 z4 WW SS RR;have c0 : w4.cell? ⟨wr.heap.size, 0, none⟩ = some (.int .i64 (v : Int)) := by rw [← HX.out.2]; exact b4.out.cell 0
   have hr : w4.rangeAt (w.heap.size + 1) (v * 10) b.cs := by
    have := R4.out.cell v (by rw [xI]; exact hvl);rw [zKj l j v hvl, HB.out] at this;exact this
   obtain ⟨dn, hun, hdn⟩ := zBG;have hab := b.all_one;go_upto_region 6 with (first | (refine wpList_load_mid rfl 55 (.tmp 16) rfl (w.heap.size + 1) (v * 10) rfl b.cs dn hr hun hdn zx ?_; try simp only [Act.put, sS]) | (refine zI rfl 55 (.tmp 6) (.tmp 17) rfl w4.heap.size b.cells rfl rfl 55 zF.cells (Blk.new w4 _ _) zx rfl hab ?_; intro w6 b6 g6 z6; replace b6 := hid b6; replace g6 := hid g6; replace z6 := hid z6; try simp only [Act.put, sS]))
   have B6 : Hid (Below w4.heap.size w4 w6) := hid (((Below.refl _ _).alloc (Nat.le_refl _) _).grown g6.out (by simp) (fun b e => by injection e with e; omega));have W6 := hid (zB W4.out B6.out);have S6 := hid (S4.out.below B6.out S4.out.lt);have R6 := hid (R4.out.block (B6.out.block _ R4.out.lt));have b46 := hid (b4.out.below B6.out b4.out.lt);clear hr hab hal c0 g6 z6 W4 S4 R4 B6 B4;have c1 : w6.cell? ⟨wr.heap.size, 1, none⟩ = some (.int .i64 x.start) := b46.out.cell 1;have c2 : w6.cell? ⟨wr.heap.size, 2, none⟩ = some (.int .i64 x.stop) := b46.out.cell 2;have c3 : w6.cell? ⟨wr.heap.size, 3, none⟩ = some (.int .i64 x.place.a) := b46.out.cell 3;have c4 : w6.cell? ⟨wr.heap.size, 4, none⟩ = some (.int .i64 x.place.b) := b46.out.cell 4;have c5 : w6.cell? ⟨wr.heap.size, 5, none⟩ = some (.int .i64 x.place.c) := b46.out.cell 5;have c6 : w6.cell? ⟨wr.heap.size, 6, none⟩ = some (.int .i64 x.place.d) := b46.out.cell 6;have c7 : w6.cell? ⟨wr.heap.size, 7, none⟩ = some (.int .i64 x.place.e) := b46.out.cell 7;have c8 : w6.cell? ⟨wr.heap.size, 8, none⟩ = some (.int .i64 x.place.f) := b46.out.cell 8;have c9 : w6.cell? ⟨wr.heap.size, 9, none⟩ = some (.bool x.tied) := b46.out.cell 9;have c0 : w6.cell? ⟨wr.heap.size, 0, none⟩ = some (.int .i64 (v : Int)) := by rw [← HX.out.2]; exact b46.out.cell 0
   have d0 : w6.cell? ⟨w4.heap.size, 0, none⟩ = some (.int .i64 b.voice) := b6.out.cell 0;have d1 : w6.cell? ⟨w4.heap.size, 1, none⟩ = some (.int .i64 b.start) := b6.out.cell 1;have d2 : w6.cell? ⟨w4.heap.size, 2, none⟩ = some (.int .i64 b.stop) := b6.out.cell 2;have d3 : w6.cell? ⟨w4.heap.size, 3, none⟩ = some (.int .i64 b.place.a) := b6.out.cell 3;have d4 : w6.cell? ⟨w4.heap.size, 4, none⟩ = some (.int .i64 b.place.b) := b6.out.cell 4;have d5 : w6.cell? ⟨w4.heap.size, 5, none⟩ = some (.int .i64 b.place.c) := b6.out.cell 5;have d6 : w6.cell? ⟨w4.heap.size, 6, none⟩ = some (.int .i64 b.place.d) := b6.out.cell 6;have d7 : w6.cell? ⟨w4.heap.size, 7, none⟩ = some (.int .i64 b.place.e) := b6.out.cell 7;have d8 : w6.cell? ⟨w4.heap.size, 8, none⟩ = some (.int .i64 b.place.f) := b6.out.cell 8;have d9 : w6.cell? ⟨w4.heap.size, 9, none⟩ = some (.bool b.tied) := b6.out.cell 9;by_cases h0 : x.start < b.stop
   ·
    have HF : Hid (r = false) := by
     refine hid ?_;rw [HR.out, Bool.eq_false_iff];intro e;have := (jZ _ _).1 e j (by rw [← HN.out]; exact hlt);rw [HX.out.1] at this;simp only [vm] at this;rw [HX.out.2, HB.out] at this;simp [h0] at this
    go_wp2
    go_ret;rw [HF.out];exact ⟨rfl, W6.out⟩
   rcases ht : x.tied with _ | _
   ·
    rw [ht] at c9
    have HT2 : Hid (∀ t, t < j + 1 → vm l t (l.getD t zF) = true) := by
     refine hid fun t htt => ?_
     rcases Nat.lt_or_ge t j with h | h
     · exact HT.out t h
     obtain rfl : t = j := by omega
     rw [HX.out.1];simp only [vm];rw [HX.out.2, HB.out];simp [h0, ht]
    have ht := R6.out.fr v (by rw [xI]; exact hvl);have hsz : x.cs.toArray.all (·.oneCell') = true := all_oneCell_toArray x.cs_one;have R7 := hid (R6.out.set Nte.cs_len v x (by rw [xI]; exact hvl));rw [← HX.out.1, zEb l j v (by rw [← HN.out]; exact hlt) hvl (by rw [HX.out.1]; exact HX.out.2), HX.out.1] at R7;have hg := xO (zH.setCells x.cs (v * 10) w6 (zH.refl (w.heap.size + 1) w6));have S7 := hid (v3 hg S6.out (fun y e => by injection e with e; omega));have W7 := hid (W6.out.grown hg W6.out.size (fun y e => by injection e with e; omega));clear hg R6 S6 W6;exact m60
   rw [ht] at c9;by_cases h1 : b.stop = x.start
   ·
    by_cases h2 : b.stop = 0
    ·
     have hs0 : x.start = 0 := by rw [← h1]; exact h2
     have HF : Hid (r = false) := by
      refine hid ?_;rw [HR.out, Bool.eq_false_iff];intro e;have := (jZ _ _).1 e j (by rw [← HN.out]; exact hlt);rw [HX.out.1] at this;simp only [vm] at this;rw [HX.out.2, HB.out] at this;simp [h0, h1, h2, ht, hs0] at this
     rw [h2] at d2;rw [hs0] at c1;clear h0 h1 h2 hs0;go_wp2
     go_ret;rw [HF.out];exact ⟨rfl, W6.out⟩
    obtain ⟨z, hz⟩ : ∃ z, z = b.stop := ⟨_, rfl⟩
    by_cases h3 : b.place = x.place
    ·
     have hne : ∀ w, (binOp .neq 53 (.agg b.place.cells) (.agg x.place.cells)).run Tryz.prog w = .ok (.bool false) w := fun w => by rw [vj, h3]; simp
     rw [← hz] at d2;rw [← h1, ← hz] at c1;have h2z : (z == 0) = false := by rw [hz]; simpa using h2
     have HT2 : Hid (∀ t, t < j + 1 → vm l t (l.getD t zF) = true) := by
      refine hid fun t htt => ?_
      rcases Nat.lt_or_ge t j with h | h
      · exact HT.out t h
      obtain rfl : t = j := by omega
      rw [HX.out.1];simp only [vm];rw [HX.out.2, HB.out];simp [h0, h1, ht, h3];intro e;exact h2 (by rw [h1]; exact e)
     have ht := R6.out.fr v (by rw [xI]; exact hvl);have hsz : x.cs.toArray.all (·.oneCell') = true := all_oneCell_toArray x.cs_one;have R7 := hid (R6.out.set Nte.cs_len v x (by rw [xI]; exact hvl));rw [← HX.out.1, zEb l j v (by rw [← HN.out]; exact hlt) hvl (by rw [HX.out.1]; exact HX.out.2), HX.out.1] at R7;have hg := xO (zH.setCells x.cs (v * 10) w6 (zH.refl (w.heap.size + 1) w6));have S7 := hid (v3 hg S6.out (fun y e => by injection e with e; omega));have W7 := hid (W6.out.grown hg W6.out.size (fun y e => by injection e with e; omega));clear hg R6 S6 W6 h0 h1 h2 h3 hz;exact m60
    have hne : ∀ w, (binOp .neq 53 (.agg b.place.cells) (.agg x.place.cells)).run Tryz.prog w = .ok (.bool true) w := fun w => by rw [vj]; simp [h3]
    rw [← hz] at d2;rw [← h1, ← hz] at c1;have h2z : (z == 0) = false := by rw [hz]; simpa using h2
    have HF : Hid (r = false) := by
     refine hid ?_;rw [HR.out, Bool.eq_false_iff];intro e;have := (jZ _ _).1 e j (by rw [← HN.out]; exact hlt);rw [HX.out.1] at this;simp only [vm] at this;rw [HX.out.2, HB.out] at this;simp [h0, h1, ht, h3] at this
    clear h0 h1 h2 h3 hz;go_wp2
    go_ret;rw [HF.out];exact ⟨rfl, W6.out⟩
   have HF : Hid (r = false) := by
    refine hid ?_;rw [HR.out, Bool.eq_false_iff];intro e;have := (jZ _ _).1 e j (by rw [← HN.out]; exact hlt);rw [HX.out.1] at this;simp only [vm] at this;rw [HX.out.2, HB.out] at this;simp [h0, h1, ht] at this
   have h1b : (b.stop == x.start) = false := by simpa using h1
   go_wp2
   go_ret;rw [HF.out];exact ⟨rfl, W6.out⟩
  have HF : Hid (r = true) := by
   refine hid ?_;rw [HR.out];exact (jZ _ _).2 fun k hk => HT.out k (by rw [← HN.out] at hk; omega)
  (go_wp2);go_ret;rw [HF.out];exact ⟨rfl, WW.out⟩
open Go.RowKit Go.Deep
theorem zFb {op : Oper} {ev : Operand → Value} {w : World} (ty : TypeId) (x : Operand) (ho : op.op = .load ty x) (ad : Addr) (v : Value) (hx : ev x = .pointer (some ad)) (hC : (Instr.loadAt ty (.pointer (some ad))).run Tryz.prog w = .ok v w) : (execOp ev op).run Tryz.prog w = .ok (.value v) w := by
 unfold execOp;simp only [ho, hx, Sem.run_bind, hC, Result.andThen_ok, Sem.run_pure]
theorem zIq (s : Scr) : vu s = (s.pairs.all (vG s) && xE zv s.pairs) := rfl
theorem zIJ (w : World) (B : Nat) (v : Value) (s : Scr) (h : kU w B v s) : Calls Tryz.prog 77 #[v] w fun e w' => e = .returned (.bool (vu s)) ∧ Below w.heap.size w w' := by
 obtain ⟨r, hr⟩ : ∃ r, r = vu s := ⟨_, rfl⟩
 rw [← hr];have HR := hid hr;obtain ⟨An, cn, Ap, cp, Aq, cq, rfl, h1, h2, -⟩ := h.ex;have HQ := hid h1;have HP := hid h2;have HBB := hid h.le;obtain ⟨V, hV⟩ : ∃ V, V = s.voices := ⟨_, rfl⟩
 obtain ⟨l, hl⟩ : ∃ l, l = s.notes := ⟨_, rfl⟩
 obtain ⟨ps, hps⟩ : ∃ ps, ps = s.pairs := ⟨_, rfl⟩
 obtain ⟨nc, hnc⟩ : ∃ nc, nc = s.cad.length := ⟨_, rfl⟩
 have hln := h.ln;have hlp := h.lp;rw [← hV, ← hl, ← hnc, ← hps];rw [← hl] at HQ hln;rw [← hps] at HP hlp;rw [zIq, ← hps] at HR;have HSL := hid hl;obtain ⟨n, hn⟩ : ∃ n, n = l.length := ⟨_, rfl⟩
 obtain ⟨m, hm⟩ : ∃ m, m = ps.length := ⟨_, rfl⟩
 rw [← hn] at hln;rw [← hm] at hlp;rw [← hn, ← hm];have HN := hid hn;have HM := hid hm;clear hr h1 h2 hV hl hnc hps hn hm h;have S0 := hid (Blk.new w 26 #[.int .i64 V, .slice An n cn, .slice Ap m cp, .slice Aq nc cq]);have B0 := hid ((Below.refl w.heap.size w).alloc (Nat.le_refl _) (.cells #[.int .i64 V, .slice An n cn, .slice Ap m cp, .slice Aq nc cq] 26));obtain ⟨w0, hw0⟩ : ∃ w0, w0 = w.alloc (.cells #[.int .i64 V, .slice An n cn, .slice Ap m cp, .slice Aq nc cq] 26) := ⟨_, rfl⟩
 rw [← hw0] at S0 B0;have s2 := S0.out.cell 2;go_enter Tryz.func77, Tryz.ntmps77
 go_upto_region 1 with (fail)
 rw [← hw0];clear hw0;go_wp2
 clear s2;go_loopw [10] (fun i wx => ∃ j : Nat, j ≤ m ∧ i = .int .i64 j ∧ Hid (Below w0.heap.size w0 wx) ∧ Hid (∀ t, t < j → vG s (ps.getD t zt) = true)) (fun i _ => m - (zD i).toNat)
 case atStart => exact ⟨0, Nat.zero_le _, rfl, hid (Below.refl _ _), hid fun t ht => by omega⟩
 case round =>
  obtain ⟨j, hj, rfl, HW, HT⟩ := hrel;have WW := hid (zB B0.out HW.out);have SS := hid (S0.out.below HW.out S0.out.lt);by_cases hlt : j < m
  ·
   obtain ⟨ad, rfl, hld⟩ := kC HP.out HBB.out WW.out (i := j) (by rw [← HM.out]; exact hlt);have hl0 := hld _ (Below.refl _ _);obtain ⟨p, hx⟩ : ∃ p, ps.getD j zt = p := ⟨_, rfl⟩
   rw [hx] at hl0;have HX := hid hx;clear hx hld;have r1 : IntKind.i64.wrap ((j : Int) + 1) = ((j + 1 : Nat) : Int) := by rw [IntKind.wrap_i64]; omega
   obtain ⟨qb, hqb⟩ : ∃ qb, qb = p.wish.le 16 := ⟨_, rfl⟩
   have HQB := hid hqb
   have HBD : Hid (∀ w1 : World, Calls Tryz.prog 115 #[.agg p.wish.cells, .int .i64 16] w1 fun e w' => e = .returned (.bool qb) ∧ Below w1.heap.size w1 w') := by
    rw [hqb];exact hid fun w1 => zCy w1 p.wish 16 (by omega)
   clear hqb;have hal := p.all_one;go_upto_region 4 with (first | (refine yB rfl 57 (.tmp 12) rfl _ p.cells rfl hl0 ?_; try simp only [Act.put, sS]) | (refine zI rfl 57 (.tmp 4) (.tmp 13) rfl wr.heap.size p.cells rfl rfl 57 zt.cells (Blk.new wr _ _) vN rfl hal ?_; intro w4 b4 g4 z4; replace b4 := hid b4; replace g4 := hid g4; replace z4 := hid z4; try simp only [Act.put, sS]))
   have B4 : Hid (Below wr.heap.size wr w4) := hid (((Below.refl _ _).alloc (Nat.le_refl _) _).grown g4.out (by simp) (fun b e => by injection e with e; omega));have W4 := hid (zB WW.out B4.out);have W40 := hid (zB HW.out B4.out);have S4 := hid (SS.out.below B4.out SS.out.lt);have s1 := S4.out.cell 1;clear hl0 hal g4 z4 HW SS;have c0 : w4.cell? ⟨wr.heap.size, 0, none⟩ = some (.int .i64 p.a) := b4.out.cell 0;have c1 : w4.cell? ⟨wr.heap.size, 1, none⟩ = some (.int .i64 p.b) := b4.out.cell 1;have c2 : w4.cell? ⟨wr.heap.size, 2, none⟩ = some (.int .i64 p.wish.a) := b4.out.cell 2;have c3 : w4.cell? ⟨wr.heap.size, 3, none⟩ = some (.int .i64 p.wish.b) := b4.out.cell 3;have c4 : w4.cell? ⟨wr.heap.size, 4, none⟩ = some (.int .i64 p.wish.c) := b4.out.cell 4;have c5 : w4.cell? ⟨wr.heap.size, 5, none⟩ = some (.int .i64 p.wish.d) := b4.out.cell 5;have c6 : w4.cell? ⟨wr.heap.size, 6, none⟩ = some (.int .i64 p.wish.e) := b4.out.cell 6;have c7 : w4.cell? ⟨wr.heap.size, 7, none⟩ = some (.int .i64 p.wish.f) := b4.out.cell 7;have c8 : w4.cell? ⟨wr.heap.size, 8, none⟩ = some (.int .i64 p.bound) := b4.out.cell 8;by_cases h0 : p.a < 0
   · exact m57
   skip
   by_cases h1 : p.b ≤ p.a
   · exact m57
   skip
   by_cases h2 : (n : Int) ≤ p.b
   · exact m57
   skip
   by_cases h3 : qb = false
   ·
    have HF : Hid (r = false) := by
     refine hid ?_;rw [HR.out, Bool.and_eq_false_iff]
     left
     rw [Bool.eq_false_iff];intro e;have := (xN (vG s) ps zt).1 e j (by rw [← HM.out]; exact hlt);rw [HX.out] at this;simp only [vG, Bool.and_eq_true, Bool.not_eq_true', decide_eq_true_eq, decide_eq_false_iff_not, ← HSL.out, ← HQB.out, ← HN.out] at this;rw [this.1.1.1.1.2] at h3;cases h3
    subst h3;exact zOk
   skip
   by_cases h4 : p.bound < 0
   · exact m70
   skip
   by_cases h5 : 100000 < p.bound
   · exact m70
   skip
   have h3t : qb = true := by cases qb <;> simp_all
   subst h3t;clear h3;go_upto_region 6 with (refine (HBD.out _).mono ?_; rintro e w5 ⟨rfl, b5⟩; have c8 := (b4.out.below b5 b4.out.lt).cell 8)
   have W5 := hid (zB W4.out b5);have W50 := hid (zB W40.out b5);have S5 := hid (S4.out.below b5 S4.out.lt);have b45 := hid (b4.out.below b5 b4.out.lt);obtain ⟨a, ha⟩ := Int.eq_ofNat_of_zero_le (show 0 ≤ p.a by omega);obtain ⟨b, hb⟩ := Int.eq_ofNat_of_zero_le (show 0 ≤ p.b by omega);have hbn : b < n := by omega
   have han : a < n := by omega
   have HAB : Hid (p.a = (a : Int) ∧ p.b = (b : Int) ∧ ¬ p.b ≤ p.a ∧ ¬ p.bound < 0 ∧ ¬ 100000 < p.bound) := hid ⟨ha, hb, by omega, by omega, by omega⟩;obtain ⟨an, rfl, hla⟩ := yt HQ.out HBB.out W5.out (i := a) (by rw [← HN.out]; exact han);obtain ⟨an2, e2, hlb⟩ := yt HQ.out HBB.out W5.out (i := b) (by rw [← HN.out]; exact hbn);injection e2 with e2;subst e2;obtain ⟨xa, hxa⟩ : ∃ xa, l.getD a zF = xa := ⟨_, rfl⟩
   obtain ⟨xb, hxb⟩ : ∃ xb, l.getD b zF = xb := ⟨_, rfl⟩
   rw [hxa] at hla;rw [hxb] at hlb;have HXX := hid (And.intro hxa hxb);have HLA := hid hla;have HLB := hid hlb;clear h0 h1 h2 h4 h5 ha hb hxa hxb hla hlb c0 c1 c2 c3 c4 c5 c6 c7 c8 s1 b5 W4 W40 S4 b4 B4;go_cut [5, 6] from 48 to 59 (fun u v wx => ∃ ga gb : Nat, u = .pointer (some ⟨ga, 0, none⟩) ∧ v = .pointer (some ⟨gb, 0, none⟩) ∧ Hid (Blk wx ga 55 xa.cells) ∧ Hid (Blk wx gb 55 xb.cells) ∧ Hid (Below w5.heap.size w5 wx))
   case first =>
    refine jF (fun w' => Below w5.heap.size w5 w') (Below.refl _ _).drew fun hHeld => ?_
    refine zJ 0 ?_;refine zJ 1 ?_ (hy := Or.inl ⟨by rfl, fun w hSw => by (try dsimp only at hSw); have g0 := (S5.out.below hSw S5.out.lt).cell 1; go_simp; try with_reducible rfl⟩);refine zJ 2 ?_;refine zJ 3 ?_ (hy := Or.inl ⟨by rfl, fun w hSw => by (try dsimp only at hSw); have g0 := (b45.out.below hSw b45.out.lt).cell 0; simp only [HAB.out.1, List.getElem?_toArray, List.getElem?_cons_zero, List.getElem?_cons_succ] at g0; go_simp; try with_reducible rfl⟩);refine zJ 4 ?_;refine tH 5 (.agg xa.cells) rfl (by kernel_rfl) (fun _ _ _ h => h) (Or.inl ⟨by rfl, fun w hSw => zFb 55 (.tmp 52) rfl _ _ rfl (HLA.out w hSw)⟩) hHeld ?_;try (change wpAnyH _ _ _ _ _ _ _ ⟨_, _⟩ _)
    try simp only [Act.put, sS]
    refine zJ 6 ?_;refine zJ 7 ?_ (hy := Or.inl ⟨by rfl, fun w hSw => by (try dsimp only at hSw); have g0 := (S5.out.below hSw S5.out.lt).cell 1; go_simp; try with_reducible rfl⟩);refine zJ 8 ?_;refine zJ 9 ?_ (hy := Or.inl ⟨by rfl, fun w hSw => by (try dsimp only at hSw); have g0 := (b45.out.below hSw b45.out.lt).cell 1; simp only [HAB.out.2.1, List.getElem?_toArray, List.getElem?_cons_zero, List.getElem?_cons_succ] at g0; go_simp; try with_reducible rfl⟩);refine zJ 10 ?_;refine tH 11 (.agg xb.cells) rfl (by kernel_rfl) (fun _ _ _ h => h) (Or.inl ⟨by rfl, fun w hSw => zFb 55 (.tmp 58) rfl _ _ rfl (HLB.out w hSw)⟩) hHeld ?_;try (change wpAnyH _ _ _ _ _ _ _ ⟨_, _⟩ _)
    try simp only [Act.put, sS]
    refine zDq [12, 13] ?_;refine zDW ?_ ?_
    ·
     intro K hK;go_simp;refine zq hK (hHeld.alloc (by first | exact Nat.le_refl _ | (simp; done) | (simp; omega)) _) fun hHeld => ?_
     clear hK K;refine yL 13 ?_;intro K hK;go_simp;refine zq hK (hHeld.alloc (by first | exact Nat.le_refl _ | (simp; done) | (simp; omega)) _) fun hHeld => ?_
     clear hK K;refine yL 14 ?_;intro K hK;have z1 : Blk ((w5.drew.alloc (.cells zF.cells 55)).alloc (.cells zF.cells 55)) (w5.heap.size + 1) 55 zF.cells := by have := Blk.new (w5.drew.alloc (.cells zF.cells 55)) 55 zF.cells; rw [show (w5.drew.alloc (.cells zF.cells 55)).heap.size = w5.heap.size + 1 by simp] at this; exact this
     have z0 : Blk ((w5.drew.alloc (.cells zF.cells 55)).alloc (.cells zF.cells 55)) w5.heap.size 55 zF.cells := (Blk.new w5.drew 55 zF.cells).alloc (.cells zF.cells 55);refine kD rfl 55 (.tmp 5) (.tmp 53) rfl _ xa.cells rfl rfl 55 zF.cells z0 zx rfl xa.all_one ?_;intro w8 b8 g8 s8;have z8 := v3 g8 z1 (fun y e => by injection e with e; omega);have H8 : Below w5.heap.size w5 w8 := hHeld.grown g8 (by simp; omega) (fun y e => by injection e with e; omega);replace b8 := hid b8;replace z8 := hid z8;clear g8 s8 z0 z1;refine zq hK H8 fun hHeld => ?_
     clear hK K;refine yL 15 ?_;intro K hK;refine kD rfl 55 (.tmp 6) (.tmp 59) rfl _ xb.cells rfl rfl 55 zF.cells z8.out zx rfl xb.all_one ?_;intro w9 b9 g9 s9;have a9 := hid (v3 g9 b8.out (fun y e => by injection e with e; omega));have H9 : Below w5.heap.size w5 w9 := H8.grown g9 H8.size (fun y e => by injection e with e; omega);replace b9 := hid b9;clear g9 s9;refine zq hK H9 fun hHeld => ?_
     clear hK K;refine jc ?_;go_wp2_with fail
     go_meet
     case rel => exact ⟨w5.heap.size, w5.heap.size + 1, rfl, rfl, a9, b9, hid H9⟩
    refine zDu ?_;intro K hK;go_simp;refine zq hK (hHeld.alloc (by first | exact Nat.le_refl _ | (simp; done) | (simp; omega)) _) fun hHeld => ?_
    clear hK K;refine yL 12 ?_;intro K hK;go_simp;refine zq hK (hHeld.alloc (by first | exact Nat.le_refl _ | (simp; done) | (simp; omega)) _) fun hHeld => ?_
    clear hK K;refine yL 14 ?_;intro K hK;have z1 : Blk ((w5.drew.alloc (.cells zF.cells 55)).alloc (.cells zF.cells 55)) (w5.heap.size + 1) 55 zF.cells := by have := Blk.new (w5.drew.alloc (.cells zF.cells 55)) 55 zF.cells; rw [show (w5.drew.alloc (.cells zF.cells 55)).heap.size = w5.heap.size + 1 by simp] at this; exact this
    have z0 : Blk ((w5.drew.alloc (.cells zF.cells 55)).alloc (.cells zF.cells 55)) w5.heap.size 55 zF.cells := (Blk.new w5.drew 55 zF.cells).alloc (.cells zF.cells 55);refine kD rfl 55 (.tmp 5) (.tmp 53) rfl _ xa.cells rfl rfl 55 zF.cells z1 zx rfl xa.all_one ?_;intro w8 b8 g8 s8;have z8 := v3 g8 z0 (fun y e => by injection e with e; omega);have H8 : Below w5.heap.size w5 w8 := hHeld.grown g8 (by simp; omega) (fun y e => by injection e with e; omega);replace b8 := hid b8;replace z8 := hid z8;clear g8 s8 z0 z1;refine zq hK H8 fun hHeld => ?_
    clear hK K;refine yL 15 ?_;intro K hK;refine kD rfl 55 (.tmp 6) (.tmp 59) rfl _ xb.cells rfl rfl 55 zF.cells z8.out zx rfl xb.all_one ?_;intro w9 b9 g9 s9;have a9 := hid (v3 g9 b8.out (fun y e => by injection e with e; omega));have H9 : Below w5.heap.size w5 w9 := H8.grown g9 H8.size (fun y e => by injection e with e; omega);replace b9 := hid b9;clear g9 s9;refine zq hK H9 fun hHeld => ?_
    clear hK K;refine jc ?_;go_wp2_with fail
    go_meet
    case rel => exact ⟨w5.heap.size + 1, w5.heap.size, rfl, rfl, a9, b9, hid H9⟩
   case rest =>
    obtain ⟨ga, gb, rfl, rfl, KA, KB, H9⟩ := hcut;have W9 := hid (zB W5.out H9.out);have W90 := hid (zB W50.out H9.out);have a0 : wc.cell? ⟨ga, 0, none⟩ = some (.int .i64 xa.voice) := KA.out.cell 0;have a2 : wc.cell? ⟨ga, 2, none⟩ = some (.int .i64 xa.stop) := KA.out.cell 2;have d0 : wc.cell? ⟨gb, 0, none⟩ = some (.int .i64 xb.voice) := KB.out.cell 0;have d1 : wc.cell? ⟨gb, 1, none⟩ = some (.int .i64 xb.start) := KB.out.cell 1;clear KA KB H9 W5 W50;by_cases g0 : xa.voice = xb.voice
    ·
     have HF : Hid (r = false) := by
      refine hid ?_;rw [HR.out, Bool.and_eq_false_iff]
      left
      rw [Bool.eq_false_iff];intro e;have := (xN (vG s) ps zt).1 e j (by rw [← HM.out]; exact hlt);rw [HX.out] at this;simp only [vG, Bool.and_eq_true, Bool.not_eq_true', decide_eq_true_eq, decide_eq_false_iff_not, ← HSL.out, HAB.out.1, HAB.out.2.1, Int.toNat_natCast, HXX.out.1, HXX.out.2] at this;exact this.1.2 g0
     have g0b : (xa.voice == xb.voice) = true := by simpa using g0
     clear g0;go_wp2
     go_ret;rw [HF.out];exact ⟨rfl, W9.out⟩
    by_cases g1 : xa.stop ≤ xb.start
    ·
     have HF : Hid (r = false) := by
      refine hid ?_;rw [HR.out, Bool.and_eq_false_iff]
      left
      rw [Bool.eq_false_iff];intro e;have := (xN (vG s) ps zt).1 e j (by rw [← HM.out]; exact hlt);rw [HX.out] at this;simp only [vG, Bool.and_eq_true, Bool.not_eq_true', decide_eq_true_eq, decide_eq_false_iff_not, ← HSL.out, HAB.out.1, HAB.out.2.1, Int.toNat_natCast, HXX.out.1, HXX.out.2] at this;omega
     have g0b : (xa.voice == xb.voice) = false := by simpa using g0
     clear g0;go_wp2
     go_ret;rw [HF.out];exact ⟨rfl, W9.out⟩
    have HT2 : Hid (∀ t, t < j + 1 → vG s (ps.getD t zt) = true) := by
     (refine hid fun t htt => ?_);rcases Nat.lt_or_ge t j with h | h
     · exact HT.out t h
     (obtain rfl : t = j := by omega);rw [HX.out];obtain ⟨e1, e2, e3, e4, e5⟩ := HAB.out;simp only [vG, Bool.and_eq_true, Bool.not_eq_true', decide_eq_true_eq, decide_eq_false_iff_not, ← HSL.out, ← HQB.out, ← HN.out, e1, e2, Int.toNat_natCast, HXX.out.1, HXX.out.2];rw [e1, e2] at e3;exact ⟨⟨⟨⟨⟨⟨⟨by omega, by omega⟩, by omega⟩, trivial⟩, by omega⟩, by omega⟩, g0⟩, by omega⟩
    have g0b : (xa.voice == xb.voice) = false := by simpa using g0
    clear g0;go_wp2
    go_roundw
    case rel => exact ⟨j + 1, by omega, by go_num, W90, HT2⟩
    case measure => simp [zD]; omega
  have HA : Hid (ps.all (vG s) = true) := hid ((xN (vG s) ps zt).2 fun t ht => HT.out t (by have := HM.out; omega));have HI := hid (zHE wr B Ap cp ps (HP.out.below (WW.out.mono HBB.out)) (Nat.le_trans HBB.out WW.out.size) (by rw [← HM.out]; omega));rw [← HM.out] at HI;have HF : Hid (r = xE zv ps) := hid (by rw [HR.out, HA.out, Bool.true_and]);have s2 := SS.out.cell 2;exact zLX
def chk (s : Scr) (k : Nat) : Bool := (decide (k < 1) || jH s) && (decide (k < 2) || vQ s) && (decide (k < 3) || xz s) && (decide (k < 4) || vu s) && (decide (k < 5) || zCD s)
theorem zEP (s : Scr) : jH s = (decide (1 ≤ s.voices) && decide (s.voices ≤ 8) && decide (s.notes.length ≤ 200) && decide (s.pairs.length ≤ 400) && decide (s.cad.length < 16)) := rfl
theorem zIQ (w : World) (B : Nat) (v : Value) (s : Scr) (h : kU w B v s) : Calls Tryz.prog 74 #[v] w fun e w' => e = .returned (.bool (jH s)) ∧ Below w.heap.size w w' := by
 obtain ⟨An, cn, Ap, cp, Aq, cq, rfl, -⟩ := h.ex;rw [zEP];exact zID w s.voices An Ap Aq _ _ _ cn cp cq h.ln h.lp h.lc
theorem zGV (s : Scr) (h1 : jH s = true) (h2 : vQ s = true) : ∀ x ∈ s.notes, 0 ≤ x.voice ∧ x.voice < 8 := by
 intro x hx;rw [zEP] at h1;rw [zAY] at h2;simp only [Bool.and_eq_true, decide_eq_true_eq, List.all_eq_true] at h1 h2;have := h2.1 x hx;simp only [qd, Bool.and_eq_true, decide_eq_true_eq] at this;omega
theorem zEC (w : World) (B : Nat) (v : Value) (s : Scr) (h : kU w B v s) : Calls Tryz.prog 34 #[v] w fun e w' => e = .returned (.bool (xd s)) ∧ Below w.heap.size w w' := by
 obtain ⟨r, hr⟩ : ∃ r, r = xd s := ⟨_, rfl⟩
 rw [← hr];unfold xd at hr;have HR := hid hr;have H := hid h;obtain ⟨An, cn, Ap, cp, Aq, cq, hv, -⟩ := h.ex;obtain ⟨V, hV⟩ : ∃ V, V = s.voices := ⟨_, rfl⟩
 obtain ⟨n, hn⟩ : ∃ n, n = s.notes.length := ⟨_, rfl⟩
 obtain ⟨np, hnp⟩ : ∃ np, np = s.pairs.length := ⟨_, rfl⟩
 obtain ⟨nc, hnc⟩ : ∃ nc, nc = s.cad.length := ⟨_, rfl⟩
 rw [← hV, ← hn, ← hnp, ← hnc] at hv;subst hv;clear hr hV hn hnp hnc h;have S0 := hid ((Blk.new w 26 #[.int .i64 V, .slice An n cn, .slice Ap np cp, .slice Aq nc cq]).alloc (.cells #[.func (.func 74) #[] #[], .func (.func 75) #[] #[], .func (.func 76) #[] #[], .func (.func 77) #[] #[], .func (.func 78) #[] #[]] 44));have B0 := hid (((Below.refl w.heap.size w).alloc (Nat.le_refl _) (.cells #[.int .i64 V, .slice An n cn, .slice Ap np cp, .slice Aq nc cq] 26)).alloc (by simp) (.cells #[.func (.func 74) #[] #[], .func (.func 75) #[] #[], .func (.func 76) #[] #[], .func (.func 77) #[] #[], .func (.func 78) #[] #[]] 44))
 have F0 : Hid (Blk ((w.alloc (.cells #[.int .i64 V, .slice An n cn, .slice Ap np cp, .slice Aq nc cq] 26)).alloc (.cells #[.func (.func 74) #[] #[], .func (.func 75) #[] #[], .func (.func 76) #[] #[], .func (.func 77) #[] #[], .func (.func 78) #[] #[]] 44)) (w.heap.size + 1) 44 #[.func (.func 74) #[] #[], .func (.func 75) #[] #[], .func (.func 76) #[] #[], .func (.func 77) #[] #[], .func (.func 78) #[] #[]]) := by
  have := Blk.new (w.alloc (.cells #[.int .i64 V, .slice An n cn, .slice Ap np cp, .slice Aq nc cq] 26)) 44 #[.func (.func 74) #[] #[], .func (.func 75) #[] #[], .func (.func 76) #[] #[], .func (.func 77) #[] #[], .func (.func 78) #[] #[]];rw [show (w.alloc (.cells #[.int .i64 V, .slice An n cn, .slice Ap np cp, .slice Aq nc cq] 26)).heap.size = w.heap.size + 1 by simp] at this;exact hid this
 obtain ⟨w0, hw0⟩ : ∃ w0, w0 = (w.alloc (.cells #[.int .i64 V, .slice An n cn, .slice Ap np cp, .slice Aq nc cq] 26)).alloc (.cells #[.func (.func 74) #[] #[], .func (.func 75) #[] #[], .func (.func 76) #[] #[], .func (.func 77) #[] #[], .func (.func 78) #[] #[]] 44) := ⟨_, rfl⟩
 rw [← hw0] at S0 B0 F0;go_enter Tryz.func34, Tryz.ntmps34
 go_wp2
 go_loopw [7] (fun i wx => ∃ j : Nat, j ≤ 5 ∧ i = .int .i64 j ∧ Hid (Below w0.heap.size w0 wx) ∧ Hid (chk s j = true)) (fun i _ => 5 - (zD i).toNat)
 case atStart => exact ⟨0, by omega, rfl, by rw [hw0]; exact hid (Below.refl _ _), hid rfl⟩
 case round =>
  clear hw0;obtain ⟨j, hj, rfl, HW, HT⟩ := hrel;have WW := hid (zB B0.out HW.out);have SS := hid (S0.out.below HW.out S0.out.lt);have FF := hid (F0.out.below HW.out F0.out.lt);have hH := hid (H.out.up WW.out);have HTC := hid HT.out;unfold chk at HTC;rcases (by omega : j = 0 ∨ j = 1 ∨ j = 2 ∨ j = 3 ∨ j = 4 ∨ j = 5) with rfl | rfl | rfl | rfl | rfl | rfl
  ·
   obtain ⟨q, hq⟩ : ∃ q, q = jH s := ⟨_, rfl⟩
   have HI := hid (zIQ wr B _ s hH.out);rw [← hq] at HI;have HQ := hid hq;have f0 : wr.cell? ⟨w.heap.size + 1, 0, none⟩ = some (.func (.func 74) #[] #[]) := FF.out.cell 0;have r1 : IntKind.i64.wrap ((0 : Int) + 1) = 1 := by decide
   clear hq;have k0 := SS.out.cell 0;have k1 := SS.out.cell 1;have k2 := SS.out.cell 2;have k3 := SS.out.cell 3;rcases q with _ | _
   · exact m63
   have HT2 : Hid (chk s 1 = true) := by
    refine hid ?_;have h0 := HTC.out;unfold chk;simp;simp [← HQ.out]
   go_wp2_with (refine HI.out.mono ?_; rintro e w2 ⟨rfl, b2⟩)
   go_roundw
   case rel => exact ⟨1, by omega, by first | rfl | go_num, hid (zB HW.out b2), HT2⟩
   case measure => simp [zD]
  ·
   have HTB := HTC.out;simp at HTB;obtain ⟨q, hq⟩ : ∃ q, q = vQ s := ⟨_, rfl⟩
   have HI := hid (zJe wr B _ s hH.out);rw [← hq] at HI;have HQ := hid hq;have f0 : wr.cell? ⟨w.heap.size + 1, 1, none⟩ = some (.func (.func 75) #[] #[]) := FF.out.cell 1;have r1 : IntKind.i64.wrap ((1 : Int) + 1) = 2 := by decide
   clear hq;have k0 := SS.out.cell 0;have k1 := SS.out.cell 1;have k2 := SS.out.cell 2;have k3 := SS.out.cell 3;rcases q with _ | _
   · clear HTB;exact m63
   have HT2 : Hid (chk s 2 = true) := by
    refine hid ?_;have h0 := HTC.out;unfold chk;simp at h0 ⊢;simp [← HQ.out, h0]
   clear HTB;go_wp2_with (refine HI.out.mono ?_; rintro e w2 ⟨rfl, b2⟩)
   go_roundw
   case rel => exact ⟨2, by omega, by first | rfl | go_num, hid (zB HW.out b2), HT2⟩
   case measure => simp [zD]
  ·
   have HTB := HTC.out;simp at HTB;obtain ⟨q, hq⟩ : ∃ q, q = xz s := ⟨_, rfl⟩
   have HI := hid (zHG wr B _ s hH.out (zGV s HTB.1 HTB.2));rw [← hq] at HI;have HQ := hid hq;have f0 : wr.cell? ⟨w.heap.size + 1, 2, none⟩ = some (.func (.func 76) #[] #[]) := FF.out.cell 2;have r1 : IntKind.i64.wrap ((2 : Int) + 1) = 3 := by decide
   clear hq;have k0 := SS.out.cell 0;have k1 := SS.out.cell 1;have k2 := SS.out.cell 2;have k3 := SS.out.cell 3;rcases q with _ | _
   · clear HTB;exact m63
   have HT2 : Hid (chk s 3 = true) := by
    refine hid ?_;have h0 := HTC.out;unfold chk;simp at h0 ⊢;simp [← HQ.out, h0]
   clear HTB;go_wp2_with (refine HI.out.mono ?_; rintro e w2 ⟨rfl, b2⟩)
   go_roundw
   case rel => exact ⟨3, by omega, by first | rfl | go_num, hid (zB HW.out b2), HT2⟩
   case measure => simp [zD]
  ·
   have HTB := HTC.out;simp at HTB;obtain ⟨q, hq⟩ : ∃ q, q = vu s := ⟨_, rfl⟩
   have HI := hid (zIJ wr B _ s hH.out);rw [← hq] at HI;have HQ := hid hq;have f0 : wr.cell? ⟨w.heap.size + 1, 3, none⟩ = some (.func (.func 77) #[] #[]) := FF.out.cell 3;have r1 : IntKind.i64.wrap ((3 : Int) + 1) = 4 := by decide
   clear hq;have k0 := SS.out.cell 0;have k1 := SS.out.cell 1;have k2 := SS.out.cell 2;have k3 := SS.out.cell 3;rcases q with _ | _
   · clear HTB;exact m63
   have HT2 : Hid (chk s 4 = true) := by
    refine hid ?_;have h0 := HTC.out;unfold chk;simp at h0 ⊢;simp [← HQ.out, h0]
   clear HTB;go_wp2_with (refine HI.out.mono ?_; rintro e w2 ⟨rfl, b2⟩)
   go_roundw
   case rel => exact ⟨4, by omega, by first | rfl | go_num, hid (zB HW.out b2), HT2⟩
   case measure => simp [zD]
  ·
   have HTB := HTC.out;simp at HTB;obtain ⟨q, hq⟩ : ∃ q, q = zCD s := ⟨_, rfl⟩
   have HI := hid (zFu wr B _ s hH.out);rw [← hq] at HI;have HQ := hid hq;have f0 : wr.cell? ⟨w.heap.size + 1, 4, none⟩ = some (.func (.func 78) #[] #[]) := FF.out.cell 4;have r1 : IntKind.i64.wrap ((4 : Int) + 1) = 5 := by decide
   clear hq;have k0 := SS.out.cell 0;have k1 := SS.out.cell 1;have k2 := SS.out.cell 2;have k3 := SS.out.cell 3;rcases q with _ | _
   · clear HTB;exact m63
   have HT2 : Hid (chk s 5 = true) := by
    refine hid ?_;have h0 := HTC.out;unfold chk;simp at h0 ⊢;simp [← HQ.out, h0]
   clear HTB;go_wp2_with (refine HI.out.mono ?_; rintro e w2 ⟨rfl, b2⟩)
   go_roundw
   case rel => exact ⟨5, by omega, by first | rfl | go_num, hid (zB HW.out b2), HT2⟩
   case measure => simp [zD]
  have HF : Hid (r = true) := by
   have h0 := HTC.out;simp at h0;exact hid (by rw [HR.out]; simp [h0])
  (go_wp2);go_ret;rw [HF.out];exact ⟨rfl, WW.out⟩
end Go.Proofs.YtcjhihmaegagdaaGreatDoor
