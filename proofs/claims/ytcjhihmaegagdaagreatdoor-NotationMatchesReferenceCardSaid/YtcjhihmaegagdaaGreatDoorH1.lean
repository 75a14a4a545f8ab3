/- Texts of the Notation chapter, together: Sa, Sb, Sc, Sd, Sp, Sq, Sr, Ss. -/
import Derived.Test.YtcjhihmaegagdaaGreatDoorG2
import Derived.Test.YtcjhihmaegagdaaGreatDoorG1
import Derived.Test.YtcjhihmaegagdaaGreatDoorG3
import Derived.BigRegion
import Derived.Deep.MidRow
set_option maxRecDepth 100000
set_option maxHeartbeats 8000000
set_option linter.unusedSimpArgs false
set_option linter.unusedVariables false
set_option linter.unusedSectionVars false
set_option linter.unnecessarySimpa false
namespace Go.Proofs.YtcjhihmaegagdaaGreatDoor
open Go.RowKit Go.Deep
structure ze (W : World) (blk : Nat) (ok : Int → Prop) (f : Nat → Int) (n : Nat) (w : World) : Prop where
 only : zH blk W w
 cell : ∀ t, t < n → w.cell? ⟨blk, t, none⟩ = some (.int .i64 (f t))
 fr : ∀ t, t < n → w.frozen? ⟨blk, t, none⟩ = false
 ok : ∀ t, t < n → ok (f t)
 lt : blk < w.heap.size
theorem ze.below {W w w' : World} {blk n : Nat} {ok : Int → Prop} {f : Nat → Int} (h : ze W blk ok f n w) (b : Below w.heap.size w w') : ze W blk ok f n w' :=
 ⟨h.only.trans (zH.of_below b), fun t ht => (b.cell (p := ⟨blk, t, none⟩) h.lt).trans (h.cell t ht), fun t ht => (b.frozen (p := ⟨blk, t, none⟩) h.lt).trans (h.fr t ht), h.ok, Nat.lt_of_lt_of_le h.lt b.size⟩
theorem ze.swap {W w : World} {blk n : Nat} {ok : Int → Prop} {f : Nat → Int} (h : ze W blk ok f n w) (i j : Nat) (hi : i < n) (hj : j < n) :
 ze W blk ok (zAD f i j) n ((w.setCell ⟨blk, i, none⟩ (.int .i64 (f j))).setCell ⟨blk, j, none⟩ (.int .i64 (f i))).drew := by
 refine ⟨((h.only.setCell i _).setCell j _).drew, fun t ht => ?_, fun t ht => ?_, fun t ht => ?_, ?_⟩
 ·
  show ((w.setCell ⟨blk, i, none⟩ (.int .i64 (f j))).setCell ⟨blk, j, none⟩ (.int .i64 (f i))).cell? ⟨blk, t, none⟩ = _;have c1 := h.cell i hi;have c2 := h.cell j hj;have c3 := h.cell t ht;unfold zAD;by_cases e2 : t = j
  ·
   subst e2
   have q : (w.setCell ⟨blk, i, none⟩ (.int .i64 (f t))).cell? ⟨blk, t, none⟩ ≠ none := by
    by_cases e : i = t
    · subst e; rw [World.cell?_setCell_same _ _ _ c1]; simp
    rw [World.cell?_setCell_other _ _ _ _ (by intro e'; simp only [Addr.mk.injEq] at e'; omega), c2]; simp
   obtain ⟨u, hu⟩ := Option.ne_none_iff_exists'.1 q;rw [World.cell?_setCell_same _ _ _ hu];by_cases e : t = i
   · subst e; rw [if_pos rfl]
   rw [if_neg e, if_pos rfl]
  rw [World.cell?_setCell_other _ _ _ _ (by intro e'; simp only [Addr.mk.injEq] at e'; omega)];by_cases e : t = i
  · subst e; rw [World.cell?_setCell_same _ _ _ c1, if_pos rfl]
  rw [World.cell?_setCell_other _ _ _ _ (by intro e'; simp only [Addr.mk.injEq] at e'; omega), c3, if_neg e, if_neg e2]
 · show ((w.setCell ⟨blk, i, none⟩ (.int .i64 (f j))).setCell ⟨blk, j, none⟩ (.int .i64 (f i))).frozen? ⟨blk, t, none⟩ = _;rw [World.frozen?_setCell, World.frozen?_setCell]; exact h.fr t ht
 ·
  unfold zAD;split
  · exact h.ok j hj
  split
  · exact h.ok i hi
  exact h.ok t ht
 show blk < ((w.setCell ⟨blk, i, none⟩ (.int .i64 (f j))).setCell ⟨blk, j, none⟩ (.int .i64 (f i))).heap.size;simpa using h.lt
def zFA (W : World) (blk : Nat) (ok : Int → Prop) (lt : Int → Int → Bool) (g : Nat) (cb : Array Value) : Prop :=
 ∀ w, zH blk W w → ∀ x y, ok x → ok y → Calls Tryz.prog g (#[.int .i64 x, .int .i64 y] ++ cb) w fun e w' => e = .returned (.int .i64 (if lt x y = true then -1 else if lt y x = true then 1 else 0)) ∧ Below w.heap.size w w'
theorem qL (W0 W : World) (blk n cap a b k : Nat) (ok : Int → Prop) (f : Nat → Int) (fv : Value) (h : ze W0 blk ok f n W) (hab : a + k ≤ b) (hb : b + k ≤ n) (hn : n < 4611686018427387904) :
 Calls Tryz.prog 183 #[.slice (some ⟨blk, 0, none⟩) n cap, .int .i64 a, .int .i64 b, .int .i64 k, fv] W fun e w' => e = .returned (.tuple #[]) ∧ ze W0 blk ok (jN f a b k) n w' := by
 have H := hid h;clear h;go_enter Tryz.func183, Tryz.ntmps183
 go_wp2
 go_loopw [10] (fun i wx => ∃ j : Nat, j ≤ k ∧ i = .int .i64 j ∧ Hid (ze W0 blk ok (jN f a b j) n wx)) (fun i _ => k - (zD i).toNat)
 case atStart => exact ⟨0, Nat.zero_le _, rfl, by rw [zDQ]; exact H⟩
 case round =>
  obtain ⟨j, hj, rfl, HR⟩ := hrel;by_cases hlt : j < k
  ·
   have c1 := HR.out.cell (a + j) (by omega);have c2 := HR.out.cell (b + j) (by omega);have f1 := HR.out.fr (a + j) (by omega);have f2 := HR.out.fr (b + j) (by omega);have e1 : ((a : Int) + (j : Int)).toNat = a + j := by omega
   have e2 : ((b : Int) + (j : Int)).toNat = b + j := by omega
   have r1 : IntKind.i64.wrap ((a : Int) + (j : Int)) = (a : Int) + (j : Int) := by rw [IntKind.wrap_i64]; omega
   have r2 : IntKind.i64.wrap ((b : Int) + (j : Int)) = (b : Int) + (j : Int) := by rw [IntKind.wrap_i64]; omega
   have HN : Hid (ze W0 blk ok (jN f a b (j + 1)) n _) := hid (zC0 (f := f) a b j (by omega) ▸ HR.out.swap (a + j) (b + j) (by omega) (by omega));go_wp2_with fail
   go_big_region
   go_wp2
   go_roundw
   case rel => exact ⟨j + 1, by omega, by go_num, HN⟩
   case measure => simp [zD]; omega
  (obtain rfl : j = k := by omega);(go_wp2);(go_end0);exact ⟨rfl, HR.out⟩
theorem ql (W0 W : World) (blk n cap a m b : Nat) (ok : Int → Prop) (f : Nat → Int) (fv : Value) (h : ze W0 blk ok f n W) (ham : a < m) (hmb : m < b) (hb : b ≤ n) (hn : n < 4611686018427387904) :
 Calls Tryz.prog 170 #[.slice (some ⟨blk, 0, none⟩) n cap, .int .i64 a, .int .i64 m, .int .i64 b, fv] W fun e w' => e = .returned (.tuple #[]) ∧ ze W0 blk ok (yE f a m b) n w' := by
 have H := hid h;clear h;obtain ⟨i0, hi0⟩ : ∃ i0, i0 = m - a := ⟨_, rfl⟩
 obtain ⟨j0, hj0⟩ : ∃ j0, j0 = b - m := ⟨_, rfl⟩
 have r1 : IntKind.i64.wrap ((m : Int) - (a : Int)) = (i0 : Int) := by rw [IntKind.wrap_i64]; omega
 have r2 : IntKind.i64.wrap ((b : Int) - (m : Int)) = (j0 : Int) := by rw [IntKind.wrap_i64]; omega
 have HI0 := hid hi0;have HJ0 := hid hj0;clear hi0 hj0;go_enter Tryz.func170, Tryz.ntmps170
 go_wp2
 go_loopw [10, 11] (fun si sj wx => ∃ (i j : Nat) (g : Nat → Int), 0 < i ∧ 0 < j ∧ a + i ≤ m ∧ m + j ≤ b ∧ si = .int .i64 i ∧ sj = .int .i64 j ∧ Hid (ze W0 blk ok g n wx) ∧ Hid (yE g (m - i) m (m + j) = yE f a m b)) (fun si sj _ => (zD si).toNat + (zD sj).toNat)
 case atStart =>
  exact zNt
 case round =>
  obtain ⟨i, j, g, hi, hj, hai, hjb, rfl, rfl, HG, HE⟩ := hrel;clear r1 r2;(obtain ⟨z, hz⟩ : ∃ z, z = m - i := ⟨_, rfl⟩);(have r1 : IntKind.i64.wrap ((m : Int) - (i : Int)) = (z : Int) := by rw [IntKind.wrap_i64]; omega);have HZ := hid hz;clear hz;rcases Nat.lt_trichotomy i j with hlt | heq | hgt
  ·
   obtain ⟨y, hy⟩ : ∃ y, y = m + j - i := ⟨_, rfl⟩
   obtain ⟨x, hx⟩ : ∃ x, x = j - i := ⟨_, rfl⟩
   have r2 : IntKind.i64.wrap ((m : Int) + (j : Int)) = ((m : Int) + (j : Int)) := by rw [IntKind.wrap_i64]; omega
   have r3 : IntKind.i64.wrap ((m : Int) + (j : Int) - (i : Int)) = (y : Int) := by rw [IntKind.wrap_i64]; omega
   have r4 : IntKind.i64.wrap ((j : Int) - (i : Int)) = (x : Int) := by rw [IntKind.wrap_i64]; omega
   have t1 : ¬ (i : Int) = (j : Int) := by omega
   have t2 : ¬ (j : Int) < (i : Int) := by omega
   have HY := hid hy;have HX := hid hx;clear hy hx;go_wp2_with (go_at_call 183; refine (qL W0 _ blk n cap z y i ok g fv HG.out (by have := HZ.out; have := HY.out; omega) (by have := HY.out; omega) hn).mono ?_; rintro e w1 ⟨rfl, h1⟩; replace h1 := hid h1)
   exact zNI
  · subst heq;go_wp2_with (go_at_call 183; refine (qL W0 _ blk n cap z m i ok g fv HG.out (by have := HZ.out; omega) (by omega) hn).mono ?_; rintro e w1 ⟨rfl, h1⟩; replace h1 := hid h1)
    exact zOf
  (obtain ⟨x, hx⟩ : ∃ x, x = i - j := ⟨_, rfl⟩);(have r4 : IntKind.i64.wrap ((i : Int) - (j : Int)) = (x : Int) := by rw [IntKind.wrap_i64]; omega);(have t1 : ¬ (i : Int) = (j : Int) := by omega);(have t2 : (j : Int) < (i : Int) := by omega);have HX := hid hx;clear hx;(go_wp2_with (go_at_call 183; refine (qL W0 _ blk n cap z m j ok g fv HG.out (by have := HZ.out; omega) (by omega) hn).mono ?_; rintro e w1 ⟨rfl, h1⟩; replace h1 := hid h1));exact zNq
open Go.RowKit Go.Deep
theorem zC (w : World) (p : Addr) (x : Int) (h : w.cell? p = some (.int .i64 x)) : (Instr.loadAt 3 (.pointer (some p))).run Tryz.prog w = .ok (.int .i64 x) w := by
 go_simp
theorem zH3 {α : Type} {lt : α → α → Bool} {f fi : Nat → α} (hO : Swo lt) (a i j : Nat) (haj : a ≤ j) (hji : j ≤ i) (hP : Put f fi a i (yh lt (seg f a i))) (hL : ∀ t, j ≤ t → t < i → lt (fi i) (fi t) = true) (hE : a < j → lt (fi i) (fi (j - 1)) = false) :
 Put f (yE fi j i (i + 1)) a (i + 1) (yh lt (seg f a (i + 1))) := by
 have srt : zT lt (seg fi a i) := by rw [hP.seg]; exact kH hO _
 have s := zEs (f := fi) hO a i j haj hji (fun t h1 h2 => by
  have e := hE (by omega);by_cases ht : t = j - 1
  · rw [ht]; exact e
  exact hO.neg _ _ _ e (qo.1 srt t (j - 1) h1 (by omega) (by omega))) (fun h => hL j (Nat.le_refl _) h)
 refine ⟨fun t ht => (s.out t ht).trans (hP.out t (by omega)), ?_⟩;rw [s.seg, hP.seg, qZ fi i (i + 1) (by omega), kI fi (i + 1) (i + 1) (by omega), zBe, hP.out i (by omega), zJw f a i (by omega), xC]
theorem zBa (W0 W : World) (blk n cap a b g : Nat) (cb : Array Value) (ok : Int → Prop) (lt : Int → Int → Bool) (f : Nat → Int) (hO : Swo lt) (hC : zFA W0 blk ok lt g cb) (eg : ∀ args w, (callFunc g args).run Tryz.prog w = .ok (.enter g args) w)
 (h : ze W0 blk ok f n W) (hab : a ≤ b) (hb : b ≤ n) (hn : n < 4611686018427387904) :
 Calls Tryz.prog 143 #[.slice (some ⟨blk, 0, none⟩) n cap, .int .i64 a, .int .i64 b, .func (.func g) #[] cb] W fun e w' => e = .returned (.tuple #[]) ∧ ∃ f', ze W0 blk ok f' n w' ∧ Put f f' a b (yh lt (seg f a b)) := by
 have H := hid h;have HC := hid hC;have HO := hid hO;clear h hC hO;go_enter Tryz.func143, Tryz.ntmps143
 have r0 : IntKind.i64.wrap ((a : Int) + 1) = ((a + 1 : Nat) : Int) := by rw [IntKind.wrap_i64]; omega
 go_wp2
 go_loopw [8] (fun si wx => ∃ (i : Nat) (fi : Nat → Int), a ≤ i ∧ (i ≤ b ∨ i = a + 1) ∧ si = .int .i64 i ∧ Hid (ze W0 blk ok fi n wx) ∧ Hid (Put f fi a (min i b) (yh lt (seg f a (min i b))))) (fun si _ => b + 1 - (zD si).toNat)
 case atStart =>
  exact zMM
 case round =>
  obtain ⟨i, fi, hai, hib, rfl, HI, HP⟩ := hrel;by_cases hlt : i < b
  ·
   go_wp2_with fail
   go_loopw [9] (fun sj wx => ∃ j : Nat, a ≤ j ∧ j ≤ i ∧ sj = .int .i64 j ∧ Hid (ze W0 blk ok (yE fi j i (i + 1)) n wx) ∧ Hid (∀ t, j ≤ t → t < i → lt (fi i) (fi t) = true)) (fun sj _ => (zD sj).toNat)
   case atStart => exact ⟨i, by omega, Nat.le_refl _, rfl, by rw [zAQ]; exact HI, hid (fun t h1 h2 => absurd h1 (by omega))⟩
   case round =>
    obtain ⟨j, haj, hji, rfl, HJ, HL⟩ := hrel;by_cases hja : a < j
    ·
     obtain ⟨x, hx⟩ : ∃ x, x = fi i := ⟨_, rfl⟩
     obtain ⟨y, hy⟩ : ∃ y, y = fi (j - 1) := ⟨_, rfl⟩
     obtain ⟨jp, hjp⟩ : ∃ jp, j = jp + 1 := ⟨j - 1, by omega⟩
     have v1 : yE fi j i (i + 1) j = x := by rw [hx]; unfold yE; rw [if_pos (by omega)]; congr 1; omega
     have v2 : yE fi j i (i + 1) jp = y := by rw [hy]; unfold yE; rw [if_neg (by omega), if_neg (by omega)]; congr 1; omega
     have c1 := HJ.out.cell j (by omega);have c2 := HJ.out.cell jp (by omega);have o1 := HJ.out.ok j (by omega);have o2 := HJ.out.ok jp (by omega);rw [v1] at c1 o1;rw [v2] at c2 o2;have hbl := HJ.out.lt;have e1 : IntKind.i64.wrap ((j : Int) - 1) = (jp : Int) := by rw [IntKind.wrap_i64]; omega
     have t1 : (a : Int) < (j : Int) := by omega
     have b1 : j < n := by omega
     have b2 : jp < n := by omega
     have hcall : ∀ w', Below wr.heap.size wr w' → Calls Tryz.prog g (#[.int .i64 x, .int .i64 y] ++ cb) w' fun e w'' => e = .returned (.int .i64 (if lt x y = true then -1 else if lt y x = true then 1 else 0)) ∧ Below wr.heap.size wr w'' := fun w' hb => (HC.out w' (HJ.out.only.trans (zH.of_below hb)) x y o1 o2).mono fun e w'' h => ⟨h.1, zB hb h.2⟩
     obtain ⟨c, hc⟩ : ∃ c : Int, c = (if lt x y = true then -1 else if lt y x = true then 1 else 0) := ⟨_, rfl⟩
     rw [← hc] at hcall;have V : Hid (x = fi i ∧ y = fi (j - 1) ∧ j = jp + 1) := ⟨hx, hy, hjp⟩
     clear v1 v2 hx hy o1 o2 hjp;go_wp2_with fail
     refine yo ?_;refine zA (.int .i64 (j : Int)) ?_;refine zA (.int .i64 (a : Int)) ?_;refine zA (.bool true) ?_ (hC := fun _ _ => by simp [go_sem, t1]);refine zA (.bool true) ?_;refine zA (.func (.func g) #[] cb) ?_;refine zA (.slice (some ⟨blk, 0, none⟩) n cap) ?_;refine zA (.int .i64 (j : Int)) ?_;refine zA (.pointer (some ⟨blk, j, none⟩)) ?_ (hC := fun _ _ => by simp [go_sem, b1]);refine zL 3 ⟨blk, j, none⟩ (.int .i64 x) (fun w' hb => zC _ _ _ ((hb.cell hbl).trans c1)) ?_;refine zA (.slice (some ⟨blk, 0, none⟩) n cap) ?_;refine zA (.int .i64 (j : Int)) ?_;refine zA (.int .i64 (jp : Int)) ?_ (hC := fun _ _ => by simp [go_sem, e1]);refine zA (.pointer (some ⟨blk, jp, none⟩)) ?_ (hC := fun _ _ => by simp [go_sem, b2]);refine zL 3 ⟨blk, jp, none⟩ (.int .i64 y) (fun w' hb => zC _ _ _ ((hb.cell hbl).trans c2)) ?_;refine zf (by kernel_rfl) (.int .i64 c) g (#[.int .i64 x, .int .i64 y] ++ cb) ?_ ?_ ?_
     · intro w';simp [go_sem, eg]
     · intro w' hb;exact hcall w' hb
     simp only [Act.put, sS];refine zA (.bool (decide (c < 0))) ?_ (hC := fun _ _ => by simp [go_sem, e1]);refine zA (.bool (decide (c < 0))) ?_;refine wpQuiet_nil ?_;intro w2 hb2;have H2 := hid (HJ.out.below hb2);rcases hl : lt x y with _ | _
     · exact m81
     have hneg : c < 0 := by rw [hc, hl]; simp
     have hlx := hid hl;clear hc hcall c1 c2 hbl hl b1 b2 t1;go_wp2_with fail
     have c1 := H2.out.cell j (by omega);have c2 := H2.out.cell jp (by have := V.out.2.2; omega);have f1 := H2.out.fr j (by omega);have f2 := H2.out.fr jp (by have := V.out.2.2; omega);have b1 : j < n := by omega
     have b2 : jp < n := by have := V.out.2.2; omega
     have u1 : yE fi j i (i + 1) j = x := by rw [V.out.1]; unfold yE; rw [if_pos (by omega)]; congr 1; omega
     have u2 : yE fi j i (i + 1) jp = y := by have := V.out.2.2; rw [V.out.2.1]; unfold yE; rw [if_neg (by omega), if_neg (by omega)]; congr 1; omega
     have HN := H2.out.swap j jp (by omega) (by have := V.out.2.2; omega);rw [u1, u2] at HN;rw [u1] at c1;rw [u2] at c2;replace HN := hid HN;clear u1 u2;obtain ⟨u, hu⟩ : ∃ u, (w2.setCell ⟨blk, j, none⟩ (.int .i64 y)).cell? ⟨blk, jp, none⟩ = some u := ⟨_, (World.cell?_setCell_other _ _ _ _ (by intro e'; simp only [Addr.mk.injEq] at e'; have := V.out.2.2; omega)).trans c2⟩
     go_big_region
     exact zN1
    exact m75
  exact zMN
open Go.RowKit Go.Deep
theorem xR {i j n s h : Nat} (hn : n < 2305843009213693952) (hs : s = i + j) (hh : h = s / 2) (hi : i ≤ n) (hj : j ≤ n) :
 IntKind.i64.wrap ((i : Int) + (j : Int)) = (s : Int) ∧ IntKind.u64.wrap (s : Int) = (s : Int) ∧ wrap64 ((s : Int) / 2) = (h : Int) ∧ IntKind.i64.wrap ((s : Int) / 2) = (h : Int) ∧ IntKind.i64.wrap ((h : Int) + 1) = ((h + 1 : Nat) : Int) :=
 ⟨by rw [IntKind.wrap_i64]; omega, by rw [IntKind.wrap_u64]; omega, by unfold wrap64; omega, by rw [IntKind.wrap_i64]; omega, by rw [IntKind.wrap_i64]; omega⟩
theorem zGl (W0 W : World) (blk n cap a m b g : Nat) (cb : Array Value) (ok : Int → Prop) (lt : Int → Int → Bool) (f : Nat → Int) (hO : Swo lt) (hC : zFA W0 blk ok lt g cb) (eg : ∀ args w, (callFunc g args).run Tryz.prog w = .ok (.enter g args) w)
 (h : ze W0 blk ok f n W) (hm : m = a + 1) (hmb : m < b) (hb : b ≤ n) (hn : n < 2305843009213693952) (hs : zT lt (seg f m b)) :
 Calls Tryz.prog 144 #[.slice (some ⟨blk, 0, none⟩) n cap, .int .i64 a, .int .i64 m, .int .i64 b, .func (.func g) #[] cb] W fun e w' => e = .returned (.tuple #[]) ∧ ∃ f', ze W0 blk ok f' n w' ∧ Put f f' a b (zV lt (seg f a m) (seg f m b)) := by
 have H := hid h;have HC := hid hC;have HO := hid hO;have HS := hid hs;clear h hC hO hs;have r0 : IntKind.i64.wrap ((m : Int) - (a : Int)) = 1 := by rw [IntKind.wrap_i64]; omega
 go_enter Tryz.func144, Tryz.ntmps144
 go_wp2
 clear r0;go_loopw [10, 11] (fun si sj wx => ∃ i j : Nat, m ≤ i ∧ i ≤ j ∧ j ≤ b ∧ si = .int .i64 i ∧ sj = .int .i64 j ∧ Hid (ze W0 blk ok f n wx) ∧ Hid (∀ t, m ≤ t → t < i → lt (f t) (f a) = true) ∧ Hid (∀ t, j ≤ t → t < b → lt (f t) (f a) = false)) (fun si sj _ => (zD sj).toNat - (zD si).toNat)
 case atStart => exact ⟨m, b, Nat.le_refl _, Nat.le_of_lt hmb, Nat.le_refl _, rfl, rfl, H, hid (fun t h1 h2 => absurd h1 (by omega)), hid (fun t h1 h2 => absurd h1 (by omega))⟩
 case round =>
  obtain ⟨i, j, hmi, hij, hjb, rfl, rfl, HW, HA, HB⟩ := hrel;by_cases hlt : i < j
  ·
   obtain ⟨s, hs⟩ : ∃ s, s = i + j := ⟨_, rfl⟩
   obtain ⟨h, hh⟩ : ∃ h, h = s / 2 := ⟨_, rfl⟩
   have HF := hid (xR (i := i) (j := j) (n := n) (by omega) hs hh (by omega) (by omega));obtain ⟨x, hx⟩ : ∃ x, x = f h := ⟨_, rfl⟩
   obtain ⟨y, hy⟩ : ∃ y, y = f a := ⟨_, rfl⟩
   have c1 := HW.out.cell h (by omega);have c2 := HW.out.cell a (by omega);have o1 := HW.out.ok h (by omega);have o2 := HW.out.ok a (by omega);rw [← hx] at c1 o1;rw [← hy] at c2 o2;have hbl := HW.out.lt;have b1 : h < n := by omega
   have b2 : a < n := by omega
   have hcall : ∀ w', Below wr.heap.size wr w' → Calls Tryz.prog g (#[.int .i64 x, .int .i64 y] ++ cb) w' fun e w'' => e = .returned (.int .i64 (if lt x y = true then -1 else if lt y x = true then 1 else 0)) ∧ Below wr.heap.size wr w'' := fun w' hb => (HC.out w' (HW.out.only.trans (zH.of_below hb)) x y o1 o2).mono fun e w'' h => ⟨h.1, zB hb h.2⟩
   obtain ⟨c, hc⟩ : ∃ c : Int, c = (if lt x y = true then -1 else if lt y x = true then 1 else 0) := ⟨_, rfl⟩
   rw [← hc] at hcall;replace hx := hid hx;replace hy := hid hy;have HHH : Hid (h = s / 2 ∧ s = i + j) := hid ⟨hh, hs⟩;clear o1 o2 hs hh;obtain ⟨r1, r2, r3, r4, r5⟩ := HF.out;go_wp2_with fail
   refine yo ?_;refine zA (.func (.func g) #[] cb) ?_;refine zA (.slice (some ⟨blk, 0, none⟩) n cap) ?_;refine zA (.int .i64 (h : Int)) ?_;refine zA (.pointer (some ⟨blk, h, none⟩)) ?_ (hC := fun _ _ => by simp [go_sem, b1]);refine zL 3 ⟨blk, h, none⟩ (.int .i64 x) (fun w' hb => zC _ _ _ ((hb.cell hbl).trans c1)) ?_;refine zA (.slice (some ⟨blk, 0, none⟩) n cap) ?_;refine zA (.int .i64 (a : Int)) ?_;refine zA (.pointer (some ⟨blk, a, none⟩)) ?_ (hC := fun _ _ => by simp [go_sem, b2]);refine zL 3 ⟨blk, a, none⟩ (.int .i64 y) (fun w' hb => zC _ _ _ ((hb.cell hbl).trans c2)) ?_;refine zf (by kernel_rfl) (.int .i64 c) g (#[.int .i64 x, .int .i64 y] ++ cb) ?_ ?_ ?_
   · intro w';simp [go_sem, eg]
   · intro w' hb;exact hcall w' hb
   exact m48
  (obtain rfl : i = j := by omega);(obtain ⟨ip, hip⟩ : ∃ ip, i = ip + 1 := ⟨i - 1, by omega⟩);(have r1 : IntKind.i64.wrap ((i : Int) - 1) = (ip : Int) := by rw [IntKind.wrap_i64]; omega);clear hlt;(go_wp2);go_loopw [13] (fun sk wx => ∃ k : Nat, a ≤ k ∧ k ≤ ip ∧ sk = .int .i64 k ∧ Hid (ze W0 blk ok (yE f a (a + 1) (k + 1)) n wx)) (fun sk _ => ip - (zD sk).toNat)
  case atStart => exact ⟨a, Nat.le_refl _, by omega, rfl, by rw [zH4]; exact HW⟩
  case round =>
   obtain ⟨k, hak, hki, rfl, HK⟩ := hrel;by_cases hlt : k < ip
   ·
    have e1 : IntKind.i64.wrap ((k : Int) + 1) = ((k + 1 : Nat) : Int) := by rw [IntKind.wrap_i64]; omega
    have c1 := HK.out.cell k (by omega);have c2 := HK.out.cell (k + 1) (by omega);have f1 := HK.out.fr k (by omega);have f2 := HK.out.fr (k + 1) (by omega);have b1 : k < n := by omega
    have b2 : (k + 1) < n := by omega
    have HN := HK.out.swap k (k + 1) (by omega) (by omega);obtain ⟨x, hx⟩ : ∃ x, x = yE f a (a + 1) (k + 1) k := ⟨_, rfl⟩
    obtain ⟨y, hy⟩ : ∃ y, y = yE f a (a + 1) (k + 1) (k + 1) := ⟨_, rfl⟩
    rw [← hx, ← hy] at HN;rw [← hx] at c1;rw [← hy] at c2;replace HN := hid HN;obtain ⟨u, hu⟩ : ∃ u, (wr.setCell ⟨blk, k, none⟩ (.int .i64 y)).cell? ⟨blk, (k + 1), none⟩ = some u := ⟨_, (World.cell?_setCell_other _ _ _ _ (by intro e'; simp only [Addr.mk.injEq] at e'; omega)).trans c2⟩
    clear hx hy;go_wp2_with fail
    go_big_region
    go_wp2
    go_roundw
    case rel => exact ⟨k + 1, by omega, by omega, rfl, hid (zJ7 (f := f) a k hak ▸ HN.out)⟩
    case measure => simp [zD]; omega
   exact zNu
theorem zEX (W0 W : World) (blk n cap a m b g : Nat) (cb : Array Value) (ok : Int → Prop) (lt : Int → Int → Bool) (f : Nat → Int) (hO : Swo lt) (hC : zFA W0 blk ok lt g cb) (eg : ∀ args w, (callFunc g args).run Tryz.prog w = .ok (.enter g args) w)
 (h : ze W0 blk ok f n W) (ham : a < m) (hma : m ≠ a + 1) (hm : b = m + 1) (hb : b ≤ n) (hn : n < 2305843009213693952) (hs : zT lt (seg f a m)) :
 Calls Tryz.prog 144 #[.slice (some ⟨blk, 0, none⟩) n cap, .int .i64 a, .int .i64 m, .int .i64 b, .func (.func g) #[] cb] W fun e w' => e = .returned (.tuple #[]) ∧ ∃ f', ze W0 blk ok f' n w' ∧ Put f f' a b (zV lt (seg f a m) (seg f m b)) := by
 have H := hid h;have HC := hid hC;have HO := hid hO;have HS := hid hs;clear h hC hO hs;obtain ⟨z, hz⟩ : ∃ z, z = m - a := ⟨_, rfl⟩
 have r0 : IntKind.i64.wrap ((m : Int) - (a : Int)) = (z : Int) := by rw [IntKind.wrap_i64]; omega
 have t0 : ¬ (z : Int) = 1 := by omega
 have r9 : IntKind.i64.wrap ((b : Int) - (m : Int)) = 1 := by rw [IntKind.wrap_i64]; omega
 clear hz;go_enter Tryz.func144, Tryz.ntmps144
 go_wp2
 clear r0 r9 t0;go_loopw [14, 15] (fun si sj wx => ∃ i j : Nat, a ≤ i ∧ i ≤ j ∧ j ≤ m ∧ si = .int .i64 i ∧ sj = .int .i64 j ∧ Hid (ze W0 blk ok f n wx) ∧ Hid (∀ t, a ≤ t → t < i → lt (f m) (f t) = false) ∧ Hid (j < m → lt (f m) (f j) = true)) (fun si sj _ => (zD sj).toNat - (zD si).toNat)
 case atStart => exact ⟨a, m, Nat.le_refl _, Nat.le_of_lt ham, Nat.le_refl _, rfl, rfl, H, hid (fun t h1 h2 => absurd h1 (by omega)), hid (fun h => absurd h (by omega))⟩
 case round =>
  obtain ⟨i, j, hai, hij, hjm, rfl, rfl, HW, HA, HB⟩ := hrel;by_cases hlt : i < j
  ·
   obtain ⟨s, hs⟩ : ∃ s, s = i + j := ⟨_, rfl⟩
   obtain ⟨h, hh⟩ : ∃ h, h = s / 2 := ⟨_, rfl⟩
   have HF := hid (xR (i := i) (j := j) (n := n) (by omega) hs hh (by omega) (by omega));obtain ⟨x, hx⟩ : ∃ x, x = f m := ⟨_, rfl⟩
   obtain ⟨y, hy⟩ : ∃ y, y = f h := ⟨_, rfl⟩
   have c1 := HW.out.cell m (by omega);have c2 := HW.out.cell h (by omega);have o1 := HW.out.ok m (by omega);have o2 := HW.out.ok h (by omega);rw [← hx] at c1 o1;rw [← hy] at c2 o2;have hbl := HW.out.lt;have b1 : m < n := by omega
   have b2 : h < n := by omega
   have hcall : ∀ w', Below wr.heap.size wr w' → Calls Tryz.prog g (#[.int .i64 x, .int .i64 y] ++ cb) w' fun e w'' => e = .returned (.int .i64 (if lt x y = true then -1 else if lt y x = true then 1 else 0)) ∧ Below wr.heap.size wr w'' := fun w' hb => (HC.out w' (HW.out.only.trans (zH.of_below hb)) x y o1 o2).mono fun e w'' h => ⟨h.1, zB hb h.2⟩
   obtain ⟨c, hc⟩ : ∃ c : Int, c = (if lt x y = true then -1 else if lt y x = true then 1 else 0) := ⟨_, rfl⟩
   rw [← hc] at hcall;replace hx := hid hx;replace hy := hid hy;have HHH : Hid (h = s / 2 ∧ s = i + j) := hid ⟨hh, hs⟩;clear o1 o2 hs hh;obtain ⟨r1, r2, r3, r4, r5⟩ := HF.out;go_wp2_with fail
   refine yo ?_;refine zA (.func (.func g) #[] cb) ?_;refine zA (.slice (some ⟨blk, 0, none⟩) n cap) ?_;refine zA (.int .i64 (m : Int)) ?_;refine zA (.pointer (some ⟨blk, m, none⟩)) ?_ (hC := fun _ _ => by simp [go_sem, b1]);refine zL 3 ⟨blk, m, none⟩ (.int .i64 x) (fun w' hb => zC _ _ _ ((hb.cell hbl).trans c1)) ?_;refine zA (.slice (some ⟨blk, 0, none⟩) n cap) ?_;refine zA (.int .i64 (h : Int)) ?_;refine zA (.pointer (some ⟨blk, h, none⟩)) ?_ (hC := fun _ _ => by simp [go_sem, b2]);refine zL 3 ⟨blk, h, none⟩ (.int .i64 y) (fun w' hb => zC _ _ _ ((hb.cell hbl).trans c2)) ?_;refine zf (by kernel_rfl) (.int .i64 c) g (#[.int .i64 x, .int .i64 y] ++ cb) ?_ ?_ ?_
   · intro w';simp [go_sem, eg]
   · intro w' hb;exact hcall w' hb
   exact m38
  (obtain rfl : i = j := by omega);clear hlt;(go_wp2);go_loopw [17] (fun sk wx => ∃ k : Nat, i ≤ k ∧ k ≤ m ∧ sk = .int .i64 k ∧ Hid (ze W0 blk ok (yE f k m (m + 1)) n wx)) (fun sk _ => (zD sk).toNat)
  case atStart => exact ⟨m, hjm, Nat.le_refl _, rfl, by rw [zAQ]; exact HW⟩
  case round =>
   obtain ⟨k, hik, hkm, rfl, HK⟩ := hrel;by_cases hlt : i < k
   ·
    obtain ⟨kp, hkp⟩ : ∃ kp, k = kp + 1 := ⟨k - 1, by omega⟩
    have e1 : IntKind.i64.wrap ((k : Int) - 1) = (kp : Int) := by rw [IntKind.wrap_i64]; omega
    have c1 := HK.out.cell k (by omega);have c2 := HK.out.cell kp (by omega);have f1 := HK.out.fr k (by omega);have f2 := HK.out.fr kp (by omega);have b1 : k < n := by omega
    have b2 : kp < n := by omega
    have HN := HK.out.swap k kp (by omega) (by omega);obtain ⟨x, hx⟩ : ∃ x, x = yE f k m (m + 1) k := ⟨_, rfl⟩
    obtain ⟨y, hy⟩ : ∃ y, y = yE f k m (m + 1) kp := ⟨_, rfl⟩
    rw [← hx, ← hy] at HN;rw [← hx] at c1;rw [← hy] at c2;replace HN := hid HN;obtain ⟨u, hu⟩ : ∃ u, (wr.setCell ⟨blk, k, none⟩ (.int .i64 y)).cell? ⟨blk, kp, none⟩ = some u := ⟨_, (World.cell?_setCell_other _ _ _ _ (by intro e'; simp only [Addr.mk.injEq] at e'; omega)).trans c2⟩
    clear hx hy;replace hkp := hid hkp;go_wp2_with fail
    go_big_region
    exact zN4
   exact zN9
theorem zHe (W0 W : World) (blk n cap a m b g : Nat) (cb : Array Value) (ok : Int → Prop) (lt : Int → Int → Bool) (f : Nat → Int) (hO : Swo lt) (hC : zFA W0 blk ok lt g cb) (eg : ∀ args w, (callFunc g args).run Tryz.prog w = .ok (.enter g args) w)
 (h : ze W0 blk ok f n W) (hq : (a + b) / 2 < m) (ham : a < m) (hmb : m < b) (hma : m ≠ a + 1) (hbm : b ≠ m + 1) (hb : b ≤ n) (hn : n < 2305843009213693952) (hs1 : zT lt (seg f a m)) (hs2 : zT lt (seg f m b))
 (IH : ∀ (a1 m1 b1 : Nat) (f1 : Nat → Int) (W1 : World), b1 - a1 < b - a → a1 < m1 → m1 < b1 → b1 ≤ n → ze W0 blk ok f1 n W1 → zT lt (seg f1 a1 m1) → zT lt (seg f1 m1 b1) → Calls Tryz.prog 144 #[.slice (some ⟨blk, 0, none⟩) n cap, .int .i64 a1, .int .i64 m1, .int .i64 b1, .func (.func g) #[] cb] W1 fun e w' => e = .returned (.tuple #[]) ∧ ∃ f', ze W0 blk ok f' n w' ∧ Put f1 f' a1 b1 (zV lt (seg f1 a1 m1) (seg f1 m1 b1))) :
 Calls Tryz.prog 144 #[.slice (some ⟨blk, 0, none⟩) n cap, .int .i64 a, .int .i64 m, .int .i64 b, .func (.func g) #[] cb] W fun e w' => e = .returned (.tuple #[]) ∧ ∃ f', ze W0 blk ok f' n w' ∧ Put f f' a b (zV lt (seg f a m) (seg f m b)) := by
 have H := hid h;have HC := hid hC;have HO := hid hO;have HS1 := hid hs1;have HS2 := hid hs2;have HIH := hid IH;clear h hC hO hs1 hs2 IH;obtain ⟨z, hz⟩ : ∃ z, z = m - a := ⟨_, rfl⟩
 have r0 : IntKind.i64.wrap ((m : Int) - (a : Int)) = (z : Int) := by rw [IntKind.wrap_i64]; omega
 have t0 : ¬ (z : Int) = 1 := by omega
 obtain ⟨y, hy⟩ : ∃ y, y = b - m := ⟨_, rfl⟩
 have r9 : IntKind.i64.wrap ((b : Int) - (m : Int)) = (y : Int) := by rw [IntKind.wrap_i64]; omega
 have t9 : ¬ (y : Int) = 1 := by omega
 clear hz hy;obtain ⟨s, hs⟩ : ∃ s, s = a + b := ⟨_, rfl⟩
 obtain ⟨mid, hmid⟩ : ∃ mid, mid = s / 2 := ⟨_, rfl⟩
 have HF := hid (xR (i := a) (j := b) (n := n) (by omega) hs hmid (by omega) (by omega));have hq2 : mid < m := by omega
 obtain ⟨N, hN⟩ : ∃ N, N = mid + m := ⟨_, rfl⟩
 have rN : IntKind.i64.wrap ((mid : Int) + (m : Int)) = (N : Int) := by rw [IntKind.wrap_i64]; omega
 obtain ⟨p, hp⟩ : ∃ p, p = mid + m - 1 := ⟨_, rfl⟩
 have rp : IntKind.i64.wrap ((N : Int) - 1) = (p : Int) := by rw [IntKind.wrap_i64]; omega
 have HMID : Hid (a ≤ mid ∧ 2 * mid ≤ a + b ∧ a + b ≤ 2 * mid + 1 ∧ a < mid ∧ mid < b ∧ N = mid + m ∧ p = mid + m - 1) := hid ⟨by omega, by omega, by omega, by omega, by omega, hN, hp⟩;obtain ⟨s0, hs0⟩ : ∃ s0, s0 = N - b := ⟨_, rfl⟩
 have r7 : IntKind.i64.wrap ((N : Int) - (b : Int)) = (s0 : Int) := by rw [IntKind.wrap_i64]; omega
 obtain ⟨r1x, hr0⟩ : ∃ r1x, r1x = mid := ⟨_, rfl⟩
 have HM : Hid ((mid < m ∧ s0 + b = mid + m ∧ r1x = mid ∧ b ≤ mid + m) ∨ (m ≤ mid ∧ s0 = a ∧ r1x = m)) := hid (Or.inl ⟨by omega, by omega, hr0, by omega⟩);have HSR : Hid (s0 ≤ r1x ∧ a ≤ s0 ∧ r1x ≤ m ∧ r1x ≤ mid ∧ mid + m ≤ s0 + b) := hid ⟨by omega, by omega, by omega, by omega, by omega⟩;have HS0 := hid hs0;have HR0 := hid hr0;clear hs hmid hN hp hq hs0 hr0;obtain ⟨r1, r2, r3, r4, r5⟩ := HF.out;clear r5;go_enter Tryz.func144, Tryz.ntmps144
 go_wp2
 clear r0 t0 r9 t9 r1 r2 r3 r4 rN rp r7;go_loopw [20, 21] (fun si sj wx => ∃ i j : Nat, s0 ≤ i ∧ i ≤ j ∧ j ≤ r1x ∧ si = .int .i64 i ∧ sj = .int .i64 j ∧ Hid (ze W0 blk ok f n wx) ∧ Hid (∀ t, s0 ≤ t → t < i → lt (f (mid + m - 1 - t)) (f t) = false) ∧ Hid (∀ t, j ≤ t → t < r1x → lt (f (mid + m - 1 - t)) (f t) = true)) (fun si sj _ => (zD sj).toNat - (zD si).toNat)
 case atStart => exact ⟨s0, r1x, Nat.le_refl _, HSR.out.1, Nat.le_refl _, rfl, by rw [HR0.out], H, hid (fun t h1 h2 => absurd h1 (by omega)), hid (fun t h1 h2 => absurd h1 (by omega))⟩
 case round =>
  exact zNK
theorem zF6 (W0 W : World) (blk n cap a m b g : Nat) (cb : Array Value) (ok : Int → Prop) (lt : Int → Int → Bool) (f : Nat → Int) (hO : Swo lt) (hC : zFA W0 blk ok lt g cb) (eg : ∀ args w, (callFunc g args).run Tryz.prog w = .ok (.enter g args) w)
 (h : ze W0 blk ok f n W) (hq : ¬ (a + b) / 2 < m) (ham : a < m) (hmb : m < b) (hma : m ≠ a + 1) (hbm : b ≠ m + 1) (hb : b ≤ n) (hn : n < 2305843009213693952) (hs1 : zT lt (seg f a m)) (hs2 : zT lt (seg f m b))
 (IH : ∀ (a1 m1 b1 : Nat) (f1 : Nat → Int) (W1 : World), b1 - a1 < b - a → a1 < m1 → m1 < b1 → b1 ≤ n → ze W0 blk ok f1 n W1 → zT lt (seg f1 a1 m1) → zT lt (seg f1 m1 b1) → Calls Tryz.prog 144 #[.slice (some ⟨blk, 0, none⟩) n cap, .int .i64 a1, .int .i64 m1, .int .i64 b1, .func (.func g) #[] cb] W1 fun e w' => e = .returned (.tuple #[]) ∧ ∃ f', ze W0 blk ok f' n w' ∧ Put f1 f' a1 b1 (zV lt (seg f1 a1 m1) (seg f1 m1 b1))) :
 Calls Tryz.prog 144 #[.slice (some ⟨blk, 0, none⟩) n cap, .int .i64 a, .int .i64 m, .int .i64 b, .func (.func g) #[] cb] W fun e w' => e = .returned (.tuple #[]) ∧ ∃ f', ze W0 blk ok f' n w' ∧ Put f f' a b (zV lt (seg f a m) (seg f m b)) := by
 have H := hid h;have HC := hid hC;have HO := hid hO;have HS1 := hid hs1;have HS2 := hid hs2;have HIH := hid IH;clear h hC hO hs1 hs2 IH;obtain ⟨z, hz⟩ : ∃ z, z = m - a := ⟨_, rfl⟩
 have r0 : IntKind.i64.wrap ((m : Int) - (a : Int)) = (z : Int) := by rw [IntKind.wrap_i64]; omega
 have t0 : ¬ (z : Int) = 1 := by omega
 obtain ⟨y, hy⟩ : ∃ y, y = b - m := ⟨_, rfl⟩
 have r9 : IntKind.i64.wrap ((b : Int) - (m : Int)) = (y : Int) := by rw [IntKind.wrap_i64]; omega
 have t9 : ¬ (y : Int) = 1 := by omega
 clear hz hy;obtain ⟨s, hs⟩ : ∃ s, s = a + b := ⟨_, rfl⟩
 obtain ⟨mid, hmid⟩ : ∃ mid, mid = s / 2 := ⟨_, rfl⟩
 have HF := hid (xR (i := a) (j := b) (n := n) (by omega) hs hmid (by omega) (by omega));have hq2 : ¬ mid < m := by omega
 obtain ⟨N, hN⟩ : ∃ N, N = mid + m := ⟨_, rfl⟩
 have rN : IntKind.i64.wrap ((mid : Int) + (m : Int)) = (N : Int) := by rw [IntKind.wrap_i64]; omega
 obtain ⟨p, hp⟩ : ∃ p, p = mid + m - 1 := ⟨_, rfl⟩
 have rp : IntKind.i64.wrap ((N : Int) - 1) = (p : Int) := by rw [IntKind.wrap_i64]; omega
 have HMID : Hid (a ≤ mid ∧ 2 * mid ≤ a + b ∧ a + b ≤ 2 * mid + 1 ∧ a < mid ∧ mid < b ∧ N = mid + m ∧ p = mid + m - 1) := hid ⟨by omega, by omega, by omega, by omega, by omega, hN, hp⟩;obtain ⟨s0, hs0⟩ : ∃ s0, s0 = a := ⟨_, rfl⟩
 obtain ⟨r1x, hr0⟩ : ∃ r1x, r1x = m := ⟨_, rfl⟩
 have HM : Hid ((mid < m ∧ s0 + b = mid + m ∧ r1x = mid ∧ b ≤ mid + m) ∨ (m ≤ mid ∧ s0 = a ∧ r1x = m)) := hid (Or.inr ⟨by omega, hs0, hr0⟩);have HSR : Hid (s0 ≤ r1x ∧ a ≤ s0 ∧ r1x ≤ m ∧ r1x ≤ mid ∧ mid + m ≤ s0 + b) := hid ⟨by omega, by omega, by omega, by omega, by omega⟩;have HS0 := hid hs0;have HR0 := hid hr0;clear hs hmid hN hp hq hs0 hr0;obtain ⟨r1, r2, r3, r4, r5⟩ := HF.out;clear r5;go_enter Tryz.func144, Tryz.ntmps144
 go_wp2
 clear r0 t0 r9 t9 r1 r2 r3 r4 rN rp;go_loopw [20, 21] (fun si sj wx => ∃ i j : Nat, s0 ≤ i ∧ i ≤ j ∧ j ≤ r1x ∧ si = .int .i64 i ∧ sj = .int .i64 j ∧ Hid (ze W0 blk ok f n wx) ∧ Hid (∀ t, s0 ≤ t → t < i → lt (f (mid + m - 1 - t)) (f t) = false) ∧ Hid (∀ t, j ≤ t → t < r1x → lt (f (mid + m - 1 - t)) (f t) = true)) (fun si sj _ => (zD sj).toNat - (zD si).toNat)
 case atStart => exact ⟨s0, r1x, Nat.le_refl _, HSR.out.1, Nat.le_refl _, by rw [HS0.out], by rw [HR0.out], H, hid (fun t h1 h2 => absurd h1 (by omega)), hid (fun t h1 h2 => absurd h1 (by omega))⟩
 case round =>
  exact zNK
theorem zBx (W0 : World) (blk n cap g : Nat) (cb : Array Value) (ok : Int → Prop) (lt : Int → Int → Bool) (hO : Swo lt) (hC : zFA W0 blk ok lt g cb) (eg : ∀ args w, (callFunc g args).run Tryz.prog w = .ok (.enter g args) w) (hn : n < 2305843009213693952) :
 ∀ (d a m b : Nat) (f : Nat → Int) (W : World), b - a < d → a < m → m < b → b ≤ n → ze W0 blk ok f n W → zT lt (seg f a m) → zT lt (seg f m b) →
 Calls Tryz.prog 144 #[.slice (some ⟨blk, 0, none⟩) n cap, .int .i64 a, .int .i64 m, .int .i64 b, .func (.func g) #[] cb] W fun e w' => e = .returned (.tuple #[]) ∧ ∃ f', ze W0 blk ok f' n w' ∧ Put f f' a b (zV lt (seg f a m) (seg f m b)) := by
 intro d
 induction d with
 | zero => intro a m b f W h; omega
 | succ d ih =>
  intro a m b f W hd ham hmb hb h hs1 hs2;by_cases h1 : m = a + 1
  · exact zGl W0 W blk n cap a m b g cb ok lt f hO hC eg h h1 hmb hb hn hs2
  by_cases h2 : b = m + 1
  · exact zEX W0 W blk n cap a m b g cb ok lt f hO hC eg h ham h1 h2 hb hn hs1
  by_cases hq : (a + b) / 2 < m
  · exact zHe W0 W blk n cap a m b g cb ok lt f hO hC eg h hq ham hmb h1 h2 hb hn hs1 hs2 (fun a1 m1 b1 f1 W1 h3 h4 h5 h6 h7 h8 h9 => ih a1 m1 b1 f1 W1 (by omega) h4 h5 h6 h7 h8 h9)
  exact zF6 W0 W blk n cap a m b g cb ok lt f hO hC eg h hq ham hmb h1 h2 hb hn hs1 hs2 (fun a1 m1 b1 f1 W1 h3 h4 h5 h6 h7 h8 h9 => ih a1 m1 b1 f1 W1 (by omega) h4 h5 h6 h7 h8 h9)
open Go.RowKit Go.Deep
theorem zHU (W0 W : World) (blk n cap g : Nat) (cb : Array Value) (ok : Int → Prop) (lt : Int → Int → Bool) (f : Nat → Int) (hO : Swo lt) (hC : zFA W0 blk ok lt g cb) (eg : ∀ args w, (callFunc g args).run Tryz.prog w = .ok (.enter g args) w)
 (h : ze W0 blk ok f n W) (hn : n < 1099511627776) :
 Calls Tryz.prog 110 #[.slice (some ⟨blk, 0, none⟩) n cap, .int .i64 n, .func (.func g) #[] cb] W fun e w' => e = .returned (.tuple #[]) ∧ ∃ f', ze W0 blk ok f' n w' ∧ Put f f' 0 n (yh lt (seg f 0 n)) := by
 have H := hid h;have HC := hid hC;have HO := hid hO;clear h hC hO;go_enter Tryz.func110, Tryz.ntmps110
 go_wp2
 go_loopw [7, 8] (fun sa sb wx => ∃ (k a b : Nat) (f1 : Nat → Int), sa = .int .i64 a ∧ sb = .int .i64 b ∧ Hid (a = k * 20 ∧ b = k * 20 + 20 ∧ a ≤ n ∧ zDD lt f f1 20 k) ∧ Hid (ze W0 blk ok f1 n wx)) (fun _ sb _ => n + 20 - (zD sb).toNat)
 case atStart => exact ⟨0, 0, 20, f, rfl, rfl, hid ⟨rfl, rfl, Nat.zero_le _, zDD.zero 20⟩, H⟩
 case round =>
  obtain ⟨k, a, b, f1, rfl, rfl, HK, HI⟩ := hrel;by_cases hlt : b ≤ n
  ·
   obtain ⟨b2, hb2⟩ : ∃ b2, b2 = b + 20 := ⟨_, rfl⟩
   have r1 : IntKind.i64.wrap ((b : Int) + 20) = (b2 : Int) := by rw [IntKind.wrap_i64]; omega
   replace hb2 := hid hb2;go_wp2_with (go_at_call 143; refine (zBa W0 _ blk n cap a b g cb ok lt f1 HO.out HC.out eg HI.out (by have := HK.out; omega) hlt (by omega)).mono ?_; rintro e w1 ⟨rfl, f2, h1, h2⟩; replace h1 := hid h1; replace h2 := hid h2)
   exact zOm
  go_wp2_with (go_at_call 143; refine (zBa W0 _ blk n cap a n g cb ok lt f1 HO.out HC.out eg HI.out (by have := HK.out; omega) (Nat.le_refl _) (by omega)).mono ?_; rintro e w1 ⟨rfl, f2, h1, h2⟩; replace h1 := hid h1; replace h2 := hid h2)
  have HA : Hid (zE6 lt f f2 20 n) := by
   exact zNS
  clear h2 HI HK hlt;go_loopw [6] (fun ss wx => ∃ (s : Nat) (f2 : Nat → Int), ss = .int .i64 s ∧ Hid (0 < s ∧ s < 2 * n + 40 ∧ zE6 lt f f2 s n) ∧ Hid (ze W0 blk ok f2 n wx)) (fun ss _ => n - (zD ss).toNat)
  case atStart => exact ⟨20, f2, rfl, hid ⟨by omega, by omega, HA.out⟩, h1⟩
  case round =>
   clear h1 HA;obtain ⟨s, f2, rfl, HS, HI⟩ := hrel;by_cases hs : s < n
   ·
    obtain ⟨s2, hs2⟩ : ∃ s2, s2 = 2 * s := ⟨_, rfl⟩
    have r1 : IntKind.i64.wrap (2 * (s : Int)) = (s2 : Int) := by rw [IntKind.wrap_i64]; omega
    have r2 : IntKind.i64.wrap ((s : Int) * 2) = (s2 : Int) := by rw [IntKind.wrap_i64]; omega
    replace hs2 := hid hs2;go_wp2
    go_loopw [7, 8] (fun sa sb wx => ∃ (k a b : Nat) (f3 : Nat → Int), sa = .int .i64 a ∧ sb = .int .i64 b ∧ Hid (a = k * (2 * s) ∧ b = k * (2 * s) + 2 * s ∧ a ≤ n ∧ zBm lt f f3 s k n) ∧ Hid (ze W0 blk ok f3 n wx)) (fun _ sb _ => n + s2 - (zD sb).toNat)
    case atStart => exact ⟨0, 0, s2, f2, rfl, rfl, hid ⟨by omega, by have := hs2.out; omega, Nat.zero_le _, zBm.start HS.out.2.2⟩, HI⟩
    case round =>
     clear HI;obtain ⟨k, a, b, f3, rfl, rfl, HK, HI⟩ := hrel;obtain ⟨m, hm⟩ : ∃ m, m = a + s := ⟨_, rfl⟩
     have r3 : IntKind.i64.wrap ((a : Int) + (s : Int)) = (m : Int) := by have := HK.out.2.2.1; rw [IntKind.wrap_i64]; omega
     replace hm := hid hm;by_cases hlt : b ≤ n
     ·
      obtain ⟨b2, hb2⟩ : ∃ b2, b2 = b + s2 := ⟨_, rfl⟩
      have r4 : IntKind.i64.wrap ((b : Int) + (s2 : Int)) = (b2 : Int) := by have := hs2.out; rw [IntKind.wrap_i64]; omega
      replace hb2 := hid hb2
      have HL : Hid (zT lt (seg f3 a m)) := by
       exact m91
      have HR : Hid (zT lt (seg f3 m b)) := by
       exact m84
      go_wp2_with (go_at_call 144; refine (zBx W0 blk n cap g cb ok lt HO.out HC.out eg (by omega) (b - a + 1) a m b f3 _ (Nat.lt_succ_self _) (by have := hm.out; have := HS.out.1; omega) (by have := hm.out; have := HS.out.1; have := HK.out; omega) hlt HI.out HL.out HR.out).mono ?_; rintro e w1 ⟨rfl, f4, h1, h2⟩; replace h1 := hid h1; replace h2 := hid h2)
      exact m82
     by_cases hmn : m < n
     ·
      have HL : Hid (zT lt (seg f3 a m)) := by
       exact m91
      have HR : Hid (zT lt (seg f3 m n)) := by
       exact m84
      go_wp2_with (go_at_call 144; refine (zBx W0 blk n cap g cb ok lt HO.out HC.out eg (by omega) (n - a + 1) a m n f3 _ (Nat.lt_succ_self _) (by have := hm.out; have := HS.out.1; omega) hmn (Nat.le_refl _) HI.out HL.out HR.out).mono ?_; rintro e w1 ⟨rfl, f4, h1, h2⟩; replace h1 := hid h1; replace h2 := hid h2)
      exact m88
     exact m92
   (go_wp2);(go_end0);exact ⟨rfl, f2, HI.out, HS.out.2.2.put (by omega)⟩
theorem zDE (W0 W : World) (blk n cap g : Nat) (cb : Array Value) (ok : Int → Prop) (lt : Int → Int → Bool) (f : Nat → Int) (hO : Swo lt) (hC : zFA W0 blk ok lt g cb) (eg : ∀ args w, (callFunc g args).run Tryz.prog w = .ok (.enter g args) w)
 (h : ze W0 blk ok f n W) (hn : n < 1099511627776) :
 Calls Tryz.prog 64 #[.slice (some ⟨blk, 0, none⟩) n cap, .func (.func g) #[] cb] W fun e w' => e = .returned (.tuple #[]) ∧ ∃ f', ze W0 blk ok f' n w' ∧ Put f f' 0 n (yh lt (seg f 0 n)) := by
 have HS := hid (zHU W0 W blk n cap g cb ok lt f hO hC eg h hn);clear h hC hO;go_enter Tryz.func64, Tryz.ntmps64
 go_wp2_with (go_at_call 110; refine HS.out.mono ?_; rintro e w1 ⟨rfl, f4, h1, h2⟩; replace h1 := hid h1; replace h2 := hid h2)
 go_end0
 exact ⟨rfl, f4, h1.out, h2.out⟩
open Go.RowKit Go.Deep
section
variable {P : Program} {ops : Array Oper} {o : Oper} {a : Act} {w : World} {K : Act → World → Prop} {Q : Exit → Act → World → Prop} {E : Prop}
theorem zAA (hw : Region.wanted o (yielded ops a.tmps) = true) (ty : TypeId) (x : Operand) (ho : o.op = .load ty x) (b s : Nat) (hx : a.eval x = .pointer (some ⟨b, s, none⟩)) (cs : List Value) (d : TypeDesc) (hc : w.rangeAt b s cs)
 (hu : P.underlying ty = some d) (hd : d.isRow = true) (hi : (P.info? ty).map (·.size) = some cs.length) (h : K (a.put o.dst (.agg cs.toArray)) w) :
 if Region.wanted o (yielded ops a.tmps) = true then Oper.wp P o a w K Q else E := by
 rw [if_pos hw];exact wp_load_mid ty x ho b s hx cs d hc hu hd hi h
theorem zDJ (hw : Region.wanted o (yielded ops a.tmps) = true) (ty : TypeId) (x y : Operand) (ho : o.op = .store ty x y) (b s : Nat) (cs : List Value) (hx : a.eval x = .pointer (some ⟨b, s, none⟩)) (hy : a.eval y = .agg cs.toArray)
 (ht : w.there b s cs.length) (hi : (P.info? ty).map (·.size) = some cs.length) (h1 : ∀ u ∈ cs, u.oneCell' = true) (h : K (a.put o.dst undef) (w.setCells b s cs)) :
 if Region.wanted o (yielded ops a.tmps) = true then Oper.wp P o a w K Q else E := by
 rw [if_pos hw];exact wp_store_mid ty x y ho b s cs.toArray hx hy ht hi (all_oneCell_toArray h1) h
end
theorem zCL : ∃ d : TypeDesc, Tryz.prog.underlying 57 = some d ∧ d.isRow = true := by
 have h : (Tryz.prog.underlying 57).map (·.isRow) = some true := by kernel_rfl
 cases hq : Tryz.prog.underlying 57 with
 | none => rw [hq] at h; cases h
 | some d => exact ⟨d, rfl, by rw [hq] at h; simpa using h⟩
theorem k7 (w : World) (b s : Nat) (x : Par) (h : w.rangeAt b s x.cs) : (Instr.loadAt 57 (.pointer (some ⟨b, s, none⟩))).run Tryz.prog w = .ok (.agg x.cs.toArray) w := by
 obtain ⟨d, h1, h2⟩ := zCL;exact run_loadAt_mid w b s _ x.cs d h h1 h2 vN
section
variable {md : Region.Mode} {ops : Array Oper} {o : Oper} {a : Act} {w : World} {Q : Exit → Act → World → Prop} {fuel i : Nat} {listed : Array Bool} {rs : List Nat}
theorem yl (hop : ops[i]? = some o) (hw : Region.wanted o (yielded ops a.tmps) = true) (x : Operand) (ho : o.op = .load 57 x) (b s : Nat) (hx : a.eval x = .pointer (some ⟨b, s, none⟩)) (y : Par) (hc : w.rangeAt b s y.cs)
 (h : wpAny Tryz.prog md ops Q fuel (listed.setIfInBounds i true) (a.put o.dst (.agg y.cs.toArray)) w) (hs : AllReady Tryz.prog md ops Q fuel listed a w rs) : AllReady Tryz.prog md ops Q fuel listed a w (i :: rs) := by
 obtain ⟨d, h1, h2⟩ := zCL;exact rC hop (fun K hK => zAA hw _ x ho b s hx y.cs d hc h1 h2 vN (hK _ _ h)) hs
theorem ko (hop : ops[i]? = some o) (hw : Region.wanted o (yielded ops a.tmps) = true) (x y : Operand) (ho : o.op = .store 57 x y) (b s : Nat) (z : Par) (hx : a.eval x = .pointer (some ⟨b, s, none⟩)) (hy : a.eval y = .agg z.cs.toArray)
 (ht : w.there b s 9) (h : wpAny Tryz.prog md ops Q fuel (listed.setIfInBounds i true) (a.put o.dst undef) (w.setCells b s z.cs)) (hs : AllReady Tryz.prog md ops Q fuel listed a w rs) : AllReady Tryz.prog md ops Q fuel listed a w (i :: rs) :=
 rC hop (fun K hK => zDJ hw _ x y ho b s z.cs hx hy ht vN z.cs_one (hK _ _ h)) hs
end
theorem yH {w w' : World} {B b s : Nat} {cs : List Value} (hb : Below B w w') (hl : b < B) (h : w.rangeAt b s cs) : w'.rangeAt b s cs := fun j v hv => (hb.cell (p := ⟨b, s + j, none⟩) hl).trans (h j v hv)
theorem yR {w : World} {b s : Nat} {cs : List Value} (h : w.rangeAt b s cs) : w.drew.rangeAt b s cs := h
theorem xB {w : World} {b s n : Nat} (h : w.there b s n) : w.drew.there b s n := h
theorem zGu {w w' : World} {B b s n : Nat} (hb : Below B w w') (hl : b < B) (h : w.there b s n) : w'.there b s n := fun j hj => ⟨by rw [hb.cell (p := ⟨b, s + j, none⟩) hl]; exact (h j hj).1, by rw [hb.frozen (p := ⟨b, s + j, none⟩) hl]; exact (h j hj).2⟩
theorem zH.setCells {g : Nat} {a : World} (vs : List Value) : ∀ (i : Nat) (w : World), zH g a w → zH g a (w.setCells g i vs) := by
 induction vs with
 | nil => intro i w h; exact h
 | cons v vs ih => intro i w h; exact ih (i + 1) _ (h.setCell i v)
theorem vf (g : Nat) (vs : List Value) : ∀ (i : Nat) (w : World), (w.setCells g i vs).heap.size = w.heap.size := by
 induction vs with
 | nil => intro i w; rfl
 | cons v vs ih => intro i w; rw [World.setCells, ih]; simp
structure zX (W : World) (blk : Nat) (ok : Par → Prop) (f : Nat → Par) (n : Nat) (w : World) : Prop where
 only : zH blk W w
 cell : ∀ t, t < n → w.rangeAt blk (t * 9) (f t).cs
 fr : ∀ t, t < n → w.there blk (t * 9) 9
 ok : ∀ t, t < n → ok (f t)
 lt : blk < w.heap.size
theorem zX.below {W w w' : World} {blk n : Nat} {ok : Par → Prop} {f : Nat → Par} (h : zX W blk ok f n w) (b : Below w.heap.size w w') : zX W blk ok f n w' :=
 ⟨h.only.trans (zH.of_below b), fun t ht => yH b h.lt (h.cell t ht), fun t ht => zGu b h.lt (h.fr t ht), h.ok, Nat.lt_of_lt_of_le h.lt b.size⟩
theorem zX.swap {W w : World} {blk n : Nat} {ok : Par → Prop} {f : Nat → Par} (h : zX W blk ok f n w) (i j : Nat) (hi : i < n) (hj : j < n) :
 zX W blk ok (zAD f i j) n ((w.drew.setCells blk (i * 9) (f j).cs).setCells blk (j * 9) (f i).cs) := by
 have l : ∀ x : Par, x.cs.length = 9 := Par.cs_len;have f0 : ∀ t, t < n → w.drew.there blk (t * 9) 9 := h.fr;refine ⟨zH.setCells _ _ _ (zH.setCells _ _ _ h.only.drew), fun t ht => ?_, fun t ht => World.there_setCells (World.there_setCells (f0 t ht) _ _ _) _ _ _, fun t ht => ?_, ?_⟩
 ·
  have c3 : w.drew.rangeAt blk (t * 9) (f t).cs := h.cell t ht;unfold zAD;by_cases e2 : t = j
  ·
   subst e2;have r := World.rangeAt_setCells_same (w.drew.setCells blk (i * 9) (f t).cs) blk (t * 9) (f i).cs (World.there_setCells (f0 t ht) _ _ _);by_cases e : t = i
   · subst e; rw [if_pos rfl]; exact r
   rw [if_neg e, if_pos rfl]; exact r
  refine World.rangeAt_setCells_apart ?_ _ _ _ (by have h1 := l (f i); have h2 := l (if t = i then f j else if t = j then f i else f t); right; omega);by_cases e : t = i
  · subst e; rw [if_pos rfl]; exact World.rangeAt_setCells_same w.drew blk (t * 9) (f j).cs (f0 t ht)
  rw [if_neg e, if_neg e2];exact World.rangeAt_setCells_apart c3 _ _ _ (by rw [l, l]; right; omega)
 ·
  unfold zAD;split
  · exact h.ok j hj
  split
  · exact h.ok i hi
  exact h.ok t ht
 rw [vf, vf]; exact h.lt
def zFa (W : World) (blk : Nat) (ok : Par → Prop) (lt : Par → Par → Bool) (g : Nat) (cb : Array Value) : Prop :=
 ∀ w, zH blk W w → ∀ x y, ok x → ok y → Calls Tryz.prog g (#[.agg x.cs.toArray, .agg y.cs.toArray] ++ cb) w fun e w' => e = .returned (.int .i64 (if lt x y = true then -1 else if lt y x = true then 1 else 0)) ∧ Below w.heap.size w w'
theorem qQ (W0 W : World) (blk n cap a b k : Nat) (ok : Par → Prop) (f : Nat → Par) (fv : Value) (h : zX W0 blk ok f n W) (hab : a + k ≤ b) (hb : b + k ≤ n) (hn : n < 4611686018427387904) :
 Calls Tryz.prog 184 #[.slice (some ⟨blk, 0, none⟩) n cap, .int .i64 a, .int .i64 b, .int .i64 k, fv] W fun e w' => e = .returned (.tuple #[]) ∧ zX W0 blk ok (jN f a b k) n w' := by
 have H := hid h;clear h;go_enter Tryz.func184, Tryz.ntmps184
 go_wp2
 go_loopw [10] (fun i wx => ∃ j : Nat, j ≤ k ∧ i = .int .i64 j ∧ Hid (zX W0 blk ok (jN f a b j) n wx)) (fun i _ => k - (zD i).toNat)
 case atStart => exact ⟨0, Nat.zero_le _, rfl, by rw [zDQ]; exact H⟩
 case round =>
  obtain ⟨j, hj, rfl, HR⟩ := hrel;by_cases hlt : j < k
  ·
   obtain ⟨s, hs⟩ : ∃ s, s = a + j := ⟨_, rfl⟩
   obtain ⟨t, ht⟩ : ∃ t, t = b + j := ⟨_, rfl⟩
   have r1 : IntKind.i64.wrap ((a : Int) + (j : Int)) = (s : Int) := by rw [IntKind.wrap_i64]; omega
   have r2 : IntKind.i64.wrap ((b : Int) + (j : Int)) = (t : Int) := by rw [IntKind.wrap_i64]; omega
   have b1 : s < n := by omega
   have b2 : t < n := by omega
   obtain ⟨x, hx⟩ : ∃ x, x = jN f a b j s := ⟨_, rfl⟩
   obtain ⟨y, hy⟩ : ∃ y, y = jN f a b j t := ⟨_, rfl⟩
   have c1 : wr.drew.rangeAt blk (s * 9) x.cs := by rw [hx]; exact yR (HR.out.cell s (by omega))
   have c2 : wr.drew.rangeAt blk (t * 9) y.cs := by rw [hy]; exact yR (HR.out.cell t (by omega))
   have f1 : wr.drew.there blk (s * 9) 9 := xB (HR.out.fr s (by omega));have g2 : (wr.drew.setCells blk (s * 9) y.cs).there blk (t * 9) 9 := World.there_setCells (xB (HR.out.fr t (by omega))) _ _ _;have HN := HR.out.swap s t (by omega) (by omega);rw [← hx, ← hy] at HN;replace HN := hid HN;clear hx hy;replace hs := hid hs;replace ht := hid ht;go_wp2_with fail
   refine kQ ?_;refine zG 0 ?_;refine zG 1 ?_;refine zG 2 ?_;refine zG 3 ?_;refine zG 4 ?_;refine zG 5 ?_;refine zG 6 ?_;refine zG 7 ?_;refine zG 8 ?_;refine zG 9 ?_;refine zG 10 ?_;refine zG 11 ?_;refine zG 12 ?_;refine zG 14 ?_;refine zG 15 ?_;refine zG 16 ?_;refine zG 17 ?_;refine zG 18 ?_;refine tR [13, 19] (by kernel_rfl) rfl ?_;refine yl (i := 13) rfl (by kernel_rfl) (.tmp 28) rfl blk (t * 9) rfl y c2 ?_ ?_
   ·
    try (change wpAny _ _ _ _ _ _ ⟨_, _⟩ _)
    try simp only [Act.put, sS]
    refine tR [19] (by kernel_rfl) rfl ?_;refine yl (i := 19) rfl (by kernel_rfl) (.tmp 34) rfl blk (s * 9) rfl x c1 ?_ ?_
    · exact m52
    exact rN
   refine yl (i := 19) rfl (by kernel_rfl) (.tmp 34) rfl blk (s * 9) rfl x c1 ?_ ?_
   ·
    try (change wpAny _ _ _ _ _ _ ⟨_, _⟩ _)
    try simp only [Act.put, sS]
    refine tR [13] (by kernel_rfl) rfl ?_;refine yl (i := 13) rfl (by kernel_rfl) (.tmp 28) rfl blk (t * 9) rfl y c2 ?_ ?_
    · exact m52
    exact rN
   exact rN
  (obtain rfl : j = k := by omega);(go_wp2);(go_end0);exact ⟨rfl, HR.out⟩
theorem zAh (W0 W : World) (blk n cap a m b : Nat) (ok : Par → Prop) (f : Nat → Par) (fv : Value) (h : zX W0 blk ok f n W) (ham : a < m) (hmb : m < b) (hb : b ≤ n) (hn : n < 4611686018427387904) :
 Calls Tryz.prog 171 #[.slice (some ⟨blk, 0, none⟩) n cap, .int .i64 a, .int .i64 m, .int .i64 b, fv] W fun e w' => e = .returned (.tuple #[]) ∧ zX W0 blk ok (yE f a m b) n w' := by
 have H := hid h;clear h;obtain ⟨i0, hi0⟩ : ∃ i0, i0 = m - a := ⟨_, rfl⟩
 obtain ⟨j0, hj0⟩ : ∃ j0, j0 = b - m := ⟨_, rfl⟩
 have r1 : IntKind.i64.wrap ((m : Int) - (a : Int)) = (i0 : Int) := by rw [IntKind.wrap_i64]; omega
 have r2 : IntKind.i64.wrap ((b : Int) - (m : Int)) = (j0 : Int) := by rw [IntKind.wrap_i64]; omega
 have HI0 := hid hi0;have HJ0 := hid hj0;clear hi0 hj0;go_enter Tryz.func171, Tryz.ntmps171
 go_wp2
 go_loopw [10, 11] (fun si sj wx => ∃ (i j : Nat) (g : Nat → Par), 0 < i ∧ 0 < j ∧ a + i ≤ m ∧ m + j ≤ b ∧ si = .int .i64 i ∧ sj = .int .i64 j ∧ Hid (zX W0 blk ok g n wx) ∧ Hid (yE g (m - i) m (m + j) = yE f a m b)) (fun si sj _ => (zD si).toNat + (zD sj).toNat)
 case atStart =>
  exact zNt
 case round =>
  obtain ⟨i, j, g, hi, hj, hai, hjb, rfl, rfl, HG, HE⟩ := hrel;clear r1 r2;(obtain ⟨z, hz⟩ : ∃ z, z = m - i := ⟨_, rfl⟩);(have r1 : IntKind.i64.wrap ((m : Int) - (i : Int)) = (z : Int) := by rw [IntKind.wrap_i64]; omega);have HZ := hid hz;clear hz;rcases Nat.lt_trichotomy i j with hlt | heq | hgt
  ·
   obtain ⟨y, hy⟩ : ∃ y, y = m + j - i := ⟨_, rfl⟩
   obtain ⟨x, hx⟩ : ∃ x, x = j - i := ⟨_, rfl⟩
   have r2 : IntKind.i64.wrap ((m : Int) + (j : Int)) = ((m : Int) + (j : Int)) := by rw [IntKind.wrap_i64]; omega
   have r3 : IntKind.i64.wrap ((m : Int) + (j : Int) - (i : Int)) = (y : Int) := by rw [IntKind.wrap_i64]; omega
   have r4 : IntKind.i64.wrap ((j : Int) - (i : Int)) = (x : Int) := by rw [IntKind.wrap_i64]; omega
   have t1 : ¬ (i : Int) = (j : Int) := by omega
   have t2 : ¬ (j : Int) < (i : Int) := by omega
   have HY := hid hy;have HX := hid hx;clear hy hx;go_wp2_with (go_at_call 184; refine (qQ W0 _ blk n cap z y i ok g fv HG.out (by have := HZ.out; have := HY.out; omega) (by have := HY.out; omega) hn).mono ?_; rintro e w1 ⟨rfl, h1⟩; replace h1 := hid h1)
   exact zNI
  · subst heq;go_wp2_with (go_at_call 184; refine (qQ W0 _ blk n cap z m i ok g fv HG.out (by have := HZ.out; omega) (by omega) hn).mono ?_; rintro e w1 ⟨rfl, h1⟩; replace h1 := hid h1)
    exact zOf
  (obtain ⟨x, hx⟩ : ∃ x, x = i - j := ⟨_, rfl⟩);(have r4 : IntKind.i64.wrap ((i : Int) - (j : Int)) = (x : Int) := by rw [IntKind.wrap_i64]; omega);(have t1 : ¬ (i : Int) = (j : Int) := by omega);(have t2 : (j : Int) < (i : Int) := by omega);have HX := hid hx;clear hx;(go_wp2_with (go_at_call 184; refine (qQ W0 _ blk n cap z m j ok g fv HG.out (by have := HZ.out; omega) (by omega) hn).mono ?_; rintro e w1 ⟨rfl, h1⟩; replace h1 := hid h1));exact zNq
open Go.RowKit Go.Deep
theorem zA9 (W0 W : World) (blk n cap a b g : Nat) (cb : Array Value) (ok : Par → Prop) (lt : Par → Par → Bool) (f : Nat → Par) (hO : Swo lt) (hC : zFa W0 blk ok lt g cb) (eg : ∀ args w, (callFunc g args).run Tryz.prog w = .ok (.enter g args) w)
 (h : zX W0 blk ok f n W) (hab : a ≤ b) (hb : b ≤ n) (hn : n < 4611686018427387904) :
 Calls Tryz.prog 145 #[.slice (some ⟨blk, 0, none⟩) n cap, .int .i64 a, .int .i64 b, .func (.func g) #[] cb] W fun e w' => e = .returned (.tuple #[]) ∧ ∃ f', zX W0 blk ok f' n w' ∧ Put f f' a b (yh lt (seg f a b)) := by
 have H := hid h;have HC := hid hC;have HO := hid hO;clear h hC hO;go_enter Tryz.func145, Tryz.ntmps145
 have r0 : IntKind.i64.wrap ((a : Int) + 1) = ((a + 1 : Nat) : Int) := by rw [IntKind.wrap_i64]; omega
 go_wp2
 go_loopw [8] (fun si wx => ∃ (i : Nat) (fi : Nat → Par), a ≤ i ∧ (i ≤ b ∨ i = a + 1) ∧ si = .int .i64 i ∧ Hid (zX W0 blk ok fi n wx) ∧ Hid (Put f fi a (min i b) (yh lt (seg f a (min i b))))) (fun si _ => b + 1 - (zD si).toNat)
 case atStart =>
  exact zMM
 case round =>
  obtain ⟨i, fi, hai, hib, rfl, HI, HP⟩ := hrel;by_cases hlt : i < b
  ·
   go_wp2_with fail
   go_loopw [9] (fun sj wx => ∃ j : Nat, a ≤ j ∧ j ≤ i ∧ sj = .int .i64 j ∧ Hid (zX W0 blk ok (yE fi j i (i + 1)) n wx) ∧ Hid (∀ t, j ≤ t → t < i → lt (fi i) (fi t) = true)) (fun sj _ => (zD sj).toNat)
   case atStart => exact ⟨i, by omega, Nat.le_refl _, rfl, by rw [zAQ]; exact HI, hid (fun t h1 h2 => absurd h1 (by omega))⟩
   case round =>
    obtain ⟨j, haj, hji, rfl, HJ, HL⟩ := hrel;by_cases hja : a < j
    ·
     obtain ⟨x, hx⟩ : ∃ x, x = fi i := ⟨_, rfl⟩
     obtain ⟨y, hy⟩ : ∃ y, y = fi (j - 1) := ⟨_, rfl⟩
     obtain ⟨jp, hjp⟩ : ∃ jp, j = jp + 1 := ⟨j - 1, by omega⟩
     have v1 : yE fi j i (i + 1) j = x := by rw [hx]; unfold yE; rw [if_pos (by omega)]; congr 1; omega
     have v2 : yE fi j i (i + 1) jp = y := by rw [hy]; unfold yE; rw [if_neg (by omega), if_neg (by omega)]; congr 1; omega
     have c1 := HJ.out.cell j (by omega);have c2 := HJ.out.cell jp (by omega);have o1 := HJ.out.ok j (by omega);have o2 := HJ.out.ok jp (by omega);rw [v1] at c1 o1;rw [v2] at c2 o2;have hbl := HJ.out.lt;have e1 : IntKind.i64.wrap ((j : Int) - 1) = (jp : Int) := by rw [IntKind.wrap_i64]; omega
     have t1 : (a : Int) < (j : Int) := by omega
     have b1 : j < n := by omega
     have b2 : jp < n := by omega
     have hcall : ∀ w', Below wr.heap.size wr w' → Calls Tryz.prog g (#[.agg x.cs.toArray, .agg y.cs.toArray] ++ cb) w' fun e w'' => e = .returned (.int .i64 (if lt x y = true then -1 else if lt y x = true then 1 else 0)) ∧ Below wr.heap.size wr w'' := fun w' hb => (HC.out w' (HJ.out.only.trans (zH.of_below hb)) x y o1 o2).mono fun e w'' h => ⟨h.1, zB hb h.2⟩
     obtain ⟨c, hc⟩ : ∃ c : Int, c = (if lt x y = true then -1 else if lt y x = true then 1 else 0) := ⟨_, rfl⟩
     rw [← hc] at hcall;have V : Hid (x = fi i ∧ y = fi (j - 1) ∧ j = jp + 1) := ⟨hx, hy, hjp⟩
     clear v1 v2 hx hy o1 o2 hjp;go_wp2_with fail
     refine yo ?_;refine zA (.int .i64 (j : Int)) ?_;refine zA (.int .i64 (a : Int)) ?_;refine zA (.bool true) ?_ (hC := fun _ _ => by simp [go_sem, t1]);refine zA (.bool true) ?_;refine zA (.func (.func g) #[] cb) ?_;refine zA (.slice (some ⟨blk, 0, none⟩) n cap) ?_;refine zA (.int .i64 (j : Int)) ?_;refine zA (.pointer (some ⟨blk, j * 9, none⟩)) ?_ (hC := fun _ _ => by simp [go_sem, b1]);refine zL 57 ⟨blk, j * 9, none⟩ (.agg x.cs.toArray) (fun w' hb => k7 _ _ _ _ (yH hb hbl c1)) ?_;refine zA (.slice (some ⟨blk, 0, none⟩) n cap) ?_;refine zA (.int .i64 (j : Int)) ?_;refine zA (.int .i64 (jp : Int)) ?_ (hC := fun _ _ => by simp [go_sem, e1]);refine zA (.pointer (some ⟨blk, jp * 9, none⟩)) ?_ (hC := fun _ _ => by simp [go_sem, b2]);refine zL 57 ⟨blk, jp * 9, none⟩ (.agg y.cs.toArray) (fun w' hb => k7 _ _ _ _ (yH hb hbl c2)) ?_;refine zf (by kernel_rfl) (.int .i64 c) g (#[.agg x.cs.toArray, .agg y.cs.toArray] ++ cb) ?_ ?_ ?_
     · intro w';simp [go_sem, eg]
     · intro w' hb;exact hcall w' hb
     simp only [Act.put, sS];refine zA (.bool (decide (c < 0))) ?_ (hC := fun _ _ => by simp [go_sem, e1]);refine zA (.bool (decide (c < 0))) ?_;refine wpQuiet_nil ?_;intro w2 hb2;have H2 := hid (HJ.out.below hb2);rcases hl : lt x y with _ | _
     · exact m81
     have hneg : c < 0 := by rw [hc, hl]; simp
     have hlx := hid hl;clear hc hcall c1 c2 hbl hl b1 b2 t1;go_wp2_with fail
     have b1 : j < n := by omega
     have b2 : jp < n := by have := V.out.2.2; omega
     have u1 : x = yE fi j i (i + 1) j := by rw [V.out.1]; unfold yE; rw [if_pos (by omega)]; congr 1; omega
     have u2 : y = yE fi j i (i + 1) jp := by have := V.out.2.2; rw [V.out.2.1]; unfold yE; rw [if_neg (by omega), if_neg (by omega)]; congr 1; omega
     have jpl := V.out.2.2;have c1 : w2.drew.rangeAt blk (j * 9) x.cs := by rw [u1]; exact yR (H2.out.cell j (by omega))
     have c2 : w2.drew.rangeAt blk (jp * 9) y.cs := by rw [u2]; exact yR (H2.out.cell jp (by omega))
     have f1 : w2.drew.there blk (j * 9) 9 := xB (H2.out.fr j (by omega));have g2 : (w2.drew.setCells blk (j * 9) y.cs).there blk (jp * 9) 9 := World.there_setCells (xB (H2.out.fr jp (by omega))) _ _ _;have HN := H2.out.swap j jp (by omega) (by omega);rw [← u1, ← u2] at HN;replace HN := hid HN;clear u1 u2 jpl;go_wp2_with fail
     refine kQ ?_;refine zG 0 ?_;refine zG 1 ?_;refine zG 2 ?_;refine zG 3 ?_;refine zG 4 ?_;refine zG 5 ?_;refine zG 6 ?_;refine zG 7 ?_;refine zG 8 ?_;refine zG 10 ?_;refine zG 11 ?_;refine zG 12 ?_;refine tR [9, 13] (by kernel_rfl) rfl ?_;refine yl (i := 9) rfl (by kernel_rfl) (.tmp 45) rfl blk (jp * 9) rfl y c2 ?_ ?_
     ·
      try (change wpAny _ _ _ _ _ _ ⟨_, _⟩ _)
      try simp only [Act.put, sS]
      refine tR [13] (by kernel_rfl) rfl ?_;refine yl (i := 13) rfl (by kernel_rfl) (.tmp 49) rfl blk (j * 9) rfl x c1 ?_ ?_
      · exact m37
      exact rN
     refine yl (i := 13) rfl (by kernel_rfl) (.tmp 49) rfl blk (j * 9) rfl x c1 ?_ ?_
     ·
      try (change wpAny _ _ _ _ _ _ ⟨_, _⟩ _)
      try simp only [Act.put, sS]
      refine tR [9] (by kernel_rfl) rfl ?_;refine yl (i := 9) rfl (by kernel_rfl) (.tmp 45) rfl blk (jp * 9) rfl y c2 ?_ ?_
      · exact m37
      exact rN
     exact rN
    exact m75
  exact zMN
open Go.RowKit Go.Deep
theorem zGN (W0 W : World) (blk n cap a m b g : Nat) (cb : Array Value) (ok : Par → Prop) (lt : Par → Par → Bool) (f : Nat → Par) (hO : Swo lt) (hC : zFa W0 blk ok lt g cb) (eg : ∀ args w, (callFunc g args).run Tryz.prog w = .ok (.enter g args) w)
 (h : zX W0 blk ok f n W) (hm : m = a + 1) (hmb : m < b) (hb : b ≤ n) (hn : n < 2305843009213693952) (hs : zT lt (seg f m b)) :
 Calls Tryz.prog 146 #[.slice (some ⟨blk, 0, none⟩) n cap, .int .i64 a, .int .i64 m, .int .i64 b, .func (.func g) #[] cb] W fun e w' => e = .returned (.tuple #[]) ∧ ∃ f', zX W0 blk ok f' n w' ∧ Put f f' a b (zV lt (seg f a m) (seg f m b)) := by
 have H := hid h;have HC := hid hC;have HO := hid hO;have HS := hid hs;clear h hC hO hs;have r0 : IntKind.i64.wrap ((m : Int) - (a : Int)) = 1 := by rw [IntKind.wrap_i64]; omega
 go_enter Tryz.func146, Tryz.ntmps146
 go_wp2
 clear r0;go_loopw [10, 11] (fun si sj wx => ∃ i j : Nat, m ≤ i ∧ i ≤ j ∧ j ≤ b ∧ si = .int .i64 i ∧ sj = .int .i64 j ∧ Hid (zX W0 blk ok f n wx) ∧ Hid (∀ t, m ≤ t → t < i → lt (f t) (f a) = true) ∧ Hid (∀ t, j ≤ t → t < b → lt (f t) (f a) = false)) (fun si sj _ => (zD sj).toNat - (zD si).toNat)
 case atStart => exact ⟨m, b, Nat.le_refl _, Nat.le_of_lt hmb, Nat.le_refl _, rfl, rfl, H, hid (fun t h1 h2 => absurd h1 (by omega)), hid (fun t h1 h2 => absurd h1 (by omega))⟩
 case round =>
  obtain ⟨i, j, hmi, hij, hjb, rfl, rfl, HW, HA, HB⟩ := hrel;by_cases hlt : i < j
  ·
   obtain ⟨s, hs⟩ : ∃ s, s = i + j := ⟨_, rfl⟩
   obtain ⟨h, hh⟩ : ∃ h, h = s / 2 := ⟨_, rfl⟩
   have HF := hid (xR (i := i) (j := j) (n := n) (by omega) hs hh (by omega) (by omega));obtain ⟨x, hx⟩ : ∃ x, x = f h := ⟨_, rfl⟩
   obtain ⟨y, hy⟩ : ∃ y, y = f a := ⟨_, rfl⟩
   have c1 := HW.out.cell h (by omega);have c2 := HW.out.cell a (by omega);have o1 := HW.out.ok h (by omega);have o2 := HW.out.ok a (by omega);rw [← hx] at c1 o1;rw [← hy] at c2 o2;have hbl := HW.out.lt;have b1 : h < n := by omega
   have b2 : a < n := by omega
   have hcall : ∀ w', Below wr.heap.size wr w' → Calls Tryz.prog g (#[.agg x.cs.toArray, .agg y.cs.toArray] ++ cb) w' fun e w'' => e = .returned (.int .i64 (if lt x y = true then -1 else if lt y x = true then 1 else 0)) ∧ Below wr.heap.size wr w'' := fun w' hb => (HC.out w' (HW.out.only.trans (zH.of_below hb)) x y o1 o2).mono fun e w'' h => ⟨h.1, zB hb h.2⟩
   obtain ⟨c, hc⟩ : ∃ c : Int, c = (if lt x y = true then -1 else if lt y x = true then 1 else 0) := ⟨_, rfl⟩
   rw [← hc] at hcall;replace hx := hid hx;replace hy := hid hy;have HHH : Hid (h = s / 2 ∧ s = i + j) := hid ⟨hh, hs⟩;clear o1 o2 hs hh;obtain ⟨r1, r2, r3, r4, r5⟩ := HF.out;go_wp2_with fail
   refine yo ?_;refine zA (.func (.func g) #[] cb) ?_;refine zA (.slice (some ⟨blk, 0, none⟩) n cap) ?_;refine zA (.int .i64 (h : Int)) ?_;refine zA (.pointer (some ⟨blk, h * 9, none⟩)) ?_ (hC := fun _ _ => by simp [go_sem, b1]);refine zL 57 ⟨blk, h * 9, none⟩ (.agg x.cs.toArray) (fun w' hb => k7 _ _ _ _ (yH hb hbl c1)) ?_;refine zA (.slice (some ⟨blk, 0, none⟩) n cap) ?_;refine zA (.int .i64 (a : Int)) ?_;refine zA (.pointer (some ⟨blk, a * 9, none⟩)) ?_ (hC := fun _ _ => by simp [go_sem, b2]);refine zL 57 ⟨blk, a * 9, none⟩ (.agg y.cs.toArray) (fun w' hb => k7 _ _ _ _ (yH hb hbl c2)) ?_;refine zf (by kernel_rfl) (.int .i64 c) g (#[.agg x.cs.toArray, .agg y.cs.toArray] ++ cb) ?_ ?_ ?_
   · intro w';simp [go_sem, eg]
   · intro w' hb;exact hcall w' hb
   exact m48
  (obtain rfl : i = j := by omega);(obtain ⟨ip, hip⟩ : ∃ ip, i = ip + 1 := ⟨i - 1, by omega⟩);(have r1 : IntKind.i64.wrap ((i : Int) - 1) = (ip : Int) := by rw [IntKind.wrap_i64]; omega);clear hlt;(go_wp2);go_loopw [13] (fun sk wx => ∃ k : Nat, a ≤ k ∧ k ≤ ip ∧ sk = .int .i64 k ∧ Hid (zX W0 blk ok (yE f a (a + 1) (k + 1)) n wx)) (fun sk _ => ip - (zD sk).toNat)
  case atStart => exact ⟨a, Nat.le_refl _, by omega, rfl, by rw [zH4]; exact HW⟩
  case round =>
   obtain ⟨k, hak, hki, rfl, HK⟩ := hrel;by_cases hlt : k < ip
   ·
    have e1 : IntKind.i64.wrap ((k : Int) + 1) = ((k + 1 : Nat) : Int) := by rw [IntKind.wrap_i64]; omega
    obtain ⟨kq, hkq⟩ : ∃ kq, kq = k + 1 := ⟨_, rfl⟩
    rw [← hkq] at e1;have b1 : k < n := by omega
    have b2 : kq < n := by omega
    obtain ⟨x, hx⟩ : ∃ x, x = yE f a (a + 1) (k + 1) k := ⟨_, rfl⟩
    obtain ⟨y, hy⟩ : ∃ y, y = yE f a (a + 1) (k + 1) kq := ⟨_, rfl⟩
    have c1 : wr.drew.rangeAt blk (k * 9) x.cs := by rw [hx]; exact yR (HK.out.cell k (by omega))
    have c2 : wr.drew.rangeAt blk (kq * 9) y.cs := by rw [hy]; exact yR (HK.out.cell kq (by omega))
    have f1 : wr.drew.there blk (k * 9) 9 := xB (HK.out.fr k (by omega));have g2 : (wr.drew.setCells blk (k * 9) y.cs).there blk (kq * 9) 9 := World.there_setCells (xB (HK.out.fr kq (by omega))) _ _ _;have HN := HK.out.swap k kq (by omega) (by omega);rw [← hx, ← hy] at HN;replace HN := hid HN;clear hx hy;replace hkq := hid hkq;go_wp2_with fail
    refine kQ ?_;refine zG 0 ?_;refine zG 1 ?_;refine zG 2 ?_;refine zG 3 ?_;refine zG 4 ?_;refine zG 5 ?_;refine zG 6 ?_;refine zG 7 ?_;refine zG 8 ?_;refine zG 10 ?_;refine zG 11 ?_;refine zG 12 ?_;refine tR [9, 13] (by kernel_rfl) rfl ?_;refine yl (i := 9) rfl (by kernel_rfl) (.tmp 69) rfl blk (kq * 9) rfl y c2 ?_ ?_
    ·
     try (change wpAny _ _ _ _ _ _ ⟨_, _⟩ _)
     try simp only [Act.put, sS]
     refine tR [13] (by kernel_rfl) rfl ?_;refine yl (i := 13) rfl (by kernel_rfl) (.tmp 73) rfl blk (k * 9) rfl x c1 ?_ ?_
     · exact m49
     exact rN
    refine yl (i := 13) rfl (by kernel_rfl) (.tmp 73) rfl blk (k * 9) rfl x c1 ?_ ?_
    ·
     try (change wpAny _ _ _ _ _ _ ⟨_, _⟩ _)
     try simp only [Act.put, sS]
     refine tR [9] (by kernel_rfl) rfl ?_;refine yl (i := 9) rfl (by kernel_rfl) (.tmp 69) rfl blk (kq * 9) rfl y c2 ?_ ?_
     · exact m49
     exact rN
    exact rN
   exact zNu
theorem zE9 (W0 W : World) (blk n cap a m b g : Nat) (cb : Array Value) (ok : Par → Prop) (lt : Par → Par → Bool) (f : Nat → Par) (hO : Swo lt) (hC : zFa W0 blk ok lt g cb) (eg : ∀ args w, (callFunc g args).run Tryz.prog w = .ok (.enter g args) w)
 (h : zX W0 blk ok f n W) (ham : a < m) (hma : m ≠ a + 1) (hm : b = m + 1) (hb : b ≤ n) (hn : n < 2305843009213693952) (hs : zT lt (seg f a m)) :
 Calls Tryz.prog 146 #[.slice (some ⟨blk, 0, none⟩) n cap, .int .i64 a, .int .i64 m, .int .i64 b, .func (.func g) #[] cb] W fun e w' => e = .returned (.tuple #[]) ∧ ∃ f', zX W0 blk ok f' n w' ∧ Put f f' a b (zV lt (seg f a m) (seg f m b)) := by
 have H := hid h;have HC := hid hC;have HO := hid hO;have HS := hid hs;clear h hC hO hs;obtain ⟨z, hz⟩ : ∃ z, z = m - a := ⟨_, rfl⟩
 have r0 : IntKind.i64.wrap ((m : Int) - (a : Int)) = (z : Int) := by rw [IntKind.wrap_i64]; omega
 have t0 : ¬ (z : Int) = 1 := by omega
 have r9 : IntKind.i64.wrap ((b : Int) - (m : Int)) = 1 := by rw [IntKind.wrap_i64]; omega
 clear hz;go_enter Tryz.func146, Tryz.ntmps146
 go_wp2
 clear r0 r9 t0;go_loopw [14, 15] (fun si sj wx => ∃ i j : Nat, a ≤ i ∧ i ≤ j ∧ j ≤ m ∧ si = .int .i64 i ∧ sj = .int .i64 j ∧ Hid (zX W0 blk ok f n wx) ∧ Hid (∀ t, a ≤ t → t < i → lt (f m) (f t) = false) ∧ Hid (j < m → lt (f m) (f j) = true)) (fun si sj _ => (zD sj).toNat - (zD si).toNat)
 case atStart => exact ⟨a, m, Nat.le_refl _, Nat.le_of_lt ham, Nat.le_refl _, rfl, rfl, H, hid (fun t h1 h2 => absurd h1 (by omega)), hid (fun h => absurd h (by omega))⟩
 case round =>
  obtain ⟨i, j, hai, hij, hjm, rfl, rfl, HW, HA, HB⟩ := hrel;by_cases hlt : i < j
  ·
   obtain ⟨s, hs⟩ : ∃ s, s = i + j := ⟨_, rfl⟩
   obtain ⟨h, hh⟩ : ∃ h, h = s / 2 := ⟨_, rfl⟩
   have HF := hid (xR (i := i) (j := j) (n := n) (by omega) hs hh (by omega) (by omega));obtain ⟨x, hx⟩ : ∃ x, x = f m := ⟨_, rfl⟩
   obtain ⟨y, hy⟩ : ∃ y, y = f h := ⟨_, rfl⟩
   have c1 := HW.out.cell m (by omega);have c2 := HW.out.cell h (by omega);have o1 := HW.out.ok m (by omega);have o2 := HW.out.ok h (by omega);rw [← hx] at c1 o1;rw [← hy] at c2 o2;have hbl := HW.out.lt;have b1 : m < n := by omega
   have b2 : h < n := by omega
   have hcall : ∀ w', Below wr.heap.size wr w' → Calls Tryz.prog g (#[.agg x.cs.toArray, .agg y.cs.toArray] ++ cb) w' fun e w'' => e = .returned (.int .i64 (if lt x y = true then -1 else if lt y x = true then 1 else 0)) ∧ Below wr.heap.size wr w'' := fun w' hb => (HC.out w' (HW.out.only.trans (zH.of_below hb)) x y o1 o2).mono fun e w'' h => ⟨h.1, zB hb h.2⟩
   obtain ⟨c, hc⟩ : ∃ c : Int, c = (if lt x y = true then -1 else if lt y x = true then 1 else 0) := ⟨_, rfl⟩
   rw [← hc] at hcall;replace hx := hid hx;replace hy := hid hy;have HHH : Hid (h = s / 2 ∧ s = i + j) := hid ⟨hh, hs⟩;clear o1 o2 hs hh;obtain ⟨r1, r2, r3, r4, r5⟩ := HF.out;go_wp2_with fail
   refine yo ?_;refine zA (.func (.func g) #[] cb) ?_;refine zA (.slice (some ⟨blk, 0, none⟩) n cap) ?_;refine zA (.int .i64 (m : Int)) ?_;refine zA (.pointer (some ⟨blk, m * 9, none⟩)) ?_ (hC := fun _ _ => by simp [go_sem, b1]);refine zL 57 ⟨blk, m * 9, none⟩ (.agg x.cs.toArray) (fun w' hb => k7 _ _ _ _ (yH hb hbl c1)) ?_;refine zA (.slice (some ⟨blk, 0, none⟩) n cap) ?_;refine zA (.int .i64 (h : Int)) ?_;refine zA (.pointer (some ⟨blk, h * 9, none⟩)) ?_ (hC := fun _ _ => by simp [go_sem, b2]);refine zL 57 ⟨blk, h * 9, none⟩ (.agg y.cs.toArray) (fun w' hb => k7 _ _ _ _ (yH hb hbl c2)) ?_;refine zf (by kernel_rfl) (.int .i64 c) g (#[.agg x.cs.toArray, .agg y.cs.toArray] ++ cb) ?_ ?_ ?_
   · intro w';simp [go_sem, eg]
   · intro w' hb;exact hcall w' hb
   exact m38
  (obtain rfl : i = j := by omega);clear hlt;(go_wp2);go_loopw [17] (fun sk wx => ∃ k : Nat, i ≤ k ∧ k ≤ m ∧ sk = .int .i64 k ∧ Hid (zX W0 blk ok (yE f k m (m + 1)) n wx)) (fun sk _ => (zD sk).toNat)
  case atStart => exact ⟨m, hjm, Nat.le_refl _, rfl, by rw [zAQ]; exact HW⟩
  case round =>
   obtain ⟨k, hik, hkm, rfl, HK⟩ := hrel;by_cases hlt : i < k
   ·
    obtain ⟨kp, hkp⟩ : ∃ kp, k = kp + 1 := ⟨k - 1, by omega⟩
    have e1 : IntKind.i64.wrap ((k : Int) - 1) = (kp : Int) := by rw [IntKind.wrap_i64]; omega
    have b1 : k < n := by omega
    have b2 : kp < n := by omega
    obtain ⟨x, hx⟩ : ∃ x, x = yE f k m (m + 1) k := ⟨_, rfl⟩
    obtain ⟨y, hy⟩ : ∃ y, y = yE f k m (m + 1) kp := ⟨_, rfl⟩
    have c1 : wr.drew.rangeAt blk (k * 9) x.cs := by rw [hx]; exact yR (HK.out.cell k (by omega))
    have c2 : wr.drew.rangeAt blk (kp * 9) y.cs := by rw [hy]; exact yR (HK.out.cell kp (by omega))
    have f1 : wr.drew.there blk (k * 9) 9 := xB (HK.out.fr k (by omega));have g2 : (wr.drew.setCells blk (k * 9) y.cs).there blk (kp * 9) 9 := World.there_setCells (xB (HK.out.fr kp (by omega))) _ _ _;have HN := HK.out.swap k kp (by omega) (by omega);rw [← hx, ← hy] at HN;replace HN := hid HN;clear hx hy;replace hkp := hid hkp;go_wp2_with fail
    refine kQ ?_;refine zG 0 ?_;refine zG 1 ?_;refine zG 2 ?_;refine zG 3 ?_;refine zG 4 ?_;refine zG 5 ?_;refine zG 6 ?_;refine zG 7 ?_;refine zG 8 ?_;refine zG 10 ?_;refine zG 11 ?_;refine zG 12 ?_;refine tR [9, 13] (by kernel_rfl) rfl ?_;refine yl (i := 9) rfl (by kernel_rfl) (.tmp 121) rfl blk (kp * 9) rfl y c2 ?_ ?_
    ·
     try (change wpAny _ _ _ _ _ _ ⟨_, _⟩ _)
     try simp only [Act.put, sS]
     refine tR [13] (by kernel_rfl) rfl ?_;refine yl (i := 13) rfl (by kernel_rfl) (.tmp 125) rfl blk (k * 9) rfl x c1 ?_ ?_
     · exact m46
     exact rN
    refine yl (i := 13) rfl (by kernel_rfl) (.tmp 125) rfl blk (k * 9) rfl x c1 ?_ ?_
    ·
     try (change wpAny _ _ _ _ _ _ ⟨_, _⟩ _)
     try simp only [Act.put, sS]
     refine tR [9] (by kernel_rfl) rfl ?_;refine yl (i := 9) rfl (by kernel_rfl) (.tmp 121) rfl blk (kp * 9) rfl y c2 ?_ ?_
     · exact m46
     exact rN
    exact rN
   exact zN9
theorem zGP (W0 W : World) (blk n cap a m b g : Nat) (cb : Array Value) (ok : Par → Prop) (lt : Par → Par → Bool) (f : Nat → Par) (hO : Swo lt) (hC : zFa W0 blk ok lt g cb) (eg : ∀ args w, (callFunc g args).run Tryz.prog w = .ok (.enter g args) w)
 (h : zX W0 blk ok f n W) (hq : (a + b) / 2 < m) (ham : a < m) (hmb : m < b) (hma : m ≠ a + 1) (hbm : b ≠ m + 1) (hb : b ≤ n) (hn : n < 2305843009213693952) (hs1 : zT lt (seg f a m)) (hs2 : zT lt (seg f m b))
 (IH : ∀ (a1 m1 b1 : Nat) (f1 : Nat → Par) (W1 : World), b1 - a1 < b - a → a1 < m1 → m1 < b1 → b1 ≤ n → zX W0 blk ok f1 n W1 → zT lt (seg f1 a1 m1) → zT lt (seg f1 m1 b1) → Calls Tryz.prog 146 #[.slice (some ⟨blk, 0, none⟩) n cap, .int .i64 a1, .int .i64 m1, .int .i64 b1, .func (.func g) #[] cb] W1 fun e w' => e = .returned (.tuple #[]) ∧ ∃ f', zX W0 blk ok f' n w' ∧ Put f1 f' a1 b1 (zV lt (seg f1 a1 m1) (seg f1 m1 b1))) :
 Calls Tryz.prog 146 #[.slice (some ⟨blk, 0, none⟩) n cap, .int .i64 a, .int .i64 m, .int .i64 b, .func (.func g) #[] cb] W fun e w' => e = .returned (.tuple #[]) ∧ ∃ f', zX W0 blk ok f' n w' ∧ Put f f' a b (zV lt (seg f a m) (seg f m b)) := by
 have H := hid h;have HC := hid hC;have HO := hid hO;have HS1 := hid hs1;have HS2 := hid hs2;have HIH := hid IH;clear h hC hO hs1 hs2 IH;obtain ⟨z, hz⟩ : ∃ z, z = m - a := ⟨_, rfl⟩
 have r0 : IntKind.i64.wrap ((m : Int) - (a : Int)) = (z : Int) := by rw [IntKind.wrap_i64]; omega
 have t0 : ¬ (z : Int) = 1 := by omega
 obtain ⟨y, hy⟩ : ∃ y, y = b - m := ⟨_, rfl⟩
 have r9 : IntKind.i64.wrap ((b : Int) - (m : Int)) = (y : Int) := by rw [IntKind.wrap_i64]; omega
 have t9 : ¬ (y : Int) = 1 := by omega
 clear hz hy;obtain ⟨s, hs⟩ : ∃ s, s = a + b := ⟨_, rfl⟩
 obtain ⟨mid, hmid⟩ : ∃ mid, mid = s / 2 := ⟨_, rfl⟩
 have HF := hid (xR (i := a) (j := b) (n := n) (by omega) hs hmid (by omega) (by omega));have hq2 : mid < m := by omega
 obtain ⟨N, hN⟩ : ∃ N, N = mid + m := ⟨_, rfl⟩
 have rN : IntKind.i64.wrap ((mid : Int) + (m : Int)) = (N : Int) := by rw [IntKind.wrap_i64]; omega
 obtain ⟨p, hp⟩ : ∃ p, p = mid + m - 1 := ⟨_, rfl⟩
 have rp : IntKind.i64.wrap ((N : Int) - 1) = (p : Int) := by rw [IntKind.wrap_i64]; omega
 have HMID : Hid (a ≤ mid ∧ 2 * mid ≤ a + b ∧ a + b ≤ 2 * mid + 1 ∧ a < mid ∧ mid < b ∧ N = mid + m ∧ p = mid + m - 1) := hid ⟨by omega, by omega, by omega, by omega, by omega, hN, hp⟩;obtain ⟨s0, hs0⟩ : ∃ s0, s0 = N - b := ⟨_, rfl⟩
 have r7 : IntKind.i64.wrap ((N : Int) - (b : Int)) = (s0 : Int) := by rw [IntKind.wrap_i64]; omega
 obtain ⟨r1x, hr0⟩ : ∃ r1x, r1x = mid := ⟨_, rfl⟩
 have HM : Hid ((mid < m ∧ s0 + b = mid + m ∧ r1x = mid ∧ b ≤ mid + m) ∨ (m ≤ mid ∧ s0 = a ∧ r1x = m)) := hid (Or.inl ⟨by omega, by omega, hr0, by omega⟩);have HSR : Hid (s0 ≤ r1x ∧ a ≤ s0 ∧ r1x ≤ m ∧ r1x ≤ mid ∧ mid + m ≤ s0 + b) := hid ⟨by omega, by omega, by omega, by omega, by omega⟩;have HS0 := hid hs0;have HR0 := hid hr0;clear hs hmid hN hp hq hs0 hr0;obtain ⟨r1, r2, r3, r4, r5⟩ := HF.out;clear r5;go_enter Tryz.func146, Tryz.ntmps146
 go_wp2
 clear r0 t0 r9 t9 r1 r2 r3 r4 rN rp r7;go_loopw [20, 21] (fun si sj wx => ∃ i j : Nat, s0 ≤ i ∧ i ≤ j ∧ j ≤ r1x ∧ si = .int .i64 i ∧ sj = .int .i64 j ∧ Hid (zX W0 blk ok f n wx) ∧ Hid (∀ t, s0 ≤ t → t < i → lt (f (mid + m - 1 - t)) (f t) = false) ∧ Hid (∀ t, j ≤ t → t < r1x → lt (f (mid + m - 1 - t)) (f t) = true)) (fun si sj _ => (zD sj).toNat - (zD si).toNat)
 case atStart => exact ⟨s0, r1x, Nat.le_refl _, HSR.out.1, Nat.le_refl _, rfl, by rw [HR0.out], H, hid (fun t h1 h2 => absurd h1 (by omega)), hid (fun t h1 h2 => absurd h1 (by omega))⟩
 case round =>
  exact zM7
theorem zFN (W0 W : World) (blk n cap a m b g : Nat) (cb : Array Value) (ok : Par → Prop) (lt : Par → Par → Bool) (f : Nat → Par) (hO : Swo lt) (hC : zFa W0 blk ok lt g cb) (eg : ∀ args w, (callFunc g args).run Tryz.prog w = .ok (.enter g args) w)
 (h : zX W0 blk ok f n W) (hq : ¬ (a + b) / 2 < m) (ham : a < m) (hmb : m < b) (hma : m ≠ a + 1) (hbm : b ≠ m + 1) (hb : b ≤ n) (hn : n < 2305843009213693952) (hs1 : zT lt (seg f a m)) (hs2 : zT lt (seg f m b))
 (IH : ∀ (a1 m1 b1 : Nat) (f1 : Nat → Par) (W1 : World), b1 - a1 < b - a → a1 < m1 → m1 < b1 → b1 ≤ n → zX W0 blk ok f1 n W1 → zT lt (seg f1 a1 m1) → zT lt (seg f1 m1 b1) → Calls Tryz.prog 146 #[.slice (some ⟨blk, 0, none⟩) n cap, .int .i64 a1, .int .i64 m1, .int .i64 b1, .func (.func g) #[] cb] W1 fun e w' => e = .returned (.tuple #[]) ∧ ∃ f', zX W0 blk ok f' n w' ∧ Put f1 f' a1 b1 (zV lt (seg f1 a1 m1) (seg f1 m1 b1))) :
 Calls Tryz.prog 146 #[.slice (some ⟨blk, 0, none⟩) n cap, .int .i64 a, .int .i64 m, .int .i64 b, .func (.func g) #[] cb] W fun e w' => e = .returned (.tuple #[]) ∧ ∃ f', zX W0 blk ok f' n w' ∧ Put f f' a b (zV lt (seg f a m) (seg f m b)) := by
 have H := hid h;have HC := hid hC;have HO := hid hO;have HS1 := hid hs1;have HS2 := hid hs2;have HIH := hid IH;clear h hC hO hs1 hs2 IH;obtain ⟨z, hz⟩ : ∃ z, z = m - a := ⟨_, rfl⟩
 have r0 : IntKind.i64.wrap ((m : Int) - (a : Int)) = (z : Int) := by rw [IntKind.wrap_i64]; omega
 have t0 : ¬ (z : Int) = 1 := by omega
 obtain ⟨y, hy⟩ : ∃ y, y = b - m := ⟨_, rfl⟩
 have r9 : IntKind.i64.wrap ((b : Int) - (m : Int)) = (y : Int) := by rw [IntKind.wrap_i64]; omega
 have t9 : ¬ (y : Int) = 1 := by omega
 clear hz hy;obtain ⟨s, hs⟩ : ∃ s, s = a + b := ⟨_, rfl⟩
 obtain ⟨mid, hmid⟩ : ∃ mid, mid = s / 2 := ⟨_, rfl⟩
 have HF := hid (xR (i := a) (j := b) (n := n) (by omega) hs hmid (by omega) (by omega));have hq2 : ¬ mid < m := by omega
 obtain ⟨N, hN⟩ : ∃ N, N = mid + m := ⟨_, rfl⟩
 have rN : IntKind.i64.wrap ((mid : Int) + (m : Int)) = (N : Int) := by rw [IntKind.wrap_i64]; omega
 obtain ⟨p, hp⟩ : ∃ p, p = mid + m - 1 := ⟨_, rfl⟩
 have rp : IntKind.i64.wrap ((N : Int) - 1) = (p : Int) := by rw [IntKind.wrap_i64]; omega
 have HMID : Hid (a ≤ mid ∧ 2 * mid ≤ a + b ∧ a + b ≤ 2 * mid + 1 ∧ a < mid ∧ mid < b ∧ N = mid + m ∧ p = mid + m - 1) := hid ⟨by omega, by omega, by omega, by omega, by omega, hN, hp⟩;obtain ⟨s0, hs0⟩ : ∃ s0, s0 = a := ⟨_, rfl⟩
 obtain ⟨r1x, hr0⟩ : ∃ r1x, r1x = m := ⟨_, rfl⟩
 have HM : Hid ((mid < m ∧ s0 + b = mid + m ∧ r1x = mid ∧ b ≤ mid + m) ∨ (m ≤ mid ∧ s0 = a ∧ r1x = m)) := hid (Or.inr ⟨by omega, hs0, hr0⟩);have HSR : Hid (s0 ≤ r1x ∧ a ≤ s0 ∧ r1x ≤ m ∧ r1x ≤ mid ∧ mid + m ≤ s0 + b) := hid ⟨by omega, by omega, by omega, by omega, by omega⟩;have HS0 := hid hs0;have HR0 := hid hr0;clear hs hmid hN hp hq hs0 hr0;obtain ⟨r1, r2, r3, r4, r5⟩ := HF.out;clear r5;go_enter Tryz.func146, Tryz.ntmps146
 go_wp2
 clear r0 t0 r9 t9 r1 r2 r3 r4 rN rp;go_loopw [20, 21] (fun si sj wx => ∃ i j : Nat, s0 ≤ i ∧ i ≤ j ∧ j ≤ r1x ∧ si = .int .i64 i ∧ sj = .int .i64 j ∧ Hid (zX W0 blk ok f n wx) ∧ Hid (∀ t, s0 ≤ t → t < i → lt (f (mid + m - 1 - t)) (f t) = false) ∧ Hid (∀ t, j ≤ t → t < r1x → lt (f (mid + m - 1 - t)) (f t) = true)) (fun si sj _ => (zD sj).toNat - (zD si).toNat)
 case atStart => exact ⟨s0, r1x, Nat.le_refl _, HSR.out.1, Nat.le_refl _, by rw [HS0.out], by rw [HR0.out], H, hid (fun t h1 h2 => absurd h1 (by omega)), hid (fun t h1 h2 => absurd h1 (by omega))⟩
 case round =>
  exact zM7
theorem zBD (W0 : World) (blk n cap g : Nat) (cb : Array Value) (ok : Par → Prop) (lt : Par → Par → Bool) (hO : Swo lt) (hC : zFa W0 blk ok lt g cb) (eg : ∀ args w, (callFunc g args).run Tryz.prog w = .ok (.enter g args) w) (hn : n < 2305843009213693952) :
 ∀ (d a m b : Nat) (f : Nat → Par) (W : World), b - a < d → a < m → m < b → b ≤ n → zX W0 blk ok f n W → zT lt (seg f a m) → zT lt (seg f m b) →
 Calls Tryz.prog 146 #[.slice (some ⟨blk, 0, none⟩) n cap, .int .i64 a, .int .i64 m, .int .i64 b, .func (.func g) #[] cb] W fun e w' => e = .returned (.tuple #[]) ∧ ∃ f', zX W0 blk ok f' n w' ∧ Put f f' a b (zV lt (seg f a m) (seg f m b)) := by
 intro d
 induction d with
 | zero => intro a m b f W h; omega
 | succ d ih =>
  intro a m b f W hd ham hmb hb h hs1 hs2;by_cases h1 : m = a + 1
  · exact zGN W0 W blk n cap a m b g cb ok lt f hO hC eg h h1 hmb hb hn hs2
  by_cases h2 : b = m + 1
  · exact zE9 W0 W blk n cap a m b g cb ok lt f hO hC eg h ham h1 h2 hb hn hs1
  by_cases hq : (a + b) / 2 < m
  · exact zGP W0 W blk n cap a m b g cb ok lt f hO hC eg h hq ham hmb h1 h2 hb hn hs1 hs2 (fun a1 m1 b1 f1 W1 h3 h4 h5 h6 h7 h8 h9 => ih a1 m1 b1 f1 W1 (by omega) h4 h5 h6 h7 h8 h9)
  exact zFN W0 W blk n cap a m b g cb ok lt f hO hC eg h hq ham hmb h1 h2 hb hn hs1 hs2 (fun a1 m1 b1 f1 W1 h3 h4 h5 h6 h7 h8 h9 => ih a1 m1 b1 f1 W1 (by omega) h4 h5 h6 h7 h8 h9)
open Go.RowKit Go.Deep
theorem zHh (W0 W : World) (blk n cap g : Nat) (cb : Array Value) (ok : Par → Prop) (lt : Par → Par → Bool) (f : Nat → Par) (hO : Swo lt) (hC : zFa W0 blk ok lt g cb) (eg : ∀ args w, (callFunc g args).run Tryz.prog w = .ok (.enter g args) w)
 (h : zX W0 blk ok f n W) (hn : n < 1099511627776) :
 Calls Tryz.prog 112 #[.slice (some ⟨blk, 0, none⟩) n cap, .int .i64 n, .func (.func g) #[] cb] W fun e w' => e = .returned (.tuple #[]) ∧ ∃ f', zX W0 blk ok f' n w' ∧ Put f f' 0 n (yh lt (seg f 0 n)) := by
 have H := hid h;have HC := hid hC;have HO := hid hO;clear h hC hO;go_enter Tryz.func112, Tryz.ntmps112
 go_wp2
 go_loopw [7, 8] (fun sa sb wx => ∃ (k a b : Nat) (f1 : Nat → Par), sa = .int .i64 a ∧ sb = .int .i64 b ∧ Hid (a = k * 20 ∧ b = k * 20 + 20 ∧ a ≤ n ∧ zDD lt f f1 20 k) ∧ Hid (zX W0 blk ok f1 n wx)) (fun _ sb _ => n + 20 - (zD sb).toNat)
 case atStart => exact ⟨0, 0, 20, f, rfl, rfl, hid ⟨rfl, rfl, Nat.zero_le _, zDD.zero 20⟩, H⟩
 case round =>
  obtain ⟨k, a, b, f1, rfl, rfl, HK, HI⟩ := hrel;by_cases hlt : b ≤ n
  ·
   obtain ⟨b2, hb2⟩ : ∃ b2, b2 = b + 20 := ⟨_, rfl⟩
   have r1 : IntKind.i64.wrap ((b : Int) + 20) = (b2 : Int) := by rw [IntKind.wrap_i64]; omega
   replace hb2 := hid hb2;go_wp2_with (go_at_call 145; refine (zA9 W0 _ blk n cap a b g cb ok lt f1 HO.out HC.out eg HI.out (by have := HK.out; omega) hlt (by omega)).mono ?_; rintro e w1 ⟨rfl, f2, h1, h2⟩; replace h1 := hid h1; replace h2 := hid h2)
   exact zOm
  go_wp2_with (go_at_call 145; refine (zA9 W0 _ blk n cap a n g cb ok lt f1 HO.out HC.out eg HI.out (by have := HK.out; omega) (Nat.le_refl _) (by omega)).mono ?_; rintro e w1 ⟨rfl, f2, h1, h2⟩; replace h1 := hid h1; replace h2 := hid h2)
  have HA : Hid (zE6 lt f f2 20 n) := by
   exact zNS
  clear h2 HI HK hlt;go_loopw [6] (fun ss wx => ∃ (s : Nat) (f2 : Nat → Par), ss = .int .i64 s ∧ Hid (0 < s ∧ s < 2 * n + 40 ∧ zE6 lt f f2 s n) ∧ Hid (zX W0 blk ok f2 n wx)) (fun ss _ => n - (zD ss).toNat)
  case atStart => exact ⟨20, f2, rfl, hid ⟨by omega, by omega, HA.out⟩, h1⟩
  case round =>
   clear h1 HA;obtain ⟨s, f2, rfl, HS, HI⟩ := hrel;by_cases hs : s < n
   ·
    obtain ⟨s2, hs2⟩ : ∃ s2, s2 = 2 * s := ⟨_, rfl⟩
    have r1 : IntKind.i64.wrap (2 * (s : Int)) = (s2 : Int) := by rw [IntKind.wrap_i64]; omega
    have r2 : IntKind.i64.wrap ((s : Int) * 2) = (s2 : Int) := by rw [IntKind.wrap_i64]; omega
    replace hs2 := hid hs2;go_wp2
    go_loopw [7, 8] (fun sa sb wx => ∃ (k a b : Nat) (f3 : Nat → Par), sa = .int .i64 a ∧ sb = .int .i64 b ∧ Hid (a = k * (2 * s) ∧ b = k * (2 * s) + 2 * s ∧ a ≤ n ∧ zBm lt f f3 s k n) ∧ Hid (zX W0 blk ok f3 n wx)) (fun _ sb _ => n + s2 - (zD sb).toNat)
    case atStart => exact ⟨0, 0, s2, f2, rfl, rfl, hid ⟨by omega, by have := hs2.out; omega, Nat.zero_le _, zBm.start HS.out.2.2⟩, HI⟩
    case round =>
     clear HI;obtain ⟨k, a, b, f3, rfl, rfl, HK, HI⟩ := hrel;obtain ⟨m, hm⟩ : ∃ m, m = a + s := ⟨_, rfl⟩
     have r3 : IntKind.i64.wrap ((a : Int) + (s : Int)) = (m : Int) := by have := HK.out.2.2.1; rw [IntKind.wrap_i64]; omega
     replace hm := hid hm;by_cases hlt : b ≤ n
     ·
      obtain ⟨b2, hb2⟩ : ∃ b2, b2 = b + s2 := ⟨_, rfl⟩
      have r4 : IntKind.i64.wrap ((b : Int) + (s2 : Int)) = (b2 : Int) := by have := hs2.out; rw [IntKind.wrap_i64]; omega
      replace hb2 := hid hb2
      have HL : Hid (zT lt (seg f3 a m)) := by
       exact m91
      have HR : Hid (zT lt (seg f3 m b)) := by
       exact m84
      go_wp2_with (go_at_call 146; refine (zBD W0 blk n cap g cb ok lt HO.out HC.out eg (by omega) (b - a + 1) a m b f3 _ (Nat.lt_succ_self _) (by have := hm.out; have := HS.out.1; omega) (by have := hm.out; have := HS.out.1; have := HK.out; omega) hlt HI.out HL.out HR.out).mono ?_; rintro e w1 ⟨rfl, f4, h1, h2⟩; replace h1 := hid h1; replace h2 := hid h2)
      exact m82
     by_cases hmn : m < n
     ·
      have HL : Hid (zT lt (seg f3 a m)) := by
       exact m91
      have HR : Hid (zT lt (seg f3 m n)) := by
       exact m84
      go_wp2_with (go_at_call 146; refine (zBD W0 blk n cap g cb ok lt HO.out HC.out eg (by omega) (n - a + 1) a m n f3 _ (Nat.lt_succ_self _) (by have := hm.out; have := HS.out.1; omega) hmn (Nat.le_refl _) HI.out HL.out HR.out).mono ?_; rintro e w1 ⟨rfl, f4, h1, h2⟩; replace h1 := hid h1; replace h2 := hid h2)
      exact m88
     exact m92
   (go_wp2);(go_end0);exact ⟨rfl, f2, HI.out, HS.out.2.2.put (by omega)⟩
theorem zDv (W0 W : World) (blk n cap g : Nat) (cb : Array Value) (ok : Par → Prop) (lt : Par → Par → Bool) (f : Nat → Par) (hO : Swo lt) (hC : zFa W0 blk ok lt g cb) (eg : ∀ args w, (callFunc g args).run Tryz.prog w = .ok (.enter g args) w)
 (h : zX W0 blk ok f n W) (hn : n < 1099511627776) :
 Calls Tryz.prog 71 #[.slice (some ⟨blk, 0, none⟩) n cap, .func (.func g) #[] cb] W fun e w' => e = .returned (.tuple #[]) ∧ ∃ f', zX W0 blk ok f' n w' ∧ Put f f' 0 n (yh lt (seg f 0 n)) := by
 have HS := hid (zHh W0 W blk n cap g cb ok lt f hO hC eg h hn);clear h hC hO;go_enter Tryz.func71, Tryz.ntmps71
 go_wp2_with (go_at_call 112; refine HS.out.mono ?_; rintro e w1 ⟨rfl, f4, h1, h2⟩; replace h1 := hid h1; replace h2 := hid h2)
 go_end0
 exact ⟨rfl, f4, h1.out, h2.out⟩
end Go.Proofs.YtcjhihmaegagdaaGreatDoor
