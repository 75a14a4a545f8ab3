/- Texts of the Notation chapter, together: Sa, Sb, Sc, Sd. -/
import Derived.Test.YtcjhihmaegagdaaGreatDoorG2
import Derived.Test.YtcjhihmaegagdaaGreatDoorG1
import Derived.Test.YtcjhihmaegagdaaGreatDoorG4
import Derived.BigRegion
set_option maxRecDepth 100000
set_option maxHeartbeats 8000000
set_option linter.unusedSimpArgs false
set_option linter.unusedVariables false
set_option linter.unusedSectionVars false
set_option linter.unnecessarySimpa false
namespace Go.Proofs.YtcjhihmaegagdaaGreatDoor
open Go.RowKit Go.Deep
structure IntsAt (W : World) (blk : Nat) (ok : Int → Prop) (f : Nat → Int) (n : Nat) (w : World) : Prop where
 only : Only blk W w
 cell : ∀ t, t < n → w.cell? ⟨blk, t, none⟩ = some (.int .i64 (f t))
 fr : ∀ t, t < n → w.frozen? ⟨blk, t, none⟩ = false
 ok : ∀ t, t < n → ok (f t)
 lt : blk < w.heap.size
theorem IntsAt.below {W w w' : World} {blk n : Nat} {ok : Int → Prop} {f : Nat → Int} (h : IntsAt W blk ok f n w) (b : Below w.heap.size w w') : IntsAt W blk ok f n w' :=
 ⟨h.only.trans (Only.of_below b), fun t ht => (b.cell (p := ⟨blk, t, none⟩) h.lt).trans (h.cell t ht), fun t ht => (b.frozen (p := ⟨blk, t, none⟩) h.lt).trans (h.fr t ht), h.ok, Nat.lt_of_lt_of_le h.lt b.size⟩
theorem IntsAt.swap {W w : World} {blk n : Nat} {ok : Int → Prop} {f : Nat → Int} (h : IntsAt W blk ok f n w) (i j : Nat) (hi : i < n) (hj : j < n) :
  IntsAt W blk ok (swapF f i j) n ((w.setCell ⟨blk, i, none⟩ (.int .i64 (f j))).setCell ⟨blk, j, none⟩ (.int .i64 (f i))).drew := by
 refine ⟨((h.only.setCell i _).setCell j _).drew, fun t ht => ?_, fun t ht => ?_, fun t ht => ?_, ?_⟩
 ·
  show ((w.setCell ⟨blk, i, none⟩ (.int .i64 (f j))).setCell ⟨blk, j, none⟩ (.int .i64 (f i))).cell? ⟨blk, t, none⟩ = _
  have c1 := h.cell i hi
  have c2 := h.cell j hj
  have c3 := h.cell t ht
  unfold swapF
  by_cases e2 : t = j
  ·
   subst e2
   have q : (w.setCell ⟨blk, i, none⟩ (.int .i64 (f t))).cell? ⟨blk, t, none⟩ ≠ none := by
    by_cases e : i = t
    ·
     subst e; rw [World.cell?_setCell_same _ _ _ c1]; simp
    rw [World.cell?_setCell_other _ _ _ _ (by intro e'; simp only [Addr.mk.injEq] at e'; omega), c2]; simp
   obtain ⟨u, hu⟩ := Option.ne_none_iff_exists'.1 q
   rw [World.cell?_setCell_same _ _ _ hu]
   by_cases e : t = i
   ·
    subst e; rw [if_pos rfl]
   rw [if_neg e, if_pos rfl]
  rw [World.cell?_setCell_other _ _ _ _ (by intro e'; simp only [Addr.mk.injEq] at e'; omega)]
  by_cases e : t = i
  ·
   subst e; rw [World.cell?_setCell_same _ _ _ c1, if_pos rfl]
  rw [World.cell?_setCell_other _ _ _ _ (by intro e'; simp only [Addr.mk.injEq] at e'; omega), c3, if_neg e, if_neg e2]
 ·
  show ((w.setCell ⟨blk, i, none⟩ (.int .i64 (f j))).setCell ⟨blk, j, none⟩ (.int .i64 (f i))).frozen? ⟨blk, t, none⟩ = _
  rw [World.frozen?_setCell, World.frozen?_setCell]; exact h.fr t ht
 ·
  unfold swapF
  split
  ·
   exact h.ok j hj
  split
  ·
   exact h.ok i hi
  exact h.ok t ht
 show blk < ((w.setCell ⟨blk, i, none⟩ (.int .i64 (f j))).setCell ⟨blk, j, none⟩ (.int .i64 (f i))).heap.size
 simpa using h.lt
def CmpI (W : World) (blk : Nat) (ok : Int → Prop) (lt : Int → Int → Bool) (g : Nat) (cb : Array Value) : Prop :=
 ∀ w, Only blk W w → ∀ x y, ok x → ok y → Calls Tryz.prog g (#[.int .i64 x, .int .i64 y] ++ cb) w fun e w' => e = .returned (.int .i64 (if lt x y = true then -1 else if lt y x = true then 1 else 0)) ∧ Below w.heap.size w w'
theorem swapRange_int (W0 W : World) (blk n cap a b k : Nat) (ok : Int → Prop) (f : Nat → Int) (fv : Value) (h : IntsAt W0 blk ok f n W) (hab : a + k ≤ b) (hb : b + k ≤ n) (hn : n < 4611686018427387904) :
  Calls Tryz.prog 183 #[.slice (some ⟨blk, 0, none⟩) n cap, .int .i64 a, .int .i64 b, .int .i64 k, fv] W fun e w' => e = .returned (.tuple #[]) ∧ IntsAt W0 blk ok (swapR f a b k) n w' := by
 have H := hid h
 clear h
 go_enter Tryz.func183, Tryz.ntmps183
 go_wp2
 go_loopw [10] (fun i wx => ∃ j : Nat, j ≤ k ∧ i = .int .i64 j ∧ Hid (IntsAt W0 blk ok (swapR f a b j) n wx)) (fun i _ => k - (intOf i).toNat)
 case atStart => exact ⟨0, Nat.zero_le _, rfl, by rw [swapR_zero]; exact H⟩
 case round =>
  obtain ⟨j, hj, rfl, HR⟩ := hrel
  by_cases hlt : j < k
  ·
   have c1 := HR.out.cell (a + j) (by omega)
   have c2 := HR.out.cell (b + j) (by omega)
   have f1 := HR.out.fr (a + j) (by omega)
   have f2 := HR.out.fr (b + j) (by omega)
   have e1 : ((a : Int) + (j : Int)).toNat = a + j := by omega
   have e2 : ((b : Int) + (j : Int)).toNat = b + j := by omega
   have r1 : IntKind.i64.wrap ((a : Int) + (j : Int)) = (a : Int) + (j : Int) := by rw [IntKind.wrap_i64]; omega
   have r2 : IntKind.i64.wrap ((b : Int) + (j : Int)) = (b : Int) + (j : Int) := by rw [IntKind.wrap_i64]; omega
   have HN : Hid (IntsAt W0 blk ok (swapR f a b (j + 1)) n _) := hid (swapR_succ (f := f) a b j (by omega) ▸ HR.out.swap (a + j) (b + j) (by omega) (by omega))
   go_wp2_with fail
   go_big_region
   go_wp2
   go_roundw
   case rel => exact ⟨j + 1, by omega, by go_num, HN⟩
   case measure => simp [intOf]; omega
  obtain rfl : j = k := by omega
  go_wp2
  go_end0
  exact ⟨rfl, HR.out⟩
theorem rotate_int (W0 W : World) (blk n cap a m b : Nat) (ok : Int → Prop) (f : Nat → Int) (fv : Value) (h : IntsAt W0 blk ok f n W) (ham : a < m) (hmb : m < b) (hb : b ≤ n) (hn : n < 4611686018427387904) :
  Calls Tryz.prog 170 #[.slice (some ⟨blk, 0, none⟩) n cap, .int .i64 a, .int .i64 m, .int .i64 b, fv] W fun e w' => e = .returned (.tuple #[]) ∧ IntsAt W0 blk ok (rotF f a m b) n w' := by
 have H := hid h
 clear h
 obtain ⟨i0, hi0⟩ : ∃ i0, i0 = m - a := ⟨_, rfl⟩
 obtain ⟨j0, hj0⟩ : ∃ j0, j0 = b - m := ⟨_, rfl⟩
 have r1 : IntKind.i64.wrap ((m : Int) - (a : Int)) = (i0 : Int) := by rw [IntKind.wrap_i64]; omega
 have r2 : IntKind.i64.wrap ((b : Int) - (m : Int)) = (j0 : Int) := by rw [IntKind.wrap_i64]; omega
 have HI0 := hid hi0
 have HJ0 := hid hj0
 clear hi0 hj0
 go_enter Tryz.func170, Tryz.ntmps170
 go_wp2
 go_loopw [10, 11] (fun si sj wx => ∃ (i j : Nat) (g : Nat → Int), 0 < i ∧ 0 < j ∧ a + i ≤ m ∧ m + j ≤ b ∧ si = .int .i64 i ∧ sj = .int .i64 j ∧ Hid (IntsAt W0 blk ok g n wx) ∧ Hid (rotF g (m - i) m (m + j) = rotF f a m b)) (fun si sj _ => (intOf si).toNat + (intOf sj).toNat)
 case atStart =>
  have e1 := HI0.out
  have e2 := HJ0.out
  exact ⟨i0, j0, f, by omega, by omega, by omega, by omega, rfl, rfl, H, by rw [show m - i0 = a by omega, show m + j0 = b by omega]; exact rfl⟩
 case round =>
  obtain ⟨i, j, g, hi, hj, hai, hjb, rfl, rfl, HG, HE⟩ := hrel
  clear r1 r2
  obtain ⟨z, hz⟩ : ∃ z, z = m - i := ⟨_, rfl⟩
  have r1 : IntKind.i64.wrap ((m : Int) - (i : Int)) = (z : Int) := by rw [IntKind.wrap_i64]; omega
  have HZ := hid hz
  clear hz
  rcases Nat.lt_trichotomy i j with hlt | heq | hgt
  ·
   obtain ⟨y, hy⟩ : ∃ y, y = m + j - i := ⟨_, rfl⟩
   obtain ⟨x, hx⟩ : ∃ x, x = j - i := ⟨_, rfl⟩
   have r2 : IntKind.i64.wrap ((m : Int) + (j : Int)) = ((m : Int) + (j : Int)) := by rw [IntKind.wrap_i64]; omega
   have r3 : IntKind.i64.wrap ((m : Int) + (j : Int) - (i : Int)) = (y : Int) := by rw [IntKind.wrap_i64]; omega
   have r4 : IntKind.i64.wrap ((j : Int) - (i : Int)) = (x : Int) := by rw [IntKind.wrap_i64]; omega
   have t1 : ¬ (i : Int) = (j : Int) := by omega
   have t2 : ¬ (j : Int) < (i : Int) := by omega
   have HY := hid hy
   have HX := hid hx
   clear hy hx
   go_wp2_with (go_at_call 183; refine (swapRange_int W0 _ blk n cap z y i ok g fv HG.out (by have := HZ.out; have := HY.out; omega) (by have := HY.out; omega) hn).mono ?_; rintro e w1 ⟨rfl, h1⟩; replace h1 := hid h1)
   go_roundw
   case rel =>
    have e1 := HZ.out
    have e2 := HY.out
    have e3 := HX.out
    exact ⟨i, x, _, hi, by omega, hai, by omega, rfl, rfl, h1, by rw [e1, e2, e3]; exact (rot_lt (f := g) m i j (by omega) hlt hi).trans HE.out⟩
   case measure => have e3 := HX.out; simp [intOf]; omega
  ·
   subst heq
   go_wp2_with (go_at_call 183; refine (swapRange_int W0 _ blk n cap z m i ok g fv HG.out (by have := HZ.out; omega) (by omega) hn).mono ?_; rintro e w1 ⟨rfl, h1⟩; replace h1 := hid h1)
   go_end0
   refine ⟨rfl, ?_⟩
   have e1 := HZ.out
   rw [← HE.out, ← rot_eq (f := g) m i (by omega), ← e1]
   exact h1.out
  obtain ⟨x, hx⟩ : ∃ x, x = i - j := ⟨_, rfl⟩
  have r4 : IntKind.i64.wrap ((i : Int) - (j : Int)) = (x : Int) := by rw [IntKind.wrap_i64]; omega
  have t1 : ¬ (i : Int) = (j : Int) := by omega
  have t2 : (j : Int) < (i : Int) := by omega
  have HX := hid hx
  clear hx
  go_wp2_with (go_at_call 183; refine (swapRange_int W0 _ blk n cap z m j ok g fv HG.out (by have := HZ.out; omega) (by omega) hn).mono ?_; rintro e w1 ⟨rfl, h1⟩; replace h1 := hid h1)
  go_roundw
  case rel =>
   have e1 := HZ.out
   have e3 := HX.out
   exact ⟨x, j, _, by omega, hj, by omega, hjb, rfl, rfl, h1, by rw [e1, e3]; exact (rot_gt (f := g) m i j (by omega) hgt hj).trans HE.out⟩
  case measure => have e3 := HX.out; simp [intOf]; omega
end Go.Proofs.YtcjhihmaegagdaaGreatDoor
namespace Go.Proofs.YtcjhihmaegagdaaGreatDoor
open Go.RowKit Go.Deep
theorem load_int (w : World) (p : Addr) (x : Int) (h : w.cell? p = some (.int .i64 x)) : (Instr.loadAt 3 (.pointer (some p))).run Tryz.prog w = .ok (.int .i64 x) w := by
 go_simp
theorem ins_put {α : Type} {lt : α → α → Bool} {f fi : Nat → α} (hO : Swo lt) (a i j : Nat) (haj : a ≤ j) (hji : j ≤ i) (hP : Put f fi a i (sortS lt (seg f a i))) (hL : ∀ t, j ≤ t → t < i → lt (fi i) (fi t) = true) (hE : a < j → lt (fi i) (fi (j - 1)) = false) :
  Put f (rotF fi j i (i + 1)) a (i + 1) (sortS lt (seg f a (i + 1))) := by
 have srt : Sorted lt (seg fi a i) := by rw [hP.seg]; exact sortS_sorted hO _
 have s := sym_right (f := fi) hO a i j haj hji (fun t h1 h2 => by
  have e := hE (by omega)
  by_cases ht : t = j - 1
  ·
   rw [ht]; exact e
  exact hO.neg _ _ _ e (seg_sorted.1 srt t (j - 1) h1 (by omega) (by omega))) (fun h => hL j (Nat.le_refl _) h)
 refine ⟨fun t ht => (s.out t ht).trans (hP.out t (by omega)), ?_⟩
 rw [s.seg, hP.seg, seg_cons fi i (i + 1) (by omega), seg_nil fi (i + 1) (i + 1) (by omega), mergeS_one, hP.out i (by omega), seg_succ f a i (by omega), sortS_snoc]
theorem insertion_int (W0 W : World) (blk n cap a b g : Nat) (cb : Array Value) (ok : Int → Prop) (lt : Int → Int → Bool) (f : Nat → Int) (hO : Swo lt) (hC : CmpI W0 blk ok lt g cb) (eg : ∀ args w, (callFunc g args).run Tryz.prog w = .ok (.enter g args) w)
  (h : IntsAt W0 blk ok f n W) (hab : a ≤ b) (hb : b ≤ n) (hn : n < 4611686018427387904) :
  Calls Tryz.prog 143 #[.slice (some ⟨blk, 0, none⟩) n cap, .int .i64 a, .int .i64 b, .func (.func g) #[] cb] W fun e w' => e = .returned (.tuple #[]) ∧ ∃ f', IntsAt W0 blk ok f' n w' ∧ Put f f' a b (sortS lt (seg f a b)) := by
 have H := hid h
 have HC := hid hC
 have HO := hid hO
 clear h hC hO
 go_enter Tryz.func143, Tryz.ntmps143
 have r0 : IntKind.i64.wrap ((a : Int) + 1) = ((a + 1 : Nat) : Int) := by rw [IntKind.wrap_i64]; omega
 go_wp2
 go_loopw [8] (fun si wx => ∃ (i : Nat) (fi : Nat → Int), a ≤ i ∧ (i ≤ b ∨ i = a + 1) ∧ si = .int .i64 i ∧ Hid (IntsAt W0 blk ok fi n wx) ∧ Hid (Put f fi a (min i b) (sortS lt (seg f a (min i b))))) (fun si _ => b + 1 - (intOf si).toNat)
 case atStart =>
  refine ⟨a + 1, f, by omega, Or.inr rfl, rfl, H, hid (Put.refl ?_)⟩
  by_cases hq : a < b
  ·
   rw [show min (a + 1) b = a + 1 by omega, seg_cons f a (a + 1) (by omega), seg_nil f (a + 1) (a + 1) (by omega)]; rfl
  rw [seg_nil f a _ (by omega)]; rfl
 case round =>
  obtain ⟨i, fi, hai, hib, rfl, HI, HP⟩ := hrel
  by_cases hlt : i < b
  ·
   go_wp2_with fail
   go_loopw [9] (fun sj wx => ∃ j : Nat, a ≤ j ∧ j ≤ i ∧ sj = .int .i64 j ∧ Hid (IntsAt W0 blk ok (rotF fi j i (i + 1)) n wx) ∧ Hid (∀ t, j ≤ t → t < i → lt (fi i) (fi t) = true)) (fun sj _ => (intOf sj).toNat)
   case atStart => exact ⟨i, by omega, Nat.le_refl _, rfl, by rw [rot_down0]; exact HI, hid (fun t h1 h2 => absurd h1 (by omega))⟩
   case round =>
    obtain ⟨j, haj, hji, rfl, HJ, HL⟩ := hrel
    by_cases hja : a < j
    ·
     obtain ⟨x, hx⟩ : ∃ x, x = fi i := ⟨_, rfl⟩
     obtain ⟨y, hy⟩ : ∃ y, y = fi (j - 1) := ⟨_, rfl⟩
     obtain ⟨jp, hjp⟩ : ∃ jp, j = jp + 1 := ⟨j - 1, by omega⟩
     have v1 : rotF fi j i (i + 1) j = x := by rw [hx]; unfold rotF; rw [if_pos (by omega)]; congr 1; omega
     have v2 : rotF fi j i (i + 1) jp = y := by rw [hy]; unfold rotF; rw [if_neg (by omega), if_neg (by omega)]; congr 1; omega
     have c1 := HJ.out.cell j (by omega)
     have c2 := HJ.out.cell jp (by omega)
     have o1 := HJ.out.ok j (by omega)
     have o2 := HJ.out.ok jp (by omega)
     rw [v1] at c1 o1
     rw [v2] at c2 o2
     have hbl := HJ.out.lt
     have e1 : IntKind.i64.wrap ((j : Int) - 1) = (jp : Int) := by rw [IntKind.wrap_i64]; omega
     have t1 : (a : Int) < (j : Int) := by omega
     have b1 : j < n := by omega
     have b2 : jp < n := by omega
     have hcall : ∀ w', Below wr.heap.size wr w' → Calls Tryz.prog g (#[.int .i64 x, .int .i64 y] ++ cb) w' fun e w'' => e = .returned (.int .i64 (if lt x y = true then -1 else if lt y x = true then 1 else 0)) ∧ Below wr.heap.size wr w'' := fun w' hb => (HC.out w' (HJ.out.only.trans (Only.of_below hb)) x y o1 o2).mono fun e w'' h => ⟨h.1, below_on hb h.2⟩
     obtain ⟨c, hc⟩ : ∃ c : Int, c = (if lt x y = true then -1 else if lt y x = true then 1 else 0) := ⟨_, rfl⟩
     rw [← hc] at hcall
     have V : Hid (x = fi i ∧ y = fi (j - 1) ∧ j = jp + 1) := ⟨hx, hy, hjp⟩
     clear v1 v2 hx hy o1 o2 hjp
     go_wp2_with fail
     refine wp_region_quiet (C := fun w' => Below wr.heap.size wr w') (by kernel_rfl) (by kernel_rfl) (Below.refl _ wr).drew ?_
     refine quiet_val (by kernel_rfl) (.int .i64 (j : Int)) (fun _ _ => rfl) ?_
     simp only [Act.put, sS]
     refine quiet_val (by kernel_rfl) (.int .i64 (a : Int)) (fun _ _ => rfl) ?_
     simp only [Act.put, sS]
     refine quiet_val (by kernel_rfl) (.bool true) (fun _ _ => by simp [go_sem, t1]) ?_
     simp only [Act.put, sS]
     refine quiet_val (by kernel_rfl) (.bool true) (fun _ _ => rfl) ?_
     simp only [Act.put, sS]
     refine quiet_val (by kernel_rfl) (.func (.func g) #[] cb) (fun _ _ => rfl) ?_
     simp only [Act.put, sS]
     refine quiet_val (by kernel_rfl) (.slice (some ⟨blk, 0, none⟩) n cap) (fun _ _ => rfl) ?_
     simp only [Act.put, sS]
     refine quiet_val (by kernel_rfl) (.int .i64 (j : Int)) (fun _ _ => rfl) ?_
     simp only [Act.put, sS]
     refine quiet_val (by kernel_rfl) (.pointer (some ⟨blk, j, none⟩)) (fun _ _ => by simp [go_sem, b1]) ?_
     simp only [Act.put, sS]
     refine quiet_ld (by kernel_rfl) 3 (.tmp 25) rfl ⟨blk, j, none⟩ (.int .i64 x) rfl (fun w' hb => load_int _ _ _ ((hb.cell hbl).trans c1)) ?_
     simp only [Act.put, sS]
     refine quiet_val (by kernel_rfl) (.slice (some ⟨blk, 0, none⟩) n cap) (fun _ _ => rfl) ?_
     simp only [Act.put, sS]
     refine quiet_val (by kernel_rfl) (.int .i64 (j : Int)) (fun _ _ => rfl) ?_
     simp only [Act.put, sS]
     refine quiet_val (by kernel_rfl) (.int .i64 (jp : Int)) (fun _ _ => by simp [go_sem, e1]) ?_
     simp only [Act.put, sS]
     refine quiet_val (by kernel_rfl) (.pointer (some ⟨blk, jp, none⟩)) (fun _ _ => by simp [go_sem, b2]) ?_
     simp only [Act.put, sS]
     refine quiet_ld (by kernel_rfl) 3 (.tmp 30) rfl ⟨blk, jp, none⟩ (.int .i64 y) rfl (fun w' hb => load_int _ _ _ ((hb.cell hbl).trans c2)) ?_
     simp only [Act.put, sS]
     refine quiet_call (by kernel_rfl) (.int .i64 c) g (#[.int .i64 x, .int .i64 y] ++ cb) ?_ ?_ ?_
     ·
      intro w'
      simp [go_sem, eg]
     ·
      intro w' hb
      exact hcall w' hb
     simp only [Act.put, sS]
     refine quiet_val (by kernel_rfl) (.bool (decide (c < 0))) (fun _ _ => by simp [go_sem, e1]) ?_
     simp only [Act.put, sS]
     refine quiet_val (by kernel_rfl) (.bool (decide (c < 0))) (fun _ _ => rfl) ?_
     simp only [Act.put, sS]
     refine wpQuiet_nil ?_
     intro w2 hb2
     have H2 := hid (HJ.out.below hb2)
     rcases hl : lt x y with _ | _
     ·
      have hneg : ¬ c < 0 := by rw [hc, hl]; simp; split <;> omega
      have HQ : Hid (lt (fi i) (fi (j - 1)) = false) := by rw [← V.out.1, ← V.out.2.1]; exact hl
      clear hc hcall c1 c2 hbl hl
      go_wp2
      go_roundw
      case rel => exact ⟨i + 1, _, by omega, by omega, by go_num, H2, by rw [show min (i + 1) b = i + 1 by omega]; exact hid (ins_put HO.out a i j haj hji (show min i b = i by omega ▸ HP.out) HL.out (fun _ => HQ.out))⟩
      case measure => simp [intOf]; omega
     have hneg : c < 0 := by rw [hc, hl]; simp
     have hlx := hid hl
     clear hc hcall c1 c2 hbl hl b1 b2 t1
     go_wp2_with fail
     have c1 := H2.out.cell j (by omega)
     have c2 := H2.out.cell jp (by have := V.out.2.2; omega)
     have f1 := H2.out.fr j (by omega)
     have f2 := H2.out.fr jp (by have := V.out.2.2; omega)
     have b1 : j < n := by omega
     have b2 : jp < n := by have := V.out.2.2; omega
     have u1 : rotF fi j i (i + 1) j = x := by rw [V.out.1]; unfold rotF; rw [if_pos (by omega)]; congr 1; omega
     have u2 : rotF fi j i (i + 1) jp = y := by have := V.out.2.2; rw [V.out.2.1]; unfold rotF; rw [if_neg (by omega), if_neg (by omega)]; congr 1; omega
     have HN := H2.out.swap j jp (by omega) (by have := V.out.2.2; omega)
     rw [u1, u2] at HN
     rw [u1] at c1
     rw [u2] at c2
     replace HN := hid HN
     clear u1 u2
     obtain ⟨u, hu⟩ : ∃ u, (w2.setCell ⟨blk, j, none⟩ (.int .i64 y)).cell? ⟨blk, jp, none⟩ = some u := ⟨_, (World.cell?_setCell_other _ _ _ _ (by intro e'; simp only [Addr.mk.injEq] at e'; have := V.out.2.2; omega)).trans c2⟩
     go_big_region
     go_wp2
     go_roundw
     case rel => exact ⟨jp, by have := V.out.2.2; omega, by have := V.out.2.2; omega, rfl, by have h3 := V.out.2.2; have h4 := rot_down (f := fi) i j hji (by omega); rw [show j - 1 = jp by omega] at h4; exact hid (h4 ▸ HN.out), hid (fun t h1 h2 => by
       by_cases ht : j ≤ t
       ·
        exact HL.out t ht h2
       have h3 := V.out.2.2
       obtain rfl : t = jp := by omega
       have h4 := hlx.out
       rw [V.out.1, V.out.2.1, show j - 1 = t by omega] at h4
       exact h4)⟩
     case measure => have := V.out.2.2; simp [intOf]; omega
    obtain rfl : j = a := by omega
    have t1 : ¬ (j : Int) < (j : Int) := by omega
    go_wp2_with fail
    have HB : Hid (Below wr.heap.size wr wr.drew) := hid (Below.refl _ _).drew
    go_big_region
    have H2 := hid (HJ.out.below HB.out)
    go_wp2
    go_roundw
    case rel => exact ⟨i + 1, _, by omega, by omega, by go_num, H2, by rw [show min (i + 1) b = i + 1 by omega]; exact hid (ins_put HO.out j i j (Nat.le_refl _) hji (show min i b = i by omega ▸ HP.out) HL.out (fun h => absurd h (by omega)))⟩
    case measure => simp [intOf]; omega
  go_wp2
  go_end0
  refine ⟨rfl, fi, HI.out, ?_⟩
  have e := HP.out
  rw [show min i b = b by omega] at e
  exact e
end Go.Proofs.YtcjhihmaegagdaaGreatDoor
namespace Go.Proofs.YtcjhihmaegagdaaGreatDoor
open Go.RowKit Go.Deep
theorem half_facts {i j n s h : Nat} (hn : n < 2305843009213693952) (hs : s = i + j) (hh : h = s / 2) (hi : i ≤ n) (hj : j ≤ n) :
  IntKind.i64.wrap ((i : Int) + (j : Int)) = (s : Int) ∧ IntKind.u64.wrap (s : Int) = (s : Int) ∧ wrap64 ((s : Int) / 2) = (h : Int) ∧ IntKind.i64.wrap ((s : Int) / 2) = (h : Int) ∧ IntKind.i64.wrap ((h : Int) + 1) = ((h + 1 : Nat) : Int) :=
 ⟨by rw [IntKind.wrap_i64]; omega, by rw [IntKind.wrap_u64]; omega, by unfold wrap64; omega, by rw [IntKind.wrap_i64]; omega, by rw [IntKind.wrap_i64]; omega⟩
theorem symLeft_int (W0 W : World) (blk n cap a m b g : Nat) (cb : Array Value) (ok : Int → Prop) (lt : Int → Int → Bool) (f : Nat → Int) (hO : Swo lt) (hC : CmpI W0 blk ok lt g cb) (eg : ∀ args w, (callFunc g args).run Tryz.prog w = .ok (.enter g args) w)
  (h : IntsAt W0 blk ok f n W) (hm : m = a + 1) (hmb : m < b) (hb : b ≤ n) (hn : n < 2305843009213693952) (hs : Sorted lt (seg f m b)) :
  Calls Tryz.prog 144 #[.slice (some ⟨blk, 0, none⟩) n cap, .int .i64 a, .int .i64 m, .int .i64 b, .func (.func g) #[] cb] W fun e w' => e = .returned (.tuple #[]) ∧ ∃ f', IntsAt W0 blk ok f' n w' ∧ Put f f' a b (mergeS lt (seg f a m) (seg f m b)) := by
 have H := hid h
 have HC := hid hC
 have HO := hid hO
 have HS := hid hs
 clear h hC hO hs
 have r0 : IntKind.i64.wrap ((m : Int) - (a : Int)) = 1 := by rw [IntKind.wrap_i64]; omega
 go_enter Tryz.func144, Tryz.ntmps144
 go_wp2
 clear r0
 go_loopw [10, 11] (fun si sj wx => ∃ i j : Nat, m ≤ i ∧ i ≤ j ∧ j ≤ b ∧ si = .int .i64 i ∧ sj = .int .i64 j ∧ Hid (IntsAt W0 blk ok f n wx) ∧ Hid (∀ t, m ≤ t → t < i → lt (f t) (f a) = true) ∧ Hid (∀ t, j ≤ t → t < b → lt (f t) (f a) = false)) (fun si sj _ => (intOf sj).toNat - (intOf si).toNat)
 case atStart => exact ⟨m, b, Nat.le_refl _, Nat.le_of_lt hmb, Nat.le_refl _, rfl, rfl, H, hid (fun t h1 h2 => absurd h1 (by omega)), hid (fun t h1 h2 => absurd h1 (by omega))⟩
 case round =>
  obtain ⟨i, j, hmi, hij, hjb, rfl, rfl, HW, HA, HB⟩ := hrel
  by_cases hlt : i < j
  ·
   obtain ⟨s, hs⟩ : ∃ s, s = i + j := ⟨_, rfl⟩
   obtain ⟨h, hh⟩ : ∃ h, h = s / 2 := ⟨_, rfl⟩
   have HF := hid (half_facts (i := i) (j := j) (n := n) (by omega) hs hh (by omega) (by omega))
   obtain ⟨x, hx⟩ : ∃ x, x = f h := ⟨_, rfl⟩
   obtain ⟨y, hy⟩ : ∃ y, y = f a := ⟨_, rfl⟩
   have c1 := HW.out.cell h (by omega)
   have c2 := HW.out.cell a (by omega)
   have o1 := HW.out.ok h (by omega)
   have o2 := HW.out.ok a (by omega)
   rw [← hx] at c1 o1
   rw [← hy] at c2 o2
   have hbl := HW.out.lt
   have b1 : h < n := by omega
   have b2 : a < n := by omega
   have hcall : ∀ w', Below wr.heap.size wr w' → Calls Tryz.prog g (#[.int .i64 x, .int .i64 y] ++ cb) w' fun e w'' => e = .returned (.int .i64 (if lt x y = true then -1 else if lt y x = true then 1 else 0)) ∧ Below wr.heap.size wr w'' := fun w' hb => (HC.out w' (HW.out.only.trans (Only.of_below hb)) x y o1 o2).mono fun e w'' h => ⟨h.1, below_on hb h.2⟩
   obtain ⟨c, hc⟩ : ∃ c : Int, c = (if lt x y = true then -1 else if lt y x = true then 1 else 0) := ⟨_, rfl⟩
   rw [← hc] at hcall
   replace hx := hid hx
   replace hy := hid hy
   have HHH : Hid (h = s / 2 ∧ s = i + j) := hid ⟨hh, hs⟩
   clear o1 o2 hs hh
   obtain ⟨r1, r2, r3, r4, r5⟩ := HF.out
   go_wp2_with fail
   refine wp_region_quiet (C := fun w' => Below wr.heap.size wr w') (by kernel_rfl) (by kernel_rfl) (Below.refl _ wr).drew ?_
   refine quiet_val (by kernel_rfl) (.func (.func g) #[] cb) (fun _ _ => rfl) ?_
   simp only [Act.put, sS]
   refine quiet_val (by kernel_rfl) (.slice (some ⟨blk, 0, none⟩) n cap) (fun _ _ => rfl) ?_
   simp only [Act.put, sS]
   refine quiet_val (by kernel_rfl) (.int .i64 (h : Int)) (fun _ _ => rfl) ?_
   simp only [Act.put, sS]
   refine quiet_val (by kernel_rfl) (.pointer (some ⟨blk, h, none⟩)) (fun _ _ => by simp [go_sem, b1]) ?_
   simp only [Act.put, sS]
   refine quiet_ld (by kernel_rfl) 3 (.tmp 43) rfl ⟨blk, h, none⟩ (.int .i64 x) rfl (fun w' hb => load_int _ _ _ ((hb.cell hbl).trans c1)) ?_
   simp only [Act.put, sS]
   refine quiet_val (by kernel_rfl) (.slice (some ⟨blk, 0, none⟩) n cap) (fun _ _ => rfl) ?_
   simp only [Act.put, sS]
   refine quiet_val (by kernel_rfl) (.int .i64 (a : Int)) (fun _ _ => rfl) ?_
   simp only [Act.put, sS]
   refine quiet_val (by kernel_rfl) (.pointer (some ⟨blk, a, none⟩)) (fun _ _ => by simp [go_sem, b2]) ?_
   simp only [Act.put, sS]
   refine quiet_ld (by kernel_rfl) 3 (.tmp 47) rfl ⟨blk, a, none⟩ (.int .i64 y) rfl (fun w' hb => load_int _ _ _ ((hb.cell hbl).trans c2)) ?_
   simp only [Act.put, sS]
   refine quiet_call (by kernel_rfl) (.int .i64 c) g (#[.int .i64 x, .int .i64 y] ++ cb) ?_ ?_ ?_
   ·
    intro w'
    simp [go_sem, eg]
   ·
    intro w' hb
    exact hcall w' hb
   simp only [Act.put, sS]
   refine quiet_val (by kernel_rfl) (.bool (decide (c < 0))) (fun _ _ => by simp [go_sem, b1]) ?_
   simp only [Act.put, sS]
   refine wpQuiet_nil ?_
   clear r1 r2 r3 r4
   intro w2 hb2
   have H2 := hid (HW.out.below hb2)
   rcases hl : lt x y with _ | _
   ·
    have hneg : ¬ c < 0 := by rw [hc, hl]; simp; split <;> omega
    rw [hx.out, hy.out] at hl
    have HB2 := hid (s1_hi HO.out HS.out (show m ≤ h by have := HHH.out; omega) hl)
    clear hc hcall c1 c2 hbl hl
    go_wp2
    go_roundw
    case rel => exact ⟨i, h, hmi, by have := HHH.out; omega, by have := HHH.out; omega, rfl, rfl, H2, HA, HB2⟩
    case measure => have := HHH.out; simp [intOf]; omega
   have hneg : c < 0 := by rw [hc, hl]; simp
   rw [hx.out, hy.out] at hl
   have HA2 := hid (s1_lo HO.out HS.out (show h < b by have := HHH.out; omega) hl)
   clear hc hcall c1 c2 hbl hl
   go_wp2
   go_roundw
   case rel => exact ⟨h + 1, j, by have := HHH.out; omega, by have := HHH.out; omega, hjb, rfl, rfl, H2, HA2, HB⟩
   case measure => have := HHH.out; simp [intOf]; omega
  obtain rfl : i = j := by omega
  obtain ⟨ip, hip⟩ : ∃ ip, i = ip + 1 := ⟨i - 1, by omega⟩
  have r1 : IntKind.i64.wrap ((i : Int) - 1) = (ip : Int) := by rw [IntKind.wrap_i64]; omega
  clear hlt
  go_wp2
  go_loopw [13] (fun sk wx => ∃ k : Nat, a ≤ k ∧ k ≤ ip ∧ sk = .int .i64 k ∧ Hid (IntsAt W0 blk ok (rotF f a (a + 1) (k + 1)) n wx)) (fun sk _ => ip - (intOf sk).toNat)
  case atStart => exact ⟨a, Nat.le_refl _, by omega, rfl, by rw [rot_up0]; exact HW⟩
  case round =>
   obtain ⟨k, hak, hki, rfl, HK⟩ := hrel
   by_cases hlt : k < ip
   ·
    have e1 : IntKind.i64.wrap ((k : Int) + 1) = ((k + 1 : Nat) : Int) := by rw [IntKind.wrap_i64]; omega
    have c1 := HK.out.cell k (by omega)
    have c2 := HK.out.cell (k + 1) (by omega)
    have f1 := HK.out.fr k (by omega)
    have f2 := HK.out.fr (k + 1) (by omega)
    have b1 : k < n := by omega
    have b2 : (k + 1) < n := by omega
    have HN := HK.out.swap k (k + 1) (by omega) (by omega)
    obtain ⟨x, hx⟩ : ∃ x, x = rotF f a (a + 1) (k + 1) k := ⟨_, rfl⟩
    obtain ⟨y, hy⟩ : ∃ y, y = rotF f a (a + 1) (k + 1) (k + 1) := ⟨_, rfl⟩
    rw [← hx, ← hy] at HN
    rw [← hx] at c1
    rw [← hy] at c2
    replace HN := hid HN
    obtain ⟨u, hu⟩ : ∃ u, (wr.setCell ⟨blk, k, none⟩ (.int .i64 y)).cell? ⟨blk, (k + 1), none⟩ = some u := ⟨_, (World.cell?_setCell_other _ _ _ _ (by intro e'; simp only [Addr.mk.injEq] at e'; omega)).trans c2⟩
    clear hx hy
    go_wp2_with fail
    go_big_region
    go_wp2
    go_roundw
    case rel => exact ⟨k + 1, by omega, by omega, rfl, hid (rot_up (f := f) a k hak ▸ HN.out)⟩
    case measure => simp [intOf]; omega
   obtain rfl : k = ip := by omega
   go_wp2
   (try simp only [Exit.inBlock, Exit.then])
   refine bodyPost_ret (results_none rfl _ _ _) rfl ?_
   refine ⟨rfl, _, HK.out, ?_⟩
   rw [hm, ← hip]
   exact sym_left a b i (by omega) hjb (fun t h1 h2 => HA.out t (by omega) h2) (fun h => HB.out i (Nat.le_refl _) h)
theorem symRight_int (W0 W : World) (blk n cap a m b g : Nat) (cb : Array Value) (ok : Int → Prop) (lt : Int → Int → Bool) (f : Nat → Int) (hO : Swo lt) (hC : CmpI W0 blk ok lt g cb) (eg : ∀ args w, (callFunc g args).run Tryz.prog w = .ok (.enter g args) w)
  (h : IntsAt W0 blk ok f n W) (ham : a < m) (hma : m ≠ a + 1) (hm : b = m + 1) (hb : b ≤ n) (hn : n < 2305843009213693952) (hs : Sorted lt (seg f a m)) :
  Calls Tryz.prog 144 #[.slice (some ⟨blk, 0, none⟩) n cap, .int .i64 a, .int .i64 m, .int .i64 b, .func (.func g) #[] cb] W fun e w' => e = .returned (.tuple #[]) ∧ ∃ f', IntsAt W0 blk ok f' n w' ∧ Put f f' a b (mergeS lt (seg f a m) (seg f m b)) := by
 have H := hid h
 have HC := hid hC
 have HO := hid hO
 have HS := hid hs
 clear h hC hO hs
 obtain ⟨z, hz⟩ : ∃ z, z = m - a := ⟨_, rfl⟩
 have r0 : IntKind.i64.wrap ((m : Int) - (a : Int)) = (z : Int) := by rw [IntKind.wrap_i64]; omega
 have t0 : ¬ (z : Int) = 1 := by omega
 have r9 : IntKind.i64.wrap ((b : Int) - (m : Int)) = 1 := by rw [IntKind.wrap_i64]; omega
 clear hz
 go_enter Tryz.func144, Tryz.ntmps144
 go_wp2
 clear r0 r9 t0
 go_loopw [14, 15] (fun si sj wx => ∃ i j : Nat, a ≤ i ∧ i ≤ j ∧ j ≤ m ∧ si = .int .i64 i ∧ sj = .int .i64 j ∧ Hid (IntsAt W0 blk ok f n wx) ∧ Hid (∀ t, a ≤ t → t < i → lt (f m) (f t) = false) ∧ Hid (j < m → lt (f m) (f j) = true)) (fun si sj _ => (intOf sj).toNat - (intOf si).toNat)
 case atStart => exact ⟨a, m, Nat.le_refl _, Nat.le_of_lt ham, Nat.le_refl _, rfl, rfl, H, hid (fun t h1 h2 => absurd h1 (by omega)), hid (fun h => absurd h (by omega))⟩
 case round =>
  obtain ⟨i, j, hai, hij, hjm, rfl, rfl, HW, HA, HB⟩ := hrel
  by_cases hlt : i < j
  ·
   obtain ⟨s, hs⟩ : ∃ s, s = i + j := ⟨_, rfl⟩
   obtain ⟨h, hh⟩ : ∃ h, h = s / 2 := ⟨_, rfl⟩
   have HF := hid (half_facts (i := i) (j := j) (n := n) (by omega) hs hh (by omega) (by omega))
   obtain ⟨x, hx⟩ : ∃ x, x = f m := ⟨_, rfl⟩
   obtain ⟨y, hy⟩ : ∃ y, y = f h := ⟨_, rfl⟩
   have c1 := HW.out.cell m (by omega)
   have c2 := HW.out.cell h (by omega)
   have o1 := HW.out.ok m (by omega)
   have o2 := HW.out.ok h (by omega)
   rw [← hx] at c1 o1
   rw [← hy] at c2 o2
   have hbl := HW.out.lt
   have b1 : m < n := by omega
   have b2 : h < n := by omega
   have hcall : ∀ w', Below wr.heap.size wr w' → Calls Tryz.prog g (#[.int .i64 x, .int .i64 y] ++ cb) w' fun e w'' => e = .returned (.int .i64 (if lt x y = true then -1 else if lt y x = true then 1 else 0)) ∧ Below wr.heap.size wr w'' := fun w' hb => (HC.out w' (HW.out.only.trans (Only.of_below hb)) x y o1 o2).mono fun e w'' h => ⟨h.1, below_on hb h.2⟩
   obtain ⟨c, hc⟩ : ∃ c : Int, c = (if lt x y = true then -1 else if lt y x = true then 1 else 0) := ⟨_, rfl⟩
   rw [← hc] at hcall
   replace hx := hid hx
   replace hy := hid hy
   have HHH : Hid (h = s / 2 ∧ s = i + j) := hid ⟨hh, hs⟩
   clear o1 o2 hs hh
   obtain ⟨r1, r2, r3, r4, r5⟩ := HF.out
   go_wp2_with fail
   refine wp_region_quiet (C := fun w' => Below wr.heap.size wr w') (by kernel_rfl) (by kernel_rfl) (Below.refl _ wr).drew ?_
   refine quiet_val (by kernel_rfl) (.func (.func g) #[] cb) (fun _ _ => rfl) ?_
   simp only [Act.put, sS]
   refine quiet_val (by kernel_rfl) (.slice (some ⟨blk, 0, none⟩) n cap) (fun _ _ => rfl) ?_
   simp only [Act.put, sS]
   refine quiet_val (by kernel_rfl) (.int .i64 (m : Int)) (fun _ _ => rfl) ?_
   simp only [Act.put, sS]
   refine quiet_val (by kernel_rfl) (.pointer (some ⟨blk, m, none⟩)) (fun _ _ => by simp [go_sem, b1]) ?_
   simp only [Act.put, sS]
   refine quiet_ld (by kernel_rfl) 3 (.tmp 95) rfl ⟨blk, m, none⟩ (.int .i64 x) rfl (fun w' hb => load_int _ _ _ ((hb.cell hbl).trans c1)) ?_
   simp only [Act.put, sS]
   refine quiet_val (by kernel_rfl) (.slice (some ⟨blk, 0, none⟩) n cap) (fun _ _ => rfl) ?_
   simp only [Act.put, sS]
   refine quiet_val (by kernel_rfl) (.int .i64 (h : Int)) (fun _ _ => rfl) ?_
   simp only [Act.put, sS]
   refine quiet_val (by kernel_rfl) (.pointer (some ⟨blk, h, none⟩)) (fun _ _ => by simp [go_sem, b2]) ?_
   simp only [Act.put, sS]
   refine quiet_ld (by kernel_rfl) 3 (.tmp 99) rfl ⟨blk, h, none⟩ (.int .i64 y) rfl (fun w' hb => load_int _ _ _ ((hb.cell hbl).trans c2)) ?_
   simp only [Act.put, sS]
   refine quiet_call (by kernel_rfl) (.int .i64 c) g (#[.int .i64 x, .int .i64 y] ++ cb) ?_ ?_ ?_
   ·
    intro w'
    simp [go_sem, eg]
   ·
    intro w' hb
    exact hcall w' hb
   simp only [Act.put, sS]
   refine quiet_val (by kernel_rfl) (.bool (decide (c < 0))) (fun _ _ => by simp [go_sem, b1]) ?_
   simp only [Act.put, sS]
   refine quiet_val (by kernel_rfl) (.bool (!decide (c < 0))) (fun _ _ => by simp [go_sem, b1]) ?_
   simp only [Act.put, sS]
   refine wpQuiet_nil ?_
   clear r1 r2 r3 r4
   intro w2 hb2
   have H2 := hid (HW.out.below hb2)
   rcases hl : lt x y with _ | _
   ·
    have hneg : ¬ c < 0 := by rw [hc, hl]; simp; split <;> omega
    have hnb : (!decide (c < 0)) = true := by simp [hneg]
    rw [hnb]
    rw [hx.out, hy.out] at hl
    have HA2 := hid (s2_lo HO.out HS.out (show h < m by have := HHH.out; omega) hl)
    clear hc hcall c1 c2 hbl hl
    go_wp2
    go_roundw
    case rel => exact ⟨h + 1, j, by have := HHH.out; omega, by have := HHH.out; omega, hjm, rfl, rfl, H2, HA2, HB⟩
    case measure => have := HHH.out; simp [intOf]; omega
   have hneg : c < 0 := by rw [hc, hl]; simp
   have hnb : (!decide (c < 0)) = false := by simp [hneg]
   rw [hnb]
   rw [hx.out, hy.out] at hl
   have HB2 : Hid (h < m → lt (f m) (f h) = true) := hid (fun _ => hl)
   clear hc hcall c1 c2 hbl hl
   go_wp2
   go_roundw
   case rel => exact ⟨i, h, hai, by have := HHH.out; omega, by have := HHH.out; omega, rfl, rfl, H2, HA, HB2⟩
   case measure => have := HHH.out; simp [intOf]; omega
  obtain rfl : i = j := by omega
  clear hlt
  go_wp2
  go_loopw [17] (fun sk wx => ∃ k : Nat, i ≤ k ∧ k ≤ m ∧ sk = .int .i64 k ∧ Hid (IntsAt W0 blk ok (rotF f k m (m + 1)) n wx)) (fun sk _ => (intOf sk).toNat)
  case atStart => exact ⟨m, hjm, Nat.le_refl _, rfl, by rw [rot_down0]; exact HW⟩
  case round =>
   obtain ⟨k, hik, hkm, rfl, HK⟩ := hrel
   by_cases hlt : i < k
   ·
    obtain ⟨kp, hkp⟩ : ∃ kp, k = kp + 1 := ⟨k - 1, by omega⟩
    have e1 : IntKind.i64.wrap ((k : Int) - 1) = (kp : Int) := by rw [IntKind.wrap_i64]; omega
    have c1 := HK.out.cell k (by omega)
    have c2 := HK.out.cell kp (by omega)
    have f1 := HK.out.fr k (by omega)
    have f2 := HK.out.fr kp (by omega)
    have b1 : k < n := by omega
    have b2 : kp < n := by omega
    have HN := HK.out.swap k kp (by omega) (by omega)
    obtain ⟨x, hx⟩ : ∃ x, x = rotF f k m (m + 1) k := ⟨_, rfl⟩
    obtain ⟨y, hy⟩ : ∃ y, y = rotF f k m (m + 1) kp := ⟨_, rfl⟩
    rw [← hx, ← hy] at HN
    rw [← hx] at c1
    rw [← hy] at c2
    replace HN := hid HN
    obtain ⟨u, hu⟩ : ∃ u, (wr.setCell ⟨blk, k, none⟩ (.int .i64 y)).cell? ⟨blk, kp, none⟩ = some u := ⟨_, (World.cell?_setCell_other _ _ _ _ (by intro e'; simp only [Addr.mk.injEq] at e'; omega)).trans c2⟩
    clear hx hy
    replace hkp := hid hkp
    go_wp2_with fail
    go_big_region
    go_wp2
    go_roundw
    case rel => exact ⟨kp, by have := hkp.out; omega, by have := hkp.out; omega, rfl, by have h4 := rot_down (f := f) m k hkm (by omega); rw [show k - 1 = kp by have := hkp.out; omega] at h4; exact hid (h4 ▸ HN.out)⟩
    case measure => have := hkp.out; simp [intOf]; omega
   obtain rfl : k = i := by omega
   go_wp2
   (try simp only [Exit.inBlock, Exit.then])
   refine bodyPost_ret (results_none rfl _ _ _) rfl ?_
   refine ⟨rfl, _, HK.out, ?_⟩
   rw [hm]
   exact sym_right HO.out a m k hai hkm HA.out (fun h => HB.out h)
theorem symLow_int (W0 W : World) (blk n cap a m b g : Nat) (cb : Array Value) (ok : Int → Prop) (lt : Int → Int → Bool) (f : Nat → Int) (hO : Swo lt) (hC : CmpI W0 blk ok lt g cb) (eg : ∀ args w, (callFunc g args).run Tryz.prog w = .ok (.enter g args) w)
  (h : IntsAt W0 blk ok f n W) (hq : (a + b) / 2 < m) (ham : a < m) (hmb : m < b) (hma : m ≠ a + 1) (hbm : b ≠ m + 1) (hb : b ≤ n) (hn : n < 2305843009213693952) (hs1 : Sorted lt (seg f a m)) (hs2 : Sorted lt (seg f m b))
  (IH : ∀ (a1 m1 b1 : Nat) (f1 : Nat → Int) (W1 : World), b1 - a1 < b - a → a1 < m1 → m1 < b1 → b1 ≤ n → IntsAt W0 blk ok f1 n W1 → Sorted lt (seg f1 a1 m1) → Sorted lt (seg f1 m1 b1) → Calls Tryz.prog 144 #[.slice (some ⟨blk, 0, none⟩) n cap, .int .i64 a1, .int .i64 m1, .int .i64 b1, .func (.func g) #[] cb] W1 fun e w' => e = .returned (.tuple #[]) ∧ ∃ f', IntsAt W0 blk ok f' n w' ∧ Put f1 f' a1 b1 (mergeS lt (seg f1 a1 m1) (seg f1 m1 b1))) :
  Calls Tryz.prog 144 #[.slice (some ⟨blk, 0, none⟩) n cap, .int .i64 a, .int .i64 m, .int .i64 b, .func (.func g) #[] cb] W fun e w' => e = .returned (.tuple #[]) ∧ ∃ f', IntsAt W0 blk ok f' n w' ∧ Put f f' a b (mergeS lt (seg f a m) (seg f m b)) := by
 have H := hid h
 have HC := hid hC
 have HO := hid hO
 have HS1 := hid hs1
 have HS2 := hid hs2
 have HIH := hid IH
 clear h hC hO hs1 hs2 IH
 obtain ⟨z, hz⟩ : ∃ z, z = m - a := ⟨_, rfl⟩
 have r0 : IntKind.i64.wrap ((m : Int) - (a : Int)) = (z : Int) := by rw [IntKind.wrap_i64]; omega
 have t0 : ¬ (z : Int) = 1 := by omega
 obtain ⟨y, hy⟩ : ∃ y, y = b - m := ⟨_, rfl⟩
 have r9 : IntKind.i64.wrap ((b : Int) - (m : Int)) = (y : Int) := by rw [IntKind.wrap_i64]; omega
 have t9 : ¬ (y : Int) = 1 := by omega
 clear hz hy
 obtain ⟨s, hs⟩ : ∃ s, s = a + b := ⟨_, rfl⟩
 obtain ⟨mid, hmid⟩ : ∃ mid, mid = s / 2 := ⟨_, rfl⟩
 have HF := hid (half_facts (i := a) (j := b) (n := n) (by omega) hs hmid (by omega) (by omega))
 have hq2 : mid < m := by omega
 obtain ⟨N, hN⟩ : ∃ N, N = mid + m := ⟨_, rfl⟩
 have rN : IntKind.i64.wrap ((mid : Int) + (m : Int)) = (N : Int) := by rw [IntKind.wrap_i64]; omega
 obtain ⟨p, hp⟩ : ∃ p, p = mid + m - 1 := ⟨_, rfl⟩
 have rp : IntKind.i64.wrap ((N : Int) - 1) = (p : Int) := by rw [IntKind.wrap_i64]; omega
 have HMID : Hid (a ≤ mid ∧ 2 * mid ≤ a + b ∧ a + b ≤ 2 * mid + 1 ∧ a < mid ∧ mid < b ∧ N = mid + m ∧ p = mid + m - 1) := hid ⟨by omega, by omega, by omega, by omega, by omega, hN, hp⟩
 obtain ⟨s0, hs0⟩ : ∃ s0, s0 = N - b := ⟨_, rfl⟩
 have r7 : IntKind.i64.wrap ((N : Int) - (b : Int)) = (s0 : Int) := by rw [IntKind.wrap_i64]; omega
 obtain ⟨r1x, hr0⟩ : ∃ r1x, r1x = mid := ⟨_, rfl⟩
 have HM : Hid ((mid < m ∧ s0 + b = mid + m ∧ r1x = mid ∧ b ≤ mid + m) ∨ (m ≤ mid ∧ s0 = a ∧ r1x = m)) := hid (Or.inl ⟨by omega, by omega, hr0, by omega⟩)
 have HSR : Hid (s0 ≤ r1x ∧ a ≤ s0 ∧ r1x ≤ m ∧ r1x ≤ mid ∧ mid + m ≤ s0 + b) := hid ⟨by omega, by omega, by omega, by omega, by omega⟩
 have HS0 := hid hs0
 have HR0 := hid hr0
 clear hs hmid hN hp hq hs0 hr0
 obtain ⟨r1, r2, r3, r4, r5⟩ := HF.out
 clear r5
 go_enter Tryz.func144, Tryz.ntmps144
 go_wp2
 clear r0 t0 r9 t9 r1 r2 r3 r4 rN rp r7
 go_loopw [20, 21] (fun si sj wx => ∃ i j : Nat, s0 ≤ i ∧ i ≤ j ∧ j ≤ r1x ∧ si = .int .i64 i ∧ sj = .int .i64 j ∧ Hid (IntsAt W0 blk ok f n wx) ∧ Hid (∀ t, s0 ≤ t → t < i → lt (f (mid + m - 1 - t)) (f t) = false) ∧ Hid (∀ t, j ≤ t → t < r1x → lt (f (mid + m - 1 - t)) (f t) = true)) (fun si sj _ => (intOf sj).toNat - (intOf si).toNat)
 case atStart => exact ⟨s0, r1x, Nat.le_refl _, HSR.out.1, Nat.le_refl _, rfl, by rw [HR0.out], H, hid (fun t h1 h2 => absurd h1 (by omega)), hid (fun t h1 h2 => absurd h1 (by omega))⟩
 case round =>
  clear H
  obtain ⟨i, j, hsi, hij, hjr, rfl, rfl, HW, HA, HB⟩ := hrel
  by_cases hlt : i < j
  ·
   have qm := HMID.out
   have qs := HSR.out
   obtain ⟨s, hs⟩ : ∃ s, s = i + j := ⟨_, rfl⟩
   obtain ⟨h, hh⟩ : ∃ h, h = s / 2 := ⟨_, rfl⟩
   have HF := hid (half_facts (i := i) (j := j) (n := n) (by omega) hs hh (by omega) (by omega))
   obtain ⟨q, hq⟩ : ∃ q, q = mid + m - 1 - h := ⟨_, rfl⟩
   have r6 : IntKind.i64.wrap ((p : Int) - (h : Int)) = (q : Int) := by rw [IntKind.wrap_i64]; omega
   have HH : Hid (i ≤ h ∧ h < j) := hid ⟨by omega, by omega⟩
   obtain ⟨x, hx⟩ : ∃ x, x = f q := ⟨_, rfl⟩
   obtain ⟨y, hy⟩ : ∃ y, y = f h := ⟨_, rfl⟩
   have c1 := HW.out.cell q (by omega)
   have c2 := HW.out.cell h (by omega)
   have o1 := HW.out.ok q (by omega)
   have o2 := HW.out.ok h (by omega)
   rw [← hx] at c1 o1
   rw [← hy] at c2 o2
   have hbl := HW.out.lt
   have b1 : q < n := by omega
   have b2 : h < n := by omega
   have hcall : ∀ w', Below wr.heap.size wr w' → Calls Tryz.prog g (#[.int .i64 x, .int .i64 y] ++ cb) w' fun e w'' => e = .returned (.int .i64 (if lt x y = true then -1 else if lt y x = true then 1 else 0)) ∧ Below wr.heap.size wr w'' := fun w' hb => (HC.out w' (HW.out.only.trans (Only.of_below hb)) x y o1 o2).mono fun e w'' h => ⟨h.1, below_on hb h.2⟩
   obtain ⟨c, hc⟩ : ∃ c : Int, c = (if lt x y = true then -1 else if lt y x = true then 1 else 0) := ⟨_, rfl⟩
   rw [← hc] at hcall
   replace hx := hid hx
   replace hy := hid hy
   replace hq := hid hq
   have HHH : Hid (h = s / 2 ∧ s = i + j) := hid ⟨hh, hs⟩
   clear o1 o2 qm qs hs hh
   obtain ⟨r1, r2, r3, r4, r5⟩ := HF.out
   go_wp2_with fail
   refine wp_region_quiet (C := fun w' => Below wr.heap.size wr w') (by kernel_rfl) (by kernel_rfl) (Below.refl _ wr).drew ?_
   refine quiet_val (by kernel_rfl) (.func (.func g) #[] cb) (fun _ _ => rfl) ?_
   simp only [Act.put, sS]
   refine quiet_val (by kernel_rfl) (.slice (some ⟨blk, 0, none⟩) n cap) (fun _ _ => rfl) ?_
   simp only [Act.put, sS]
   refine quiet_val (by kernel_rfl) (.int .i64 (p : Int)) (fun _ _ => rfl) ?_
   simp only [Act.put, sS]
   refine quiet_val (by kernel_rfl) (.int .i64 (h : Int)) (fun _ _ => rfl) ?_
   simp only [Act.put, sS]
   refine quiet_val (by kernel_rfl) (.int .i64 (q : Int)) (fun _ _ => by simp [go_sem, r6]) ?_
   simp only [Act.put, sS]
   refine quiet_val (by kernel_rfl) (.pointer (some ⟨blk, q, none⟩)) (fun _ _ => by simp [go_sem, b1]) ?_
   simp only [Act.put, sS]
   refine quiet_ld (by kernel_rfl) 3 (.tmp 163) rfl ⟨blk, q, none⟩ (.int .i64 x) rfl (fun w' hb => load_int _ _ _ ((hb.cell hbl).trans c1)) ?_
   simp only [Act.put, sS]
   refine quiet_val (by kernel_rfl) (.slice (some ⟨blk, 0, none⟩) n cap) (fun _ _ => rfl) ?_
   simp only [Act.put, sS]
   refine quiet_val (by kernel_rfl) (.int .i64 (h : Int)) (fun _ _ => rfl) ?_
   simp only [Act.put, sS]
   refine quiet_val (by kernel_rfl) (.pointer (some ⟨blk, h, none⟩)) (fun _ _ => by simp [go_sem, b2]) ?_
   simp only [Act.put, sS]
   refine quiet_ld (by kernel_rfl) 3 (.tmp 167) rfl ⟨blk, h, none⟩ (.int .i64 y) rfl (fun w' hb => load_int _ _ _ ((hb.cell hbl).trans c2)) ?_
   simp only [Act.put, sS]
   refine quiet_call (by kernel_rfl) (.int .i64 c) g (#[.int .i64 x, .int .i64 y] ++ cb) ?_ ?_ ?_
   ·
    intro w'
    simp [go_sem, eg]
   ·
    intro w' hb
    exact hcall w' hb
   simp only [Act.put, sS]
   refine quiet_val (by kernel_rfl) (.bool (decide (c < 0))) (fun _ _ => by simp [go_sem, b1]) ?_
   simp only [Act.put, sS]
   refine quiet_val (by kernel_rfl) (.bool (!decide (c < 0))) (fun _ _ => by simp [go_sem, b1]) ?_
   simp only [Act.put, sS]
   refine wpQuiet_nil ?_
   clear r1 r2 r3 r4
   intro w2 hb2
   have H2 := hid (HW.out.below hb2)
   rcases hl : lt x y with _ | _
   ·
    have hneg : ¬ c < 0 := by rw [hc, hl]; simp; split <;> omega
    have hnb : (!decide (c < 0)) = true := by simp [hneg]
    rw [hnb]
    rw [hx.out, hy.out, hq.out] at hl
    have HA2 := hid (s3_lo HO.out HS1.out HS2.out HM.out ⟨HMID.out.1, HMID.out.2.1, HMID.out.2.2.1⟩ (Nat.le_of_lt ham) (show h < r1x by have := HH.out; omega) hl)
    clear hc hcall c1 c2 hbl hl
    go_wp2
    go_roundw
    case rel => exact ⟨h + 1, j, by have := HH.out; omega, by have := HH.out; omega, hjr, rfl, rfl, H2, HA2, HB⟩
    case measure => have := HH.out; simp [intOf]; omega
   have hneg : c < 0 := by rw [hc, hl]; simp
   have hnb : (!decide (c < 0)) = false := by simp [hneg]
   rw [hnb]
   rw [hx.out, hy.out, hq.out] at hl
   have HB2 := hid (s3_hi HO.out HS1.out HS2.out HM.out ⟨HMID.out.1, HMID.out.2.1, HMID.out.2.2.1⟩ (Nat.le_of_lt ham) (show s0 ≤ h by have := HH.out; omega) hl)
   clear hc hcall c1 c2 hbl hl
   go_wp2
   go_roundw
   case rel => exact ⟨i, h, hsi, by have := HH.out; omega, by have := HH.out; omega, rfl, rfl, H2, HA, HB2⟩
   case measure => have := HH.out; simp [intOf]; omega
  obtain rfl : i = j := by omega
  have qm := HMID.out
  have qs := HSR.out
  obtain ⟨e2, he2⟩ : ∃ e2, e2 = mid + m - i := ⟨_, rfl⟩
  have r8 : IntKind.i64.wrap ((N : Int) - (i : Int)) = (e2 : Int) := by rw [IntKind.wrap_i64]; omega
  obtain ⟨hp, k1, k2, k3, k4⟩ := sym_part HO.out a m b i s0 r1x mid (by omega) (by omega) hsi hjr HM.out (Or.inr trivial) ⟨HMID.out.1, HMID.out.2.1, HMID.out.2.2.1⟩ HS1.out HS2.out HA.out HB.out
  rw [← he2] at hp k3 k4
  have HP := hid hp
  have k5 : i + (e2 - m) = mid := by omega
  have HK : Hid (a ≤ i ∧ i ≤ m ∧ m ≤ e2 ∧ e2 ≤ b ∧ i + (e2 - m) = mid ∧ a < mid ∧ mid < b) := hid ⟨k1, k2, k3, k4, k5, by omega, by omega⟩
  have hr := rot_put (f := f) k2 k3
  have e3 := rot_left (f := f) k2 k3
  have e4 := rot_right (f := f) k2 k3
  rw [k5] at e3 e4
  obtain ⟨fr, hfr⟩ : ∃ fr, fr = rotF f i m e2 := ⟨_, rfl⟩
  rw [← hfr] at hr e3 e4
  have HL1 : Hid (Sorted lt (seg fr a i)) := by rw [seg_out hr a i (Or.inl (Nat.le_refl _))]; exact hid (sub_sorted HS1.out (Nat.le_refl _) k2)
  have HL2 : Hid (Sorted lt (seg fr i mid)) := by rw [e3]; exact hid (sub_sorted HS2.out (Nat.le_refl _) k4)
  have HL3 : Hid (Sorted lt (seg fr mid e2)) := by rw [e4]; exact hid (sub_sorted HS1.out k1 (Nat.le_refl _))
  have HL4 : Hid (Sorted lt (seg fr e2 b)) := by rw [seg_out hr e2 b (Or.inr (Nat.le_refl _))]; exact hid (sub_sorted HS2.out k3 (Nat.le_refl _))
  have FIN : Hid (∀ g1 g2, Put fr g1 a mid (mergeS lt (seg fr a i) (seg fr i mid)) → Put g1 g2 mid b (mergeS lt (seg g1 mid e2) (seg g1 e2 b)) → Put f g2 a b (mergeS lt (seg f a m) (seg f m b))) := hid (fun g1 g2 q1 q2 => sym_whole HO.out a m b i e2 mid k1 k2 k3 k4 k5 HP.out (hfr ▸ q1) q2)
  have HFR := hid hfr
  clear qm qs he2 hp k1 k2 k3 k4 k5 hr e3 e4 hfr hlt
  by_cases t1 : i < m
  ·
   by_cases t2 : m < e2
   ·
    by_cases t3 : a < i
    ·
     by_cases t6 : e2 < b
     ·
      have t4 : i < mid := by have := HK.out; omega
      have t5 : mid < e2 := by have := HK.out; omega
      have tok1 : True := trivial
      go_wp2_with (first | (go_at_call 170; refine (rotate_int W0 _ blk n cap i m e2 ok f _ HW.out t1 t2 (by have := HK.out; omega) (by omega)).mono ?_; rintro e w1 ⟨rfl, hr1⟩; rw [← HFR.out] at hr1; have HR := hid hr1; clear hr1) | (go_at_call 144; have _t := tok1; refine (HIH.out a i mid fr _ (by have := HK.out; omega) t3 t4 (by have := HK.out; omega) HR.out HL1.out HL2.out).mono ?_; rintro e w2 ⟨rfl, g1, h1, p1⟩; clear tok1; have HG := hid h1; have HP1 := hid p1; clear h1 p1) | (go_at_call 144; refine (HIH.out mid e2 b g1 _ (by have := HK.out; omega) t5 t6 hb HG.out (by rw [seg_out HP1.out mid e2 (Or.inr (Nat.le_refl _))]; exact HL3.out) (by rw [seg_out HP1.out e2 b (Or.inr (by have := HK.out; omega))]; exact HL4.out)).mono ?_; rintro e w3 ⟨rfl, g2, h1, p1⟩; have HG2 := hid h1; have HP2 := hid p1; clear h1 p1))
      go_end0
      exact ⟨rfl, g2, HG2.out, FIN.out g1 g2 HP1.out HP2.out⟩
     have t4 : i < mid := by have := HK.out; omega
     have t5 : mid < e2 := by have := HK.out; omega
     have tok1 : True := trivial
     go_wp2_with (first | (go_at_call 170; refine (rotate_int W0 _ blk n cap i m e2 ok f _ HW.out t1 t2 (by have := HK.out; omega) (by omega)).mono ?_; rintro e w1 ⟨rfl, hr1⟩; rw [← HFR.out] at hr1; have HR := hid hr1; clear hr1) | (go_at_call 144; have _t := tok1; refine (HIH.out a i mid fr _ (by have := HK.out; omega) t3 t4 (by have := HK.out; omega) HR.out HL1.out HL2.out).mono ?_; rintro e w2 ⟨rfl, g1, h1, p1⟩; clear tok1; have HG := hid h1; have HP1 := hid p1; clear h1 p1))
     go_end0
     exact ⟨rfl, g1, HG.out, FIN.out g1 g1 HP1.out (skip_put (by have := HK.out; omega) (by have := HK.out; omega) (by omega))⟩
    by_cases t6 : e2 < b
    ·
     have t4 : i < mid := by have := HK.out; omega
     have t5 : mid < e2 := by have := HK.out; omega
     have HP1 : Hid (Put fr fr a mid (mergeS lt (seg fr a i) (seg fr i mid))) := hid (skip_put (by have := HK.out; omega) (by have := HK.out; omega) (by omega))
     go_wp2_with (first | (go_at_call 170; refine (rotate_int W0 _ blk n cap i m e2 ok f _ HW.out t1 t2 (by have := HK.out; omega) (by omega)).mono ?_; rintro e w1 ⟨rfl, hr1⟩; rw [← HFR.out] at hr1; have HR := hid hr1; clear hr1) | (go_at_call 144; refine (HIH.out mid e2 b fr _ (by have := HK.out; omega) t5 t6 hb HR.out (by rw [seg_out HP1.out mid e2 (Or.inr (Nat.le_refl _))]; exact HL3.out) (by rw [seg_out HP1.out e2 b (Or.inr (by have := HK.out; omega))]; exact HL4.out)).mono ?_; rintro e w3 ⟨rfl, g2, h1, p1⟩; have HG2 := hid h1; have HP2 := hid p1; clear h1 p1))
     go_end0
     exact ⟨rfl, g2, HG2.out, FIN.out fr g2 HP1.out HP2.out⟩
    have t4 : i < mid := by have := HK.out; omega
    have t5 : mid < e2 := by have := HK.out; omega
    have HP1 : Hid (Put fr fr a mid (mergeS lt (seg fr a i) (seg fr i mid))) := hid (skip_put (by have := HK.out; omega) (by have := HK.out; omega) (by omega))
    go_wp2_with (first | (go_at_call 170; refine (rotate_int W0 _ blk n cap i m e2 ok f _ HW.out t1 t2 (by have := HK.out; omega) (by omega)).mono ?_; rintro e w1 ⟨rfl, hr1⟩; rw [← HFR.out] at hr1; have HR := hid hr1; clear hr1))
    go_end0
    exact ⟨rfl, fr, HR.out, FIN.out fr fr HP1.out (skip_put (by have := HK.out; omega) (by have := HK.out; omega) (by omega))⟩
   have t3 : a < i := by have := HK.out; omega
   have t4 : ¬ i < mid := by have := HK.out; omega
   have t5 : mid < e2 := by have := HK.out; omega
   have t6 : e2 < b := by have := HK.out; omega
   have HR : Hid (IntsAt W0 blk ok fr n wr) := by rw [HFR.out, rot_same (by have := HK.out; omega) (by have := HK.out; omega) (by have := HK.out; omega)]; exact HW
   have HP1 : Hid (Put fr fr a mid (mergeS lt (seg fr a i) (seg fr i mid))) := hid (skip_put (by have := HK.out; omega) (by have := HK.out; omega) (by omega))
   go_wp2_with (first | (go_at_call 144; refine (HIH.out mid e2 b fr _ (by have := HK.out; omega) t5 t6 hb HR.out (by rw [seg_out HP1.out mid e2 (Or.inr (Nat.le_refl _))]; exact HL3.out) (by rw [seg_out HP1.out e2 b (Or.inr (by have := HK.out; omega))]; exact HL4.out)).mono ?_; rintro e w3 ⟨rfl, g2, h1, p1⟩; have HG2 := hid h1; have HP2 := hid p1; clear h1 p1))
   go_end0
   exact ⟨rfl, g2, HG2.out, FIN.out fr g2 HP1.out HP2.out⟩
  by_cases t2 : m < e2
  ·
   have t3 : a < i := by have := HK.out; omega
   have t4 : i < mid := by have := HK.out; omega
   have t5 : ¬ mid < e2 := by have := HK.out; omega
   have HR : Hid (IntsAt W0 blk ok fr n wr) := by rw [HFR.out, rot_same (by have := HK.out; omega) (by have := HK.out; omega) (by have := HK.out; omega)]; exact HW
   have tok1 : True := trivial
   go_wp2_with (first | (go_at_call 144; have _t := tok1; refine (HIH.out a i mid fr _ (by have := HK.out; omega) t3 t4 (by have := HK.out; omega) HR.out HL1.out HL2.out).mono ?_; rintro e w2 ⟨rfl, g1, h1, p1⟩; clear tok1; have HG := hid h1; have HP1 := hid p1; clear h1 p1))
   go_end0
   exact ⟨rfl, g1, HG.out, FIN.out g1 g1 HP1.out (skip_put (by have := HK.out; omega) (by have := HK.out; omega) (by omega))⟩
  have t3 : a < i := by have := HK.out; omega
  have t4 : ¬ i < mid := by have := HK.out; omega
  have t5 : ¬ mid < e2 := by have := HK.out; omega
  have HR : Hid (IntsAt W0 blk ok fr n wr) := by rw [HFR.out, rot_same (by have := HK.out; omega) (by have := HK.out; omega) (by have := HK.out; omega)]; exact HW
  have HP1 : Hid (Put fr fr a mid (mergeS lt (seg fr a i) (seg fr i mid))) := hid (skip_put (by have := HK.out; omega) (by have := HK.out; omega) (by omega))
  go_wp2_with fail
  go_end0
  exact ⟨rfl, fr, HR.out, FIN.out fr fr HP1.out (skip_put (by have := HK.out; omega) (by have := HK.out; omega) (by omega))⟩
theorem symHigh_int (W0 W : World) (blk n cap a m b g : Nat) (cb : Array Value) (ok : Int → Prop) (lt : Int → Int → Bool) (f : Nat → Int) (hO : Swo lt) (hC : CmpI W0 blk ok lt g cb) (eg : ∀ args w, (callFunc g args).run Tryz.prog w = .ok (.enter g args) w)
  (h : IntsAt W0 blk ok f n W) (hq : ¬ (a + b) / 2 < m) (ham : a < m) (hmb : m < b) (hma : m ≠ a + 1) (hbm : b ≠ m + 1) (hb : b ≤ n) (hn : n < 2305843009213693952) (hs1 : Sorted lt (seg f a m)) (hs2 : Sorted lt (seg f m b))
  (IH : ∀ (a1 m1 b1 : Nat) (f1 : Nat → Int) (W1 : World), b1 - a1 < b - a → a1 < m1 → m1 < b1 → b1 ≤ n → IntsAt W0 blk ok f1 n W1 → Sorted lt (seg f1 a1 m1) → Sorted lt (seg f1 m1 b1) → Calls Tryz.prog 144 #[.slice (some ⟨blk, 0, none⟩) n cap, .int .i64 a1, .int .i64 m1, .int .i64 b1, .func (.func g) #[] cb] W1 fun e w' => e = .returned (.tuple #[]) ∧ ∃ f', IntsAt W0 blk ok f' n w' ∧ Put f1 f' a1 b1 (mergeS lt (seg f1 a1 m1) (seg f1 m1 b1))) :
  Calls Tryz.prog 144 #[.slice (some ⟨blk, 0, none⟩) n cap, .int .i64 a, .int .i64 m, .int .i64 b, .func (.func g) #[] cb] W fun e w' => e = .returned (.tuple #[]) ∧ ∃ f', IntsAt W0 blk ok f' n w' ∧ Put f f' a b (mergeS lt (seg f a m) (seg f m b)) := by
 have H := hid h
 have HC := hid hC
 have HO := hid hO
 have HS1 := hid hs1
 have HS2 := hid hs2
 have HIH := hid IH
 clear h hC hO hs1 hs2 IH
 obtain ⟨z, hz⟩ : ∃ z, z = m - a := ⟨_, rfl⟩
 have r0 : IntKind.i64.wrap ((m : Int) - (a : Int)) = (z : Int) := by rw [IntKind.wrap_i64]; omega
 have t0 : ¬ (z : Int) = 1 := by omega
 obtain ⟨y, hy⟩ : ∃ y, y = b - m := ⟨_, rfl⟩
 have r9 : IntKind.i64.wrap ((b : Int) - (m : Int)) = (y : Int) := by rw [IntKind.wrap_i64]; omega
 have t9 : ¬ (y : Int) = 1 := by omega
 clear hz hy
 obtain ⟨s, hs⟩ : ∃ s, s = a + b := ⟨_, rfl⟩
 obtain ⟨mid, hmid⟩ : ∃ mid, mid = s / 2 := ⟨_, rfl⟩
 have HF := hid (half_facts (i := a) (j := b) (n := n) (by omega) hs hmid (by omega) (by omega))
 have hq2 : ¬ mid < m := by omega
 obtain ⟨N, hN⟩ : ∃ N, N = mid + m := ⟨_, rfl⟩
 have rN : IntKind.i64.wrap ((mid : Int) + (m : Int)) = (N : Int) := by rw [IntKind.wrap_i64]; omega
 obtain ⟨p, hp⟩ : ∃ p, p = mid + m - 1 := ⟨_, rfl⟩
 have rp : IntKind.i64.wrap ((N : Int) - 1) = (p : Int) := by rw [IntKind.wrap_i64]; omega
 have HMID : Hid (a ≤ mid ∧ 2 * mid ≤ a + b ∧ a + b ≤ 2 * mid + 1 ∧ a < mid ∧ mid < b ∧ N = mid + m ∧ p = mid + m - 1) := hid ⟨by omega, by omega, by omega, by omega, by omega, hN, hp⟩
 obtain ⟨s0, hs0⟩ : ∃ s0, s0 = a := ⟨_, rfl⟩
 obtain ⟨r1x, hr0⟩ : ∃ r1x, r1x = m := ⟨_, rfl⟩
 have HM : Hid ((mid < m ∧ s0 + b = mid + m ∧ r1x = mid ∧ b ≤ mid + m) ∨ (m ≤ mid ∧ s0 = a ∧ r1x = m)) := hid (Or.inr ⟨by omega, hs0, hr0⟩)
 have HSR : Hid (s0 ≤ r1x ∧ a ≤ s0 ∧ r1x ≤ m ∧ r1x ≤ mid ∧ mid + m ≤ s0 + b) := hid ⟨by omega, by omega, by omega, by omega, by omega⟩
 have HS0 := hid hs0
 have HR0 := hid hr0
 clear hs hmid hN hp hq hs0 hr0
 obtain ⟨r1, r2, r3, r4, r5⟩ := HF.out
 clear r5
 go_enter Tryz.func144, Tryz.ntmps144
 go_wp2
 clear r0 t0 r9 t9 r1 r2 r3 r4 rN rp
 go_loopw [20, 21] (fun si sj wx => ∃ i j : Nat, s0 ≤ i ∧ i ≤ j ∧ j ≤ r1x ∧ si = .int .i64 i ∧ sj = .int .i64 j ∧ Hid (IntsAt W0 blk ok f n wx) ∧ Hid (∀ t, s0 ≤ t → t < i → lt (f (mid + m - 1 - t)) (f t) = false) ∧ Hid (∀ t, j ≤ t → t < r1x → lt (f (mid + m - 1 - t)) (f t) = true)) (fun si sj _ => (intOf sj).toNat - (intOf si).toNat)
 case atStart => exact ⟨s0, r1x, Nat.le_refl _, HSR.out.1, Nat.le_refl _, by rw [HS0.out], by rw [HR0.out], H, hid (fun t h1 h2 => absurd h1 (by omega)), hid (fun t h1 h2 => absurd h1 (by omega))⟩
 case round =>
  clear H
  obtain ⟨i, j, hsi, hij, hjr, rfl, rfl, HW, HA, HB⟩ := hrel
  by_cases hlt : i < j
  ·
   have qm := HMID.out
   have qs := HSR.out
   obtain ⟨s, hs⟩ : ∃ s, s = i + j := ⟨_, rfl⟩
   obtain ⟨h, hh⟩ : ∃ h, h = s / 2 := ⟨_, rfl⟩
   have HF := hid (half_facts (i := i) (j := j) (n := n) (by omega) hs hh (by omega) (by omega))
   obtain ⟨q, hq⟩ : ∃ q, q = mid + m - 1 - h := ⟨_, rfl⟩
   have r6 : IntKind.i64.wrap ((p : Int) - (h : Int)) = (q : Int) := by rw [IntKind.wrap_i64]; omega
   have HH : Hid (i ≤ h ∧ h < j) := hid ⟨by omega, by omega⟩
   obtain ⟨x, hx⟩ : ∃ x, x = f q := ⟨_, rfl⟩
   obtain ⟨y, hy⟩ : ∃ y, y = f h := ⟨_, rfl⟩
   have c1 := HW.out.cell q (by omega)
   have c2 := HW.out.cell h (by omega)
   have o1 := HW.out.ok q (by omega)
   have o2 := HW.out.ok h (by omega)
   rw [← hx] at c1 o1
   rw [← hy] at c2 o2
   have hbl := HW.out.lt
   have b1 : q < n := by omega
   have b2 : h < n := by omega
   have hcall : ∀ w', Below wr.heap.size wr w' → Calls Tryz.prog g (#[.int .i64 x, .int .i64 y] ++ cb) w' fun e w'' => e = .returned (.int .i64 (if lt x y = true then -1 else if lt y x = true then 1 else 0)) ∧ Below wr.heap.size wr w'' := fun w' hb => (HC.out w' (HW.out.only.trans (Only.of_below hb)) x y o1 o2).mono fun e w'' h => ⟨h.1, below_on hb h.2⟩
   obtain ⟨c, hc⟩ : ∃ c : Int, c = (if lt x y = true then -1 else if lt y x = true then 1 else 0) := ⟨_, rfl⟩
   rw [← hc] at hcall
   replace hx := hid hx
   replace hy := hid hy
   replace hq := hid hq
   have HHH : Hid (h = s / 2 ∧ s = i + j) := hid ⟨hh, hs⟩
   clear o1 o2 qm qs hs hh
   obtain ⟨r1, r2, r3, r4, r5⟩ := HF.out
   go_wp2_with fail
   refine wp_region_quiet (C := fun w' => Below wr.heap.size wr w') (by kernel_rfl) (by kernel_rfl) (Below.refl _ wr).drew ?_
   refine quiet_val (by kernel_rfl) (.func (.func g) #[] cb) (fun _ _ => rfl) ?_
   simp only [Act.put, sS]
   refine quiet_val (by kernel_rfl) (.slice (some ⟨blk, 0, none⟩) n cap) (fun _ _ => rfl) ?_
   simp only [Act.put, sS]
   refine quiet_val (by kernel_rfl) (.int .i64 (p : Int)) (fun _ _ => rfl) ?_
   simp only [Act.put, sS]
   refine quiet_val (by kernel_rfl) (.int .i64 (h : Int)) (fun _ _ => rfl) ?_
   simp only [Act.put, sS]
   refine quiet_val (by kernel_rfl) (.int .i64 (q : Int)) (fun _ _ => by simp [go_sem, r6]) ?_
   simp only [Act.put, sS]
   refine quiet_val (by kernel_rfl) (.pointer (some ⟨blk, q, none⟩)) (fun _ _ => by simp [go_sem, b1]) ?_
   simp only [Act.put, sS]
   refine quiet_ld (by kernel_rfl) 3 (.tmp 163) rfl ⟨blk, q, none⟩ (.int .i64 x) rfl (fun w' hb => load_int _ _ _ ((hb.cell hbl).trans c1)) ?_
   simp only [Act.put, sS]
   refine quiet_val (by kernel_rfl) (.slice (some ⟨blk, 0, none⟩) n cap) (fun _ _ => rfl) ?_
   simp only [Act.put, sS]
   refine quiet_val (by kernel_rfl) (.int .i64 (h : Int)) (fun _ _ => rfl) ?_
   simp only [Act.put, sS]
   refine quiet_val (by kernel_rfl) (.pointer (some ⟨blk, h, none⟩)) (fun _ _ => by simp [go_sem, b2]) ?_
   simp only [Act.put, sS]
   refine quiet_ld (by kernel_rfl) 3 (.tmp 167) rfl ⟨blk, h, none⟩ (.int .i64 y) rfl (fun w' hb => load_int _ _ _ ((hb.cell hbl).trans c2)) ?_
   simp only [Act.put, sS]
   refine quiet_call (by kernel_rfl) (.int .i64 c) g (#[.int .i64 x, .int .i64 y] ++ cb) ?_ ?_ ?_
   ·
    intro w'
    simp [go_sem, eg]
   ·
    intro w' hb
    exact hcall w' hb
   simp only [Act.put, sS]
   refine quiet_val (by kernel_rfl) (.bool (decide (c < 0))) (fun _ _ => by simp [go_sem, b1]) ?_
   simp only [Act.put, sS]
   refine quiet_val (by kernel_rfl) (.bool (!decide (c < 0))) (fun _ _ => by simp [go_sem, b1]) ?_
   simp only [Act.put, sS]
   refine wpQuiet_nil ?_
   clear r1 r2 r3 r4
   intro w2 hb2
   have H2 := hid (HW.out.below hb2)
   rcases hl : lt x y with _ | _
   ·
    have hneg : ¬ c < 0 := by rw [hc, hl]; simp; split <;> omega
    have hnb : (!decide (c < 0)) = true := by simp [hneg]
    rw [hnb]
    rw [hx.out, hy.out, hq.out] at hl
    have HA2 := hid (s3_lo HO.out HS1.out HS2.out HM.out ⟨HMID.out.1, HMID.out.2.1, HMID.out.2.2.1⟩ (Nat.le_of_lt ham) (show h < r1x by have := HH.out; omega) hl)
    clear hc hcall c1 c2 hbl hl
    go_wp2
    go_roundw
    case rel => exact ⟨h + 1, j, by have := HH.out; omega, by have := HH.out; omega, hjr, rfl, rfl, H2, HA2, HB⟩
    case measure => have := HH.out; simp [intOf]; omega
   have hneg : c < 0 := by rw [hc, hl]; simp
   have hnb : (!decide (c < 0)) = false := by simp [hneg]
   rw [hnb]
   rw [hx.out, hy.out, hq.out] at hl
   have HB2 := hid (s3_hi HO.out HS1.out HS2.out HM.out ⟨HMID.out.1, HMID.out.2.1, HMID.out.2.2.1⟩ (Nat.le_of_lt ham) (show s0 ≤ h by have := HH.out; omega) hl)
   clear hc hcall c1 c2 hbl hl
   go_wp2
   go_roundw
   case rel => exact ⟨i, h, hsi, by have := HH.out; omega, by have := HH.out; omega, rfl, rfl, H2, HA, HB2⟩
   case measure => have := HH.out; simp [intOf]; omega
  obtain rfl : i = j := by omega
  have qm := HMID.out
  have qs := HSR.out
  obtain ⟨e2, he2⟩ : ∃ e2, e2 = mid + m - i := ⟨_, rfl⟩
  have r8 : IntKind.i64.wrap ((N : Int) - (i : Int)) = (e2 : Int) := by rw [IntKind.wrap_i64]; omega
  obtain ⟨hp, k1, k2, k3, k4⟩ := sym_part HO.out a m b i s0 r1x mid (by omega) (by omega) hsi hjr HM.out (Or.inr trivial) ⟨HMID.out.1, HMID.out.2.1, HMID.out.2.2.1⟩ HS1.out HS2.out HA.out HB.out
  rw [← he2] at hp k3 k4
  have HP := hid hp
  have k5 : i + (e2 - m) = mid := by omega
  have HK : Hid (a ≤ i ∧ i ≤ m ∧ m ≤ e2 ∧ e2 ≤ b ∧ i + (e2 - m) = mid ∧ a < mid ∧ mid < b) := hid ⟨k1, k2, k3, k4, k5, by omega, by omega⟩
  have hr := rot_put (f := f) k2 k3
  have e3 := rot_left (f := f) k2 k3
  have e4 := rot_right (f := f) k2 k3
  rw [k5] at e3 e4
  obtain ⟨fr, hfr⟩ : ∃ fr, fr = rotF f i m e2 := ⟨_, rfl⟩
  rw [← hfr] at hr e3 e4
  have HL1 : Hid (Sorted lt (seg fr a i)) := by rw [seg_out hr a i (Or.inl (Nat.le_refl _))]; exact hid (sub_sorted HS1.out (Nat.le_refl _) k2)
  have HL2 : Hid (Sorted lt (seg fr i mid)) := by rw [e3]; exact hid (sub_sorted HS2.out (Nat.le_refl _) k4)
  have HL3 : Hid (Sorted lt (seg fr mid e2)) := by rw [e4]; exact hid (sub_sorted HS1.out k1 (Nat.le_refl _))
  have HL4 : Hid (Sorted lt (seg fr e2 b)) := by rw [seg_out hr e2 b (Or.inr (Nat.le_refl _))]; exact hid (sub_sorted HS2.out k3 (Nat.le_refl _))
  have FIN : Hid (∀ g1 g2, Put fr g1 a mid (mergeS lt (seg fr a i) (seg fr i mid)) → Put g1 g2 mid b (mergeS lt (seg g1 mid e2) (seg g1 e2 b)) → Put f g2 a b (mergeS lt (seg f a m) (seg f m b))) := hid (fun g1 g2 q1 q2 => sym_whole HO.out a m b i e2 mid k1 k2 k3 k4 k5 HP.out (hfr ▸ q1) q2)
  have HFR := hid hfr
  clear qm qs he2 hp k1 k2 k3 k4 k5 hr e3 e4 hfr hlt
  by_cases t1 : i < m
  ·
   by_cases t2 : m < e2
   ·
    by_cases t3 : a < i
    ·
     by_cases t6 : e2 < b
     ·
      have t4 : i < mid := by have := HK.out; omega
      have t5 : mid < e2 := by have := HK.out; omega
      have tok1 : True := trivial
      go_wp2_with (first | (go_at_call 170; refine (rotate_int W0 _ blk n cap i m e2 ok f _ HW.out t1 t2 (by have := HK.out; omega) (by omega)).mono ?_; rintro e w1 ⟨rfl, hr1⟩; rw [← HFR.out] at hr1; have HR := hid hr1; clear hr1) | (go_at_call 144; have _t := tok1; refine (HIH.out a i mid fr _ (by have := HK.out; omega) t3 t4 (by have := HK.out; omega) HR.out HL1.out HL2.out).mono ?_; rintro e w2 ⟨rfl, g1, h1, p1⟩; clear tok1; have HG := hid h1; have HP1 := hid p1; clear h1 p1) | (go_at_call 144; refine (HIH.out mid e2 b g1 _ (by have := HK.out; omega) t5 t6 hb HG.out (by rw [seg_out HP1.out mid e2 (Or.inr (Nat.le_refl _))]; exact HL3.out) (by rw [seg_out HP1.out e2 b (Or.inr (by have := HK.out; omega))]; exact HL4.out)).mono ?_; rintro e w3 ⟨rfl, g2, h1, p1⟩; have HG2 := hid h1; have HP2 := hid p1; clear h1 p1))
      go_end0
      exact ⟨rfl, g2, HG2.out, FIN.out g1 g2 HP1.out HP2.out⟩
     have t4 : i < mid := by have := HK.out; omega
     have t5 : mid < e2 := by have := HK.out; omega
     have tok1 : True := trivial
     go_wp2_with (first | (go_at_call 170; refine (rotate_int W0 _ blk n cap i m e2 ok f _ HW.out t1 t2 (by have := HK.out; omega) (by omega)).mono ?_; rintro e w1 ⟨rfl, hr1⟩; rw [← HFR.out] at hr1; have HR := hid hr1; clear hr1) | (go_at_call 144; have _t := tok1; refine (HIH.out a i mid fr _ (by have := HK.out; omega) t3 t4 (by have := HK.out; omega) HR.out HL1.out HL2.out).mono ?_; rintro e w2 ⟨rfl, g1, h1, p1⟩; clear tok1; have HG := hid h1; have HP1 := hid p1; clear h1 p1))
     go_end0
     exact ⟨rfl, g1, HG.out, FIN.out g1 g1 HP1.out (skip_put (by have := HK.out; omega) (by have := HK.out; omega) (by omega))⟩
    by_cases t6 : e2 < b
    ·
     have t4 : i < mid := by have := HK.out; omega
     have t5 : mid < e2 := by have := HK.out; omega
     have HP1 : Hid (Put fr fr a mid (mergeS lt (seg fr a i) (seg fr i mid))) := hid (skip_put (by have := HK.out; omega) (by have := HK.out; omega) (by omega))
     go_wp2_with (first | (go_at_call 170; refine (rotate_int W0 _ blk n cap i m e2 ok f _ HW.out t1 t2 (by have := HK.out; omega) (by omega)).mono ?_; rintro e w1 ⟨rfl, hr1⟩; rw [← HFR.out] at hr1; have HR := hid hr1; clear hr1) | (go_at_call 144; refine (HIH.out mid e2 b fr _ (by have := HK.out; omega) t5 t6 hb HR.out (by rw [seg_out HP1.out mid e2 (Or.inr (Nat.le_refl _))]; exact HL3.out) (by rw [seg_out HP1.out e2 b (Or.inr (by have := HK.out; omega))]; exact HL4.out)).mono ?_; rintro e w3 ⟨rfl, g2, h1, p1⟩; have HG2 := hid h1; have HP2 := hid p1; clear h1 p1))
     go_end0
     exact ⟨rfl, g2, HG2.out, FIN.out fr g2 HP1.out HP2.out⟩
    have t4 : i < mid := by have := HK.out; omega
    have t5 : mid < e2 := by have := HK.out; omega
    have HP1 : Hid (Put fr fr a mid (mergeS lt (seg fr a i) (seg fr i mid))) := hid (skip_put (by have := HK.out; omega) (by have := HK.out; omega) (by omega))
    go_wp2_with (first | (go_at_call 170; refine (rotate_int W0 _ blk n cap i m e2 ok f _ HW.out t1 t2 (by have := HK.out; omega) (by omega)).mono ?_; rintro e w1 ⟨rfl, hr1⟩; rw [← HFR.out] at hr1; have HR := hid hr1; clear hr1))
    go_end0
    exact ⟨rfl, fr, HR.out, FIN.out fr fr HP1.out (skip_put (by have := HK.out; omega) (by have := HK.out; omega) (by omega))⟩
   have t3 : a < i := by have := HK.out; omega
   have t4 : ¬ i < mid := by have := HK.out; omega
   have t5 : mid < e2 := by have := HK.out; omega
   have t6 : e2 < b := by have := HK.out; omega
   have HR : Hid (IntsAt W0 blk ok fr n wr) := by rw [HFR.out, rot_same (by have := HK.out; omega) (by have := HK.out; omega) (by have := HK.out; omega)]; exact HW
   have HP1 : Hid (Put fr fr a mid (mergeS lt (seg fr a i) (seg fr i mid))) := hid (skip_put (by have := HK.out; omega) (by have := HK.out; omega) (by omega))
   go_wp2_with (first | (go_at_call 144; refine (HIH.out mid e2 b fr _ (by have := HK.out; omega) t5 t6 hb HR.out (by rw [seg_out HP1.out mid e2 (Or.inr (Nat.le_refl _))]; exact HL3.out) (by rw [seg_out HP1.out e2 b (Or.inr (by have := HK.out; omega))]; exact HL4.out)).mono ?_; rintro e w3 ⟨rfl, g2, h1, p1⟩; have HG2 := hid h1; have HP2 := hid p1; clear h1 p1))
   go_end0
   exact ⟨rfl, g2, HG2.out, FIN.out fr g2 HP1.out HP2.out⟩
  by_cases t2 : m < e2
  ·
   have t3 : a < i := by have := HK.out; omega
   have t4 : i < mid := by have := HK.out; omega
   have t5 : ¬ mid < e2 := by have := HK.out; omega
   have HR : Hid (IntsAt W0 blk ok fr n wr) := by rw [HFR.out, rot_same (by have := HK.out; omega) (by have := HK.out; omega) (by have := HK.out; omega)]; exact HW
   have tok1 : True := trivial
   go_wp2_with (first | (go_at_call 144; have _t := tok1; refine (HIH.out a i mid fr _ (by have := HK.out; omega) t3 t4 (by have := HK.out; omega) HR.out HL1.out HL2.out).mono ?_; rintro e w2 ⟨rfl, g1, h1, p1⟩; clear tok1; have HG := hid h1; have HP1 := hid p1; clear h1 p1))
   go_end0
   exact ⟨rfl, g1, HG.out, FIN.out g1 g1 HP1.out (skip_put (by have := HK.out; omega) (by have := HK.out; omega) (by omega))⟩
  have t3 : a < i := by have := HK.out; omega
  have t4 : ¬ i < mid := by have := HK.out; omega
  have t5 : ¬ mid < e2 := by have := HK.out; omega
  have HR : Hid (IntsAt W0 blk ok fr n wr) := by rw [HFR.out, rot_same (by have := HK.out; omega) (by have := HK.out; omega) (by have := HK.out; omega)]; exact HW
  have HP1 : Hid (Put fr fr a mid (mergeS lt (seg fr a i) (seg fr i mid))) := hid (skip_put (by have := HK.out; omega) (by have := HK.out; omega) (by omega))
  go_wp2_with fail
  go_end0
  exact ⟨rfl, fr, HR.out, FIN.out fr fr HP1.out (skip_put (by have := HK.out; omega) (by have := HK.out; omega) (by omega))⟩
theorem symMerge_int (W0 : World) (blk n cap g : Nat) (cb : Array Value) (ok : Int → Prop) (lt : Int → Int → Bool) (hO : Swo lt) (hC : CmpI W0 blk ok lt g cb) (eg : ∀ args w, (callFunc g args).run Tryz.prog w = .ok (.enter g args) w) (hn : n < 2305843009213693952) :
  ∀ (d a m b : Nat) (f : Nat → Int) (W : World), b - a < d → a < m → m < b → b ≤ n → IntsAt W0 blk ok f n W → Sorted lt (seg f a m) → Sorted lt (seg f m b) →
  Calls Tryz.prog 144 #[.slice (some ⟨blk, 0, none⟩) n cap, .int .i64 a, .int .i64 m, .int .i64 b, .func (.func g) #[] cb] W fun e w' => e = .returned (.tuple #[]) ∧ ∃ f', IntsAt W0 blk ok f' n w' ∧ Put f f' a b (mergeS lt (seg f a m) (seg f m b)) := by
 intro d
 induction d with
 | zero => intro a m b f W h; omega
 | succ d ih =>
  intro a m b f W hd ham hmb hb h hs1 hs2
  by_cases h1 : m = a + 1
  ·
   exact symLeft_int W0 W blk n cap a m b g cb ok lt f hO hC eg h h1 hmb hb hn hs2
  by_cases h2 : b = m + 1
  ·
   exact symRight_int W0 W blk n cap a m b g cb ok lt f hO hC eg h ham h1 h2 hb hn hs1
  by_cases hq : (a + b) / 2 < m
  ·
   exact symLow_int W0 W blk n cap a m b g cb ok lt f hO hC eg h hq ham hmb h1 h2 hb hn hs1 hs2 (fun a1 m1 b1 f1 W1 h3 h4 h5 h6 h7 h8 h9 => ih a1 m1 b1 f1 W1 (by omega) h4 h5 h6 h7 h8 h9)
  exact symHigh_int W0 W blk n cap a m b g cb ok lt f hO hC eg h hq ham hmb h1 h2 hb hn hs1 hs2 (fun a1 m1 b1 f1 W1 h3 h4 h5 h6 h7 h8 h9 => ih a1 m1 b1 f1 W1 (by omega) h4 h5 h6 h7 h8 h9)
end Go.Proofs.YtcjhihmaegagdaaGreatDoor
namespace Go.Proofs.YtcjhihmaegagdaaGreatDoor
open Go.RowKit Go.Deep
theorem stable_int (W0 W : World) (blk n cap g : Nat) (cb : Array Value) (ok : Int → Prop) (lt : Int → Int → Bool) (f : Nat → Int) (hO : Swo lt) (hC : CmpI W0 blk ok lt g cb) (eg : ∀ args w, (callFunc g args).run Tryz.prog w = .ok (.enter g args) w)
  (h : IntsAt W0 blk ok f n W) (hn : n < 1099511627776) :
  Calls Tryz.prog 110 #[.slice (some ⟨blk, 0, none⟩) n cap, .int .i64 n, .func (.func g) #[] cb] W fun e w' => e = .returned (.tuple #[]) ∧ ∃ f', IntsAt W0 blk ok f' n w' ∧ Put f f' 0 n (sortS lt (seg f 0 n)) := by
 have H := hid h
 have HC := hid hC
 have HO := hid hO
 clear h hC hO
 go_enter Tryz.func110, Tryz.ntmps110
 go_wp2
 go_loopw [7, 8] (fun sa sb wx => ∃ (k a b : Nat) (f1 : Nat → Int), sa = .int .i64 a ∧ sb = .int .i64 b ∧ Hid (a = k * 20 ∧ b = k * 20 + 20 ∧ a ≤ n ∧ InsB lt f f1 20 k) ∧ Hid (IntsAt W0 blk ok f1 n wx)) (fun _ sb _ => n + 20 - (intOf sb).toNat)
 case atStart => exact ⟨0, 0, 20, f, rfl, rfl, hid ⟨rfl, rfl, Nat.zero_le _, InsB.zero 20⟩, H⟩
 case round =>
  obtain ⟨k, a, b, f1, rfl, rfl, HK, HI⟩ := hrel
  by_cases hlt : b ≤ n
  ·
   obtain ⟨b2, hb2⟩ : ∃ b2, b2 = b + 20 := ⟨_, rfl⟩
   have r1 : IntKind.i64.wrap ((b : Int) + 20) = (b2 : Int) := by rw [IntKind.wrap_i64]; omega
   replace hb2 := hid hb2
   go_wp2_with (go_at_call 143; refine (insertion_int W0 _ blk n cap a b g cb ok lt f1 HO.out HC.out eg HI.out (by have := HK.out; omega) hlt (by omega)).mono ?_; rintro e w1 ⟨rfl, f2, h1, h2⟩; replace h1 := hid h1; replace h2 := hid h2)
   go_roundw
   case rel =>
    obtain ⟨k1, k2, k3, k4⟩ := HK.out
    have e2 := hb2.out
    refine ⟨k + 1, b, b2, f2, rfl, rfl, hid ⟨by omega, by omega, hlt, k4.step ?_⟩, h1⟩
    have e := h2.out
    rw [k2, k1] at e
    exact e
   case measure => have := hb2.out; simp [intOf]; omega
  go_wp2_with (go_at_call 143; refine (insertion_int W0 _ blk n cap a n g cb ok lt f1 HO.out HC.out eg HI.out (by have := HK.out; omega) (Nat.le_refl _) (by omega)).mono ?_; rintro e w1 ⟨rfl, f2, h1, h2⟩; replace h1 := hid h1; replace h2 := hid h2)
  have HA : Hid (AllB lt f f2 20 n) := by
   obtain ⟨k1, k2, k3, k4⟩ := HK.out
   have e := h2.out
   rw [k1] at e
   exact hid (k4.all (by omega) (by omega) e)
  clear h2 HI HK hlt
  go_loopw [6] (fun ss wx => ∃ (s : Nat) (f2 : Nat → Int), ss = .int .i64 s ∧ Hid (0 < s ∧ s < 2 * n + 40 ∧ AllB lt f f2 s n) ∧ Hid (IntsAt W0 blk ok f2 n wx)) (fun ss _ => n - (intOf ss).toNat)
  case atStart => exact ⟨20, f2, rfl, hid ⟨by omega, by omega, HA.out⟩, h1⟩
  case round =>
   clear h1 HA
   obtain ⟨s, f2, rfl, HS, HI⟩ := hrel
   by_cases hs : s < n
   ·
    obtain ⟨s2, hs2⟩ : ∃ s2, s2 = 2 * s := ⟨_, rfl⟩
    have r1 : IntKind.i64.wrap (2 * (s : Int)) = (s2 : Int) := by rw [IntKind.wrap_i64]; omega
    have r2 : IntKind.i64.wrap ((s : Int) * 2) = (s2 : Int) := by rw [IntKind.wrap_i64]; omega
    replace hs2 := hid hs2
    go_wp2
    go_loopw [7, 8] (fun sa sb wx => ∃ (k a b : Nat) (f3 : Nat → Int), sa = .int .i64 a ∧ sb = .int .i64 b ∧ Hid (a = k * (2 * s) ∧ b = k * (2 * s) + 2 * s ∧ a ≤ n ∧ MixB lt f f3 s k n) ∧ Hid (IntsAt W0 blk ok f3 n wx)) (fun _ sb _ => n + s2 - (intOf sb).toNat)
    case atStart => exact ⟨0, 0, s2, f2, rfl, rfl, hid ⟨by omega, by have := hs2.out; omega, Nat.zero_le _, MixB.start HS.out.2.2⟩, HI⟩
    case round =>
     clear HI
     obtain ⟨k, a, b, f3, rfl, rfl, HK, HI⟩ := hrel
     obtain ⟨m, hm⟩ : ∃ m, m = a + s := ⟨_, rfl⟩
     have r3 : IntKind.i64.wrap ((a : Int) + (s : Int)) = (m : Int) := by have := HK.out.2.2.1; rw [IntKind.wrap_i64]; omega
     replace hm := hid hm
     by_cases hlt : b ≤ n
     ·
      obtain ⟨b2, hb2⟩ : ∃ b2, b2 = b + s2 := ⟨_, rfl⟩
      have r4 : IntKind.i64.wrap ((b : Int) + (s2 : Int)) = (b2 : Int) := by have := hs2.out; rw [IntKind.wrap_i64]; omega
      replace hb2 := hid hb2
      have HL : Hid (Sorted lt (seg f3 a m)) := by
       obtain ⟨k1, k2, k3, k4⟩ := HK.out
       have e := hm.out
       subst k1
       rw [e]
       exact hid ((k4.left (by omega) HS.out.1).sorted HO.out)
      have HR : Hid (Sorted lt (seg f3 m b)) := by
       obtain ⟨k1, k2, k3, k4⟩ := HK.out
       have e := hm.out
       have p := HS.out.1
       subst k1
       rw [e]
       exact hid ((k4.right (by omega) (by omega)).sorted HO.out)
      go_wp2_with (go_at_call 144; refine (symMerge_int W0 blk n cap g cb ok lt HO.out HC.out eg (by omega) (b - a + 1) a m b f3 _ (Nat.lt_succ_self _) (by have := hm.out; have := HS.out.1; omega) (by have := hm.out; have := HS.out.1; have := HK.out; omega) hlt HI.out HL.out HR.out).mono ?_; rintro e w1 ⟨rfl, f4, h1, h2⟩; replace h1 := hid h1; replace h2 := hid h2)
      go_roundw
      case rel =>
       obtain ⟨k1, k2, k3, k4⟩ := HK.out
       have e1 := hm.out
       have e2 := hb2.out
       have e3 := hs2.out
       have m1 : (k + 1) * (2 * s) = k * (2 * s) + 2 * s := Nat.succ_mul _ _
       refine ⟨k + 1, b, b2, f4, rfl, rfl, hid ⟨by omega, by omega, hlt, k4.step HO.out HS.out.1 (by omega) ?_⟩, h1⟩
       have e := h2.out
       rw [e1, k2, k1] at e
       exact e
      case measure => have := hb2.out; have := hs2.out; have := HS.out.1; simp [intOf]; omega
     by_cases hmn : m < n
     ·
      have HL : Hid (Sorted lt (seg f3 a m)) := by
       obtain ⟨k1, k2, k3, k4⟩ := HK.out
       have e := hm.out
       subst k1
       rw [e]
       exact hid ((k4.left (by omega) HS.out.1).sorted HO.out)
      have HR : Hid (Sorted lt (seg f3 m n)) := by
       obtain ⟨k1, k2, k3, k4⟩ := HK.out
       have e := hm.out
       have p := HS.out.1
       subst k1
       rw [e]
       exact hid ((k4.right (by omega) (by omega)).sorted HO.out)
      go_wp2_with (go_at_call 144; refine (symMerge_int W0 blk n cap g cb ok lt HO.out HC.out eg (by omega) (n - a + 1) a m n f3 _ (Nat.lt_succ_self _) (by have := hm.out; have := HS.out.1; omega) hmn (Nat.le_refl _) HI.out HL.out HR.out).mono ?_; rintro e w1 ⟨rfl, f4, h1, h2⟩; replace h1 := hid h1; replace h2 := hid h2)
      go_roundw
      case rel =>
       obtain ⟨k1, k2, k3, k4⟩ := HK.out
       have e1 := hm.out
       have e3 := hs2.out
       refine ⟨s2, f4, rfl, hid ⟨by omega, by omega, ?_⟩, h1⟩
       rw [e3]
       have e := h2.out
       rw [e1, k1] at e
       exact k4.all HO.out HS.out.1 (by omega) (by omega) (fun _ => e) (fun h => absurd h (by omega))
      case measure => have := hs2.out; have := HS.out.1; simp [intOf]; omega
     go_wp2
     go_roundw
     case rel =>
      obtain ⟨k1, k2, k3, k4⟩ := HK.out
      have e1 := hm.out
      have e3 := hs2.out
      refine ⟨s2, f3, rfl, hid ⟨by omega, by omega, ?_⟩, HI⟩
      rw [e3]
      exact k4.all HO.out HS.out.1 (by omega) (by omega) (fun h => absurd h (by omega)) (fun _ => rfl)
     case measure => have := hs2.out; have := HS.out.1; simp [intOf]; omega
   go_wp2
   go_end0
   exact ⟨rfl, f2, HI.out, HS.out.2.2.put (by omega)⟩
theorem sortStable_int (W0 W : World) (blk n cap g : Nat) (cb : Array Value) (ok : Int → Prop) (lt : Int → Int → Bool) (f : Nat → Int) (hO : Swo lt) (hC : CmpI W0 blk ok lt g cb) (eg : ∀ args w, (callFunc g args).run Tryz.prog w = .ok (.enter g args) w)
  (h : IntsAt W0 blk ok f n W) (hn : n < 1099511627776) :
  Calls Tryz.prog 64 #[.slice (some ⟨blk, 0, none⟩) n cap, .func (.func g) #[] cb] W fun e w' => e = .returned (.tuple #[]) ∧ ∃ f', IntsAt W0 blk ok f' n w' ∧ Put f f' 0 n (sortS lt (seg f 0 n)) := by
 have HS := hid (stable_int W0 W blk n cap g cb ok lt f hO hC eg h hn)
 clear h hC hO
 go_enter Tryz.func64, Tryz.ntmps64
 go_wp2_with (go_at_call 110; refine HS.out.mono ?_; rintro e w1 ⟨rfl, f4, h1, h2⟩; replace h1 := hid h1; replace h2 := hid h2)
 go_end0
 exact ⟨rfl, f4, h1.out, h2.out⟩
end Go.Proofs.YtcjhihmaegagdaaGreatDoor
