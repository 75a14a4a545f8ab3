/- Texts of the Notation chapter, together: Va, Vb, Vc, Vd, Ve, Vf. -/
import Derived.Test.YtcjhihmaegagdaaGreatDoorG4
import Derived.Test.YtcjhihmaegagdaaGreatDoorH2
import Derived.Deep.RegionHeld
import Derived.Deep.DeepCutAuto
import Derived.Test.YtcjhihmaegagdaaGreatDoorSi
set_option maxRecDepth 100000
set_option maxHeartbeats 8000000
set_option linter.unusedSimpArgs false
set_option linter.unusedVariables false
set_option linter.unusedSectionVars false
set_option linter.unnecessarySimpa false
namespace Go.Proofs.YtcjhihmaegagdaaGreatDoor
open Go.RowKit Go.Deep
def cmp3 (x y : Int) : Int := if x < y then -1 else if y < x then 1 else 0
def or3 (x y : Int) : Int := if x = 0 then y else x
theorem isNaN_any (x : Int) (w : World) : Calls Tryz.prog 111 #[.int .i64 x] w fun e w' => e = .returned (.bool false) ∧ w' = w := by
 go_enter Tryz.func111, Tryz.ntmps111
 go_wp2
 go_ret
 exact ⟨by simp, rfl⟩
theorem compare_any (x y : Int) (w : World) : Calls Tryz.prog 67 #[.int .i64 x, .int .i64 y] w fun e w' => e = .returned (.int .i64 (cmp3 x y)) ∧ w' = w := by
 obtain ⟨c, hc⟩ : ∃ c, c = cmp3 x y := ⟨_, rfl⟩
 have HC := hid hc
 have hn := isNaN_any
 rw [← hc]
 clear hc
 by_cases h1 : x < y
 ·
  go_enter Tryz.func67, Tryz.ntmps67
  go_wp2_with (go_at_call 111; refine (hn _ _).mono ?_; rintro e w1 ⟨rfl, rfl⟩)
  all_goals go_ret
  all_goals exact ⟨by rw [HC.out]; simp [cmp3, h1], rfl⟩
 by_cases h2 : y < x
 ·
  go_enter Tryz.func67, Tryz.ntmps67
  go_wp2_with (go_at_call 111; refine (hn _ _).mono ?_; rintro e w1 ⟨rfl, rfl⟩)
  all_goals go_ret
  all_goals exact ⟨by rw [HC.out]; simp [cmp3, h1, h2], rfl⟩
 go_enter Tryz.func67, Tryz.ntmps67
 go_wp2_with (go_at_call 111; refine (hn _ _).mono ?_; rintro e w1 ⟨rfl, rfl⟩)
 all_goals go_ret
 all_goals have hv : cmp3 x y = 0 := by unfold cmp3; rw [if_neg (by omega), if_neg (by omega)]
 all_goals exact ⟨by rw [HC.out, hv]; rfl, rfl⟩
theorem or_any (x y : Int) (b : Nat) (w : World) (h0 : w.cell? ⟨b, 0, none⟩ = some (.int .i64 x)) (h1 : w.cell? ⟨b, 1, none⟩ = some (.int .i64 y)) :
  Calls Tryz.prog 66 #[.slice (some ⟨b, 0, none⟩) 2 2] w fun e w' => e = .returned (.int .i64 (or3 x y)) ∧ w' = w := by
 obtain ⟨c, hc⟩ : ∃ c, c = or3 x y := ⟨_, rfl⟩
 have HC := hid hc
 rw [← hc]
 clear hc
 go_enter Tryz.func66, Tryz.ntmps66
 go_wp2
 go_loopw [8] (fun i wx => ∃ k : Nat, k ≤ 2 ∧ i = .int .i64 k ∧ wx = w ∧ Hid ((1 ≤ k → x = 0) ∧ (2 ≤ k → y = 0))) (fun i _ => 2 - (intOf i).toNat)
 case atStart => exact ⟨0, by omega, rfl, rfl, hid ⟨fun h => absurd h (by omega), fun h => absurd h (by omega)⟩⟩
 case round =>
  obtain ⟨k, hk, rfl, rfl, HK⟩ := hrel
  by_cases k0 : k = 0
  ·
   subst k0
   by_cases hx : x = 0
   ·
    have hxb : (x != 0) = false := by simp [hx]
    have HX := hid hx
    clear hx
    go_wp2
    go_roundw
    case rel => exact ⟨1, by omega, (by first | rfl | trivial | go_num), (by first | rfl | trivial | go_num), hid ⟨fun _ => HX.out, fun h => absurd h (by omega)⟩⟩
    case measure => simp [intOf]
   have hxb : (x != 0) = true := by simp [hx]
   have HX := hid hx
   clear hx
   go_wp2
   go_ret
   exact ⟨by simp [HC.out, or3, HX.out], rfl⟩
  by_cases k1 : k = 1
  ·
   subst k1
   have HX := hid (HK.out.1 (Nat.le_refl _))
   by_cases hy : y = 0
   ·
    have hyb : (y != 0) = false := by simp [hy]
    have HY := hid hy
    clear hy
    go_wp2
    go_roundw
    case rel => exact ⟨2, by omega, (by first | rfl | trivial | go_num), (by first | rfl | trivial | go_num), hid ⟨fun _ => HX.out, fun _ => HY.out⟩⟩
    case measure => simp [intOf]
   have hyb : (y != 0) = true := by simp [hy]
   have HY := hid hy
   clear hy
   go_wp2
   go_ret
   exact ⟨by simp [HC.out, or3, HX.out], rfl⟩
  obtain rfl : k = 2 := by omega
  have HX := hid (HK.out.1 (by omega))
  have HY := hid (HK.out.2 (by omega))
  go_wp2
  go_ret
  exact ⟨by simp [HC.out, or3, HX.out, HY.out], rfl⟩
theorem or_cmp (a b c d : Int) : or3 (cmp3 a b) (cmp3 c d) = if decide (a < b) || (decide (a = b) && decide (c < d)) then -1 else if decide (b < a) || (decide (b = a) && decide (d < c)) then 1 else 0 := by
 unfold or3 cmp3
 by_cases h1 : a < b
 ·
  simp [h1]
 by_cases h2 : b < a
 ·
  have h3 : ¬ a = b := by omega
  simp [h1, h2, h3]
 have h3 : a = b := by omega
 subst h3
 simp
end Go.Proofs.YtcjhihmaegagdaaGreatDoor
namespace Go.Proofs.YtcjhihmaegagdaaGreatDoor
open Go.RowKit Go.Deep
theorem cmp_par (W : World) (x y : Par) : Calls Tryz.prog 72 #[.agg x.cs.toArray, .agg y.cs.toArray] W fun e w' => e = .returned (.int .i64 (if parLt x y = true then -1 else if parLt y x = true then 1 else 0)) ∧ Below W.heap.size W w' := by
 have hpv : or3 (cmp3 x.a y.a) (cmp3 x.b y.b) = if parLt x y = true then -1 else if parLt y x = true then 1 else 0 := or_cmp _ _ _ _
 rw [← hpv]
 obtain ⟨c, hc⟩ : ∃ c, c = or3 (cmp3 x.a y.a) (cmp3 x.b y.b) := ⟨_, rfl⟩
 rw [← hc]
 have HC := hid hc
 clear hpv hc
 change Calls _ _ #[.agg x.cells, .agg y.cells] _ _
 obtain ⟨w0, hw0⟩ : ∃ w0, w0 = (W.alloc (.cells x.cells 57)).alloc (.cells y.cells 57) := ⟨_, rfl⟩
 have hz : W.heap.size + 2 ≤ w0.heap.size := by rw [hw0]; simp
 have c0 : w0.cell? ⟨W.heap.size, 0, none⟩ = some (.int .i64 x.a) := by rw [hw0]; simp [go_sem]
 have c1 : w0.cell? ⟨W.heap.size, 1, none⟩ = some (.int .i64 x.b) := by rw [hw0]; simp [go_sem]
 have d0 : w0.cell? ⟨W.heap.size + 1, 0, none⟩ = some (.int .i64 y.a) := by rw [hw0]; simp [go_sem]
 have d1 : w0.cell? ⟨W.heap.size + 1, 1, none⟩ = some (.int .i64 y.b) := by rw [hw0]; simp [go_sem]
 have B0 : Hid (Below W.heap.size W w0) := hid (by rw [hw0]; exact ((Below.refl _ _).alloc (Nat.le_refl _) _).alloc (by simp) _)
 have hpost : ∀ w', Below (W.heap.size + 2) w0 w' → Ending.returned (.int .i64 (or3 (cmp3 x.a y.a) (cmp3 x.b y.b))) = Ending.returned (.int .i64 c) ∧ Below W.heap.size W w' := fun w' h => ⟨by rw [HC.out], B0.out.trans (h.mono (by omega))⟩
 go_enter Tryz.func72, Tryz.ntmps72
 go_wp2_with fail
 rw [← hw0]
 clear hw0
 refine wp_region_held_drew (S := (fun w' => Below (W.heap.size + 2) w0 w')) (by kernel_rfl) (Below.refl _ _).drew (fun hHeld => ?_)
 refine tH 0 ?_ rfl (by kernel_rfl) (fun _ _ _ h => h) (Or.inl ⟨by rfl, ?_⟩) hHeld ?_
 rotate_left
 ·
  intro w hSw
  try dsimp only at hSw
  go_simp
  try with_reducible rfl
 try (change wpAnyH _ _ _ _ _ _ _ ⟨_, _⟩ _)
 try simp only [Act.put, sS]
 refine tH 1 ?_ rfl (by kernel_rfl) (fun _ _ _ h => h) (Or.inl ⟨by rfl, ?_⟩) hHeld ?_
 rotate_left
 ·
  intro w hSw
  try dsimp only at hSw
  have g0 : w.cell? ⟨W.heap.size, 0, none⟩ = _ := (hSw.cell (p := ⟨W.heap.size, 0, none⟩) (show W.heap.size < W.heap.size + 2 by omega)).trans c0
  go_simp
  try with_reducible rfl
 try (change wpAnyH _ _ _ _ _ _ _ ⟨_, _⟩ _)
 try simp only [Act.put, sS]
 refine tH 2 ?_ rfl (by kernel_rfl) (fun _ _ _ h => h) (Or.inl ⟨by rfl, ?_⟩) hHeld ?_
 rotate_left
 ·
  intro w hSw
  try dsimp only at hSw
  go_simp
  try with_reducible rfl
 try (change wpAnyH _ _ _ _ _ _ _ ⟨_, _⟩ _)
 try simp only [Act.put, sS]
 refine tH 3 ?_ rfl (by kernel_rfl) (fun _ _ _ h => h) (Or.inl ⟨by rfl, ?_⟩) hHeld ?_
 rotate_left
 ·
  intro w hSw
  try dsimp only at hSw
  have g0 : w.cell? ⟨W.heap.size + 1, 0, none⟩ = _ := (hSw.cell (p := ⟨W.heap.size + 1, 0, none⟩) (show W.heap.size + 1 < W.heap.size + 2 by omega)).trans d0
  go_simp
  try with_reducible rfl
 try (change wpAnyH _ _ _ _ _ _ _ ⟨_, _⟩ _)
 try simp only [Act.put, sS]
 refine tH 5 ?_ rfl (by kernel_rfl) (fun _ _ _ h => h) (Or.inl ⟨by rfl, ?_⟩) hHeld ?_
 rotate_left
 ·
  intro w hSw
  try dsimp only at hSw
  go_simp
  try with_reducible rfl
 try (change wpAnyH _ _ _ _ _ _ _ ⟨_, _⟩ _)
 try simp only [Act.put, sS]
 refine tH 6 ?_ rfl (by kernel_rfl) (fun _ _ _ h => h) (Or.inl ⟨by rfl, ?_⟩) hHeld ?_
 rotate_left
 ·
  intro w hSw
  try dsimp only at hSw
  have g0 : w.cell? ⟨W.heap.size, 1, none⟩ = _ := (hSw.cell (p := ⟨W.heap.size, 1, none⟩) (show W.heap.size < W.heap.size + 2 by omega)).trans c1
  go_simp
  try with_reducible rfl
 try (change wpAnyH _ _ _ _ _ _ _ ⟨_, _⟩ _)
 try simp only [Act.put, sS]
 refine tH 7 ?_ rfl (by kernel_rfl) (fun _ _ _ h => h) (Or.inl ⟨by rfl, ?_⟩) hHeld ?_
 rotate_left
 ·
  intro w hSw
  try dsimp only at hSw
  go_simp
  try with_reducible rfl
 try (change wpAnyH _ _ _ _ _ _ _ ⟨_, _⟩ _)
 try simp only [Act.put, sS]
 refine tH 8 ?_ rfl (by kernel_rfl) (fun _ _ _ h => h) (Or.inl ⟨by rfl, ?_⟩) hHeld ?_
 rotate_left
 ·
  intro w hSw
  try dsimp only at hSw
  have g0 : w.cell? ⟨W.heap.size + 1, 1, none⟩ = _ := (hSw.cell (p := ⟨W.heap.size + 1, 1, none⟩) (show W.heap.size + 1 < W.heap.size + 2 by omega)).trans d1
  go_simp
  try with_reducible rfl
 try (change wpAnyH _ _ _ _ _ _ _ ⟨_, _⟩ _)
 try simp only [Act.put, sS]
 refine wpAnyH_ready (rs := [4]) (by kernel_rfl) (by simp) ?_
 refine AllReadyH.cons rfl (fun K hK => ?_) ?_
 ·
  go_simp
  refine (compare_any _ _ _).mono ?_
  rintro e w2 ⟨rfl, rfl⟩
  try simp only []
  refine hK.out _ _ hHeld (fun hHeld => ?_)
  clear hK K
  try (change wpAnyH _ _ _ _ _ _ _ ⟨_, _⟩ _)
  try simp only [Act.put, sS]
  refine wpAnyH_ready (rs := [9]) (by kernel_rfl) (by simp) ?_
  refine AllReadyH.cons rfl (fun K hK => ?_) ?_
  ·
   go_simp
   refine (compare_any _ _ _).mono ?_
   rintro e w2 ⟨rfl, rfl⟩
   try simp only []
   refine hK.out _ _ hHeld (fun hHeld => ?_)
   clear hK K
   try (change wpAnyH _ _ _ _ _ _ _ ⟨_, _⟩ _)
   try simp only [Act.put, sS]
   refine wpAnyH_ready (rs := [10]) (by kernel_rfl) (by simp) ?_
   refine AllReadyH.cons rfl (fun K hK => ?_) ?_
   ·
    go_simp
    refine hK.out _ _ (hHeld.alloc (by first | exact hz | (simp; omega)) _) (fun hHeld => ?_)
    clear hK K
    try (change wpAnyH _ _ _ _ _ _ _ ⟨_, _⟩ _)
    try simp only [Act.put, sS]
    refine wpAnyH_ready (rs := [11]) (by kernel_rfl) (by simp) ?_
    refine AllReadyH.cons rfl (fun K hK => ?_) ?_
    ·
     go_simp
     refine (or_any (cmp3 x.a y.a) (cmp3 x.b y.b) _ _ (by simp [go_sem]) (by simp [go_sem])).mono ?_
     rintro e w2 ⟨rfl, rfl⟩
     try simp only []
     refine hK.out _ _ hHeld (fun hHeld => ?_)
     clear hK K
     try (change wpAnyH _ _ _ _ _ _ _ ⟨_, _⟩ _)
     try simp only [Act.put, sS]
     refine tH 12 ?_ rfl (by kernel_rfl) (fun _ _ _ h => h) (Or.inl ⟨by rfl, ?_⟩) hHeld ?_
     rotate_left
     ·
      intro w hSw
      try dsimp only at hSw
      go_simp
      try with_reducible rfl
     try (change wpAnyH _ _ _ _ _ _ _ ⟨_, _⟩ _)
     try simp only [Act.put, sS]
     refine wpAnyH_done (by kernel_rfl) ?_ _
     go_wp2
     go_ret
     exact hpost _ hHeld
    exact AllReadyH.nil
   exact AllReadyH.nil
  exact AllReadyH.nil
 exact AllReadyH.nil
end Go.Proofs.YtcjhihmaegagdaaGreatDoor
namespace Go.Proofs.YtcjhihmaegagdaaGreatDoor
open Go.RowKit Go.Deep
theorem isrow_N : ∃ d : TypeDesc, Tryz.prog.underlying 55 = some d ∧ d.isRow = true := by
 have h : (Tryz.prog.underlying 55).map (·.isRow) = some true := by kernel_rfl
 cases hq : Tryz.prog.underlying 55 with
 | none => rw [hq] at h; cases h
 | some d => exact ⟨d, rfl, by rw [hq] at h; simpa using h⟩
theorem cmp_note (W : World) (sb nb i k n cap : Nat) (x y : Nte) (hs : W.cell? ⟨sb, 1, none⟩ = some (.slice (some ⟨nb, 0, none⟩) n cap)) (hx : W.rangeAt nb (i * 10) x.cs) (hy : W.rangeAt nb (k * 10) y.cs) (hi : i < n) (hk : k < n) (hnl : nb < W.heap.size) :
  Calls Tryz.prog 65 #[.int .i64 i, .int .i64 k, .pointer (some ⟨sb, 0, none⟩)] W fun e w' => e = .returned (.int .i64 (if nteLt x y = true then -1 else if nteLt y x = true then 1 else 0)) ∧ Below W.heap.size W w' := by
 have hpv : or3 (cmp3 x.start y.start) (cmp3 x.voice y.voice) = if nteLt x y = true then -1 else if nteLt y x = true then 1 else 0 := or_cmp _ _ _ _
 rw [← hpv]
 obtain ⟨c, hc⟩ : ∃ c, c = or3 (cmp3 x.start y.start) (cmp3 x.voice y.voice) := ⟨_, rfl⟩
 rw [← hc]
 have HC := hid hc
 clear hpv hc
 have hsl := World.block_lt_of_cell? W _ hs
 obtain ⟨d, hu, hd⟩ := isrow_N
 have hz0 : Blk ((W.drew.alloc (.cells nte0.cells 55)).alloc (.cells nte0.cells 55)) W.heap.size 55 nte0.cells := (Blk.new W.drew 55 nte0.cells).alloc (.cells nte0.cells 55)
 have hz1 : Blk ((W.drew.alloc (.cells nte0.cells 55)).alloc (.cells nte0.cells 55)) (W.heap.size + 1) 55 nte0.cells := by
  have := Blk.new (W.drew.alloc (.cells nte0.cells 55)) 55 nte0.cells
  simpa using this
 go_enter Tryz.func65, Tryz.ntmps65
 go_upto_region 1 with (fail)
 go_cut [6, 7] (fun u v wx => ∃ p q : Nat, u = .pointer (some ⟨p, 0, none⟩) ∧ v = .pointer (some ⟨q, 0, none⟩) ∧ Hid (Blk wx p 55 x.cells) ∧ Hid (Blk wx q 55 y.cells) ∧ Hid (Below W.heap.size W wx))
 case first =>
  refine wp_region_held_drew (S := (fun w' => Below W.heap.size W w')) (by kernel_rfl) (Below.refl _ _).drew (fun hHeld => ?_)
  refine tH 0 ?_ rfl (by kernel_rfl) (fun _ _ _ h => h) (Or.inl ⟨by rfl, ?_⟩) hHeld ?_
  rotate_left
  ·
   intro w hSw
   try dsimp only at hSw
   go_simp
   try with_reducible rfl
  try (change wpAnyH _ _ _ _ _ _ _ ⟨_, _⟩ _)
  try simp only [Act.put, sS]
  refine tH 1 ?_ rfl (by kernel_rfl) (fun _ _ _ h => h) (Or.inl ⟨by rfl, ?_⟩) hHeld ?_
  rotate_left
  ·
   intro w hSw
   try dsimp only at hSw
   have g0 : w.cell? ⟨sb, 1, none⟩ = _ := (hSw.cell (p := ⟨sb, 1, none⟩) hsl).trans hs
   go_simp
   try with_reducible rfl
  try (change wpAnyH _ _ _ _ _ _ _ ⟨_, _⟩ _)
  try simp only [Act.put, sS]
  refine tH 2 ?_ rfl (by kernel_rfl) (fun _ _ _ h => h) (Or.inl ⟨by rfl, ?_⟩) hHeld ?_
  rotate_left
  ·
   intro w hSw
   try dsimp only at hSw
   go_simp
   try with_reducible rfl
  try (change wpAnyH _ _ _ _ _ _ _ ⟨_, _⟩ _)
  try simp only [Act.put, sS]
  refine tH 3 ?_ rfl (by kernel_rfl) (fun _ _ _ h => h) (Or.inl ⟨by rfl, ?_⟩) hHeld ?_
  rotate_left
  ·
   intro w hSw
   try dsimp only at hSw
   go_simp
   try with_reducible rfl
  try (change wpAnyH _ _ _ _ _ _ _ ⟨_, _⟩ _)
  try simp only [Act.put, sS]
  refine wpAnyH_take (i := 4) rfl (by kernel_rfl) (by kernel_rfl) (by kernel_rfl) (fun _ _ _ h => h) (yieldsIf_load_mid (by rfl) 55 (.tmp 11) rfl nb (i * 10) rfl x.cs d (fun w hSw => range_below hSw hnl hx) hu hd size_N) hHeld ?_
  try (change wpAnyH _ _ _ _ _ _ _ ⟨_, _⟩ _)
  try simp only [Act.put, sS]
  refine tH 5 ?_ rfl (by kernel_rfl) (fun _ _ _ h => h) (Or.inl ⟨by rfl, ?_⟩) hHeld ?_
  rotate_left
  ·
   intro w hSw
   try dsimp only at hSw
   go_simp
   try with_reducible rfl
  try (change wpAnyH _ _ _ _ _ _ _ ⟨_, _⟩ _)
  try simp only [Act.put, sS]
  refine tH 6 ?_ rfl (by kernel_rfl) (fun _ _ _ h => h) (Or.inl ⟨by rfl, ?_⟩) hHeld ?_
  rotate_left
  ·
   intro w hSw
   try dsimp only at hSw
   have g0 : w.cell? ⟨sb, 1, none⟩ = _ := (hSw.cell (p := ⟨sb, 1, none⟩) hsl).trans hs
   go_simp
   try with_reducible rfl
  try (change wpAnyH _ _ _ _ _ _ _ ⟨_, _⟩ _)
  try simp only [Act.put, sS]
  refine tH 7 ?_ rfl (by kernel_rfl) (fun _ _ _ h => h) (Or.inl ⟨by rfl, ?_⟩) hHeld ?_
  rotate_left
  ·
   intro w hSw
   try dsimp only at hSw
   go_simp
   try with_reducible rfl
  try (change wpAnyH _ _ _ _ _ _ _ ⟨_, _⟩ _)
  try simp only [Act.put, sS]
  refine tH 8 ?_ rfl (by kernel_rfl) (fun _ _ _ h => h) (Or.inl ⟨by rfl, ?_⟩) hHeld ?_
  rotate_left
  ·
   intro w hSw
   try dsimp only at hSw
   go_simp
   try with_reducible rfl
  try (change wpAnyH _ _ _ _ _ _ _ ⟨_, _⟩ _)
  try simp only [Act.put, sS]
  refine wpAnyH_take (i := 9) rfl (by kernel_rfl) (by kernel_rfl) (by kernel_rfl) (fun _ _ _ h => h) (yieldsIf_load_mid (by rfl) 55 (.tmp 16) rfl nb (k * 10) rfl y.cs d (fun w hSw => range_below hSw hnl hy) hu hd size_N) hHeld ?_
  try (change wpAnyH _ _ _ _ _ _ _ ⟨_, _⟩ _)
  try simp only [Act.put, sS]
  refine wpAnyH_ready (rs := [10, 11]) (by kernel_rfl) (by simp) ?_
  refine AllReadyH.cons rfl (fun K hK => ?_) ?_
  ·
   go_simp
   refine hK.out _ _ (hHeld.alloc (by first | exact Nat.le_refl _ | (simp; done) | (simp; omega)) _) (fun hHeld => ?_)
   clear hK K
   try (change wpAnyH _ _ _ _ _ _ _ ⟨_, _⟩ _)
   try simp only [Act.put, sS]
   refine wpAnyH_ready (rs := [11]) (by kernel_rfl) (by simp) ?_
   refine AllReadyH.cons rfl (fun K hK => ?_) ?_
   ·
    go_simp
    refine hK.out _ _ (hHeld.alloc (by first | exact Nat.le_refl _ | (simp; done) | (simp; omega)) _) (fun hHeld => ?_)
    clear hK K
    try (change wpAnyH _ _ _ _ _ _ _ ⟨_, _⟩ _)
    try simp only [Act.put, sS]
    refine wpAnyH_ready (rs := [12]) (by kernel_rfl) (by simp) ?_
    refine AllReadyH.cons rfl (fun K hK => ?_) ?_
    ·
     refine step_put rfl 55 (.tmp 6) (.tmp 12) rfl W.heap.size x.cells rfl rfl 55 _ hz0 size_N rfl x.all_one ?_
     intro w3 b3 g3 z3
     have b5 := hz1.grown g3 (by intro e; injection e with e; omega)
     refine hK.out _ _ (hHeld.grown g3 (by simp; omega) (fun b e => by injection e with e; omega)) (fun hHeld => ?_)
     clear hK K
     try (change wpAnyH _ _ _ _ _ _ _ ⟨_, _⟩ _)
     try simp only [Act.put, sS]
     refine wpAnyH_ready (rs := [13]) (by kernel_rfl) (by simp) ?_
     refine AllReadyH.cons rfl (fun K hK => ?_) ?_
     ·
      refine step_put rfl 55 (.tmp 7) (.tmp 17) rfl (W.heap.size + 1) y.cells rfl rfl 55 _ b5 size_N rfl y.all_one ?_
      intro w4 b4 g4 z4
      have b6 := b3.grown g4 (by intro e; injection e with e; first | omega | (simp at e) | (simp at *; omega))
      refine hK.out _ _ (hHeld.grown g4 (by have := g3.size; have := hHeld.size; omega) (fun b e => by injection e with e; omega)) (fun hHeld => ?_)
      clear hK K
      try (change wpAnyH _ _ _ _ _ _ _ ⟨_, _⟩ _)
      try simp only [Act.put, sS]
      refine wpAnyH_done (by kernel_rfl) ?_ _
      go_wp2_with fail
      go_meet
      case rel => exact ⟨_, _, rfl, rfl, hid b6, hid b4, hid hHeld⟩
     exact AllReadyH.nil
    exact AllReadyH.nil
   exact AllReadyH.nil
  refine AllReadyH.cons rfl (fun K hK => ?_) ?_
  ·
   go_simp
   refine hK.out _ _ (hHeld.alloc (by first | exact Nat.le_refl _ | (simp; done) | (simp; omega)) _) (fun hHeld => ?_)
   clear hK K
   try (change wpAnyH _ _ _ _ _ _ _ ⟨_, _⟩ _)
   try simp only [Act.put, sS]
   refine wpAnyH_ready (rs := [10]) (by kernel_rfl) (by simp) ?_
   refine AllReadyH.cons rfl (fun K hK => ?_) ?_
   ·
    go_simp
    refine hK.out _ _ (hHeld.alloc (by first | exact Nat.le_refl _ | (simp; done) | (simp; omega)) _) (fun hHeld => ?_)
    clear hK K
    try (change wpAnyH _ _ _ _ _ _ _ ⟨_, _⟩ _)
    try simp only [Act.put, sS]
    refine wpAnyH_ready (rs := [12]) (by kernel_rfl) (by simp) ?_
    refine AllReadyH.cons rfl (fun K hK => ?_) ?_
    ·
     refine step_put rfl 55 (.tmp 6) (.tmp 12) rfl (W.heap.size + 1) x.cells rfl rfl 55 _ hz1 size_N rfl x.all_one ?_
     intro w3 b3 g3 z3
     have b5 := hz0.grown g3 (by intro e; injection e with e; omega)
     refine hK.out _ _ (hHeld.grown g3 (by simp; omega) (fun b e => by injection e with e; omega)) (fun hHeld => ?_)
     clear hK K
     try (change wpAnyH _ _ _ _ _ _ _ ⟨_, _⟩ _)
     try simp only [Act.put, sS]
     refine wpAnyH_ready (rs := [13]) (by kernel_rfl) (by simp) ?_
     refine AllReadyH.cons rfl (fun K hK => ?_) ?_
     ·
      refine step_put rfl 55 (.tmp 7) (.tmp 17) rfl W.heap.size y.cells rfl rfl 55 _ b5 size_N rfl y.all_one ?_
      intro w4 b4 g4 z4
      have b6 := b3.grown g4 (by intro e; injection e with e; first | omega | (simp at e) | (simp at *; omega))
      refine hK.out _ _ (hHeld.grown g4 (by have := g3.size; have := hHeld.size; omega) (fun b e => by injection e with e; omega)) (fun hHeld => ?_)
      clear hK K
      try (change wpAnyH _ _ _ _ _ _ _ ⟨_, _⟩ _)
      try simp only [Act.put, sS]
      refine wpAnyH_done (by kernel_rfl) ?_ _
      go_wp2_with fail
      go_meet
      case rel => exact ⟨_, _, rfl, rfl, hid b6, hid b4, hid hHeld⟩
     exact AllReadyH.nil
    exact AllReadyH.nil
   exact AllReadyH.nil
  exact AllReadyH.nil
 case rest =>
  obtain ⟨p, q, rfl, rfl, b6, b4, hB⟩ := hcut
  have c0 : wc.cell? ⟨p, 1, none⟩ = some (.int .i64 x.start) := b6.out.cell 1
  have c1 : wc.cell? ⟨p, 0, none⟩ = some (.int .i64 x.voice) := b6.out.cell 0
  have d0 : wc.cell? ⟨q, 1, none⟩ = some (.int .i64 y.start) := b4.out.cell 1
  have d1 : wc.cell? ⟨q, 0, none⟩ = some (.int .i64 y.voice) := b4.out.cell 0
  have hp := b6.out.lt
  have hq := b4.out.lt
  have hpost : ∀ w', Below wc.heap.size wc w' → Ending.returned (.int .i64 (or3 (cmp3 x.start y.start) (cmp3 x.voice y.voice))) = Ending.returned (.int .i64 c) ∧ Below W.heap.size W w' := fun w' h => ⟨by rw [HC.out], hB.out.trans (h.mono hB.out.size)⟩
  clear hx hy hs hu hd hz0 hz1
  go_wp2_with fail
  refine wp_region_held_drew (S := (fun w' => Below wc.heap.size wc w')) (by kernel_rfl) (Below.refl _ _).drew (fun hHeld => ?_)
  refine tH 0 ?_ rfl (by kernel_rfl) (fun _ _ _ h => h) (Or.inl ⟨by rfl, ?_⟩) hHeld ?_
  rotate_left
  ·
   intro w hSw
   try dsimp only at hSw
   go_simp
   try with_reducible rfl
  try (change wpAnyH _ _ _ _ _ _ _ ⟨_, _⟩ _)
  try simp only [Act.put, sS]
  refine tH 1 ?_ rfl (by kernel_rfl) (fun _ _ _ h => h) (Or.inl ⟨by rfl, ?_⟩) hHeld ?_
  rotate_left
  ·
   intro w hSw
   try dsimp only at hSw
   have g0 : w.cell? ⟨p, 1, none⟩ = _ := (hSw.cell (p := ⟨p, 1, none⟩) hp).trans c0
   go_simp
   try with_reducible rfl
  try (change wpAnyH _ _ _ _ _ _ _ ⟨_, _⟩ _)
  try simp only [Act.put, sS]
  refine tH 2 ?_ rfl (by kernel_rfl) (fun _ _ _ h => h) (Or.inl ⟨by rfl, ?_⟩) hHeld ?_
  rotate_left
  ·
   intro w hSw
   try dsimp only at hSw
   go_simp
   try with_reducible rfl
  try (change wpAnyH _ _ _ _ _ _ _ ⟨_, _⟩ _)
  try simp only [Act.put, sS]
  refine tH 3 ?_ rfl (by kernel_rfl) (fun _ _ _ h => h) (Or.inl ⟨by rfl, ?_⟩) hHeld ?_
  rotate_left
  ·
   intro w hSw
   try dsimp only at hSw
   have g0 : w.cell? ⟨q, 1, none⟩ = _ := (hSw.cell (p := ⟨q, 1, none⟩) hq).trans d0
   go_simp
   try with_reducible rfl
  try (change wpAnyH _ _ _ _ _ _ _ ⟨_, _⟩ _)
  try simp only [Act.put, sS]
  refine tH 5 ?_ rfl (by kernel_rfl) (fun _ _ _ h => h) (Or.inl ⟨by rfl, ?_⟩) hHeld ?_
  rotate_left
  ·
   intro w hSw
   try dsimp only at hSw
   go_simp
   try with_reducible rfl
  try (change wpAnyH _ _ _ _ _ _ _ ⟨_, _⟩ _)
  try simp only [Act.put, sS]
  refine tH 6 ?_ rfl (by kernel_rfl) (fun _ _ _ h => h) (Or.inl ⟨by rfl, ?_⟩) hHeld ?_
  rotate_left
  ·
   intro w hSw
   try dsimp only at hSw
   have g0 : w.cell? ⟨p, 0, none⟩ = _ := (hSw.cell (p := ⟨p, 0, none⟩) hp).trans c1
   go_simp
   try with_reducible rfl
  try (change wpAnyH _ _ _ _ _ _ _ ⟨_, _⟩ _)
  try simp only [Act.put, sS]
  refine tH 7 ?_ rfl (by kernel_rfl) (fun _ _ _ h => h) (Or.inl ⟨by rfl, ?_⟩) hHeld ?_
  rotate_left
  ·
   intro w hSw
   try dsimp only at hSw
   go_simp
   try with_reducible rfl
  try (change wpAnyH _ _ _ _ _ _ _ ⟨_, _⟩ _)
  try simp only [Act.put, sS]
  refine tH 8 ?_ rfl (by kernel_rfl) (fun _ _ _ h => h) (Or.inl ⟨by rfl, ?_⟩) hHeld ?_
  rotate_left
  ·
   intro w hSw
   try dsimp only at hSw
   have g0 : w.cell? ⟨q, 0, none⟩ = _ := (hSw.cell (p := ⟨q, 0, none⟩) hq).trans d1
   go_simp
   try with_reducible rfl
  try (change wpAnyH _ _ _ _ _ _ _ ⟨_, _⟩ _)
  try simp only [Act.put, sS]
  refine wpAnyH_ready (rs := [4]) (by kernel_rfl) (by simp) ?_
  refine AllReadyH.cons rfl (fun K hK => ?_) ?_
  ·
   go_simp
   refine (compare_any _ _ _).mono ?_
   rintro e w2 ⟨rfl, rfl⟩
   try simp only []
   refine hK.out _ _ hHeld (fun hHeld => ?_)
   clear hK K
   try (change wpAnyH _ _ _ _ _ _ _ ⟨_, _⟩ _)
   try simp only [Act.put, sS]
   refine wpAnyH_ready (rs := [9]) (by kernel_rfl) (by simp) ?_
   refine AllReadyH.cons rfl (fun K hK => ?_) ?_
   ·
    go_simp
    refine (compare_any _ _ _).mono ?_
    rintro e w2 ⟨rfl, rfl⟩
    try simp only []
    refine hK.out _ _ hHeld (fun hHeld => ?_)
    clear hK K
    try (change wpAnyH _ _ _ _ _ _ _ ⟨_, _⟩ _)
    try simp only [Act.put, sS]
    refine wpAnyH_ready (rs := [10]) (by kernel_rfl) (by simp) ?_
    refine AllReadyH.cons rfl (fun K hK => ?_) ?_
    ·
     go_simp
     refine hK.out _ _ (hHeld.alloc (by first | exact Nat.le_refl _ | (simp; done) | (simp; omega)) _) (fun hHeld => ?_)
     clear hK K
     try (change wpAnyH _ _ _ _ _ _ _ ⟨_, _⟩ _)
     try simp only [Act.put, sS]
     refine wpAnyH_ready (rs := [11]) (by kernel_rfl) (by simp) ?_
     refine AllReadyH.cons rfl (fun K hK => ?_) ?_
     ·
      go_simp
      refine (or_any (cmp3 x.start y.start) (cmp3 x.voice y.voice) _ _ (by simp [go_sem]) (by simp [go_sem])).mono ?_
      rintro e w2 ⟨rfl, rfl⟩
      try simp only []
      refine hK.out _ _ hHeld (fun hHeld => ?_)
      clear hK K
      try (change wpAnyH _ _ _ _ _ _ _ ⟨_, _⟩ _)
      try simp only [Act.put, sS]
      refine tH 12 ?_ rfl (by kernel_rfl) (fun _ _ _ h => h) (Or.inl ⟨by rfl, ?_⟩) hHeld ?_
      rotate_left
      ·
       intro w hSw
       try dsimp only at hSw
       go_simp
       try with_reducible rfl
      try (change wpAnyH _ _ _ _ _ _ _ ⟨_, _⟩ _)
      try simp only [Act.put, sS]
      refine wpAnyH_done (by kernel_rfl) ?_ _
      go_wp2
      go_ret
      exact hpost _ hHeld
     exact AllReadyH.nil
    exact AllReadyH.nil
   exact AllReadyH.nil
  exact AllReadyH.nil
end Go.Proofs.YtcjhihmaegagdaaGreatDoor
namespace Go.Proofs.YtcjhihmaegagdaaGreatDoor
open Go.RowKit Go.Deep
def endsAt (x m : Nte) : Bool := decide (m.voice = x.voice) && decide (m.stop = x.start)
theorem endsAt_any (W : World) (p : Nat) (m x : Nte) (hx : Blk W p 55 x.cells) :
  Calls Tryz.prog 69 #[.agg m.cells, .pointer (some ⟨p, 0, none⟩)] W fun e w' => e = .returned (.bool (endsAt x m)) ∧ Below W.heap.size W w' := by
 have hl := hx.lt
 have c0 : (W.alloc (.cells m.cells 55)).cell? ⟨p, 0, none⟩ = some (.int .i64 x.voice) := (hx.alloc _).cell 0
 have c1 : (W.alloc (.cells m.cells 55)).cell? ⟨p, 1, none⟩ = some (.int .i64 x.start) := (hx.alloc _).cell 1
 have d0 : (W.alloc (.cells m.cells 55)).cell? ⟨W.heap.size, 0, none⟩ = some (.int .i64 m.voice) := (Blk.new W _ _).cell 0
 have d2 : (W.alloc (.cells m.cells 55)).cell? ⟨W.heap.size, 2, none⟩ = some (.int .i64 m.stop) := (Blk.new W _ _).cell 2
 have B0 := hid ((Below.refl W.heap.size W).alloc (Nat.le_refl _) (.cells m.cells 55))
 clear hx
 obtain ⟨b, hb⟩ : ∃ b, b = endsAt x m := ⟨_, rfl⟩
 rw [← hb]
 by_cases h1 : m.voice = x.voice
 ·
  have hb1 : (m.voice == x.voice) = true := by simp [h1]
  have hb2 : (m.stop == x.start) = b := by rw [hb]; simp only [endsAt, h1, decide_true, Bool.true_and]; by_cases e : m.stop = x.start <;> simp [e]
  clear hb h1
  go_enter Tryz.func69, Tryz.ntmps69
  go_wp2
  go_ret
  exact ⟨by first | rfl | simp [hb2], B0.out⟩
 have hb1 : (m.voice == x.voice) = false := by simp [h1]
 have hb2 : b = false := by rw [hb]; simp [endsAt, h1]
 clear hb h1
 subst hb2
 go_enter Tryz.func69, Tryz.ntmps69
 go_wp2
 go_ret
 exact ⟨rfl, B0.out⟩
def idxV : Option Nat → Int
 | some j => j
 | none => -1
def NotesAt (w : World) (nb : Nat) (l : List Nte) : Prop := ∀ i, i < l.length → w.rangeAt nb (i * 10) (l.getD i nte0).cs
theorem NotesAt.below {w w' : World} {B nb : Nat} {l : List Nte} (h : NotesAt w nb l) (hb : Below B w w') (hl : nb < B) : NotesAt w' nb l := fun i hi => range_below hb hl (h i hi)
theorem getD_at {α : Type} {l : List α} {i : Nat} (h : i < l.length) (d : α) : l.getD i d = l[i] := by simp [List.getD, h]
theorem find_at {α : Type} {p : α → Bool} {l : List α} {i : Nat} (d : α) (hi : i < l.length) (h : p (l.getD i d) = true) (hb : ∀ j, j < i → p (l.getD j d) = false) : l.findIdx? p = some i := by
 rw [List.findIdx?_eq_some_iff_getElem]
 refine ⟨hi, by rw [← getD_at hi d]; exact h, fun j hj => ?_⟩
 have := hb j hj
 rw [getD_at (by omega) d] at this
 simp [this]
theorem find_no {α : Type} {p : α → Bool} {l : List α} (d : α) (hb : ∀ j, j < l.length → p (l.getD j d) = false) : l.findIdx? p = none := by
 rw [List.findIdx?_eq_none_iff]
 intro x hx
 obtain ⟨j, hj, rfl⟩ := List.getElem_of_mem hx
 have := hb j hj
 rw [getD_at hj d] at this
 exact this
theorem beforeS_eq (l : List Nte) (x : Nte) : beforeS l x = l.findIdx? (endsAt x) := rfl
theorem indexFunc_note (W : World) (nb p cap : Nat) (x : Nte) (l : List Nte) (hx : Blk W p 55 x.cells) (hr : NotesAt W nb l) (hnl : nb < W.heap.size) (hn : l.length < 1099511627776) :
  Calls Tryz.prog 68 #[.slice (some ⟨nb, 0, none⟩) l.length cap, .func (.func 69) #[] #[.pointer (some ⟨p, 0, none⟩)]] W
   fun e w' => e = .returned (.int .i64 (idxV (beforeS l x))) ∧ Below W.heap.size W w' := by
 obtain ⟨c, hc⟩ : ∃ c, c = idxV (beforeS l x) := ⟨_, rfl⟩
 rw [← hc]
 have HC := hid hc
 have HX := hid hx
 have HR := hid hr
 obtain ⟨d, hu, hd⟩ := isrow_N
 obtain ⟨n, hln⟩ : ∃ n, n = l.length := ⟨_, rfl⟩
 rw [← hln] at hn ⊢
 have HN := hid hln
 clear hc hx hr hln
 go_enter Tryz.func68, Tryz.ntmps68
 go_wp2
 go_loopw [8] (fun v wx => ∃ i : Nat, i ≤ n ∧ v = .int .i64 i ∧ Hid (Below W.heap.size W wx) ∧ Hid (∀ j, j < i → endsAt x (l.getD j nte0) = false)) (fun v _ => n - (intOf v).toNat)
 case atStart => exact ⟨0, Nat.zero_le _, rfl, hid (Below.refl _ _), hid (fun j h => absurd h (Nat.not_lt_zero _))⟩
 case round =>
  obtain ⟨i, hi, rfl, HB, HJ⟩ := hrel
  by_cases hlt : i < n
  ·
   obtain ⟨m, hm⟩ : ∃ m, m = l.getD i nte0 := ⟨_, rfl⟩
   have hmr : wr.rangeAt nb (i * 10) m.cs := by rw [hm]; exact range_below HB.out hnl (HR.out i (by rw [← HN.out]; exact hlt))
   have HM := hid hm
   have HE := hid (endsAt_any wr p m x (HX.out.below HB.out HX.out.lt))
   clear hm
   have r1 : IntKind.i64.wrap ((i : Int) + 1) = ((i + 1 : Nat) : Int) := by rw [IntKind.wrap_i64]; omega
   cases hq : endsAt x m with
   | true =>
    rw [hq] at HE
    go_wp2_with (first | (refine wpList_load_mid rfl 55 (.tmp 14) rfl nb (i * 10) rfl m.cs d hmr hu hd size_N ?_; try simp only [Act.put, sS]) | (go_at_call 69; refine HE.out.mono ?_; rintro e w1 ⟨rfl, b1⟩; replace b1 := hid b1))
    go_ret
    refine ⟨?_, HB.out.trans (b1.out.mono HB.out.size)⟩
    have := find_at (p := endsAt x) (l := l) nte0 (by rw [← HN.out]; exact hlt) (by rw [← HM.out]; exact hq) HJ.out
    rw [HC.out, beforeS_eq, this]
    rfl
   | false =>
    rw [hq] at HE
    go_wp2_with (first | (refine wpList_load_mid rfl 55 (.tmp 14) rfl nb (i * 10) rfl m.cs d hmr hu hd size_N ?_; try simp only [Act.put, sS]) | (go_at_call 69; refine HE.out.mono ?_; rintro e w1 ⟨rfl, b1⟩; replace b1 := hid b1))
    go_roundw
    case rel => exact ⟨i + 1, by omega, rfl, hid (HB.out.trans (b1.out.mono HB.out.size)), hid (fun j h => by
     by_cases e : j = i
     ·
      rw [e, ← HM.out]; exact hq
     exact HJ.out j (by omega))⟩
    case measure => simp [intOf]; omega
  go_wp2
  go_ret
  refine ⟨?_, HB.out⟩
  have := find_no (p := endsAt x) (l := l) nte0 (fun j hj => HJ.out j (by rw [← HN.out] at hj; omega))
  rw [HC.out, beforeS_eq, this]
  rfl
end Go.Proofs.YtcjhihmaegagdaaGreatDoor
namespace Go.Proofs.YtcjhihmaegagdaaGreatDoor
open Go.RowKit Go.Deep
def negTo (v : Vc) (i : Nat) : Vc := ⟨if 0 < i then -v.a else v.a, if 1 < i then -v.b else v.b, if 2 < i then -v.c else v.c, if 3 < i then -v.d else v.d, if 4 < i then -v.e else v.e, if 5 < i then -v.f else v.f⟩
def Vc.small (v : Vc) (m : Nat) : Prop := v.a.natAbs ≤ m ∧ v.b.natAbs ≤ m ∧ v.c.natAbs ≤ m ∧ v.d.natAbs ≤ m ∧ v.e.natAbs ≤ m ∧ v.f.natAbs ≤ m
theorem inverse_any (W : World) (v : Vc) (hv : v.small 1000000000000) :
  Calls Tryz.prog 70 #[.agg v.cells] W fun e w' => e = .returned (.agg v.neg.cells) ∧ Below W.heap.size W w' := by
 obtain ⟨h0, h1, h2, h3, h4, h5⟩ := hv
 have r0 : IntKind.i64.wrap (-v.a) = -v.a := by rw [IntKind.wrap_i64]; omega
 have r1 : IntKind.i64.wrap (-v.b) = -v.b := by rw [IntKind.wrap_i64]; omega
 have r2 : IntKind.i64.wrap (-v.c) = -v.c := by rw [IntKind.wrap_i64]; omega
 have r3 : IntKind.i64.wrap (-v.d) = -v.d := by rw [IntKind.wrap_i64]; omega
 have r4 : IntKind.i64.wrap (-v.e) = -v.e := by rw [IntKind.wrap_i64]; omega
 have r5 : IntKind.i64.wrap (-v.f) = -v.f := by rw [IntKind.wrap_i64]; omega
 clear h0 h1 h2 h3 h4 h5
 go_enter Tryz.func70, Tryz.ntmps70
 go_wp2
 go_loopw [4] (fun s wx => ∃ i : Nat, i ≤ 6 ∧ s = .int .i64 i ∧ Hid (Blk wx W.heap.size 53 (negTo v i).cells) ∧ Hid (Blk wx (W.heap.size + 1) 53 vc0.cells) ∧ Hid (Below W.heap.size W wx)) (fun s _ => 6 - (intOf s).toNat)
 case atStart =>
  refine ⟨0, by omega, rfl, hid ((Blk.new W 53 (negTo v 0).cells).alloc _), hid ?_, hid (((Below.refl _ _).alloc (Nat.le_refl _) _).alloc (by simp) _)⟩
  have := Blk.new (W.alloc (.cells v.cells 53)) 53 vc0.cells
  rw [show (W.alloc (.cells v.cells 53)).heap.size = W.heap.size + 1 by simp] at this
  exact this
 case round =>
  obtain ⟨i, hi, rfl, HB, HZ, HW⟩ := hrel
  rcases (by omega : i = 0 ∨ i = 1 ∨ i = 2 ∨ i = 3 ∨ i = 4 ∨ i = 5 ∨ i = 6) with rfl | rfl | rfl | rfl | rfl | rfl | rfl
  ·
   have c0 : wr.cell? ⟨W.heap.size, 0, none⟩ = some (.int .i64 v.a) := by simpa [negTo] using HB.out.cell 0
   have f0 := HB.out.frozen 0
   have B1 : Hid (Blk (wr.setCell ⟨W.heap.size, 0, none⟩ (.int .i64 (-v.a))) W.heap.size 53 (negTo v 1).cells) := by
    have := HB.out.set_ 0 (.int .i64 (-v.a))
    exact hid (by simpa [negTo] using this)
   have Z1 := hid (HZ.out.far (p := ⟨W.heap.size, 0, none⟩) (by show W.heap.size + 1 ≠ W.heap.size; omega) (.int .i64 (-v.a)))
   have W1 := hid (HW.out.setCell (p := ⟨W.heap.size, 0, none⟩) (Nat.le_refl _) (.int .i64 (-v.a)))
   go_wp2
   go_roundw
   case rel => exact ⟨1, by omega, by first | rfl | go_num, B1, Z1, W1⟩
   case measure => simp [intOf]
  ·
   have c0 : wr.cell? ⟨W.heap.size, 1, none⟩ = some (.int .i64 v.b) := by simpa [negTo] using HB.out.cell 1
   have f0 := HB.out.frozen 1
   have B1 : Hid (Blk (wr.setCell ⟨W.heap.size, 1, none⟩ (.int .i64 (-v.b))) W.heap.size 53 (negTo v 2).cells) := by
    have := HB.out.set_ 1 (.int .i64 (-v.b))
    exact hid (by simpa [negTo] using this)
   have Z1 := hid (HZ.out.far (p := ⟨W.heap.size, 1, none⟩) (by show W.heap.size + 1 ≠ W.heap.size; omega) (.int .i64 (-v.b)))
   have W1 := hid (HW.out.setCell (p := ⟨W.heap.size, 1, none⟩) (Nat.le_refl _) (.int .i64 (-v.b)))
   go_wp2
   go_roundw
   case rel => exact ⟨2, by omega, by first | rfl | go_num, B1, Z1, W1⟩
   case measure => simp [intOf]
  ·
   have c0 : wr.cell? ⟨W.heap.size, 2, none⟩ = some (.int .i64 v.c) := by simpa [negTo] using HB.out.cell 2
   have f0 := HB.out.frozen 2
   have B1 : Hid (Blk (wr.setCell ⟨W.heap.size, 2, none⟩ (.int .i64 (-v.c))) W.heap.size 53 (negTo v 3).cells) := by
    have := HB.out.set_ 2 (.int .i64 (-v.c))
    exact hid (by simpa [negTo] using this)
   have Z1 := hid (HZ.out.far (p := ⟨W.heap.size, 2, none⟩) (by show W.heap.size + 1 ≠ W.heap.size; omega) (.int .i64 (-v.c)))
   have W1 := hid (HW.out.setCell (p := ⟨W.heap.size, 2, none⟩) (Nat.le_refl _) (.int .i64 (-v.c)))
   go_wp2
   go_roundw
   case rel => exact ⟨3, by omega, by first | rfl | go_num, B1, Z1, W1⟩
   case measure => simp [intOf]
  ·
   have c0 : wr.cell? ⟨W.heap.size, 3, none⟩ = some (.int .i64 v.d) := by simpa [negTo] using HB.out.cell 3
   have f0 := HB.out.frozen 3
   have B1 : Hid (Blk (wr.setCell ⟨W.heap.size, 3, none⟩ (.int .i64 (-v.d))) W.heap.size 53 (negTo v 4).cells) := by
    have := HB.out.set_ 3 (.int .i64 (-v.d))
    exact hid (by simpa [negTo] using this)
   have Z1 := hid (HZ.out.far (p := ⟨W.heap.size, 3, none⟩) (by show W.heap.size + 1 ≠ W.heap.size; omega) (.int .i64 (-v.d)))
   have W1 := hid (HW.out.setCell (p := ⟨W.heap.size, 3, none⟩) (Nat.le_refl _) (.int .i64 (-v.d)))
   go_wp2
   go_roundw
   case rel => exact ⟨4, by omega, by first | rfl | go_num, B1, Z1, W1⟩
   case measure => simp [intOf]
  ·
   have c0 : wr.cell? ⟨W.heap.size, 4, none⟩ = some (.int .i64 v.e) := by simpa [negTo] using HB.out.cell 4
   have f0 := HB.out.frozen 4
   have B1 : Hid (Blk (wr.setCell ⟨W.heap.size, 4, none⟩ (.int .i64 (-v.e))) W.heap.size 53 (negTo v 5).cells) := by
    have := HB.out.set_ 4 (.int .i64 (-v.e))
    exact hid (by simpa [negTo] using this)
   have Z1 := hid (HZ.out.far (p := ⟨W.heap.size, 4, none⟩) (by show W.heap.size + 1 ≠ W.heap.size; omega) (.int .i64 (-v.e)))
   have W1 := hid (HW.out.setCell (p := ⟨W.heap.size, 4, none⟩) (Nat.le_refl _) (.int .i64 (-v.e)))
   go_wp2
   go_roundw
   case rel => exact ⟨5, by omega, by first | rfl | go_num, B1, Z1, W1⟩
   case measure => simp [intOf]
  ·
   have c0 : wr.cell? ⟨W.heap.size, 5, none⟩ = some (.int .i64 v.f) := by simpa [negTo] using HB.out.cell 5
   have f0 := HB.out.frozen 5
   have B1 : Hid (Blk (wr.setCell ⟨W.heap.size, 5, none⟩ (.int .i64 (-v.f))) W.heap.size 53 (negTo v 6).cells) := by
    have := HB.out.set_ 5 (.int .i64 (-v.f))
    exact hid (by simpa [negTo] using this)
   have Z1 := hid (HZ.out.far (p := ⟨W.heap.size, 5, none⟩) (by show W.heap.size + 1 ≠ W.heap.size; omega) (.int .i64 (-v.f)))
   have W1 := hid (HW.out.setCell (p := ⟨W.heap.size, 5, none⟩) (Nat.le_refl _) (.int .i64 (-v.f)))
   go_wp2
   go_roundw
   case rel => exact ⟨6, by omega, by first | rfl | go_num, B1, Z1, W1⟩
   case measure => simp [intOf]
  have hb := HB.out
  have hz := HZ.out
  have e6 : negTo v 6 = v.neg := rfl
  rw [e6] at hb
  have k0 := hb.cell 0
  have k1 := hb.cell 1
  have k2 := hb.cell 2
  have k3 := hb.cell 3
  have k4 := hb.cell 4
  have k5 := hb.cell 5
  have hb2 := hid hb
  have hz2 := hid hz
  obtain ⟨u, hu⟩ : ∃ u, u = v.neg := ⟨_, rfl⟩
  rw [← hu] at hb hb2 k0 k1 k2 k3 k4 k5
  clear hb hz e6 k0 k1 k2 k3 k4 k5 HB HZ
  have HU := hid hu
  clear hu r0 r1 r2 r3 r4 r5
  go_wp2_with (first | (refine wpList_get rfl 53 (.tmp 1) rfl W.heap.size rfl 53 u.cells _ hb2.out Tryz.underlying53 rfl size_vec ?_; try simp only [Act.put, sS]) | (refine wpList_put rfl 53 (.tmp 2) (.tmp 14) rfl (W.heap.size + 1) u.cells rfl rfl 53 _ hz2.out size_vec rfl (by simp [Value.oneCell']) ?_; intro w9 b9 g9 z9; try simp only [Act.put, sS]))
  (try simp only [Exit.inBlock, Exit.then])
  refine bodyPost_ret (results_cell rfl _ ⟨W.heap.size + 1, 0, none⟩ rfl _ Tryz.underlying53 rfl _ u.cells size_vec (blk_load b9)) rfl ?_
  exact ⟨by rw [HU.out], HW.out.grown g9 HW.out.size (fun b e => by injection e with e; omega)⟩
end Go.Proofs.YtcjhihmaegagdaaGreatDoor
namespace Go.Proofs.YtcjhihmaegagdaaGreatDoor
open Go.RowKit Go.Deep
theorem sorted_unique {l m : List Int} (hp : l.Perm m) (h1 : l.Pairwise (· ≤ ·)) (h2 : m.Pairwise (· ≤ ·)) : l = m := by
 induction l generalizing m with
 | nil => exact (List.Perm.nil_eq hp)
 | cons x l ih =>
  cases m with
  | nil => exact absurd hp.length_eq (by simp)
  | cons y m =>
   have a1 := List.pairwise_cons.1 h1
   have a2 := List.pairwise_cons.1 h2
   have hx : x ∈ y :: m := hp.mem_iff.1 (List.mem_cons_self ..)
   have hy : y ∈ x :: l := hp.mem_iff.2 (List.mem_cons_self ..)
   have e : x = y := by
    have b1 : y ≤ x := by
     rcases List.mem_cons.1 hx with r | r
     ·
      omega
     exact a2.1 x r
    have b2 : x ≤ y := by
     rcases List.mem_cons.1 hy with r | r
     ·
      omega
     exact a1.1 y r
    omega
   subst e
   rw [ih (List.perm_cons x |>.1 hp) a1.2 a2.2]
theorem ltZ_swo : Swo (fun a b : Int => decide (a < b)) := ⟨fun x => by simp, fun x y z h1 h2 => by simp at *; omega, fun x y z h1 h2 => by simp at *; omega⟩
theorem merge_cad (l : List Int) : (l.mergeSort fun x y => decide (x ≤ y)) = cadS l := by
 refine sorted_unique ((List.mergeSort_perm _ _).trans (sortS_perm l).symm) ?_ ?_
 ·
  have := List.pairwise_mergeSort (le := fun x y : Int => decide (x ≤ y)) (fun a b c h1 h2 => by simp at *; omega) (fun a b => by simp; omega) l
  exact this.imp (fun h => by simpa using h)
 have := sortS_sorted ltZ_swo l
 exact List.Pairwise.imp (fun {a b} h => by simpa using h) this
structure CadAt (w : World) (b : Nat) (l : List Int) : Prop where
 cell : ∀ t, t < l.length → w.cell? ⟨b, t, none⟩ = some (.int .i64 (l.getD t 0))
 fr : ∀ t, t < l.length → w.frozen? ⟨b, t, none⟩ = false
theorem sort_ints (W : World) (b cap : Nat) (l : List Int) (h : CadAt W b l) (hb : b < W.heap.size) (hn : l.length < 4611686018427387904) :
  Calls Tryz.prog 73 #[.slice (some ⟨b, 0, none⟩) l.length cap] W fun e w' => e = .returned (.tuple #[]) ∧ Only b W w' ∧ CadAt w' b (cadS l) := by
 have hH : Sort.Holds (Value.int .i64) W b 0 l.toArray := by
  intro j hj
  have hj' : j < l.length := by simpa using hj
  rw [Nat.zero_add]
  refine ⟨?_, h.fr j hj'⟩
  rw [h.cell j hj', getD_at hj']
  simp [hj']
 refine (Tryz.slices_Sort_int b 0 cap l W hH hb hn).mono ?_
 rintro e w' ⟨rfl, n, os, rfl⟩
 rw [merge_cad]
 have hp : (cadS l).length = l.length := (sortS_perm (lt := fun a b : Int => decide (a < b)) l).length_eq
 have h2 : Sort.Holds (Value.int .i64) (Sort.ahead W n) b 0 l.toArray := fun j hj => hH j hj
 have h3 := Sort.holds_putRow (Value.int .i64) (Sort.ahead W n) b 0 l.toArray (cadS l).toArray h2 (by simp [hp])
 have h4 := Sort.holds_grow (Value.int .i64) _ os b 0 (cadS l).toArray (by rw [Sort.size_putRow]; exact hb) h3
 refine ⟨rfl, ⟨rfl, rfl, rfl, by rw [Sort.size_grow, Sort.size_putRow]; exact Nat.le_add_right _ _, fun k hk hl => ?_⟩, fun t ht => ?_, fun t ht => ?_⟩
 ·
  rw [Sort.heap_grow_old _ _ (by rw [Sort.size_putRow]; exact hl)]
  simp only [Sort.putRow, Sort.mapBlock, Array.getElem?_modify]
  rw [if_neg (fun e => hk e.symm)]
  rfl
 ·
  have := (h4 t (by simpa using ht)).1
  rw [Nat.zero_add] at this
  rw [this, getD_at ht]
  simp [ht]
 have := (h4 t (by simpa using ht)).2
 rw [Nat.zero_add] at this
 exact this
end Go.Proofs.YtcjhihmaegagdaaGreatDoor
