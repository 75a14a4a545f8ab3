/- Walks: CommaOrder, one case. -/
import Derived.Test.YtipaapplingbnaaDoorT7
namespace Go.Proofs.YtipaapplingbnaaDoor
open Go.RowKit Go.Deep

set_option maxRecDepth 100000 in
set_option maxHeartbeats 8000000 in
theorem order_11 (w : World) (A A1 At : Option Addr) (c c1 ct : Nat) (l : List Cm) (cs : List Int) (v : Vc) (ts : List Tk) (x : Int) (hx0 : 0 ≤ x) (hx1 : x ≤ 255) (hr : RdN w w.heap.size A l) (hs : ∀ x ∈ l, x.nm.length ≤ 9223372036854775807) (hll : l.length * 64 ≤ 140737488351232) (hlc : l.length ≤ c) (hrc : RdI w w.heap.size A1 cs) (_hcl : cs.length * 8 ≤ 140737488351232) (hcc : cs.length ≤ c1) (hrt : RdT w w.heap.size At ts) (htl : ts.length * 32 ≤ 140737488351232) (hT : Tab w) (hE : Errs w) (hn : 0 < l.length) (he0 : cntK l v = 0) (hcs : cs.length = l.length) :
    Calls Tryd.prog 4 #[.slice A l.length c, .agg #[.int .i64 v.a, .int .i64 v.b, .int .i64 v.c, .int .i64 v.d, .int .i64 v.e, .int .i64 v.f], .slice A1 cs.length c1, .slice At ts.length ct, .int .u8 x] w fun e w' => e = .returned (.bool true) ∧ Below w.heap.size w w' := by
  have HHD := Lib.hid fun W (hb : Below w.heap.size w W) => head_any W (hT.below hb) (hE.below hb)
  have HVA := Lib.hid fun W (hb : Below w.heap.size w W) => valid_any W A c l (hr.up hb) hs (by omega)
  obtain ⟨w0, hw0⟩ : ∃ w0, w0 = w.alloc (.cells #[.int .i64 v.a, .int .i64 v.b, .int .i64 v.c, .int .i64 v.d, .int .i64 v.e, .int .i64 v.f] 25) := ⟨_, rfl⟩
  have hB0 : Below w.heap.size w w0 := by rw [hw0]; exact (Below.refl w.heap.size w).alloc (Nat.le_refl _) (.cells v.cells 25)
  have H0 := Lib.hid hB0
  have kv : Hid (Blk w0 w.heap.size 25 v.cells) := by rw [hw0]; exact Blk.new w 25 v.cells
  have HW0 := Lib.hid hw0
  obtain ⟨k, hk⟩ : ∃ k : Nat, x % (l.length : Int) = (k : Int) := ⟨(x % (l.length : Int)).toNat, by rw [Int.toNat_of_nonneg (Int.emod_nonneg _ (by omega))]⟩
  have hkn : k < l.length := by
    have := Int.emod_lt_of_pos x (b := (l.length : Int)) (by omega)
    omega
  have rl : (rot k l).length = l.length := rot_len k l
  have rt : (ts.map (mvT l.length k)).length = ts.length := List.length_map _
  have hs' : ∀ x ∈ rot k l, x.nm.length ≤ 9223372036854775807 := fun x hx => hs x (rot_mem hx)
  have HCA := Lib.hid fun W (hb : Below w.heap.size w W) => (counts_any W A c l v (hr.up hb) hs (by omega)).mono fun e w' h => ends_cntc h
  have HCT := Lib.hid fun W AT cT (hN : RdN W W.heap.size AT (rot k l)) => (counts_any W AT cT (rot k l) v hN hs' (by omega)).mono fun e w' h => ends_cntc h
  have HVT := Lib.hid fun W AT cT (hN : RdN W W.heap.size AT (rot k l)) => valid_any W AT cT (rot k l) hN hs' (by omega)
  have HSA := Lib.hid fun W (hb : Below w.heap.size w W) Ax (hx : RdI W W.heap.size Ax cs) => sum_any W A Ax c c1 l cs (hr.up hb) hs (by omega) hx (by omega)
  have HWA := Lib.hid fun W (hb : Below w.heap.size w W) => (walk_any W A At c ct l ts (hr.up hb) hs (by omega) (hrt.up hb) (by omega)).mono fun e w' h => ends_walk h
  have HWT := Lib.hid fun W AT cT (hN : RdN W W.heap.size AT (rot k l)) Am cm (hm : RdT W W.heap.size Am (ts.map (mvT l.length k))) => (walk_any W AT Am cT cm (rot k l) (ts.map (mvT l.length k)) hN hs' (by omega) hm (by omega)).mono fun e w' h => ends_walk h
  have HRT := Lib.hid hrt
  rw [rl] at HCT HVT HWT
  rw [rt, (walk_mv (ts := ts) hkn).1, (walk_mv (ts := ts) hkn).2] at HWT
  rw [valid_rot] at HVT
  rw [(cnt_rot k (by omega) v).1] at HCT
  have HAB : Hid (cntK l v = 0 → cntV (rot k l) v = rot k (cntV l v) ∧ (cntV l v).length = l.length) := (cnt_rot k (by omega) v).2
  have hwl := walkV_len l ts
  have h6 := cnt_small l v
  generalize cntK l v = ce at *
  generalize cntV l v = aa at *
  generalize cntV (rot k l) v = bb at *
  generalize validB l = vb at *
  generalize walkE l ts = we at *
  generalize walkV l ts = ws at *
  have HSM := Lib.hid fun W A B (c d : Nat) (h1 : RdV W W.heap.size A ws) (h2 : RdV W W.heap.size B ws) => (same_any W A B c d ws ws h1 h2 (by omega)).mono fun e w' h => (show e = .returned (.bool true) ∧ Below W.heap.size W w' from by rw [decide_eq_true rfl] at h; exact h)
  have e2 : (vb != vb) = false := by cases vb <;> rfl
  have HST := Lib.hid fun W AT cT (hN : RdN W W.heap.size AT (rot k l)) Ax cx (hx : RdI W W.heap.size Ax (rot k cs)) => sum_any W AT Ax cT cx (rot k l) (rot k cs) hN hs' (by omega) hx (by rw [rot_len]; omega)
  rw [rl, rot_len, hcs, (sum_rot k hcs).1, (sum_rot k hcs).2] at HST
  rw [hcs] at HSA hcc ⊢
  generalize sumV l cs = y at *
  generalize sumE l cs = se at *
  have heq := fun W => eql_vec y y W
  rw [decide_eq_true rfl] at heq
  have HCS := Lib.hid hcs
  clear hcs
  have HKX := Lib.hid hk
  have hnz : ¬ (l.length : Int) = 0 := by omega
  have HSH := Lib.hid fun W (hb : Below w.heap.size w W) => hr.up hb
  have rc := Lib.hid (hrc.up hB0)
  have w1 : IntKind.i64.wrap x = x := IntWalk.i64_in _ (by omega)
  have hk0 : (0 : Int) ≤ k := by omega
  have hkl : (k : Int) ≤ (l.length : Int) := by omega
  have hkc : (k : Int) ≤ (c : Int) := by omega
  have hln : ((l.length : Int) == 0) = false := by rw [beq_eq_false_iff_ne]; omega
  go_enter Tryd.func4, Tryd.ntmps4
  have tk0 := Lib.hid trivial
  go_wp2_with (first
    | (have _t := tk0; go_at_call 8; rw [← HW0.out]; have bp := Below.refl w0.heap.size w0; have hb := below_on H0.out bp; have rc' := rc.out.up bp; refine (HHD.out _ hb).mono ?_; rintro e v0w ⟨rfl, b'⟩; have b := below_on bp b'; have h0 := Lib.hid (below_on H0.out b); replace kv := Lib.hid (kv.out.below b kv.out.lt); replace rc := Lib.hid (rc.out.up b); have kvc0 := kv.out.cell 0; have kvc1 := kv.out.cell 1; have kvc2 := kv.out.cell 2; have kvc3 := kv.out.cell 3; have kvc4 := kv.out.cell 4; have kvc5 := kv.out.cell 5; have kvl := kv.out.lt; simp at kvc0 kvc1 kvc2 kvc3 kvc4 kvc5; have tk1 := Lib.hid trivial; clear b b' bp hb tk0 rc'))
  rw [HKX.out]
  have hsl := fun W => slice_from 22 50 7 Tryd.underlying22 (by kernel_rfl) size_named A l.length c k (by omega) W
  go_cut [13] (fun v wx => Hid (Below v0w.heap.size v0w wx) ∧ Hid (OwnN wx v0w.heap.size v (rot k l)))
  case first =>
    go_region_held3 (fun w' => Below v0w.heap.size v0w w')
      ((first
        | exact (Below.refl _ _).drew
        | exact Below.refl _ _
        | exact ((Below.refl _ _).alloc (Nat.le_refl _) _).drew
        | exact hbel4
        | exact hbel5))
      ((have hS : Below v0w.heap.size v0w _ := (by assumption); first
        | (refine step_apg _ (by rfl) (.tmp 44) (.tmp 47) 22 50 (.agg #[.string ⟨#[]⟩, .int .i64 0, .int .i64 0, .int .i64 0, .int .i64 0, .int .i64 0, .int .i64 0]) 7 64 rfl Tryd.underlying22 named_info rfl (by decide) v0w.heap.size _ 0 [] rfl ?_ (if c = k then A else A.map (·.add (k * 7))) (l.length - k) (c - k) (rcells Cm.cs (l.drop k)) rfl ⟨_, RdN.from_ (HSH.out _ (below_on h0.out hS)) (by omega) hlc⟩ (rcells_one Cm.cs Cm.cs_one _) (by simp only [maxLen]; omega) (by omega) ?_ ?_; exact owned_new v0w 50 7 v0w.heap.size (Nat.le_refl _); (first | exact Nat.le_refl _ | (simp <;> omega)); intro v4 w4 ho4 hg4 _; have hbel4 := below_grown (B := v0w.heap.size) (a := v0w) hS hg4 (by first | exact Nat.le_refl _ | (simp <;> omega)) (fun g hg => by have h2 : some v0w.heap.size = some g := hg; injection h2 with h2; omega); have hsz4 := hbel4.size)
        | (refine step_apg _ (by rfl) (.tmp 48) (.tmp 51) 22 50 (.agg #[.string ⟨#[]⟩, .int .i64 0, .int .i64 0, .int .i64 0, .int .i64 0, .int .i64 0, .int .i64 0]) 7 64 rfl Tryd.underlying22 named_info rfl (by decide) v0w.heap.size _ (0 + (l.length - k)) ([] ++ rcells Cm.cs (l.drop k)) rfl ?_ A k c (rcells Cm.cs (l.take k)) rfl ⟨_, RdN.take_ (HSH.out _ (below_on h0.out hS)) (by omega)⟩ (rcells_one Cm.cs Cm.cs_one _) (by simp only [maxLen]; omega) (by omega) ?_ ?_; exact ho4; (first | omega | (simp <;> omega)); intro v5 w5 ho5 hg5 _; have hbel5 := below_grown (B := v0w.heap.size) (a := v0w) hS hg5 (by first | omega | (simp <;> omega)) (fun g hg => (World.ownsRow.lt ho4 g hg).1); have HO5 := Lib.hid (OwnN.two (List.length_drop) (List.length_take_of_le (by omega)) ho5); have HB5 := Lib.hid hbel5)))
    all_goals
      go_wp2_with fail
      go_meet
      case rel => exact ⟨HB5.out, HO5.out⟩
  case rest =>
    obtain ⟨HB5, HO5⟩ := hcut
    obtain ⟨AT, cT, rfl, rn⟩ := HO5.out.form rl
    have rN := Lib.hid rn
    have H5 := Lib.hid (below_on h0.out HB5.out)
    replace kv := Lib.hid (kv.out.below HB5.out kv.out.lt)
    replace rc := Lib.hid (rc.out.up HB5.out)
    clear kvc0 kvc1 kvc2 kvc3 kvc4 kvc5 kvl hsl rn HB5 HO5 hkl hkc hnz hln
    have kvc0 := kv.out.cell 0
    have kvc1 := kv.out.cell 1
    have kvc2 := kv.out.cell 2
    have kvc3 := kv.out.cell 3
    have kvc4 := kv.out.cell 4
    have kvc5 := kv.out.cell 5
    have kvl := kv.out.lt
    simp at kvc0 kvc1 kvc2 kvc3 kvc4 kvc5
    obtain ⟨hbb, haa⟩ := HAB.out he0
    subst he0 hbb
    rw [haa] at HCA
    rw [rot_len, haa] at HCT
    have hcsb : ((l.length : Int) == (l.length : Int)) = true := by rw [beq_iff_eq]
    have haa6 : aa.length ≤ 6 := h6
    go_wp2_with (first
      | (have _t := tk1; go_at_call 10; have bp := Below.refl wc.heap.size wc; have hb := below_on H5.out bp; have rc' := rc.out.up bp; have rN' := rN.out.up bp; refine (HCA.out _ hb).mono ?_; rintro e v1w ⟨b', A2, c2, rfl, r2, z2⟩; have b := below_on bp b'; have h1 := Lib.hid (below_on H5.out b); replace kv := Lib.hid (kv.out.below b kv.out.lt); replace rc := Lib.hid (rc.out.up b); replace rN := Lib.hid (rN.out.up b); replace r2 := Lib.hid r2; have kvc0 := kv.out.cell 0; have kvc1 := kv.out.cell 1; have kvc2 := kv.out.cell 2; have kvc3 := kv.out.cell 3; have kvc4 := kv.out.cell 4; have kvc5 := kv.out.cell 5; have kvl := kv.out.lt; simp at kvc0 kvc1 kvc2 kvc3 kvc4 kvc5; have tk2 := Lib.hid trivial; clear b b' bp hb tk1 rc' rN')
      | (have _t := tk2; go_at_call 10; have bp := Below.refl v1w.heap.size v1w; have hb := below_on h1.out bp; have rc' := rc.out.up bp; have rN' := rN.out.up bp; have r2' := r2.out.up bp; refine (HCT.out _ _ _ rN').mono ?_; rintro e v2w ⟨b', A3, c3, rfl, r3, -⟩; have b := below_on bp b'; have h2 := Lib.hid (below_on h1.out b); replace kv := Lib.hid (kv.out.below b kv.out.lt); replace rc := Lib.hid (rc.out.up b); replace rN := Lib.hid (rN.out.up b); replace r2 := Lib.hid (r2.out.up b); replace r3 := Lib.hid r3; have kvc0 := kv.out.cell 0; have kvc1 := kv.out.cell 1; have kvc2 := kv.out.cell 2; have kvc3 := kv.out.cell 3; have kvc4 := kv.out.cell 4; have kvc5 := kv.out.cell 5; have kvl := kv.out.lt; simp at kvc0 kvc1 kvc2 kvc3 kvc4 kvc5; have tk3 := Lib.hid trivial; clear b b' bp hb tk2 rc' rN' r2')
      | (have _t := tk3; go_at_call 12; have bp := Below.refl v2w.heap.size v2w; have hb := below_on h2.out bp; have rc' := rc.out.up bp; have rN' := rN.out.up bp; have r2' := r2.out.up bp; have r3' := r3.out.up bp; refine (HVA.out _ hb).mono ?_; rintro e v3w ⟨rfl, b'⟩; have b := below_on bp b'; have h3 := Lib.hid (below_on h2.out b); replace kv := Lib.hid (kv.out.below b kv.out.lt); replace rc := Lib.hid (rc.out.up b); replace rN := Lib.hid (rN.out.up b); replace r2 := Lib.hid (r2.out.up b); replace r3 := Lib.hid (r3.out.up b); have kvc0 := kv.out.cell 0; have kvc1 := kv.out.cell 1; have kvc2 := kv.out.cell 2; have kvc3 := kv.out.cell 3; have kvc4 := kv.out.cell 4; have kvc5 := kv.out.cell 5; have kvl := kv.out.lt; simp at kvc0 kvc1 kvc2 kvc3 kvc4 kvc5; have tk4 := Lib.hid trivial; clear b b' bp hb tk3 rc' rN' r2' r3')
      | (have _t := tk4; go_at_call 12; have bp := Below.refl v3w.heap.size v3w; have hb := below_on h3.out bp; have rc' := rc.out.up bp; have rN' := rN.out.up bp; have r2' := r2.out.up bp; have r3' := r3.out.up bp; refine (HVT.out _ _ _ rN').mono ?_; rintro e v4w ⟨rfl, b'⟩; have b := below_on bp b'; have h4 := Lib.hid (below_on h3.out b); replace kv := Lib.hid (kv.out.below b kv.out.lt); replace rc := Lib.hid (rc.out.up b); replace rN := Lib.hid (rN.out.up b); replace r2 := Lib.hid (r2.out.up b); replace r3 := Lib.hid (r3.out.up b); have kvc0 := kv.out.cell 0; have kvc1 := kv.out.cell 1; have kvc2 := kv.out.cell 2; have kvc3 := kv.out.cell 3; have kvc4 := kv.out.cell 4; have kvc5 := kv.out.cell 5; have kvl := kv.out.lt; simp at kvc0 kvc1 kvc2 kvc3 kvc4 kvc5; have tk5 := Lib.hid trivial; clear b b' bp hb tk4 rc' rN' r2' r3'))
    have hkl : (k : Int) ≤ (l.length : Int) := by omega
    have hk2 : (k : Int) ≤ (c2 : Int) := by omega
    have hsl := fun W => slice_ints A2 l.length c2 k (by omega) W
    have z2' : aa.length ≤ c2 := by omega
    have HR2 : Hid (∀ W, Below v4w.heap.size v4w W → Shows W W.heap.size 1 (if c2 = k then A2 else A2.map (·.add k)) (l.length - k) (icells (aa.drop k)) ∧ Shows W W.heap.size 1 A2 k (icells (aa.take k))) := fun W hb => by
      have r := r2.out.up hb
      have r1 := r.from_ (k := k) (cap := c2) (by omega) z2'
      rw [haa] at r1
      exact ⟨r1, r.take_ (by omega)⟩
    have HIN := Lib.hid fun W A B (c d : Nat) (h1 : RdI W W.heap.size A (rot k aa)) (h2 : RdI W W.heap.size B (rot k aa)) => (ints_any W A B c d (rot k aa) (rot k aa) h1 h2 (by rw [rot_len]; omega)).mono fun e w' h => (show e = .returned (.bool true) ∧ Below W.heap.size W w' from by rw [decide_eq_true rfl] at h; exact h)
    rw [rot_len, haa] at HIN
    go_cut [11] (fun u wx => u = .bool true ∧ Hid (Below v4w.heap.size v4w wx))
    case first =>
      go_region_held3 (fun w' => Below v4w.heap.size v4w w')
        ((first
          | exact (Below.refl _ _).drew
          | exact Below.refl _ _
          | exact ((Below.refl _ _).alloc (Nat.le_refl _) _).drew
          | exact hbel4
          | exact hbel5
          | exact HB6.out))
        ((have hS : Below v4w.heap.size v4w _ := (by assumption); first
          | (refine step_apg _ (by rfl) (.tmp 92) (.tmp 95) 23 3 (.int .i64 0) 1 8 rfl Tryd.underlying23 int_info rfl (by decide) v4w.heap.size _ 0 [] rfl ?_ (if c2 = k then A2 else A2.map (·.add k)) (l.length - k) (c2 - k) (icells (aa.drop k)) rfl ⟨_, (HR2.out _ hS).1⟩ (icells_one _) (by simp only [maxLen]; omega) (by omega) ?_ ?_; exact owned_new v4w 3 1 v4w.heap.size (Nat.le_refl _); (first | exact Nat.le_refl _ | (simp <;> omega)); intro v4 w4 ho4 hg4 _; have hbel4 := below_grown (B := v4w.heap.size) (a := v4w) hS hg4 (by first | exact Nat.le_refl _ | (simp <;> omega)) (fun g hg => by have h2 : some v4w.heap.size = some g := hg; injection h2 with h2; omega); have hsz4 := hbel4.size)
          | (refine step_apg _ (by rfl) (.tmp 96) (.tmp 99) 23 3 (.int .i64 0) 1 8 rfl Tryd.underlying23 int_info rfl (by decide) v4w.heap.size _ (0 + (l.length - k)) ([] ++ icells (aa.drop k)) rfl ?_ A2 k c2 (icells (aa.take k)) rfl ⟨_, (HR2.out _ hS).2⟩ (icells_one _) (by simp only [maxLen]; omega) (by omega) ?_ ?_; exact ho4; (first | omega | (simp <;> omega)); intro v5 w5 ho5 hg5 _; have hbel5 := below_grown (B := v4w.heap.size) (a := v4w) hS hg5 (by first | omega | (simp <;> omega)) (fun g hg => (World.ownsRow.lt ho4 g hg).1); obtain ⟨A5, c5, rfl, r5⟩ := OwnZ.form (n := l.length) (l := rot k aa) (by rw [rot_len]; exact haa) (OwnZ.two (by rw [List.length_drop]; omega) (List.length_take_of_le (by omega)) ho5))
          | (go_at_call 11; refine (HIN.out _ _ _ _ _ (r3.out.up hS) r5).mono ?_; rintro e w6 ⟨rfl, b6⟩; have HB6 := Lib.hid (below_on hS b6))))
      all_goals
        go_wp2_with fail
        go_meet
        case rel => exact ⟨rfl, HB6.out⟩
    case rest =>
      obtain ⟨rfl, HBC⟩ := hcut
      obtain ⟨we1, hwe1⟩ : ∃ we1, we1 = wc := ⟨_, rfl⟩
      subst hwe1
      have hC1 := Lib.hid (below_on h4.out HBC.out)
      replace rc := Lib.hid (rc.out.up HBC.out)
      replace rN := Lib.hid (rN.out.up HBC.out)
      clear kvc0 kvc1 kvc2 kvc3 kvc4 kvc5 kvl HBC HR2 hsl
      go_wp2_with (first
        | (have _t := tk5; go_at_call 9; have bp := Below.refl we1.heap.size we1; have hb := below_on hC1.out bp; have rc' := rc.out.up bp; have rN' := rN.out.up bp; refine (HSA.out _ hb _ rc').mono ?_; rintro e v5w ⟨rfl, b'⟩; have b := below_on bp b'; have h5 := Lib.hid (below_on hC1.out b); replace rc := Lib.hid (rc.out.up b); replace rN := Lib.hid (rN.out.up b); have tk6 := Lib.hid trivial; clear b b' bp hb tk5 rc' rN'))
      obtain ⟨wq, hwq⟩ : ∃ wq, wq = v5w.alloc (.cells #[.int .i64 y.a, .int .i64 y.b, .int .i64 y.c, .int .i64 y.d, .int .i64 y.e, .int .i64 y.f] 25) := ⟨_, rfl⟩
      rw [← hwq]
      obtain ⟨g0, hg0⟩ : ∃ g0, g0 = v5w.heap.size := ⟨_, rfl⟩
      have kx : Hid (Blk wq g0 25 #[.int .i64 y.a, .int .i64 y.b, .int .i64 y.c, .int .i64 y.d, .int .i64 y.e, .int .i64 y.f]) := by rw [hwq, hg0]; exact Blk.new _ _ _
      have bq : Below v5w.heap.size v5w wq := by rw [hwq]; exact below_al (Below.refl _ _) _
      have HQ := Lib.hid (below_on h5.out bq)
      replace rc := Lib.hid (rc.out.up bq)
      replace rN := Lib.hid (rN.out.up bq)
      rw [← hg0]
      clear bq hwq hg0
      have hkl : (k : Int) ≤ (l.length : Int) := by omega
      have hk2 : (k : Int) ≤ (c1 : Int) := by omega
      have hsl := fun W => slice_ints A1 l.length c1 k (by omega) W
      have HR2 : Hid (∀ W, Below wq.heap.size wq W → Shows W W.heap.size 1 (if c1 = k then A1 else A1.map (·.add k)) (l.length - k) (icells (cs.drop k)) ∧ Shows W W.heap.size 1 A1 k (icells (cs.take k))) := fun W hb => by
        have r := rc.out.up hb
        have r1 := r.from_ (k := k) (cap := c1) (by have := HCS.out; omega) (by have := HCS.out; omega)
        rw [HCS.out] at r1
        exact ⟨r1, r.take_ (by have := HCS.out; omega)⟩
      have hdl : (cs.drop k).length = l.length - k := by rw [List.length_drop, HCS.out]
      have htl' : (cs.take k).length = k := List.length_take_of_le (by have := HCS.out; omega)
      have HDL := Lib.hid hdl
      have HTL := Lib.hid htl'
      clear hdl htl'
      go_cut [20, 21] (fun u e wx => ∃ g, u = .pointer (some ⟨g, 0, none⟩) ∧ e = .int .i64 se ∧ Hid (Below wq.heap.size wq wx) ∧ Hid (Blk wx g 25 #[.int .i64 y.a, .int .i64 y.b, .int .i64 y.c, .int .i64 y.d, .int .i64 y.e, .int .i64 y.f]))
      case first =>
        go_region_held3 (fun w' => Below wq.heap.size wq w')
          ((first
            | with_reducible exact below_set6 HB6.out hgK _ _ _ _ _ _
            | with_reducible exact (below_set6 HB6.out hgK _ _ _ _ _ _).drew
            | exact (Below.refl _ _).drew
            | exact Below.refl _ _
            | exact ((Below.refl _ _).alloc (Nat.le_refl _) _).drew
            | exact (((Below.refl _ _).alloc (Nat.le_refl _) _).alloc (by simp) _).drew
            | exact hbel4
            | exact hbel4.alloc hsz4 _
            | exact hbel5
            | exact hbel5.alloc hsz5 _
            | exact HB6.out
            | exact HB6.out.alloc HB6.out.size _))
          ((have hS : Below wq.heap.size wq _ := (by assumption); first
            | (refine step_apg _ (by rfl) (.tmp 116) (.tmp 119) 23 3 (.int .i64 0) 1 8 rfl Tryd.underlying23 int_info rfl (by decide) wq.heap.size _ 0 [] rfl ?_ (if c1 = k then A1 else A1.map (·.add k)) (l.length - k) (c1 - k) (icells (cs.drop k)) rfl ⟨_, (HR2.out _ hS).1⟩ (icells_one _) (by simp only [maxLen]; omega) (by omega) ?_ ?_; (first | exact owned_new wq 3 1 wq.heap.size (Nat.le_refl _) | exact World.ownsRow.alloc (owned_new wq 3 1 wq.heap.size (Nat.le_refl _)) (.cells #[.int .i64 0, .int .i64 0, .int .i64 0, .int .i64 0, .int .i64 0, .int .i64 0] 25) | exact owned_new1 wq (.cells #[.int .i64 0, .int .i64 0, .int .i64 0, .int .i64 0, .int .i64 0, .int .i64 0] 25) 3 1 wq.heap.size (Nat.le_refl _)); (first | exact Nat.le_refl _ | (simp <;> omega)); intro v4 w4 ho4 hg4 hv4; have hbel4 := below_grown (B := wq.heap.size) (a := wq) hS hg4 (by first | exact Nat.le_refl _ | (simp <;> omega)) (fun g hg => by have h2 : some wq.heap.size = some g ∨ some (wq.heap.size + 1) = some g := (by first | exact .inl hg | exact .inr hg); rcases h2 with h2 | h2 <;> (injection h2 with h2; omega)); have hsz4 := hbel4.size; (first | (have K0 := Lib.hid (Blk.grown (Blk.drew (Blk.alloc (Blk.new wq 25 #[.int .i64 0, .int .i64 0, .int .i64 0, .int .i64 0, .int .i64 0, .int .i64 0]) (.cells #[] 3))) hg4 (fun e => by have e2 : some (wq.heap.size + 1) = some wq.heap.size := e; injection e2 with e3; omega)); have hgK : wq.heap.size ≤ wq.heap.size := Nat.le_refl _; have hnK : v4.ownBlock ≠ some wq.heap.size := (by intro e; rcases hv4 with h | h <;> (have e3 := Option.some.inj (h.symm.trans e); first | omega | (simp at e3; done) | (simp [World.drew] at e3; done) | (simp at e3; omega) | (simp [World.drew] at e3; omega))); clear hv4) | (have K0 := Lib.hid (Blk.grown (Blk.alloc (Blk.new wq 25 #[.int .i64 0, .int .i64 0, .int .i64 0, .int .i64 0, .int .i64 0, .int .i64 0]) (.cells #[] 3)) hg4 (fun e => by have e2 : some (wq.heap.size + 1) = some wq.heap.size := e; injection e2 with e3; omega)); have hgK : wq.heap.size ≤ wq.heap.size := Nat.le_refl _; have hnK : v4.ownBlock ≠ some wq.heap.size := (by intro e; rcases hv4 with h | h <;> (have e3 := Option.some.inj (h.symm.trans e); first | omega | (simp at e3; done) | (simp [World.drew] at e3; done) | (simp at e3; omega) | (simp [World.drew] at e3; omega))); clear hv4) | (have K0 := Lib.hid (Blk.grown (Blk.drew (blk_new1 (w := wq) (o := (.cells #[] 3)) (g := wq.heap.size + 1) (t := 25) (cs := #[.int .i64 0, .int .i64 0, .int .i64 0, .int .i64 0, .int .i64 0, .int .i64 0]) rfl)) hg4 (fun e => by have e2 : some wq.heap.size = some (wq.heap.size + 1) := e; injection e2 with e3; omega)); have hgK : wq.heap.size ≤ wq.heap.size + 1 := Nat.le_succ _; have hnK : v4.ownBlock ≠ some (wq.heap.size + 1) := (by intro e; rcases hv4 with h | h <;> (have e3 := Option.some.inj (h.symm.trans e); first | omega | (simp at e3; done) | (simp [World.drew] at e3; done) | (simp at e3; omega) | (simp [World.drew] at e3; omega))); clear hv4) | (have K0 := Lib.hid (Blk.grown (blk_new1 (w := wq) (o := (.cells #[] 3)) (g := wq.heap.size + 1) (t := 25) (cs := #[.int .i64 0, .int .i64 0, .int .i64 0, .int .i64 0, .int .i64 0, .int .i64 0]) rfl) hg4 (fun e => by have e2 : some wq.heap.size = some (wq.heap.size + 1) := e; injection e2 with e3; omega)); have hgK : wq.heap.size ≤ wq.heap.size + 1 := Nat.le_succ _; have hnK : v4.ownBlock ≠ some (wq.heap.size + 1) := (by intro e; rcases hv4 with h | h <;> (have e3 := Option.some.inj (h.symm.trans e); first | omega | (simp at e3; done) | (simp [World.drew] at e3; done) | (simp at e3; omega) | (simp [World.drew] at e3; omega))); clear hv4) | clear hv4))
            | (refine step_apg _ (by rfl) (.tmp 120) (.tmp 123) 23 3 (.int .i64 0) 1 8 rfl Tryd.underlying23 int_info rfl (by decide) wq.heap.size _ (0 + (l.length - k)) ([] ++ icells (cs.drop k)) rfl ?_ A1 k c1 (icells (cs.take k)) rfl ⟨_, (HR2.out _ hS).2⟩ (icells_one _) (by simp only [maxLen]; omega) (by omega) ?_ ?_; (first | exact ho4 | exact World.ownsRow.alloc ho4 (.cells #[.int .i64 0, .int .i64 0, .int .i64 0, .int .i64 0, .int .i64 0, .int .i64 0] 25)); (first | omega | (simp <;> omega)); intro v5 w5 ho5 hg5 _; have hbel5 := below_grown (B := wq.heap.size) (a := wq) hS hg5 (by first | omega | (simp <;> omega)) (fun g hg => (World.ownsRow.lt ho4 g hg).1); have hsz5 := hbel5.size; (first | (replace K0 := Lib.hid (Blk.grown K0.out hg5 hnK)) | (have K0 := Lib.hid (Blk.grown (Blk.drew (Blk.new w4 25 #[.int .i64 0, .int .i64 0, .int .i64 0, .int .i64 0, .int .i64 0, .int .i64 0])) hg5 (fun e => by have := (World.ownsRow.lt ho4 _ e).2; omega)); have hgK : wq.heap.size ≤ w4.heap.size := hsz4) | (have K0 := Lib.hid (Blk.grown (Blk.new w4 25 #[.int .i64 0, .int .i64 0, .int .i64 0, .int .i64 0, .int .i64 0, .int .i64 0]) hg5 (fun e => by have := (World.ownsRow.lt ho4 _ e).2; omega)); have hgK : wq.heap.size ≤ w4.heap.size := hsz4) | skip); obtain ⟨A5, c5, rfl, r5⟩ := OwnZ.form (n := l.length) (l := rot k cs) (by rw [rot_len]; exact HCS.out) (OwnZ.two HDL.out HTL.out ho5))
            | (go_at_call 9; refine (HST.out _ _ _ (rN.out.up hS) _ _ ?_).mono ?_; (first | exact r5 | exact RdI.up r5 (below_al (Below.refl _ _) _)); rintro e w6 ⟨rfl, b6⟩; have HB6 := Lib.hid (below_on hS b6); (first | (have K := Lib.hid (K0.out.below b6 K0.out.lt); have s0 := K.out.cell 0; have s1 := K.out.cell 1; have s2 := K.out.cell 2; have s3 := K.out.cell 3; have s4 := K.out.cell 4; have s5 := K.out.cell 5; have f0 := K.out.frozen 0; have f1 := K.out.frozen 1; have f2 := K.out.frozen 2; have f3 := K.out.frozen 3; have f4 := K.out.frozen 4; have f5 := K.out.frozen 5; simp at s0 s1 s2 s3 s4 s5) | (have K := Lib.hid (Blk.below (Blk.drew (Blk.new w5 25 #[.int .i64 0, .int .i64 0, .int .i64 0, .int .i64 0, .int .i64 0, .int .i64 0])) b6 (Blk.lt (Blk.new w5 25 #[.int .i64 0, .int .i64 0, .int .i64 0, .int .i64 0, .int .i64 0, .int .i64 0]))); have hgK : wq.heap.size ≤ w5.heap.size := hsz5; have s0 := K.out.cell 0; have s1 := K.out.cell 1; have s2 := K.out.cell 2; have s3 := K.out.cell 3; have s4 := K.out.cell 4; have s5 := K.out.cell 5; have f0 := K.out.frozen 0; have f1 := K.out.frozen 1; have f2 := K.out.frozen 2; have f3 := K.out.frozen 3; have f4 := K.out.frozen 4; have f5 := K.out.frozen 5; simp at s0 s1 s2 s3 s4 s5) | (have K := Lib.hid (Blk.below (Blk.new w5 25 #[.int .i64 0, .int .i64 0, .int .i64 0, .int .i64 0, .int .i64 0, .int .i64 0]) b6 (Blk.lt (Blk.new w5 25 #[.int .i64 0, .int .i64 0, .int .i64 0, .int .i64 0, .int .i64 0, .int .i64 0]))); have hgK : wq.heap.size ≤ w5.heap.size := hsz5; have s0 := K.out.cell 0; have s1 := K.out.cell 1; have s2 := K.out.cell 2; have s3 := K.out.cell 3; have s4 := K.out.cell 4; have s5 := K.out.cell 5; have f0 := K.out.frozen 0; have f1 := K.out.frozen 1; have f2 := K.out.frozen 2; have f3 := K.out.frozen 3; have f4 := K.out.frozen 4; have f5 := K.out.frozen 5; simp at s0 s1 s2 s3 s4 s5) | skip))))
        all_goals
          go_wp2_with fail
          go_meet
          case rel => exact ⟨_, rfl, rfl, by (first | exact below_set6 HB6.out hgK _ _ _ _ _ _ | exact HB6.out.alloc HB6.out.size _), by (first | exact K.out.set6 _ _ _ _ _ _ | exact Blk.new w6 25 #[.int .i64 y.a, .int .i64 y.b, .int .i64 y.c, .int .i64 y.d, .int .i64 y.e, .int .i64 y.f])⟩
      case rest =>
        obtain ⟨g, rfl, rfl, HBC, KY⟩ := hcut
        obtain ⟨we2, hwe2⟩ : ∃ we2, we2 = wc := ⟨_, rfl⟩
        subst hwe2
        have hC2 := Lib.hid (below_on HQ.out HBC.out)
        have KX := Lib.hid (kx.out.below HBC.out kx.out.lt)
        replace rN := Lib.hid (rN.out.up HBC.out)
        clear HBC HR2 hsl kx
        have kxc0 := KX.out.cell 0
        have kyc0 := KY.out.cell 0
        have kxc1 := KX.out.cell 1
        have kyc1 := KY.out.cell 1
        have kxc2 := KX.out.cell 2
        have kyc2 := KY.out.cell 2
        have kxc3 := KX.out.cell 3
        have kyc3 := KY.out.cell 3
        have kxc4 := KX.out.cell 4
        have kyc4 := KY.out.cell 4
        have kxc5 := KX.out.cell 5
        have kyc5 := KY.out.cell 5
        simp at kxc0 kyc0 kxc1 kyc1 kxc2 kyc2 kxc3 kyc3 kxc4 kyc4 kxc5 kyc5
        go_wp2_with fail
        obtain ⟨wL, hwL⟩ : ∃ wL, wL = we2 := ⟨_, rfl⟩
        rw [← hwL]
        have HL : Hid (Below w.heap.size w wL) := by rw [hwL]; exact hC2.out
        have rL : Hid (RdN wL wL.heap.size AT (rot k l)) := by rw [hwL]; exact rN.out
        clear hwL
        have HTL2 := Lib.hid (HRT.out.up HL.out)
        obtain ⟨ms, hms⟩ : ∃ ms, ms = ts.map (mvT l.length k) := ⟨_, rfl⟩
        have HMS : Hid (∀ j, j < ts.length → ms.take (j + 1) = ms.take j ++ [mvT l.length k (ts.getD j ⟨0, 0, 0, 0⟩)]) := fun j hj => by rw [hms]; exact take_mv hj _
        have HML : Hid (ms.length = ts.length) := by rw [hms]; exact rt
        have HWT2 := HWT
        rw [← hms] at HWT2
        clear hms HWT
        go_loopw [22, 23] (fun o i wx => ∃ j : Nat, j ≤ ts.length ∧ i = .int .i64 j ∧ Hid (Below wL.heap.size wL wx) ∧ Hid (OwnT wx wL.heap.size o (ms.take j))) (fun _ i _ => ts.length - (intOf i).toNat)
        case atStart => exact ⟨0, Nat.zero_le _, rfl, Below.refl _ _, OwnT.start _ _⟩
        case round =>
          obtain ⟨j, hj, rfl, HB, HO⟩ := hrel
          by_cases hlt : j < ts.length
          · have hjl : (j : Int) < (ts.length : Int) := by omega
            obtain ⟨ad, rfl, had, q0, q1, q2, q3⟩ := HTL2.out.at hlt
            have hgt := getD_at hlt (⟨0, 0, 0, 0⟩ : Tk)
            rw [← hgt] at q0 q1 q2 q3
            have HMJ := Lib.hid (HMS.out j hlt)
            have HTJ : Hid ((ms.take j).length = j) := by show _ = _; rw [List.length_take, HML.out]; omega
            replace q0 := (HB.out.cell (p := ad.add (j * 4)) (by rw [add_block]; exact had)).trans q0
            replace q1 := (HB.out.cell (p := ⟨(ad.add (j * 4)).block, (ad.add (j * 4)).off + 1, none⟩) (by show (ad.add (j * 4)).block < _; rw [add_block]; exact had)).trans q1
            replace q2 := (HB.out.cell (p := ⟨(ad.add (j * 4)).block, (ad.add (j * 4)).off + 2, none⟩) (by show (ad.add (j * 4)).block < _; rw [add_block]; exact had)).trans q2
            replace q3 := (HB.out.cell (p := ⟨(ad.add (j * 4)).block, (ad.add (j * 4)).off + 3, none⟩) (by show (ad.add (j * 4)).block < _; rw [add_block]; exact had)).trans q3
            generalize ts.getD j ⟨0, 0, 0, 0⟩ = t at *
            obtain ⟨ms', hms'⟩ : ∃ m, m = ms.take j := ⟨_, rfl⟩
            rw [← hms'] at HO HMJ HTJ
            obtain ⟨t1, t2, t3, t4⟩ := t
            clear hgt hms' had
            have hwz := HB.out.size
            have HOJ : Hid (wr.ownsRow wL.heap.size 37 4 u22 j (rcells Tk.cs ms')) := by
              have h := HO.out
              unfold OwnT at h
              rw [HTJ.out] at h
              exact h
            by_cases hn0 : t3 = 0
            · subst hn0
              have HMV : Hid (mvT l.length k ⟨t1, t2, 0, t4⟩ = ⟨t1, t2, 0, t4⟩) := mv_no (.inl rfl)
              have HB0 := Lib.hid (below_al (below_al HB.out (.cells #[.int .i64 t1, .int .i64 t2, .int .i64 0, .int .i64 t4] 37)) (.cells #[.int .i64 t1, .int .i64 t2, .int .i64 0, .int .i64 t4] 37))
              go_wp2_with (at_builtin; refine wpList_app _ rfl (.tmp 175) (.tmp 177) 34 37 (.agg #[.int .i64 0, .int .i64 0, .int .i64 0, .int .i64 0]) 4 32 rfl Tryd.underlying34 take_info rfl (by decide) wL.heap.size _ j (rcells Tk.cs ms') rfl (World.ownsRow.alloc (World.ownsRow.alloc HOJ.out (.cells #[.int .i64 t1, .int .i64 t2, .int .i64 0, .int .i64 t4] 37)) (.cells #[.int .i64 t1, .int .i64 t2, .int .i64 0, .int .i64 t4] 37)) (wr.heap.size + 2) (some ⟨wr.heap.size + 1, 0, none⟩) 1 1 (Tk.cs ⟨t1, t2, 0, t4⟩) rfl (shows_new1 wr (.cells #[.int .i64 t1, .int .i64 t2, .int .i64 0, .int .i64 t4] 37) #[.int .i64 t1, .int .i64 t2, .int .i64 0, .int .i64 t4] 37 1 4 rfl) (Tk.cs_one _) (by simp only [maxLen]; omega) (by omega) (by simp; omega) ?_; intro v6 w6 ho6 hg6 _; have HB6 := Lib.hid (below_grown HB0.out hg6 (by simp; omega) (fun g hg => (World.ownsRow.lt HOJ.out g hg).1)); have HO6 := Lib.hid (OwnT.snoc HTJ.out ho6); clear ho6 hg6)
              go_roundw
              case rel => exact ⟨j + 1, by omega, by go_num, HB6.out, by show OwnT _ _ _ _; rw [HMJ.out, HMV.out]; exact HO6.out⟩
              case measure => simp [intOf]; omega
            · have hn1 : (t3 != 0) = true := by rw [bne_iff_ne]; exact hn0
              by_cases hc0 : t2 < 0
              · have HMV : Hid (mvT l.length k ⟨t1, t2, t3, t4⟩ = ⟨t1, t2, t3, t4⟩) := mv_no (.inr (.inl hc0))
                clear hn0
                have HB0 := Lib.hid (below_al (below_al HB.out (.cells #[.int .i64 t1, .int .i64 t2, .int .i64 t3, .int .i64 t4] 37)) (.cells #[.int .i64 t1, .int .i64 t2, .int .i64 t3, .int .i64 t4] 37))
                go_wp2_with (at_builtin; refine wpList_app _ rfl (.tmp 175) (.tmp 177) 34 37 (.agg #[.int .i64 0, .int .i64 0, .int .i64 0, .int .i64 0]) 4 32 rfl Tryd.underlying34 take_info rfl (by decide) wL.heap.size _ j (rcells Tk.cs ms') rfl (World.ownsRow.alloc (World.ownsRow.alloc HOJ.out (.cells #[.int .i64 t1, .int .i64 t2, .int .i64 t3, .int .i64 t4] 37)) (.cells #[.int .i64 t1, .int .i64 t2, .int .i64 t3, .int .i64 t4] 37)) (wr.heap.size + 2) (some ⟨wr.heap.size + 1, 0, none⟩) 1 1 (Tk.cs ⟨t1, t2, t3, t4⟩) rfl (shows_new1 wr (.cells #[.int .i64 t1, .int .i64 t2, .int .i64 t3, .int .i64 t4] 37) #[.int .i64 t1, .int .i64 t2, .int .i64 t3, .int .i64 t4] 37 1 4 rfl) (Tk.cs_one _) (by simp only [maxLen]; omega) (by omega) (by simp; omega) ?_; intro v6 w6 ho6 hg6 _; have HB6 := Lib.hid (below_grown HB0.out hg6 (by simp; omega) (fun g hg => (World.ownsRow.lt HOJ.out g hg).1)); have HO6 := Lib.hid (OwnT.snoc HTJ.out ho6); clear ho6 hg6)
                go_roundw
                case rel => exact ⟨j + 1, by omega, by go_num, HB6.out, by show OwnT _ _ _ _; rw [HMJ.out, HMV.out]; exact HO6.out⟩
                case measure => simp [intOf]; omega
              · have hc1 : 0 ≤ t2 := by omega
                by_cases hcl : (l.length : Int) ≤ t2
                · have HMV : Hid (mvT l.length k ⟨t1, t2, t3, t4⟩ = ⟨t1, t2, t3, t4⟩) := mv_no (.inr (.inr hcl))
                  clear hn0
                  have HB0 := Lib.hid (below_al (below_al HB.out (.cells #[.int .i64 t1, .int .i64 t2, .int .i64 t3, .int .i64 t4] 37)) (.cells #[.int .i64 t1, .int .i64 t2, .int .i64 t3, .int .i64 t4] 37))
                  go_wp2_with (at_builtin; refine wpList_app _ rfl (.tmp 175) (.tmp 177) 34 37 (.agg #[.int .i64 0, .int .i64 0, .int .i64 0, .int .i64 0]) 4 32 rfl Tryd.underlying34 take_info rfl (by decide) wL.heap.size _ j (rcells Tk.cs ms') rfl (World.ownsRow.alloc (World.ownsRow.alloc HOJ.out (.cells #[.int .i64 t1, .int .i64 t2, .int .i64 t3, .int .i64 t4] 37)) (.cells #[.int .i64 t1, .int .i64 t2, .int .i64 t3, .int .i64 t4] 37)) (wr.heap.size + 2) (some ⟨wr.heap.size + 1, 0, none⟩) 1 1 (Tk.cs ⟨t1, t2, t3, t4⟩) rfl (shows_new1 wr (.cells #[.int .i64 t1, .int .i64 t2, .int .i64 t3, .int .i64 t4] 37) #[.int .i64 t1, .int .i64 t2, .int .i64 t3, .int .i64 t4] 37 1 4 rfl) (Tk.cs_one _) (by simp only [maxLen]; omega) (by omega) (by simp; omega) ?_; intro v6 w6 ho6 hg6 _; have HB6 := Lib.hid (below_grown HB0.out hg6 (by simp; omega) (fun g hg => (World.ownsRow.lt HOJ.out g hg).1)); have HO6 := Lib.hid (OwnT.snoc HTJ.out ho6); clear ho6 hg6)
                  go_roundw
                  case rel => exact ⟨j + 1, by omega, by go_num, HB6.out, by show OwnT _ _ _ _; rw [HMJ.out, HMV.out]; exact HO6.out⟩
                  case measure => simp [intOf]; omega
                · have hc2 : t2 < (l.length : Int) := by omega
                  have HMV : Hid (mvT l.length k ⟨t1, t2, t3, t4⟩ = ⟨t1, (t2 + l.length - k) % l.length, t3, t4⟩) := mv_yes hn0 hc1 hc2
                  have w1 : IntKind.i64.wrap (t2 + l.length) = t2 + l.length := IntWalk.i64_in _ (by omega)
                  have w2 : IntKind.i64.wrap (t2 + l.length - k) = t2 + l.length - k := IntWalk.i64_in _ (by omega)
                  clear hn0
                  have HB0 := Lib.hid (below_al (below_al HB.out (.cells #[.int .i64 t1, .int .i64 ((t2 + l.length - k) % l.length), .int .i64 t3, .int .i64 t4] 37)) (.cells #[.int .i64 t1, .int .i64 ((t2 + l.length - k) % l.length), .int .i64 t3, .int .i64 t4] 37))
                  go_wp2_with (at_builtin; refine wpList_app _ rfl (.tmp 175) (.tmp 177) 34 37 (.agg #[.int .i64 0, .int .i64 0, .int .i64 0, .int .i64 0]) 4 32 rfl Tryd.underlying34 take_info rfl (by decide) wL.heap.size _ j (rcells Tk.cs ms') rfl (World.ownsRow.alloc (World.ownsRow.alloc HOJ.out (.cells #[.int .i64 t1, .int .i64 ((t2 + l.length - k) % l.length), .int .i64 t3, .int .i64 t4] 37)) (.cells #[.int .i64 t1, .int .i64 ((t2 + l.length - k) % l.length), .int .i64 t3, .int .i64 t4] 37)) (wr.heap.size + 2) (some ⟨wr.heap.size + 1, 0, none⟩) 1 1 (Tk.cs ⟨t1, ((t2 + l.length - k) % l.length), t3, t4⟩) rfl (shows_new1 wr (.cells #[.int .i64 t1, .int .i64 ((t2 + l.length - k) % l.length), .int .i64 t3, .int .i64 t4] 37) #[.int .i64 t1, .int .i64 ((t2 + l.length - k) % l.length), .int .i64 t3, .int .i64 t4] 37 1 4 rfl) (Tk.cs_one _) (by simp only [maxLen]; omega) (by omega) (by simp; omega) ?_; intro v6 w6 ho6 hg6 _; have HB6 := Lib.hid (below_grown HB0.out hg6 (by simp; omega) (fun g hg => (World.ownsRow.lt HOJ.out g hg).1)); have HO6 := Lib.hid (OwnT.snoc HTJ.out ho6); clear ho6 hg6)
                  go_roundw
                  case rel => exact ⟨j + 1, by omega, by go_num, HB6.out, by show OwnT _ _ _ _; rw [HMJ.out, HMV.out]; exact HO6.out⟩
                  case measure => simp [intOf]; omega
          · obtain rfl : j = ts.length := by omega
            have hom : OwnT wr wL.heap.size u22 ms := by have := HO.out; rw [List.take_of_length_le (by rw [HML.out]; exact Nat.le_refl _)] at this; exact this
            obtain ⟨Am, cm, rfl, rm⟩ := OwnT.form HML.out hom
            have rM := Lib.hid rm
            have HLE := Lib.hid (below_on HL.out HB.out)
            have rE := Lib.hid (rL.out.up HB.out)
            clear hom rm HO
            have tk60 := Lib.hid trivial
            go_wp2_with (first
              | (have _t := tk60; go_at_call 13; have bp := Below.refl wr.heap.size wr; have hb := below_on HLE.out bp; have rE' := rE.out.up bp; refine (HWA.out _ hb).mono ?_; rintro e v60w ⟨b', A6, c6, rfl, r6⟩; have b := below_on bp b'; have h60 := Lib.hid (below_on HLE.out b); replace rE := Lib.hid (rE.out.up b); replace r6 := Lib.hid r6; have bM := b; have tk61 := Lib.hid trivial; clear b' bp hb tk60 rE')
              | (have _t := tk61; go_at_call 13; have bp := Below.refl v60w.heap.size v60w; have hb := below_on h60.out bp; have rE' := rE.out.up bp; have r6' := r6.out.up bp; refine (HWT2.out _ _ _ rE' _ _ (rM.out.up bM)).mono ?_; rintro e v61w ⟨b', A7, c7, rfl, r7⟩; have b := below_on bp b'; have h61 := Lib.hid (below_on h60.out b); replace rE := Lib.hid (rE.out.up b); replace r6 := Lib.hid (r6.out.up b); replace r7 := Lib.hid r7; have tk62 := Lib.hid trivial; clear b b' bp hb tk61 rE' r6')
              | (have _t := tk62; go_at_call 14; have bp := Below.refl v61w.heap.size v61w; have hb := below_on h61.out bp; have rE' := rE.out.up bp; have r6' := r6.out.up bp; have r7' := r7.out.up bp; refine (HSM.out _ _ _ _ _ r6' r7').mono ?_; rintro e v62w ⟨rfl, b'⟩; have b := below_on bp b'; have h62 := Lib.hid (below_on h61.out b); replace rE := Lib.hid (rE.out.up b); replace r6 := Lib.hid (r6.out.up b); replace r7 := Lib.hid (r7.out.up b); have tk63 := Lib.hid trivial; clear b b' bp hb tk62 rE' r6' r7'))
            go_ret
            exact ⟨rfl, h62.out⟩

end Go.Proofs.YtipaapplingbnaaDoor
