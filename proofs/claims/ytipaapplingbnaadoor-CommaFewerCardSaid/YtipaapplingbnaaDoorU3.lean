/- Walks: CommaFewer. -/
import Derived.Test.YtipaapplingbnaaDoorPb
import Derived.Deep.RegionHeld3
namespace Go.Proofs.YtipaapplingbnaaDoor
open Go.RowKit Go.Deep

theorem RdN.head {w : World} {B : Nat} {A : Option Addr} {m : List Cm} {x : Cm} (h : RdN w B A (m ++ [x])) : RdN w B A m := by
  have := Shows.head (k := m.length) h (by simp)
  rw [← rcells_take Cm.cs 7 Cm.cs_len, List.take_left' rfl] at this
  exact this
theorem RdI.head {w : World} {B : Nat} {A : Option Addr} {m : List Int} {x : Int} (h : RdI w B A (m ++ [x])) : RdI w B A m := by
  have := Shows.head (k := m.length) h (by simp)
  rw [Nat.mul_one, icells_append, List.take_left' (by rw [icells_length])] at this
  exact this
set_option maxRecDepth 100000 in
set_option maxHeartbeats 8000000 in
theorem fewer_any (w : World) (A : Option Addr) (c : Nat) (l : List Cm) (v : Vc) (hr : RdN w w.heap.size A l) (hs : ∀ x ∈ l, x.nm.length ≤ 9223372036854775807) (hll : l.length ≤ 9223372036854775807) (hlc : l.length ≤ c) (hT : Tab w) (hE : Errs w) :
    Calls Tryd.prog 7 #[.slice A l.length c, .agg #[.int .i64 v.a, .int .i64 v.b, .int .i64 v.c, .int .i64 v.d, .int .i64 v.e, .int .i64 v.f]] w fun e w' => e = .returned (.bool true) ∧ Below w.heap.size w w' := by
  have HHD := Lib.hid fun W (hb : Below w.heap.size w W) => head_any W (hT.below hb) (hE.below hb)
  have HVL := Lib.hid fun W (hb : Below w.heap.size w W) => valid_any W A c l (hr.up hb) hs hll
  obtain ⟨w0, hw0⟩ : ∃ w0, w0 = w.alloc (.cells #[.int .i64 v.a, .int .i64 v.b, .int .i64 v.c, .int .i64 v.d, .int .i64 v.e, .int .i64 v.f] 25) := ⟨_, rfl⟩
  have hB0 : Below w.heap.size w w0 := by rw [hw0]; exact (Below.refl w.heap.size w).alloc (Nat.le_refl _) (.cells v.cells 25)
  have H0 := Lib.hid hB0
  have kv : Hid (Blk w0 w.heap.size 25 v.cells) := by rw [hw0]; exact Blk.new w 25 v.cells
  have HW0 := Lib.hid hw0
  by_cases h2 : l.length < 2
  · have hi2 : (l.length : Int) < 2 := by omega
    have hd2 : decide ((l.length : Int) < 2) = true := by rw [decide_eq_true_eq]; exact hi2
    clear hr hT hE hB0 hw0 hs hll hlc
    go_enter Tryd.func7, Tryd.ntmps7
    have tk0 := Lib.hid trivial
    go_wp2_with (first
      | (have _t := tk0; go_at_call 8; rw [← HW0.out]; have bp := Below.refl w0.heap.size w0; have hb := below_on H0.out bp; refine (HHD.out _ hb).mono ?_; rintro e v0w ⟨rfl, b'⟩; have b := below_on bp b'; have h0 := Lib.hid (below_on H0.out b); replace kv := Lib.hid (kv.out.below b kv.out.lt); have kvc0 := kv.out.cell 0; have kvc1 := kv.out.cell 1; have kvc2 := kv.out.cell 2; have kvc3 := kv.out.cell 3; have kvc4 := kv.out.cell 4; have kvc5 := kv.out.cell 5; have kvl := kv.out.lt; simp at kvc0 kvc1 kvc2 kvc3 kvc4 kvc5; have tk1 := Lib.hid trivial; clear b b' bp hb tk0))
    go_ret
    exact ⟨rfl, h0.out⟩
  · have hi2 : ¬ (l.length : Int) < 2 := by omega
    have hd2 : decide ((l.length : Int) < 2) = false := by rw [decide_eq_false_iff_not]; exact hi2
    rcases hvb : validB l with _ | _
    · rw [hvb] at HVL
      clear hr hT hE hB0 hw0 hs hll hlc hvb
      go_enter Tryd.func7, Tryd.ntmps7
      have tk0 := Lib.hid trivial
      go_wp2_with (first
        | (have _t := tk0; go_at_call 8; rw [← HW0.out]; have bp := Below.refl w0.heap.size w0; have hb := below_on H0.out bp; refine (HHD.out _ hb).mono ?_; rintro e v0w ⟨rfl, b'⟩; have b := below_on bp b'; have h0 := Lib.hid (below_on H0.out b); replace kv := Lib.hid (kv.out.below b kv.out.lt); have kvc0 := kv.out.cell 0; have kvc1 := kv.out.cell 1; have kvc2 := kv.out.cell 2; have kvc3 := kv.out.cell 3; have kvc4 := kv.out.cell 4; have kvc5 := kv.out.cell 5; have kvl := kv.out.lt; simp at kvc0 kvc1 kvc2 kvc3 kvc4 kvc5; have tk1 := Lib.hid trivial; clear b b' bp hb tk0)
        | (have _t := tk1; go_at_call 12; have bp := Below.refl v0w.heap.size v0w; have hb := below_on h0.out bp; refine (HVL.out _ hb).mono ?_; rintro e v1w ⟨rfl, b'⟩; have b := below_on bp b'; have h1 := Lib.hid (below_on h0.out b); replace kv := Lib.hid (kv.out.below b kv.out.lt); have kvc0 := kv.out.cell 0; have kvc1 := kv.out.cell 1; have kvc2 := kv.out.cell 2; have kvc3 := kv.out.cell 3; have kvc4 := kv.out.cell 4; have kvc5 := kv.out.cell 5; have kvl := kv.out.lt; simp at kvc0 kvc1 kvc2 kvc3 kvc4 kvc5; have tk2 := Lib.hid trivial; clear b b' bp hb tk1))
      go_ret
      exact ⟨rfl, h1.out⟩
    · have hL := validB_iff.1 hvb
      have hl6 := hL.hi
      obtain ⟨m, x, rfl⟩ : ∃ m x, l = m ++ [x] := by
        have hne : l ≠ [] := fun e => by rw [e] at h2; simp at h2
        exact ⟨l.dropLast, l.getLast hne, (List.dropLast_concat_getLast hne).symm⟩
      have hml : (m ++ [x]).length = m.length + 1 := by simp
      have hm1 : 1 ≤ m.length := by omega
      have hVM := validB_true (hL.init hm1)
      have HVM := Lib.hid fun W (hb : Below w.heap.size w W) => valid_any W A c m (RdN.head (hr.up hb)) (fun y hy => hs y (by simp [hy])) (by omega)
      have HCL := Lib.hid fun W (hb : Below w.heap.size w W) => counts_any W A c (m ++ [x]) v (hr.up hb) hs hll
      have HCM := Lib.hid fun W (hb : Below w.heap.size w W) => counts_any W A c m v (RdN.head (hr.up hb)) (fun y hy => hs y (by simp [hy])) (by omega)
      obtain ⟨hlaw1, hlaw2⟩ := fewer_law (v := v) hL hm1
      have hsm := cnt_small m v
      have hsl := cnt_small (m ++ [x]) v
      unfold CntEnds at HCL HCM
      rw [hVM] at HVM
      rw [hvb] at HVL
      rw [hml] at HVL HCL hi2 hd2 hlc ⊢
      have hwN : IntKind.i64.wrap (((m.length + 1 : Nat) : Int) - 1) = (m.length : Int) := by rw [IntWalk.i64_in _ (by omega)]; omega
      have hwN2 : IntKind.i64.wrap ((m.length : Int) + 1) = ((m.length + 1 : Nat) : Int) := by rw [IntWalk.i64_in _ (by omega)]; omega
      have hnc : (m.length : Int) ≤ (c : Int) := by omega
      have hm6 : m.length ≤ 5 := by omega
      have hw64 : wrap64 (m.length : Int) = (m.length : Int) := by unfold wrap64; omega
      have hw65 : wrap64 ((m.length : Int) + 1) = (m.length : Int) + 1 := by unfold wrap64; omega
      clear hr hT hE hB0 hw0 hs hll hsl hvb hL hl6 h2 hVM
      by_cases he : cntK (m ++ [x]) v = 0
      · obtain ⟨ds, k, hd, hVV, hk1, hk2⟩ := hlaw2 he
        have hdl : (ds ++ [k]).length = m.length + 1 := by simp [hd]
        rw [he, hVV, hdl] at HCL
        by_cases hk : k = 0
        · obtain ⟨e1, e2⟩ := hk2 hk
          rw [e1, e2, hd] at HCM
          subst hk
          have HIN := Lib.hid fun W A B (c d : Nat) (h1 : RdI W W.heap.size A ds) (h2 : RdI W W.heap.size B (ds ++ [0])) => (ints_any W A B c d ds ds h1 (RdI.head h2) (by omega)).mono fun e w' h => (show e = .returned (.bool true) ∧ Below W.heap.size W w' from by rw [decide_eq_true rfl] at h; exact h)
          rw [hd] at HIN
          have HAT := Lib.hid fun W A (h : RdI W W.heap.size A (ds ++ [0])) => h.at (i := m.length) (by rw [hdl]; omega)
          have hget : (ds ++ [(0 : Int)]).getD m.length 0 = 0 := by rw [← hd]; simp
          rw [hget] at HAT
          clear hlaw1 hlaw2 hsm e1 e2 hVV he hk1 hk2 hget hdl hm1 hml
          generalize m.length = N at *
          go_enter Tryd.func7, Tryd.ntmps7
          have tk0 := Lib.hid trivial
          go_wp2_with (first
            | (have _t := tk0; go_at_call 8; rw [← HW0.out]; have bp := Below.refl w0.heap.size w0; have hb := below_on H0.out bp; refine (HHD.out _ hb).mono ?_; rintro e v0w ⟨rfl, b'⟩; have b := below_on bp b'; have h0 := Lib.hid (below_on H0.out b); replace kv := Lib.hid (kv.out.below b kv.out.lt); have kvc0 := kv.out.cell 0; have kvc1 := kv.out.cell 1; have kvc2 := kv.out.cell 2; have kvc3 := kv.out.cell 3; have kvc4 := kv.out.cell 4; have kvc5 := kv.out.cell 5; have kvl := kv.out.lt; simp at kvc0 kvc1 kvc2 kvc3 kvc4 kvc5; have tk1 := Lib.hid trivial; clear b b' bp hb tk0)
            | (have _t := tk1; go_at_call 12; have bp := Below.refl v0w.heap.size v0w; have hb := below_on h0.out bp; refine (HVL.out _ hb).mono ?_; rintro e v1w ⟨rfl, b'⟩; have b := below_on bp b'; have h1 := Lib.hid (below_on h0.out b); replace kv := Lib.hid (kv.out.below b kv.out.lt); have kvc0 := kv.out.cell 0; have kvc1 := kv.out.cell 1; have kvc2 := kv.out.cell 2; have kvc3 := kv.out.cell 3; have kvc4 := kv.out.cell 4; have kvc5 := kv.out.cell 5; have kvl := kv.out.lt; simp at kvc0 kvc1 kvc2 kvc3 kvc4 kvc5; have tk2 := Lib.hid trivial; clear b b' bp hb tk1)
            | (have _t := tk2; go_at_call 10; have bp := Below.refl v1w.heap.size v1w; have hb := below_on h1.out bp; refine (HCL.out _ hb).mono ?_; rintro e v2w ⟨b', A1, c1, rfl, r1, hcap⟩; have b := below_on bp b'; have h2 := Lib.hid (below_on h1.out b); replace kv := Lib.hid (kv.out.below b kv.out.lt); replace r1 := Lib.hid r1; have kvc0 := kv.out.cell 0; have kvc1 := kv.out.cell 1; have kvc2 := kv.out.cell 2; have kvc3 := kv.out.cell 3; have kvc4 := kv.out.cell 4; have kvc5 := kv.out.cell 5; have kvl := kv.out.lt; simp at kvc0 kvc1 kvc2 kvc3 kvc4 kvc5; have tk3 := Lib.hid trivial; clear b b' bp hb tk2))
          go_region_with (have _t := tk3; go_at_call 10; have bp := (Below.refl v2w.heap.size v2w).drew; have hb := below_on h2.out bp; have r1' := r1.out.up bp; refine (HCM.out _ hb).mono ?_; rintro e v3w ⟨b', A2, c2, rfl, r2, -⟩; have b := below_on bp b'; have h3 := Lib.hid (below_on h2.out b); replace kv := Lib.hid (kv.out.below b kv.out.lt); replace r1 := Lib.hid (r1.out.up b); replace r2 := Lib.hid r2; have kvc0 := kv.out.cell 0; have kvc1 := kv.out.cell 1; have kvc2 := kv.out.cell 2; have kvc3 := kv.out.cell 3; have kvc4 := kv.out.cell 4; have kvc5 := kv.out.cell 5; have kvl := kv.out.lt; simp at kvc0 kvc1 kvc2 kvc3 kvc4 kvc5; have tk4 := Lib.hid trivial; clear b b' bp hb tk3 r1')
          all_goals
            go_wp2_with (first
              | (have _t := tk4; go_at_call 12; have bp := Below.refl v3w.heap.size v3w; have hb := below_on h3.out bp; have r1' := r1.out.up bp; have r2' := r2.out.up bp; refine (HVM.out _ hb).mono ?_; rintro e v4w ⟨rfl, b'⟩; have b := below_on bp b'; have h4 := Lib.hid (below_on h3.out b); replace kv := Lib.hid (kv.out.below b kv.out.lt); replace r1 := Lib.hid (r1.out.up b); replace r2 := Lib.hid (r2.out.up b); have kvc0 := kv.out.cell 0; have kvc1 := kv.out.cell 1; have kvc2 := kv.out.cell 2; have kvc3 := kv.out.cell 3; have kvc4 := kv.out.cell 4; have kvc5 := kv.out.cell 5; have kvl := kv.out.lt; simp at kvc0 kvc1 kvc2 kvc3 kvc4 kvc5; obtain ⟨ad, rfl, -, had⟩ := HAT.out _ _ r1.out; have tk5 := Lib.hid trivial; clear b b' bp hb tk4 r1' r2')
              | (have _t := tk5; go_at_call 11; have bp := Below.refl v4w.heap.size v4w; have hb := below_on h4.out bp; have r1' := r1.out.up bp; have r2' := r2.out.up bp; refine (HIN.out _ _ _ _ _ r2' r1').mono ?_; rintro e v5w ⟨rfl, b'⟩; have b := below_on bp b'; have h5 := Lib.hid (below_on h4.out b); replace kv := Lib.hid (kv.out.below b kv.out.lt); replace r1 := Lib.hid (r1.out.up b); replace r2 := Lib.hid (r2.out.up b); have kvc0 := kv.out.cell 0; have kvc1 := kv.out.cell 1; have kvc2 := kv.out.cell 2; have kvc3 := kv.out.cell 3; have kvc4 := kv.out.cell 4; have kvc5 := kv.out.cell 5; have kvl := kv.out.lt; simp at kvc0 kvc1 kvc2 kvc3 kvc4 kvc5; have tk6 := Lib.hid trivial; clear b b' bp hb tk5 r1' r2'))
            go_ret
            exact ⟨rfl, h5.out⟩
        · have e1 := hk1 hk
          rw [e1] at HCM
          have hkz : (k != 0) = true := by rw [bne_iff_ne]; exact hk
          have HAT := Lib.hid fun W A (h : RdI W W.heap.size A (ds ++ [k])) => h.at (i := m.length) (by rw [hdl]; omega)
          have hget : (ds ++ [k]).getD m.length 0 = k := by rw [← hd]; simp
          rw [hget] at HAT
          clear hlaw1 hlaw2 hsm e1 hVV he hk1 hk2 hget hdl hm1 hml hk
          generalize m.length = N at *
          generalize cntV m v = bs at *
          go_enter Tryd.func7, Tryd.ntmps7
          have tk0 := Lib.hid trivial
          go_wp2_with (first
            | (have _t := tk0; go_at_call 8; rw [← HW0.out]; have bp := Below.refl w0.heap.size w0; have hb := below_on H0.out bp; refine (HHD.out _ hb).mono ?_; rintro e v0w ⟨rfl, b'⟩; have b := below_on bp b'; have h0 := Lib.hid (below_on H0.out b); replace kv := Lib.hid (kv.out.below b kv.out.lt); have kvc0 := kv.out.cell 0; have kvc1 := kv.out.cell 1; have kvc2 := kv.out.cell 2; have kvc3 := kv.out.cell 3; have kvc4 := kv.out.cell 4; have kvc5 := kv.out.cell 5; have kvl := kv.out.lt; simp at kvc0 kvc1 kvc2 kvc3 kvc4 kvc5; have tk1 := Lib.hid trivial; clear b b' bp hb tk0)
            | (have _t := tk1; go_at_call 12; have bp := Below.refl v0w.heap.size v0w; have hb := below_on h0.out bp; refine (HVL.out _ hb).mono ?_; rintro e v1w ⟨rfl, b'⟩; have b := below_on bp b'; have h1 := Lib.hid (below_on h0.out b); replace kv := Lib.hid (kv.out.below b kv.out.lt); have kvc0 := kv.out.cell 0; have kvc1 := kv.out.cell 1; have kvc2 := kv.out.cell 2; have kvc3 := kv.out.cell 3; have kvc4 := kv.out.cell 4; have kvc5 := kv.out.cell 5; have kvl := kv.out.lt; simp at kvc0 kvc1 kvc2 kvc3 kvc4 kvc5; have tk2 := Lib.hid trivial; clear b b' bp hb tk1)
            | (have _t := tk2; go_at_call 10; have bp := Below.refl v1w.heap.size v1w; have hb := below_on h1.out bp; refine (HCL.out _ hb).mono ?_; rintro e v2w ⟨b', A1, c1, rfl, r1, hcap⟩; have b := below_on bp b'; have h2 := Lib.hid (below_on h1.out b); replace kv := Lib.hid (kv.out.below b kv.out.lt); replace r1 := Lib.hid r1; have kvc0 := kv.out.cell 0; have kvc1 := kv.out.cell 1; have kvc2 := kv.out.cell 2; have kvc3 := kv.out.cell 3; have kvc4 := kv.out.cell 4; have kvc5 := kv.out.cell 5; have kvl := kv.out.lt; simp at kvc0 kvc1 kvc2 kvc3 kvc4 kvc5; have tk3 := Lib.hid trivial; clear b b' bp hb tk2))
          go_region_with (have _t := tk3; go_at_call 10; have bp := (Below.refl v2w.heap.size v2w).drew; have hb := below_on h2.out bp; have r1' := r1.out.up bp; refine (HCM.out _ hb).mono ?_; rintro e v3w ⟨b', A2, c2, rfl, r2, -⟩; have b := below_on bp b'; have h3 := Lib.hid (below_on h2.out b); replace kv := Lib.hid (kv.out.below b kv.out.lt); replace r1 := Lib.hid (r1.out.up b); replace r2 := Lib.hid r2; have kvc0 := kv.out.cell 0; have kvc1 := kv.out.cell 1; have kvc2 := kv.out.cell 2; have kvc3 := kv.out.cell 3; have kvc4 := kv.out.cell 4; have kvc5 := kv.out.cell 5; have kvl := kv.out.lt; simp at kvc0 kvc1 kvc2 kvc3 kvc4 kvc5; have tk4 := Lib.hid trivial; clear b b' bp hb tk3 r1')
          all_goals
            go_wp2_with (first
              | (have _t := tk4; go_at_call 12; have bp := Below.refl v3w.heap.size v3w; have hb := below_on h3.out bp; have r1' := r1.out.up bp; have r2' := r2.out.up bp; refine (HVM.out _ hb).mono ?_; rintro e v4w ⟨rfl, b'⟩; have b := below_on bp b'; have h4 := Lib.hid (below_on h3.out b); replace kv := Lib.hid (kv.out.below b kv.out.lt); replace r1 := Lib.hid (r1.out.up b); replace r2 := Lib.hid (r2.out.up b); have kvc0 := kv.out.cell 0; have kvc1 := kv.out.cell 1; have kvc2 := kv.out.cell 2; have kvc3 := kv.out.cell 3; have kvc4 := kv.out.cell 4; have kvc5 := kv.out.cell 5; have kvl := kv.out.lt; simp at kvc0 kvc1 kvc2 kvc3 kvc4 kvc5; obtain ⟨ad, rfl, -, had⟩ := HAT.out _ _ r1.out; have tk5 := Lib.hid trivial; clear b b' bp hb tk4 r1' r2'))
            go_ret
            exact ⟨rfl, h4.out⟩
      · have hez : (cntK (m ++ [x]) v != 0) = true := by rw [bne_iff_ne]; exact he
        rcases hlaw1 he with hf | ⟨h3, h4⟩
        · rw [hf] at HCM
          clear hlaw1 hlaw2 hsm hm1 he hf
          generalize cntK (m ++ [x]) v = k at *
          generalize cntV (m ++ [x]) v = ls at *
          generalize cntV m v = bs at *
          generalize m.length = N at *
          go_enter Tryd.func7, Tryd.ntmps7
          have tk0 := Lib.hid trivial
          go_wp2_with (first
            | (have _t := tk0; go_at_call 8; rw [← HW0.out]; have bp := Below.refl w0.heap.size w0; have hb := below_on H0.out bp; refine (HHD.out _ hb).mono ?_; rintro e v0w ⟨rfl, b'⟩; have b := below_on bp b'; have h0 := Lib.hid (below_on H0.out b); replace kv := Lib.hid (kv.out.below b kv.out.lt); have kvc0 := kv.out.cell 0; have kvc1 := kv.out.cell 1; have kvc2 := kv.out.cell 2; have kvc3 := kv.out.cell 3; have kvc4 := kv.out.cell 4; have kvc5 := kv.out.cell 5; have kvl := kv.out.lt; simp at kvc0 kvc1 kvc2 kvc3 kvc4 kvc5; have tk1 := Lib.hid trivial; clear b b' bp hb tk0)
            | (have _t := tk1; go_at_call 12; have bp := Below.refl v0w.heap.size v0w; have hb := below_on h0.out bp; refine (HVL.out _ hb).mono ?_; rintro e v1w ⟨rfl, b'⟩; have b := below_on bp b'; have h1 := Lib.hid (below_on h0.out b); replace kv := Lib.hid (kv.out.below b kv.out.lt); have kvc0 := kv.out.cell 0; have kvc1 := kv.out.cell 1; have kvc2 := kv.out.cell 2; have kvc3 := kv.out.cell 3; have kvc4 := kv.out.cell 4; have kvc5 := kv.out.cell 5; have kvl := kv.out.lt; simp at kvc0 kvc1 kvc2 kvc3 kvc4 kvc5; have tk2 := Lib.hid trivial; clear b b' bp hb tk1)
            | (have _t := tk2; go_at_call 10; have bp := Below.refl v1w.heap.size v1w; have hb := below_on h1.out bp; refine (HCL.out _ hb).mono ?_; rintro e v2w ⟨b', A1, c1, rfl, r1, hcap⟩; have b := below_on bp b'; have h2 := Lib.hid (below_on h1.out b); replace kv := Lib.hid (kv.out.below b kv.out.lt); replace r1 := Lib.hid r1; have kvc0 := kv.out.cell 0; have kvc1 := kv.out.cell 1; have kvc2 := kv.out.cell 2; have kvc3 := kv.out.cell 3; have kvc4 := kv.out.cell 4; have kvc5 := kv.out.cell 5; have kvl := kv.out.lt; simp at kvc0 kvc1 kvc2 kvc3 kvc4 kvc5; have tk3 := Lib.hid trivial; clear b b' bp hb tk2))
          go_region_with (have _t := tk3; go_at_call 10; have bp := (Below.refl v2w.heap.size v2w).drew; have hb := below_on h2.out bp; have r1' := r1.out.up bp; refine (HCM.out _ hb).mono ?_; rintro e v3w ⟨b', A2, c2, rfl, r2, -⟩; have b := below_on bp b'; have h3 := Lib.hid (below_on h2.out b); replace kv := Lib.hid (kv.out.below b kv.out.lt); replace r1 := Lib.hid (r1.out.up b); replace r2 := Lib.hid r2; have kvc0 := kv.out.cell 0; have kvc1 := kv.out.cell 1; have kvc2 := kv.out.cell 2; have kvc3 := kv.out.cell 3; have kvc4 := kv.out.cell 4; have kvc5 := kv.out.cell 5; have kvl := kv.out.lt; simp at kvc0 kvc1 kvc2 kvc3 kvc4 kvc5; have tk4 := Lib.hid trivial; clear b b' bp hb tk3 r1')
          all_goals
            go_wp2_with (first
              | (have _t := tk4; go_at_call 12; have bp := Below.refl v3w.heap.size v3w; have hb := below_on h3.out bp; have r1' := r1.out.up bp; have r2' := r2.out.up bp; refine (HVM.out _ hb).mono ?_; rintro e v4w ⟨rfl, b'⟩; have b := below_on bp b'; have h4 := Lib.hid (below_on h3.out b); replace kv := Lib.hid (kv.out.below b kv.out.lt); replace r1 := Lib.hid (r1.out.up b); replace r2 := Lib.hid (r2.out.up b); have kvc0 := kv.out.cell 0; have kvc1 := kv.out.cell 1; have kvc2 := kv.out.cell 2; have kvc3 := kv.out.cell 3; have kvc4 := kv.out.cell 4; have kvc5 := kv.out.cell 5; have kvl := kv.out.lt; simp at kvc0 kvc1 kvc2 kvc3 kvc4 kvc5; have tk5 := Lib.hid trivial; clear b b' bp hb tk4 r1' r2'))
            go_ret
            exact ⟨rfl, h4.out⟩
        · rw [h3] at HCL
          rw [h4] at HCM
          clear hlaw1 hlaw2 hsm hm1 he hez h3 h4
          generalize cntV (m ++ [x]) v = ls at *
          generalize cntV m v = bs at *
          generalize m.length = N at *
          go_enter Tryd.func7, Tryd.ntmps7
          have tk0 := Lib.hid trivial
          go_wp2_with (first
            | (have _t := tk0; go_at_call 8; rw [← HW0.out]; have bp := Below.refl w0.heap.size w0; have hb := below_on H0.out bp; refine (HHD.out _ hb).mono ?_; rintro e v0w ⟨rfl, b'⟩; have b := below_on bp b'; have h0 := Lib.hid (below_on H0.out b); replace kv := Lib.hid (kv.out.below b kv.out.lt); have kvc0 := kv.out.cell 0; have kvc1 := kv.out.cell 1; have kvc2 := kv.out.cell 2; have kvc3 := kv.out.cell 3; have kvc4 := kv.out.cell 4; have kvc5 := kv.out.cell 5; have kvl := kv.out.lt; simp at kvc0 kvc1 kvc2 kvc3 kvc4 kvc5; have tk1 := Lib.hid trivial; clear b b' bp hb tk0)
            | (have _t := tk1; go_at_call 12; have bp := Below.refl v0w.heap.size v0w; have hb := below_on h0.out bp; refine (HVL.out _ hb).mono ?_; rintro e v1w ⟨rfl, b'⟩; have b := below_on bp b'; have h1 := Lib.hid (below_on h0.out b); replace kv := Lib.hid (kv.out.below b kv.out.lt); have kvc0 := kv.out.cell 0; have kvc1 := kv.out.cell 1; have kvc2 := kv.out.cell 2; have kvc3 := kv.out.cell 3; have kvc4 := kv.out.cell 4; have kvc5 := kv.out.cell 5; have kvl := kv.out.lt; simp at kvc0 kvc1 kvc2 kvc3 kvc4 kvc5; have tk2 := Lib.hid trivial; clear b b' bp hb tk1)
            | (have _t := tk2; go_at_call 10; have bp := Below.refl v1w.heap.size v1w; have hb := below_on h1.out bp; refine (HCL.out _ hb).mono ?_; rintro e v2w ⟨b', A1, c1, rfl, r1, hcap⟩; have b := below_on bp b'; have h2 := Lib.hid (below_on h1.out b); replace kv := Lib.hid (kv.out.below b kv.out.lt); replace r1 := Lib.hid r1; have kvc0 := kv.out.cell 0; have kvc1 := kv.out.cell 1; have kvc2 := kv.out.cell 2; have kvc3 := kv.out.cell 3; have kvc4 := kv.out.cell 4; have kvc5 := kv.out.cell 5; have kvl := kv.out.lt; simp at kvc0 kvc1 kvc2 kvc3 kvc4 kvc5; have tk3 := Lib.hid trivial; clear b b' bp hb tk2))
          go_region_with (have _t := tk3; go_at_call 10; have bp := (Below.refl v2w.heap.size v2w).drew; have hb := below_on h2.out bp; have r1' := r1.out.up bp; refine (HCM.out _ hb).mono ?_; rintro e v3w ⟨b', A2, c2, rfl, r2, -⟩; have b := below_on bp b'; have h3 := Lib.hid (below_on h2.out b); replace kv := Lib.hid (kv.out.below b kv.out.lt); replace r1 := Lib.hid (r1.out.up b); replace r2 := Lib.hid r2; have kvc0 := kv.out.cell 0; have kvc1 := kv.out.cell 1; have kvc2 := kv.out.cell 2; have kvc3 := kv.out.cell 3; have kvc4 := kv.out.cell 4; have kvc5 := kv.out.cell 5; have kvl := kv.out.lt; simp at kvc0 kvc1 kvc2 kvc3 kvc4 kvc5; have tk4 := Lib.hid trivial; clear b b' bp hb tk3 r1')
          all_goals
            go_wp2_with (first
              | (have _t := tk4; go_at_call 12; have bp := Below.refl v3w.heap.size v3w; have hb := below_on h3.out bp; have r1' := r1.out.up bp; have r2' := r2.out.up bp; refine (HVM.out _ hb).mono ?_; rintro e v4w ⟨rfl, b'⟩; have b := below_on bp b'; have h4 := Lib.hid (below_on h3.out b); replace kv := Lib.hid (kv.out.below b kv.out.lt); replace r1 := Lib.hid (r1.out.up b); replace r2 := Lib.hid (r2.out.up b); have kvc0 := kv.out.cell 0; have kvc1 := kv.out.cell 1; have kvc2 := kv.out.cell 2; have kvc3 := kv.out.cell 3; have kvc4 := kv.out.cell 4; have kvc5 := kv.out.cell 5; have kvl := kv.out.lt; simp at kvc0 kvc1 kvc2 kvc3 kvc4 kvc5; have tk5 := Lib.hid trivial; clear b b' bp hb tk4 r1' r2'))
            go_ret
            exact ⟨rfl, h4.out⟩

end Go.Proofs.YtipaapplingbnaaDoor
