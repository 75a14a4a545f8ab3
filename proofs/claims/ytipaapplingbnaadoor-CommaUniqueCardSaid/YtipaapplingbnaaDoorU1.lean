/- Walks: CommaUnique. -/
import Derived.Test.YtipaapplingbnaaDoorPa
namespace Go.Proofs.YtipaapplingbnaaDoor
open Go.RowKit Go.Deep

set_option maxRecDepth 100000 in
set_option maxHeartbeats 8000000 in
theorem unique_any (w : World) (A Ac : Option Addr) (c cc : Nat) (l : List Cm) (cs : List Int) (v : Vc) (hr : RdN w w.heap.size A l) (hs : ∀ x ∈ l, x.nm.length ≤ 9223372036854775807) (hll : l.length ≤ 9223372036854775807) (hrc : RdI w w.heap.size Ac cs) (hcl : cs.length ≤ 9223372036854775807) (hT : Tab w) (hE : Errs w) :
    Calls Tryd.prog 3 #[.slice A l.length c, .slice Ac cs.length cc, .agg #[.int .i64 v.a, .int .i64 v.b, .int .i64 v.c, .int .i64 v.d, .int .i64 v.e, .int .i64 v.f]] w fun e w' => e = .returned (.bool true) ∧ Below w.heap.size w w' := by
  have HHD := Lib.hid fun W (hb : Below w.heap.size w W) => head_any W (hT.below hb) (hE.below hb)
  have HS1 := Lib.hid fun W (hb : Below w.heap.size w W) Ax (hx : RdI W W.heap.size Ax cs) => sum_any W A Ax c cc l cs (hr.up hb) hs hll hx hcl
  have HCV := Lib.hid fun W (hb : Below w.heap.size w W) => counts_any W A c l v (hr.up hb) hs hll
  have hsm := cnt_small l v
  obtain ⟨w0, hw0⟩ : ∃ w0, w0 = w.alloc (.cells #[.int .i64 v.a, .int .i64 v.b, .int .i64 v.c, .int .i64 v.d, .int .i64 v.e, .int .i64 v.f] 25) := ⟨_, rfl⟩
  have hB0 : Below w.heap.size w w0 := by rw [hw0]; exact (Below.refl w.heap.size w).alloc (Nat.le_refl _) (.cells v.cells 25)
  have H0 := Lib.hid hB0
  have kv : Hid (Blk w0 w.heap.size 25 v.cells) := by rw [hw0]; exact Blk.new w 25 v.cells
  have rc := Lib.hid (hrc.up hB0)
  have heq := fun W => eql_vec v v W
  rw [decide_eq_true rfl] at heq
  obtain ⟨x, hx⟩ : ∃ x, x = sumV l cs := ⟨_, rfl⟩
  have hne := fun W => neq_vec x v W
  unfold CntEnds at HCV
  have HW0 := Lib.hid hw0
  by_cases ha : sumE l cs = 0
  · obtain ⟨a1, a2⟩ := cnt_sum ha
    rw [← hx] at a1 a2 HS1
    have HCX := Lib.hid fun W (hb : Below w.heap.size w W) => counts_any W A c l x (hr.up hb) hs hll
    have hsc := cnt_small l x
    unfold CntEnds at HCX
    rw [a2] at hsc
    rw [a1, a2] at HCX
    rw [ha] at HS1
    have HIN := Lib.hid fun W A B (c d : Nat) (h1 : RdI W W.heap.size A cs) (h2 : RdI W W.heap.size B cs) => (ints_any W A B c d cs cs h1 h2 (by omega)).mono fun e w' h => (show e = .returned (.bool true) ∧ Below W.heap.size W w' from by rw [decide_eq_true rfl] at h; exact h)
    by_cases hk : cntK l v = 0
    · obtain ⟨b1, b2⟩ := sum_cnt hk
      have HS2 := Lib.hid fun W (hb : Below w.heap.size w W) Ax cx (hx : RdI W W.heap.size Ax (cntV l v)) => sum_any W A Ax c cx l (cntV l v) (hr.up hb) hs hll hx (by omega)
      rw [b1, b2] at HS2
      rw [hk] at HCV
      generalize cntV l v = ls at *
      clear hr hrc hT hE hB0 hx hsm ha hk hsc b1 b2 a1 a2 hs hll hcl hw0
      go_enter Tryd.func3, Tryd.ntmps3
      have tk0 := Lib.hid trivial
      go_wp2_with (first
        | (have _t := tk0; go_at_call 8; rw [← HW0.out]; have bp := Below.refl w0.heap.size w0; have hb := below_on H0.out bp; have rc' := rc.out.up bp; refine (HHD.out _ hb).mono ?_; rintro e v0w ⟨rfl, b'⟩; have b := below_on bp b'; have h0 := Lib.hid (below_on H0.out b); replace kv := Lib.hid (kv.out.below b kv.out.lt); replace rc := Lib.hid (rc.out.up b); have kvc0 := kv.out.cell 0; have kvc1 := kv.out.cell 1; have kvc2 := kv.out.cell 2; have kvc3 := kv.out.cell 3; have kvc4 := kv.out.cell 4; have kvc5 := kv.out.cell 5; have kvl := kv.out.lt; simp at kvc0 kvc1 kvc2 kvc3 kvc4 kvc5; have tk1 := Lib.hid trivial; clear b b' bp hb tk0 rc')
        | (have _t := tk1; go_at_call 9; have bp := Below.refl v0w.heap.size v0w; have hb := below_on h0.out bp; have rc' := rc.out.up bp; refine (HS1.out _ hb _ rc').mono ?_; rintro e v1w ⟨rfl, b'⟩; have b := below_on bp b'; have h1 := Lib.hid (below_on h0.out b); replace kv := Lib.hid (kv.out.below b kv.out.lt); replace rc := Lib.hid (rc.out.up b); have kvc0 := kv.out.cell 0; have kvc1 := kv.out.cell 1; have kvc2 := kv.out.cell 2; have kvc3 := kv.out.cell 3; have kvc4 := kv.out.cell 4; have kvc5 := kv.out.cell 5; have kvl := kv.out.lt; simp at kvc0 kvc1 kvc2 kvc3 kvc4 kvc5; have tk2 := Lib.hid trivial; clear b b' bp hb tk1 rc')
        | (have _t := tk2; go_at_call 10; have bp := below_al (Below.refl v1w.heap.size v1w) (.cells #[.int .i64 x.a, .int .i64 x.b, .int .i64 x.c, .int .i64 x.d, .int .i64 x.e, .int .i64 x.f] 25); have hb := below_on h1.out bp; have rc' := rc.out.up bp; refine (HCX.out _ hb).mono ?_; rintro e v2w ⟨b', A1, c1, rfl, r1⟩; have b := below_on bp b'; have h2 := Lib.hid (below_on h1.out b); replace kv := Lib.hid (kv.out.below b kv.out.lt); have kx := Lib.hid (Blk.below (Blk.new v1w 25 #[.int .i64 x.a, .int .i64 x.b, .int .i64 x.c, .int .i64 x.d, .int .i64 x.e, .int .i64 x.f]) b' (Blk.new v1w 25 #[.int .i64 x.a, .int .i64 x.b, .int .i64 x.c, .int .i64 x.d, .int .i64 x.e, .int .i64 x.f]).lt); replace rc := Lib.hid (rc.out.up b); replace r1 := Lib.hid r1; have kvc0 := kv.out.cell 0; have kvc1 := kv.out.cell 1; have kvc2 := kv.out.cell 2; have kvc3 := kv.out.cell 3; have kvc4 := kv.out.cell 4; have kvc5 := kv.out.cell 5; have kvl := kv.out.lt; simp at kvc0 kvc1 kvc2 kvc3 kvc4 kvc5; have kxc0 := kx.out.cell 0; have kxc1 := kx.out.cell 1; have kxc2 := kx.out.cell 2; have kxc3 := kx.out.cell 3; have kxc4 := kx.out.cell 4; have kxc5 := kx.out.cell 5; have kxl := kx.out.lt; simp at kxc0 kxc1 kxc2 kxc3 kxc4 kxc5; have tk3 := Lib.hid trivial; clear b b' bp hb tk2 rc')
        | (have _t := tk3; go_at_call 11; have bp := Below.refl v2w.heap.size v2w; have hb := below_on h2.out bp; have rc' := rc.out.up bp; have r1' := r1.out.up bp; refine (HIN.out _ _ _ _ _ r1' rc').mono ?_; rintro e v3w ⟨rfl, b'⟩; have b := below_on bp b'; have h3 := Lib.hid (below_on h2.out b); replace kv := Lib.hid (kv.out.below b kv.out.lt); replace kx := Lib.hid (kx.out.below b kx.out.lt); replace rc := Lib.hid (rc.out.up b); replace r1 := Lib.hid (r1.out.up b); have kvc0 := kv.out.cell 0; have kvc1 := kv.out.cell 1; have kvc2 := kv.out.cell 2; have kvc3 := kv.out.cell 3; have kvc4 := kv.out.cell 4; have kvc5 := kv.out.cell 5; have kvl := kv.out.lt; simp at kvc0 kvc1 kvc2 kvc3 kvc4 kvc5; have kxc0 := kx.out.cell 0; have kxc1 := kx.out.cell 1; have kxc2 := kx.out.cell 2; have kxc3 := kx.out.cell 3; have kxc4 := kx.out.cell 4; have kxc5 := kx.out.cell 5; have kxl := kx.out.lt; simp at kxc0 kxc1 kxc2 kxc3 kxc4 kxc5; have tk4 := Lib.hid trivial; clear b b' bp hb tk3 rc' r1')
        | (have _t := tk4; go_at_call 10; have bp := Below.refl v3w.heap.size v3w; have hb := below_on h3.out bp; have rc' := rc.out.up bp; have r1' := r1.out.up bp; refine (HCV.out _ hb).mono ?_; rintro e v4w ⟨b', A2, c2, rfl, r2⟩; have b := below_on bp b'; have h4 := Lib.hid (below_on h3.out b); replace kv := Lib.hid (kv.out.below b kv.out.lt); replace kx := Lib.hid (kx.out.below b kx.out.lt); replace rc := Lib.hid (rc.out.up b); replace r1 := Lib.hid (r1.out.up b); replace r2 := Lib.hid r2; have kvc0 := kv.out.cell 0; have kvc1 := kv.out.cell 1; have kvc2 := kv.out.cell 2; have kvc3 := kv.out.cell 3; have kvc4 := kv.out.cell 4; have kvc5 := kv.out.cell 5; have kvl := kv.out.lt; simp at kvc0 kvc1 kvc2 kvc3 kvc4 kvc5; have kxc0 := kx.out.cell 0; have kxc1 := kx.out.cell 1; have kxc2 := kx.out.cell 2; have kxc3 := kx.out.cell 3; have kxc4 := kx.out.cell 4; have kxc5 := kx.out.cell 5; have kxl := kx.out.lt; simp at kxc0 kxc1 kxc2 kxc3 kxc4 kxc5; have tk5 := Lib.hid trivial; clear b b' bp hb tk4 rc' r1')
        | (have _t := tk5; go_at_call 9; have bp := Below.refl v4w.heap.size v4w; have hb := below_on h4.out bp; have rc' := rc.out.up bp; have r1' := r1.out.up bp; have r2' := r2.out.up bp; refine (HS2.out _ hb _ _ r2').mono ?_; rintro e v5w ⟨rfl, b'⟩; have b := below_on bp b'; have h5 := Lib.hid (below_on h4.out b); replace kv := Lib.hid (kv.out.below b kv.out.lt); replace kx := Lib.hid (kx.out.below b kx.out.lt); replace rc := Lib.hid (rc.out.up b); replace r1 := Lib.hid (r1.out.up b); replace r2 := Lib.hid (r2.out.up b); have kvc0 := kv.out.cell 0; have kvc1 := kv.out.cell 1; have kvc2 := kv.out.cell 2; have kvc3 := kv.out.cell 3; have kvc4 := kv.out.cell 4; have kvc5 := kv.out.cell 5; have kvl := kv.out.lt; simp at kvc0 kvc1 kvc2 kvc3 kvc4 kvc5; have kxc0 := kx.out.cell 0; have kxc1 := kx.out.cell 1; have kxc2 := kx.out.cell 2; have kxc3 := kx.out.cell 3; have kxc4 := kx.out.cell 4; have kxc5 := kx.out.cell 5; have kxl := kx.out.lt; simp at kxc0 kxc1 kxc2 kxc3 kxc4 kxc5; have tk6 := Lib.hid trivial; clear b b' bp hb tk5 rc' r1' r2'))
      go_ret
      exact ⟨rfl, below_al h5.out _⟩
    · have hd : decide (x = v) = false := by
        rw [decide_eq_false_iff_not]
        rintro rfl
        exact hk a1
      rw [hd] at hne
      have hkz : (cntK l v == 0) = false := by rw [beq_eq_false_iff_ne]; exact hk
      have hkz' : (cntK l v != 0) = true := by rw [bne_iff_ne]; exact hk
      generalize cntV l v = ls at *
      generalize cntK l v = k at *
      clear hr hrc hT hE hB0 hx hsm ha hk hsc a1 a2 hd hs hll hcl hw0
      go_enter Tryd.func3, Tryd.ntmps3
      have tk0 := Lib.hid trivial
      go_wp2_with (first
        | (have _t := tk0; go_at_call 8; rw [← HW0.out]; have bp := Below.refl w0.heap.size w0; have hb := below_on H0.out bp; have rc' := rc.out.up bp; refine (HHD.out _ hb).mono ?_; rintro e v0w ⟨rfl, b'⟩; have b := below_on bp b'; have h0 := Lib.hid (below_on H0.out b); replace kv := Lib.hid (kv.out.below b kv.out.lt); replace rc := Lib.hid (rc.out.up b); have kvc0 := kv.out.cell 0; have kvc1 := kv.out.cell 1; have kvc2 := kv.out.cell 2; have kvc3 := kv.out.cell 3; have kvc4 := kv.out.cell 4; have kvc5 := kv.out.cell 5; have kvl := kv.out.lt; simp at kvc0 kvc1 kvc2 kvc3 kvc4 kvc5; have tk1 := Lib.hid trivial; clear b b' bp hb tk0 rc')
        | (have _t := tk1; go_at_call 9; have bp := Below.refl v0w.heap.size v0w; have hb := below_on h0.out bp; have rc' := rc.out.up bp; refine (HS1.out _ hb _ rc').mono ?_; rintro e v1w ⟨rfl, b'⟩; have b := below_on bp b'; have h1 := Lib.hid (below_on h0.out b); replace kv := Lib.hid (kv.out.below b kv.out.lt); replace rc := Lib.hid (rc.out.up b); have kvc0 := kv.out.cell 0; have kvc1 := kv.out.cell 1; have kvc2 := kv.out.cell 2; have kvc3 := kv.out.cell 3; have kvc4 := kv.out.cell 4; have kvc5 := kv.out.cell 5; have kvl := kv.out.lt; simp at kvc0 kvc1 kvc2 kvc3 kvc4 kvc5; have tk2 := Lib.hid trivial; clear b b' bp hb tk1 rc')
        | (have _t := tk2; go_at_call 10; have bp := below_al (Below.refl v1w.heap.size v1w) (.cells #[.int .i64 x.a, .int .i64 x.b, .int .i64 x.c, .int .i64 x.d, .int .i64 x.e, .int .i64 x.f] 25); have hb := below_on h1.out bp; have rc' := rc.out.up bp; refine (HCX.out _ hb).mono ?_; rintro e v2w ⟨b', A1, c1, rfl, r1⟩; have b := below_on bp b'; have h2 := Lib.hid (below_on h1.out b); replace kv := Lib.hid (kv.out.below b kv.out.lt); have kx := Lib.hid (Blk.below (Blk.new v1w 25 #[.int .i64 x.a, .int .i64 x.b, .int .i64 x.c, .int .i64 x.d, .int .i64 x.e, .int .i64 x.f]) b' (Blk.new v1w 25 #[.int .i64 x.a, .int .i64 x.b, .int .i64 x.c, .int .i64 x.d, .int .i64 x.e, .int .i64 x.f]).lt); replace rc := Lib.hid (rc.out.up b); replace r1 := Lib.hid r1; have kvc0 := kv.out.cell 0; have kvc1 := kv.out.cell 1; have kvc2 := kv.out.cell 2; have kvc3 := kv.out.cell 3; have kvc4 := kv.out.cell 4; have kvc5 := kv.out.cell 5; have kvl := kv.out.lt; simp at kvc0 kvc1 kvc2 kvc3 kvc4 kvc5; have kxc0 := kx.out.cell 0; have kxc1 := kx.out.cell 1; have kxc2 := kx.out.cell 2; have kxc3 := kx.out.cell 3; have kxc4 := kx.out.cell 4; have kxc5 := kx.out.cell 5; have kxl := kx.out.lt; simp at kxc0 kxc1 kxc2 kxc3 kxc4 kxc5; have tk3 := Lib.hid trivial; clear b b' bp hb tk2 rc')
        | (have _t := tk3; go_at_call 11; have bp := Below.refl v2w.heap.size v2w; have hb := below_on h2.out bp; have rc' := rc.out.up bp; have r1' := r1.out.up bp; refine (HIN.out _ _ _ _ _ r1' rc').mono ?_; rintro e v3w ⟨rfl, b'⟩; have b := below_on bp b'; have h3 := Lib.hid (below_on h2.out b); replace kv := Lib.hid (kv.out.below b kv.out.lt); replace kx := Lib.hid (kx.out.below b kx.out.lt); replace rc := Lib.hid (rc.out.up b); replace r1 := Lib.hid (r1.out.up b); have kvc0 := kv.out.cell 0; have kvc1 := kv.out.cell 1; have kvc2 := kv.out.cell 2; have kvc3 := kv.out.cell 3; have kvc4 := kv.out.cell 4; have kvc5 := kv.out.cell 5; have kvl := kv.out.lt; simp at kvc0 kvc1 kvc2 kvc3 kvc4 kvc5; have kxc0 := kx.out.cell 0; have kxc1 := kx.out.cell 1; have kxc2 := kx.out.cell 2; have kxc3 := kx.out.cell 3; have kxc4 := kx.out.cell 4; have kxc5 := kx.out.cell 5; have kxl := kx.out.lt; simp at kxc0 kxc1 kxc2 kxc3 kxc4 kxc5; have tk4 := Lib.hid trivial; clear b b' bp hb tk3 rc' r1')
        | (have _t := tk4; go_at_call 10; have bp := Below.refl v3w.heap.size v3w; have hb := below_on h3.out bp; have rc' := rc.out.up bp; have r1' := r1.out.up bp; refine (HCV.out _ hb).mono ?_; rintro e v4w ⟨b', A2, c2, rfl, r2⟩; have b := below_on bp b'; have h4 := Lib.hid (below_on h3.out b); replace kv := Lib.hid (kv.out.below b kv.out.lt); replace kx := Lib.hid (kx.out.below b kx.out.lt); replace rc := Lib.hid (rc.out.up b); replace r1 := Lib.hid (r1.out.up b); replace r2 := Lib.hid r2; have kvc0 := kv.out.cell 0; have kvc1 := kv.out.cell 1; have kvc2 := kv.out.cell 2; have kvc3 := kv.out.cell 3; have kvc4 := kv.out.cell 4; have kvc5 := kv.out.cell 5; have kvl := kv.out.lt; simp at kvc0 kvc1 kvc2 kvc3 kvc4 kvc5; have kxc0 := kx.out.cell 0; have kxc1 := kx.out.cell 1; have kxc2 := kx.out.cell 2; have kxc3 := kx.out.cell 3; have kxc4 := kx.out.cell 4; have kxc5 := kx.out.cell 5; have kxl := kx.out.lt; simp at kxc0 kxc1 kxc2 kxc3 kxc4 kxc5; have tk5 := Lib.hid trivial; clear b b' bp hb tk4 rc' r1'))
      go_ret
      exact ⟨rfl, h4.out⟩
  · rw [← hx] at HS1
    have hz : (sumE l cs == 0) = false := by rw [beq_eq_false_iff_ne]; exact ha
    have hz' : (sumE l cs != 0) = true := by rw [bne_iff_ne]; exact ha
    by_cases hk : cntK l v = 0
    · obtain ⟨b1, b2⟩ := sum_cnt hk
      have HS2 := Lib.hid fun W (hb : Below w.heap.size w W) Ax cx (hx : RdI W W.heap.size Ax (cntV l v)) => sum_any W A Ax c cx l (cntV l v) (hr.up hb) hs hll hx (by omega)
      rw [b1, b2] at HS2
      rw [hk] at HCV
      generalize cntV l v = ls at *
      generalize sumE l cs = se at *
      clear hr hrc hT hE hB0 hx hsm ha hk b1 b2 hs hll hcl hw0
      go_enter Tryd.func3, Tryd.ntmps3
      have tk0 := Lib.hid trivial
      go_wp2_with (first
        | (have _t := tk0; go_at_call 8; rw [← HW0.out]; have bp := Below.refl w0.heap.size w0; have hb := below_on H0.out bp; have rc' := rc.out.up bp; refine (HHD.out _ hb).mono ?_; rintro e v0w ⟨rfl, b'⟩; have b := below_on bp b'; have h0 := Lib.hid (below_on H0.out b); replace kv := Lib.hid (kv.out.below b kv.out.lt); replace rc := Lib.hid (rc.out.up b); have kvc0 := kv.out.cell 0; have kvc1 := kv.out.cell 1; have kvc2 := kv.out.cell 2; have kvc3 := kv.out.cell 3; have kvc4 := kv.out.cell 4; have kvc5 := kv.out.cell 5; have kvl := kv.out.lt; simp at kvc0 kvc1 kvc2 kvc3 kvc4 kvc5; have tk1 := Lib.hid trivial; clear b b' bp hb tk0 rc')
        | (have _t := tk1; go_at_call 9; have bp := Below.refl v0w.heap.size v0w; have hb := below_on h0.out bp; have rc' := rc.out.up bp; refine (HS1.out _ hb _ rc').mono ?_; rintro e v1w ⟨rfl, b'⟩; have b := below_on bp b'; have h1 := Lib.hid (below_on h0.out b); replace kv := Lib.hid (kv.out.below b kv.out.lt); replace rc := Lib.hid (rc.out.up b); have kvc0 := kv.out.cell 0; have kvc1 := kv.out.cell 1; have kvc2 := kv.out.cell 2; have kvc3 := kv.out.cell 3; have kvc4 := kv.out.cell 4; have kvc5 := kv.out.cell 5; have kvl := kv.out.lt; simp at kvc0 kvc1 kvc2 kvc3 kvc4 kvc5; have tk2 := Lib.hid trivial; clear b b' bp hb tk1 rc')
        | (have _t := tk2; go_at_call 10; have bp := below_al (Below.refl v1w.heap.size v1w) (.cells #[.int .i64 x.a, .int .i64 x.b, .int .i64 x.c, .int .i64 x.d, .int .i64 x.e, .int .i64 x.f] 25); have hb := below_on h1.out bp; have rc' := rc.out.up bp; refine (HCV.out _ hb).mono ?_; rintro e v2w ⟨b', A2, c2, rfl, r2⟩; have b := below_on bp b'; have h2 := Lib.hid (below_on h1.out b); replace kv := Lib.hid (kv.out.below b kv.out.lt); have kx := Lib.hid (Blk.below (Blk.new v1w 25 #[.int .i64 x.a, .int .i64 x.b, .int .i64 x.c, .int .i64 x.d, .int .i64 x.e, .int .i64 x.f]) b' (Blk.new v1w 25 #[.int .i64 x.a, .int .i64 x.b, .int .i64 x.c, .int .i64 x.d, .int .i64 x.e, .int .i64 x.f]).lt); replace rc := Lib.hid (rc.out.up b); replace r2 := Lib.hid r2; have kvc0 := kv.out.cell 0; have kvc1 := kv.out.cell 1; have kvc2 := kv.out.cell 2; have kvc3 := kv.out.cell 3; have kvc4 := kv.out.cell 4; have kvc5 := kv.out.cell 5; have kvl := kv.out.lt; simp at kvc0 kvc1 kvc2 kvc3 kvc4 kvc5; have kxc0 := kx.out.cell 0; have kxc1 := kx.out.cell 1; have kxc2 := kx.out.cell 2; have kxc3 := kx.out.cell 3; have kxc4 := kx.out.cell 4; have kxc5 := kx.out.cell 5; have kxl := kx.out.lt; simp at kxc0 kxc1 kxc2 kxc3 kxc4 kxc5; have tk3 := Lib.hid trivial; clear b b' bp hb tk2 rc')
        | (have _t := tk3; go_at_call 9; have bp := Below.refl v2w.heap.size v2w; have hb := below_on h2.out bp; have rc' := rc.out.up bp; have r2' := r2.out.up bp; refine (HS2.out _ hb _ _ r2').mono ?_; rintro e v3w ⟨rfl, b'⟩; have b := below_on bp b'; have h3 := Lib.hid (below_on h2.out b); replace kv := Lib.hid (kv.out.below b kv.out.lt); replace kx := Lib.hid (kx.out.below b kx.out.lt); replace rc := Lib.hid (rc.out.up b); replace r2 := Lib.hid (r2.out.up b); have kvc0 := kv.out.cell 0; have kvc1 := kv.out.cell 1; have kvc2 := kv.out.cell 2; have kvc3 := kv.out.cell 3; have kvc4 := kv.out.cell 4; have kvc5 := kv.out.cell 5; have kvl := kv.out.lt; simp at kvc0 kvc1 kvc2 kvc3 kvc4 kvc5; have kxc0 := kx.out.cell 0; have kxc1 := kx.out.cell 1; have kxc2 := kx.out.cell 2; have kxc3 := kx.out.cell 3; have kxc4 := kx.out.cell 4; have kxc5 := kx.out.cell 5; have kxl := kx.out.lt; simp at kxc0 kxc1 kxc2 kxc3 kxc4 kxc5; have tk4 := Lib.hid trivial; clear b b' bp hb tk3 rc' r2'))
      go_ret
      exact ⟨rfl, below_al h3.out _⟩
    · have hkz : (cntK l v == 0) = false := by rw [beq_eq_false_iff_ne]; exact hk
      have hkz' : (cntK l v != 0) = true := by rw [bne_iff_ne]; exact hk
      generalize cntV l v = ls at *
      generalize cntK l v = k at *
      generalize sumE l cs = se at *
      clear hr hrc hT hE hB0 hx hsm ha hk hs hll hcl hw0
      go_enter Tryd.func3, Tryd.ntmps3
      have tk0 := Lib.hid trivial
      go_wp2_with (first
        | (have _t := tk0; go_at_call 8; rw [← HW0.out]; have bp := Below.refl w0.heap.size w0; have hb := below_on H0.out bp; have rc' := rc.out.up bp; refine (HHD.out _ hb).mono ?_; rintro e v0w ⟨rfl, b'⟩; have b := below_on bp b'; have h0 := Lib.hid (below_on H0.out b); replace kv := Lib.hid (kv.out.below b kv.out.lt); replace rc := Lib.hid (rc.out.up b); have kvc0 := kv.out.cell 0; have kvc1 := kv.out.cell 1; have kvc2 := kv.out.cell 2; have kvc3 := kv.out.cell 3; have kvc4 := kv.out.cell 4; have kvc5 := kv.out.cell 5; have kvl := kv.out.lt; simp at kvc0 kvc1 kvc2 kvc3 kvc4 kvc5; have tk1 := Lib.hid trivial; clear b b' bp hb tk0 rc')
        | (have _t := tk1; go_at_call 9; have bp := Below.refl v0w.heap.size v0w; have hb := below_on h0.out bp; have rc' := rc.out.up bp; refine (HS1.out _ hb _ rc').mono ?_; rintro e v1w ⟨rfl, b'⟩; have b := below_on bp b'; have h1 := Lib.hid (below_on h0.out b); replace kv := Lib.hid (kv.out.below b kv.out.lt); replace rc := Lib.hid (rc.out.up b); have kvc0 := kv.out.cell 0; have kvc1 := kv.out.cell 1; have kvc2 := kv.out.cell 2; have kvc3 := kv.out.cell 3; have kvc4 := kv.out.cell 4; have kvc5 := kv.out.cell 5; have kvl := kv.out.lt; simp at kvc0 kvc1 kvc2 kvc3 kvc4 kvc5; have tk2 := Lib.hid trivial; clear b b' bp hb tk1 rc')
        | (have _t := tk2; go_at_call 10; have bp := below_al (Below.refl v1w.heap.size v1w) (.cells #[.int .i64 x.a, .int .i64 x.b, .int .i64 x.c, .int .i64 x.d, .int .i64 x.e, .int .i64 x.f] 25); have hb := below_on h1.out bp; have rc' := rc.out.up bp; refine (HCV.out _ hb).mono ?_; rintro e v2w ⟨b', A2, c2, rfl, r2⟩; have b := below_on bp b'; have h2 := Lib.hid (below_on h1.out b); replace kv := Lib.hid (kv.out.below b kv.out.lt); have kx := Lib.hid (Blk.below (Blk.new v1w 25 #[.int .i64 x.a, .int .i64 x.b, .int .i64 x.c, .int .i64 x.d, .int .i64 x.e, .int .i64 x.f]) b' (Blk.new v1w 25 #[.int .i64 x.a, .int .i64 x.b, .int .i64 x.c, .int .i64 x.d, .int .i64 x.e, .int .i64 x.f]).lt); replace rc := Lib.hid (rc.out.up b); replace r2 := Lib.hid r2; have kvc0 := kv.out.cell 0; have kvc1 := kv.out.cell 1; have kvc2 := kv.out.cell 2; have kvc3 := kv.out.cell 3; have kvc4 := kv.out.cell 4; have kvc5 := kv.out.cell 5; have kvl := kv.out.lt; simp at kvc0 kvc1 kvc2 kvc3 kvc4 kvc5; have kxc0 := kx.out.cell 0; have kxc1 := kx.out.cell 1; have kxc2 := kx.out.cell 2; have kxc3 := kx.out.cell 3; have kxc4 := kx.out.cell 4; have kxc5 := kx.out.cell 5; have kxl := kx.out.lt; simp at kxc0 kxc1 kxc2 kxc3 kxc4 kxc5; have tk3 := Lib.hid trivial; clear b b' bp hb tk2 rc'))
      go_ret
      exact ⟨rfl, h2.out⟩

end Go.Proofs.YtipaapplingbnaaDoor
