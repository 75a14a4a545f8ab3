/- Walks: CommaLinear. -/
import Derived.Test.YtipaapplingbnaaGreatDoorUa
import Derived.BigQuiet
import Derived.Deep.QuietTactic
namespace Go.Proofs.YtipaapplingbnaaGreatDoor
open Go.RowKit Go.Deep

theorem vc_at (v : Vc) (k : Nat) (hk : k < 6) : (#[.int .i64 v.a, .int .i64 v.b, .int .i64 v.c, .int .i64 v.d, .int .i64 v.e, .int .i64 v.f] : Array Value)[k]? = some (.int .i64 (v.at k)) := by
  have : k = 0 ∨ k = 1 ∨ k = 2 ∨ k = 3 ∨ k = 4 ∨ k = 5 := by omega
  rcases this with rfl | rfl | rfl | rfl | rfl | rfl <;> rfl
set_option maxRecDepth 100000 in
set_option maxHeartbeats 8000000 in
theorem linear_any (w : World) (A A1 A2 : Option Addr) (c c1 c2 : Nat) (l : List Cm) (a b : List Int) (hr : RdN w w.heap.size A l) (hs : ∀ x ∈ l, x.nm.length ≤ 9223372036854775807) (hll : l.length ≤ 9223372036854775807) (hra : RdI w w.heap.size A1 a) (hal : a.length ≤ 9223372036854775807) (hrb : RdI w w.heap.size A2 b) (hbl : b.length ≤ 9223372036854775807) (hT : Tab w) (hE : Errs w) :
    Calls Tryz.prog 4 #[.slice A l.length c, .slice A1 a.length c1, .slice A2 b.length c2] w fun e w' => e = .returned (.bool true) ∧ Below w.heap.size w w' := by
  have HHD := Lib.hid fun W (hb : Below w.heap.size w W) => head_any W (hT.below hb) (hE.below hb)
  have HSA := Lib.hid fun W (hb : Below w.heap.size w W) Ax (hx : RdI W W.heap.size Ax a) => sum_any W A Ax c c1 l a (hr.up hb) hs hll hx hal
  have HSB := Lib.hid fun W (hb : Below w.heap.size w W) Ax (hx : RdI W W.heap.size Ax b) => sum_any W A Ax c c2 l b (hr.up hb) hs hll hx hbl
  have H0 := Lib.hid (Below.refl w.heap.size w)
  have ra := Lib.hid hra
  have rb := Lib.hid hrb
  obtain ⟨x, hx⟩ : ∃ x, x = sumV l a := ⟨_, rfl⟩
  obtain ⟨y, hy⟩ : ∃ y, y = sumV l b := ⟨_, rfl⟩
  rw [← hx] at HSA
  rw [← hy] at HSB
  by_cases ha : sumE l a = 0
  · obtain ⟨la, l6, sa, ox⟩ := sum_sizes ha
    have na : ((a.length : Int) != (l.length : Int)) = false := by rw [bne_eq_false_iff_eq, la]
    have na' : ((a.length : Int) == (l.length : Int)) = true := by rw [beq_iff_eq, la]
    by_cases hb0 : sumE l b = 0
    · obtain ⟨lb, -, sb, oy⟩ := sum_sizes hb0
      have nb : ((b.length : Int) != (l.length : Int)) = false := by rw [bne_eq_false_iff_eq, lb]
      obtain ⟨m1, m2⟩ := lin_minus ha
      have lpl : (plusC a b).length = a.length := by rw [plusC_len]; omega
      have lmi : (minusC a).length = a.length := by rw [minusC, List.length_map]
      have HPL := Lib.hid fun W (r1 : RdI W W.heap.size A1 a) (r2 : RdI W W.heap.size A2 b) => plus_any W A1 A2 c1 c2 a b (by omega) (by omega) r1 r2 sa sb
      have HMI := Lib.hid fun W (r1 : RdI W W.heap.size A1 a) => minus_any W A1 c1 a (by omega) r1 sa
      have HSP := Lib.hid fun W (hb : Below w.heap.size w W) Ax cx (hx : RdI W W.heap.size Ax (plusC a b)) => sum_any W A Ax c cx l (plusC a b) (hr.up hb) hs hll hx (by omega)
      have HSM := Lib.hid fun W (hb : Below w.heap.size w W) Ax cx (hx : RdI W W.heap.size Ax (minusC a)) => sum_any W A Ax c cx l (minusC a) (hr.up hb) hs hll hx (by omega)
      rw [lpl] at HSP
      rw [lmi, m1, m2, ← hx] at HSM
      rw [ha] at HSA
      rw [hb0] at HSB
      obtain ⟨z, hz⟩ : ∃ z, z = sumV l (plusC a b) := ⟨_, rfl⟩
      rw [← hz] at HSP
      obtain ⟨v, hv⟩ : ∃ v, v = x.neg := ⟨_, rfl⟩
      have hvk : Hid (∀ k, v.at k = -x.at k) := fun k => by rw [hv, Vc.neg_at]
      rw [show sumV l a = x from hx.symm] at ox
      rw [show sumV l b = y from hy.symm] at oy
      rw [show (x.neg : Vc) = v from hv.symm] at HSM
      have ox' := Lib.hid ((Vc.ok_iff _).1 ox)
      have oy' := Lib.hid ((Vc.ok_iff _).1 oy)
      have HZ : Hid (sumE l (plusC a b) = 0 → ∀ k, z.at k = x.at k + y.at k) := fun h k => by rw [hz, hx, hy]; exact lin_plus ha hb0 h k
      obtain ⟨g, hg⟩ : ∃ g, g = sumE l (plusC a b) := ⟨_, rfl⟩
      rw [← hg] at HZ HSP
      clear hr hra hrb hT hE hx hy ha hb0 hs hll hal hbl m1 m2 hz hv ox oy sa sb la lb lpl lmi hg
      have hg01 : ((g != 0) = false ∧ Hid (∀ k, z.at k = x.at k + y.at k)) ∨ (g != 0) = true := by
        by_cases h : g = 0
        · exact .inl ⟨by rw [h]; rfl, HZ.out h⟩
        · exact .inr (by rw [bne_iff_ne]; exact h)
      clear HZ
      rcases hg01 with ⟨hgz, HZ⟩ | hgz
      all_goals
        go_enter Tryz.func4, Tryz.ntmps4
        have tk0 := Lib.hid trivial
        go_wp2_with (first
          | (have _t := tk0; go_at_call 5; have bp := Below.refl w.heap.size w; have hb := below_on H0.out bp; have ra' := ra.out.up bp; have rb' := rb.out.up bp; refine (HHD.out _ hb).mono ?_; rintro e v0w ⟨rfl, b'⟩; have b := below_on bp b'; have h0 := Lib.hid (below_on H0.out b); replace ra := Lib.hid (ra.out.up b); replace rb := Lib.hid (rb.out.up b); have tk1 := Lib.hid trivial; clear b b' bp hb tk0 ra' rb')
          | (have _t := tk1; go_at_call 10; have bp := Below.refl v0w.heap.size v0w; have hb := below_on h0.out bp; have ra' := ra.out.up bp; have rb' := rb.out.up bp; refine (HSA.out _ hb _ ra').mono ?_; rintro e v1w ⟨rfl, b'⟩; have b := below_on bp b'; have h1 := Lib.hid (below_on h0.out b); replace ra := Lib.hid (ra.out.up b); replace rb := Lib.hid (rb.out.up b); have tk2 := Lib.hid trivial; clear b b' bp hb tk1 ra' rb')
          | (have _t := tk2; go_at_call 10; have bp := below_al (Below.refl v1w.heap.size v1w) (.cells #[.int .i64 x.a, .int .i64 x.b, .int .i64 x.c, .int .i64 x.d, .int .i64 x.e, .int .i64 x.f] 25); have hb := below_on h1.out bp; have ra' := ra.out.up bp; have rb' := rb.out.up bp; refine (HSB.out _ hb _ rb').mono ?_; rintro e v2w ⟨rfl, b'⟩; have b := below_on bp b'; have h2 := Lib.hid (below_on h1.out b); have kx := Lib.hid (Blk.below (Blk.new v1w 25 #[.int .i64 x.a, .int .i64 x.b, .int .i64 x.c, .int .i64 x.d, .int .i64 x.e, .int .i64 x.f]) b' (Blk.new v1w 25 #[.int .i64 x.a, .int .i64 x.b, .int .i64 x.c, .int .i64 x.d, .int .i64 x.e, .int .i64 x.f]).lt); replace ra := Lib.hid (ra.out.up b); replace rb := Lib.hid (rb.out.up b); have kxc0 := kx.out.cell 0; have kxc1 := kx.out.cell 1; have kxc2 := kx.out.cell 2; have kxc3 := kx.out.cell 3; have kxc4 := kx.out.cell 4; have kxc5 := kx.out.cell 5; have kxl := kx.out.lt; simp at kxc0 kxc1 kxc2 kxc3 kxc4 kxc5; have tk3 := Lib.hid trivial; clear b b' bp hb tk2 ra' rb')
          | (have _t := tk3; go_at_call 22; have bp := below_al (Below.refl v2w.heap.size v2w) (.cells #[.int .i64 y.a, .int .i64 y.b, .int .i64 y.c, .int .i64 y.d, .int .i64 y.e, .int .i64 y.f] 25); have hb := below_on h2.out bp; have ra' := ra.out.up bp; have rb' := rb.out.up bp; refine (HPL.out _ ra' rb').mono ?_; rintro e v3w ⟨b', A3, c3, rfl, r3⟩; have b := below_on bp b'; have h3 := Lib.hid (below_on h2.out b); replace kx := Lib.hid (kx.out.below b kx.out.lt); have ky := Lib.hid (Blk.below (Blk.new v2w 25 #[.int .i64 y.a, .int .i64 y.b, .int .i64 y.c, .int .i64 y.d, .int .i64 y.e, .int .i64 y.f]) b' (Blk.new v2w 25 #[.int .i64 y.a, .int .i64 y.b, .int .i64 y.c, .int .i64 y.d, .int .i64 y.e, .int .i64 y.f]).lt); replace ra := Lib.hid (ra.out.up b); replace rb := Lib.hid (rb.out.up b); replace r3 := Lib.hid r3; have kxc0 := kx.out.cell 0; have kxc1 := kx.out.cell 1; have kxc2 := kx.out.cell 2; have kxc3 := kx.out.cell 3; have kxc4 := kx.out.cell 4; have kxc5 := kx.out.cell 5; have kxl := kx.out.lt; simp at kxc0 kxc1 kxc2 kxc3 kxc4 kxc5; have kyc0 := ky.out.cell 0; have kyc1 := ky.out.cell 1; have kyc2 := ky.out.cell 2; have kyc3 := ky.out.cell 3; have kyc4 := ky.out.cell 4; have kyc5 := ky.out.cell 5; have kyl := ky.out.lt; simp at kyc0 kyc1 kyc2 kyc3 kyc4 kyc5; have tk4 := Lib.hid trivial; clear b b' bp hb tk3 ra' rb')
          | (have _t := tk4; go_at_call 10; have bp := Below.refl v3w.heap.size v3w; have hb := below_on h3.out bp; have ra' := ra.out.up bp; have rb' := rb.out.up bp; have r3' := r3.out.up bp; refine (HSP.out _ hb _ _ r3').mono ?_; rintro e v4w ⟨rfl, b'⟩; have b := below_on bp b'; have h4 := Lib.hid (below_on h3.out b); replace kx := Lib.hid (kx.out.below b kx.out.lt); replace ky := Lib.hid (ky.out.below b ky.out.lt); replace ra := Lib.hid (ra.out.up b); replace rb := Lib.hid (rb.out.up b); replace r3 := Lib.hid (r3.out.up b); have kxc0 := kx.out.cell 0; have kxc1 := kx.out.cell 1; have kxc2 := kx.out.cell 2; have kxc3 := kx.out.cell 3; have kxc4 := kx.out.cell 4; have kxc5 := kx.out.cell 5; have kxl := kx.out.lt; simp at kxc0 kxc1 kxc2 kxc3 kxc4 kxc5; have kyc0 := ky.out.cell 0; have kyc1 := ky.out.cell 1; have kyc2 := ky.out.cell 2; have kyc3 := ky.out.cell 3; have kyc4 := ky.out.cell 4; have kyc5 := ky.out.cell 5; have kyl := ky.out.lt; simp at kyc0 kyc1 kyc2 kyc3 kyc4 kyc5; have tk5 := Lib.hid trivial; clear b b' bp hb tk4 ra' rb' r3')
          | (have _t := tk5; go_at_call 23; have bp := below_al (Below.refl v4w.heap.size v4w) (.cells #[.int .i64 z.a, .int .i64 z.b, .int .i64 z.c, .int .i64 z.d, .int .i64 z.e, .int .i64 z.f] 25); have hb := below_on h4.out bp; have ra' := ra.out.up bp; have rb' := rb.out.up bp; have r3' := r3.out.up bp; refine (HMI.out _ ra').mono ?_; rintro e v5w ⟨b', A4, c4, rfl, r4⟩; have b := below_on bp b'; have h5 := Lib.hid (below_on h4.out b); replace kx := Lib.hid (kx.out.below b kx.out.lt); replace ky := Lib.hid (ky.out.below b ky.out.lt); have kz := Lib.hid (Blk.below (Blk.new v4w 25 #[.int .i64 z.a, .int .i64 z.b, .int .i64 z.c, .int .i64 z.d, .int .i64 z.e, .int .i64 z.f]) b' (Blk.new v4w 25 #[.int .i64 z.a, .int .i64 z.b, .int .i64 z.c, .int .i64 z.d, .int .i64 z.e, .int .i64 z.f]).lt); replace ra := Lib.hid (ra.out.up b); replace rb := Lib.hid (rb.out.up b); replace r3 := Lib.hid (r3.out.up b); replace r4 := Lib.hid r4; have kxc0 := kx.out.cell 0; have kxc1 := kx.out.cell 1; have kxc2 := kx.out.cell 2; have kxc3 := kx.out.cell 3; have kxc4 := kx.out.cell 4; have kxc5 := kx.out.cell 5; have kxl := kx.out.lt; simp at kxc0 kxc1 kxc2 kxc3 kxc4 kxc5; have kyc0 := ky.out.cell 0; have kyc1 := ky.out.cell 1; have kyc2 := ky.out.cell 2; have kyc3 := ky.out.cell 3; have kyc4 := ky.out.cell 4; have kyc5 := ky.out.cell 5; have kyl := ky.out.lt; simp at kyc0 kyc1 kyc2 kyc3 kyc4 kyc5; have kzc0 := kz.out.cell 0; have kzc1 := kz.out.cell 1; have kzc2 := kz.out.cell 2; have kzc3 := kz.out.cell 3; have kzc4 := kz.out.cell 4; have kzc5 := kz.out.cell 5; have kzl := kz.out.lt; simp at kzc0 kzc1 kzc2 kzc3 kzc4 kzc5; have tk6 := Lib.hid trivial; clear b b' bp hb tk5 ra' rb' r3')
          | (have _t := tk6; go_at_call 10; have bp := Below.refl v5w.heap.size v5w; have hb := below_on h5.out bp; have ra' := ra.out.up bp; have rb' := rb.out.up bp; have r3' := r3.out.up bp; have r4' := r4.out.up bp; refine (HSM.out _ hb _ _ r4').mono ?_; rintro e v6w ⟨rfl, b'⟩; have b := below_on bp b'; have h6 := Lib.hid (below_on h5.out b); replace kx := Lib.hid (kx.out.below b kx.out.lt); replace ky := Lib.hid (ky.out.below b ky.out.lt); replace kz := Lib.hid (kz.out.below b kz.out.lt); replace ra := Lib.hid (ra.out.up b); replace rb := Lib.hid (rb.out.up b); replace r3 := Lib.hid (r3.out.up b); replace r4 := Lib.hid (r4.out.up b); have kxc0 := kx.out.cell 0; have kxc1 := kx.out.cell 1; have kxc2 := kx.out.cell 2; have kxc3 := kx.out.cell 3; have kxc4 := kx.out.cell 4; have kxc5 := kx.out.cell 5; have kxl := kx.out.lt; simp at kxc0 kxc1 kxc2 kxc3 kxc4 kxc5; have kyc0 := ky.out.cell 0; have kyc1 := ky.out.cell 1; have kyc2 := ky.out.cell 2; have kyc3 := ky.out.cell 3; have kyc4 := ky.out.cell 4; have kyc5 := ky.out.cell 5; have kyl := ky.out.lt; simp at kyc0 kyc1 kyc2 kyc3 kyc4 kyc5; have kzc0 := kz.out.cell 0; have kzc1 := kz.out.cell 1; have kzc2 := kz.out.cell 2; have kzc3 := kz.out.cell 3; have kzc4 := kz.out.cell 4; have kzc5 := kz.out.cell 5; have kzl := kz.out.lt; simp at kzc0 kzc1 kzc2 kzc3 kzc4 kzc5; have tk7 := Lib.hid trivial; clear b b' bp hb tk6 ra' rb' r3' r4'))
        obtain ⟨wq, hwq⟩ : ∃ wq, wq = v6w.alloc (.cells #[.int .i64 v.a, .int .i64 v.b, .int .i64 v.c, .int .i64 v.d, .int .i64 v.e, .int .i64 v.f] 25) := ⟨_, rfl⟩
        rw [← hwq]
        have kv : Hid (Blk wq v6w.heap.size 25 #[.int .i64 v.a, .int .i64 v.b, .int .i64 v.c, .int .i64 v.d, .int .i64 v.e, .int .i64 v.f]) := by rw [hwq]; exact Blk.new _ _ _
        have bq : Below v6w.heap.size v6w wq := by rw [hwq]; exact below_al (Below.refl _ _) _
        have HQ := Lib.hid (below_on h6.out bq)
        replace kx := Lib.hid (kx.out.below bq kx.out.lt)
        replace ky := Lib.hid (ky.out.below bq ky.out.lt)
        replace kz := Lib.hid (kz.out.below bq kz.out.lt)
        clear bq hwq kxc0 kxc1 kxc2 kxc3 kxc4 kxc5 kyc0 kyc1 kyc2 kyc3 kyc4 kyc5 kzc0 kzc1 kzc2 kzc3 kzc4 kzc5 kxl kyl kzl
        go_loopw [7, 16] (fun u i wx => ∃ k : Nat, k ≤ 6 ∧ u = .bool true ∧ i = .int .i64 k ∧ Hid (∃ n, wx = wq.drewN n)) (fun _ i _ => 6 - (intOf i).toNat)
        case atStart => exact ⟨0, by omega, rfl, rfl, 0, rfl⟩
        case round =>
          obtain ⟨k, hk, rfl, rfl, HN⟩ := hrel
          obtain ⟨n, hn⟩ := HN.out
          clear HN
          have dN : ∀ p, (wq.drewN n).cell? p = wq.cell? p := fun _ => rfl
          by_cases hlt : k < 6
          · have hki : (k : Int) < 6 := by omega
            have xk := (dN ⟨_, k, none⟩).trans ((kx.out.cell k).trans (vc_at x k hlt))
            have yk := (dN ⟨_, k, none⟩).trans ((ky.out.cell k).trans (vc_at y k hlt))
            have zk := (dN ⟨_, k, none⟩).trans ((kz.out.cell k).trans (vc_at z k hlt))
            have vk := (dN ⟨_, k, none⟩).trans ((kv.out.cell k).trans (vc_at v k hlt))
            rw [← hn] at xk yk zk vk
            have HVK := Lib.hid (hvk.out k)
            have b1 := ox'.out k hlt
            have b2 := oy'.out k hlt
            have HNN := Lib.hid hn
            clear dN hn
            rw [HVK.out] at vk
            try rw [HZ.out k] at zk
            clear HVK
            generalize x.at k = xx at *
            generalize y.at k = yy at *
            try generalize z.at k = zz at *
            have w1 : IntKind.i64.wrap (-xx) = -xx := IntWalk.i64_in _ (by omega)
            have w2 : IntKind.i64.wrap (xx + yy) = xx + yy := IntWalk.i64_in _ (by omega)
            go_wp2_with fail
            go_quiet (fail)
            go_wp2_with fail
            go_roundw
            case rel =>
              refine ⟨k + 1, by omega, rfl, by go_num, ?_⟩
              show ∃ n, _ = wq.drewN n
              rw [HNN.out]
              exact ⟨n + nq, by simp [World.drewN, Nat.add_assoc]⟩
            case measure => simp [intOf]; omega
          · obtain rfl : k = 6 := by omega
            have HNN := Lib.hid hn
            clear dN hn
            go_wp2_with fail
            go_ret
            exact ⟨rfl, by rw [HNN.out]; exact below_dN HQ.out _⟩
    · have hbz : (sumE l b != 0) = true := by rw [bne_iff_ne]; exact hb0
      rw [ha] at HSA
      generalize sumE l b = eb at *
      clear hr hra hrb hT hE hx hy ha hb0 hs hll hal hbl ox sa la
      go_enter Tryz.func4, Tryz.ntmps4
      have tk0 := Lib.hid trivial
      go_wp2_with (first
        | (have _t := tk0; go_at_call 5; have bp := Below.refl w.heap.size w; have hb := below_on H0.out bp; have ra' := ra.out.up bp; have rb' := rb.out.up bp; refine (HHD.out _ hb).mono ?_; rintro e v0w ⟨rfl, b'⟩; have b := below_on bp b'; have h0 := Lib.hid (below_on H0.out b); replace ra := Lib.hid (ra.out.up b); replace rb := Lib.hid (rb.out.up b); have tk1 := Lib.hid trivial; clear b b' bp hb tk0 ra' rb')
        | (have _t := tk1; go_at_call 10; have bp := Below.refl v0w.heap.size v0w; have hb := below_on h0.out bp; have ra' := ra.out.up bp; have rb' := rb.out.up bp; refine (HSA.out _ hb _ ra').mono ?_; rintro e v1w ⟨rfl, b'⟩; have b := below_on bp b'; have h1 := Lib.hid (below_on h0.out b); replace ra := Lib.hid (ra.out.up b); replace rb := Lib.hid (rb.out.up b); have tk2 := Lib.hid trivial; clear b b' bp hb tk1 ra' rb')
        | (have _t := tk2; go_at_call 10; have bp := below_al (Below.refl v1w.heap.size v1w) (.cells #[.int .i64 x.a, .int .i64 x.b, .int .i64 x.c, .int .i64 x.d, .int .i64 x.e, .int .i64 x.f] 25); have hb := below_on h1.out bp; have ra' := ra.out.up bp; have rb' := rb.out.up bp; refine (HSB.out _ hb _ rb').mono ?_; rintro e v2w ⟨rfl, b'⟩; have b := below_on bp b'; have h2 := Lib.hid (below_on h1.out b); have kx := Lib.hid (Blk.below (Blk.new v1w 25 #[.int .i64 x.a, .int .i64 x.b, .int .i64 x.c, .int .i64 x.d, .int .i64 x.e, .int .i64 x.f]) b' (Blk.new v1w 25 #[.int .i64 x.a, .int .i64 x.b, .int .i64 x.c, .int .i64 x.d, .int .i64 x.e, .int .i64 x.f]).lt); replace ra := Lib.hid (ra.out.up b); replace rb := Lib.hid (rb.out.up b); have kxc0 := kx.out.cell 0; have kxc1 := kx.out.cell 1; have kxc2 := kx.out.cell 2; have kxc3 := kx.out.cell 3; have kxc4 := kx.out.cell 4; have kxc5 := kx.out.cell 5; have kxl := kx.out.lt; simp at kxc0 kxc1 kxc2 kxc3 kxc4 kxc5; have tk3 := Lib.hid trivial; clear b b' bp hb tk2 ra' rb'))
      go_ret
      exact ⟨rfl, below_al h2.out _⟩
  · have haz : (sumE l a != 0) = true := by rw [bne_iff_ne]; exact ha
    generalize sumE l a = ea at *
    by_cases hb0 : sumE l b = 0
    · obtain ⟨lb, l6, sb, oy⟩ := sum_sizes hb0
      have nb : ((b.length : Int) != (l.length : Int)) = false := by rw [bne_eq_false_iff_eq, lb]
      have nb' : ((b.length : Int) == (l.length : Int)) = true := by rw [beq_iff_eq, lb]
      rw [hb0] at HSB
      clear hr hra hrb hT hE hx hy ha hb0 hs hll hal hbl oy sb lb
      go_enter Tryz.func4, Tryz.ntmps4
      have tk0 := Lib.hid trivial
      go_wp2_with (first
        | (have _t := tk0; go_at_call 5; have bp := Below.refl w.heap.size w; have hb := below_on H0.out bp; have ra' := ra.out.up bp; have rb' := rb.out.up bp; refine (HHD.out _ hb).mono ?_; rintro e v0w ⟨rfl, b'⟩; have b := below_on bp b'; have h0 := Lib.hid (below_on H0.out b); replace ra := Lib.hid (ra.out.up b); replace rb := Lib.hid (rb.out.up b); have tk1 := Lib.hid trivial; clear b b' bp hb tk0 ra' rb')
        | (have _t := tk1; go_at_call 10; have bp := Below.refl v0w.heap.size v0w; have hb := below_on h0.out bp; have ra' := ra.out.up bp; have rb' := rb.out.up bp; refine (HSA.out _ hb _ ra').mono ?_; rintro e v1w ⟨rfl, b'⟩; have b := below_on bp b'; have h1 := Lib.hid (below_on h0.out b); replace ra := Lib.hid (ra.out.up b); replace rb := Lib.hid (rb.out.up b); have tk2 := Lib.hid trivial; clear b b' bp hb tk1 ra' rb')
        | (have _t := tk2; go_at_call 10; have bp := below_al (Below.refl v1w.heap.size v1w) (.cells #[.int .i64 x.a, .int .i64 x.b, .int .i64 x.c, .int .i64 x.d, .int .i64 x.e, .int .i64 x.f] 25); have hb := below_on h1.out bp; have ra' := ra.out.up bp; have rb' := rb.out.up bp; refine (HSB.out _ hb _ rb').mono ?_; rintro e v2w ⟨rfl, b'⟩; have b := below_on bp b'; have h2 := Lib.hid (below_on h1.out b); have kx := Lib.hid (Blk.below (Blk.new v1w 25 #[.int .i64 x.a, .int .i64 x.b, .int .i64 x.c, .int .i64 x.d, .int .i64 x.e, .int .i64 x.f]) b' (Blk.new v1w 25 #[.int .i64 x.a, .int .i64 x.b, .int .i64 x.c, .int .i64 x.d, .int .i64 x.e, .int .i64 x.f]).lt); replace ra := Lib.hid (ra.out.up b); replace rb := Lib.hid (rb.out.up b); have kxc0 := kx.out.cell 0; have kxc1 := kx.out.cell 1; have kxc2 := kx.out.cell 2; have kxc3 := kx.out.cell 3; have kxc4 := kx.out.cell 4; have kxc5 := kx.out.cell 5; have kxl := kx.out.lt; simp at kxc0 kxc1 kxc2 kxc3 kxc4 kxc5; have tk3 := Lib.hid trivial; clear b b' bp hb tk2 ra' rb'))
      go_ret
      exact ⟨rfl, below_al h2.out _⟩
    · have hbz : (sumE l b != 0) = true := by rw [bne_iff_ne]; exact hb0
      generalize sumE l b = eb at *
      clear hr hra hrb hT hE hx hy ha hb0 hs hll hal hbl
      go_enter Tryz.func4, Tryz.ntmps4
      have tk0 := Lib.hid trivial
      go_wp2_with (first
        | (have _t := tk0; go_at_call 5; have bp := Below.refl w.heap.size w; have hb := below_on H0.out bp; have ra' := ra.out.up bp; have rb' := rb.out.up bp; refine (HHD.out _ hb).mono ?_; rintro e v0w ⟨rfl, b'⟩; have b := below_on bp b'; have h0 := Lib.hid (below_on H0.out b); replace ra := Lib.hid (ra.out.up b); replace rb := Lib.hid (rb.out.up b); have tk1 := Lib.hid trivial; clear b b' bp hb tk0 ra' rb')
        | (have _t := tk1; go_at_call 10; have bp := Below.refl v0w.heap.size v0w; have hb := below_on h0.out bp; have ra' := ra.out.up bp; have rb' := rb.out.up bp; refine (HSA.out _ hb _ ra').mono ?_; rintro e v1w ⟨rfl, b'⟩; have b := below_on bp b'; have h1 := Lib.hid (below_on h0.out b); replace ra := Lib.hid (ra.out.up b); replace rb := Lib.hid (rb.out.up b); have tk2 := Lib.hid trivial; clear b b' bp hb tk1 ra' rb')
        | (have _t := tk2; go_at_call 10; have bp := below_al (Below.refl v1w.heap.size v1w) (.cells #[.int .i64 x.a, .int .i64 x.b, .int .i64 x.c, .int .i64 x.d, .int .i64 x.e, .int .i64 x.f] 25); have hb := below_on h1.out bp; have ra' := ra.out.up bp; have rb' := rb.out.up bp; refine (HSB.out _ hb _ rb').mono ?_; rintro e v2w ⟨rfl, b'⟩; have b := below_on bp b'; have h2 := Lib.hid (below_on h1.out b); have kx := Lib.hid (Blk.below (Blk.new v1w 25 #[.int .i64 x.a, .int .i64 x.b, .int .i64 x.c, .int .i64 x.d, .int .i64 x.e, .int .i64 x.f]) b' (Blk.new v1w 25 #[.int .i64 x.a, .int .i64 x.b, .int .i64 x.c, .int .i64 x.d, .int .i64 x.e, .int .i64 x.f]).lt); replace ra := Lib.hid (ra.out.up b); replace rb := Lib.hid (rb.out.up b); have kxc0 := kx.out.cell 0; have kxc1 := kx.out.cell 1; have kxc2 := kx.out.cell 2; have kxc3 := kx.out.cell 3; have kxc4 := kx.out.cell 4; have kxc5 := kx.out.cell 5; have kxl := kx.out.lt; simp at kxc0 kxc1 kxc2 kxc3 kxc4 kxc5; have tk3 := Lib.hid trivial; clear b b' bp hb tk2 ra' rb'))
      go_ret
      exact ⟨rfl, below_al h2.out _⟩

end Go.Proofs.YtipaapplingbnaaGreatDoor
