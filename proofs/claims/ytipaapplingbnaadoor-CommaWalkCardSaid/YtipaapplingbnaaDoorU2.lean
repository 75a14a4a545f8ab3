/- Walks: CommaWalk. -/
import Derived.Test.YtipaapplingbnaaDoorPc
import Derived.Test.YtipaapplingbnaaDoorHd
namespace Go.Proofs.YtipaapplingbnaaDoor
open Go.RowKit Go.Deep

set_option maxRecDepth 100000 in
set_option maxHeartbeats 8000000 in
theorem walks_any (w : World) (A At : Option Addr) (c ct : Nat) (l : List Cm) (ts : List Tk) (hr : RdN w w.heap.size A l) (hs : ∀ x ∈ l, x.nm.length ≤ 9223372036854775807) (hll : l.length ≤ 9223372036854775807) (hrt : RdT w w.heap.size At ts) (htl : ts.length ≤ 9223372036854775807) (hT : Tab w) (hE : Errs w) :
    Calls Tryd.prog 6 #[.slice A l.length c, .slice At ts.length ct] w fun e w' => e = .returned (.bool true) ∧ Below w.heap.size w w' := by
  have HHD := Lib.hid (head_any w hT hE)
  have HWK := Lib.hid fun W (hb : Below w.heap.size w W) => walk_any W A At c ct l ts (hr.up hb) hs hll (hrt.up hb) htl
  unfold WalkEnds at HWK
  by_cases he : walkE l ts = 0
  · obtain ⟨hv, h16, hot, hos, hwv⟩ := walk_good he
    have hL := validB_iff.1 hv
    have hl6 := hL.hi
    have hl1 := hL.lo
    have hlen : (walkV l ts).length = ts.length + 1 := by rw [hwv, shs_len]
    rw [he, hlen, hwv] at HWK
    have HCN := Lib.hid fun W (hb : Below w.heap.size w W) k (hk : k ≤ ts.length) => (counts_any W A c l (shV l ts k) (hr.up hb) hs hll).mono fun e w' h => (show Below W.heap.size W w' ∧ ∃ A c, e = .returned (.tuple #[.slice A l.length c, .int .i64 0]) ∧ RdI w' w'.heap.size A (cntW l.length ts k) from by
      unfold CntEnds at h
      obtain ⟨h1, h2, -, -⟩ := walk_law he k hk
      rw [h1, h2, cntW_len] at h
      obtain ⟨hb, A, c, h1, h2, -⟩ := h
      exact ⟨hb, A, c, h1, h2⟩)
    have HSM := Lib.hid fun W (hb : Below w.heap.size w W) k (hk : k ≤ ts.length) g (hg : IRow W g (cntW l.length ts k)) => (show Calls Tryd.prog 9 #[.slice A l.length c, .slice (some ⟨g, 0, none⟩) l.length l.length] W (fun e w' => e = .returned (.tuple #[.agg (shV l ts k).cells, .int .i64 0]) ∧ Below W.heap.size W w') from by
      have := sum_any W A (some ⟨g, 0, none⟩) c l.length l (cntW l.length ts k) (hr.up hb) hs hll hg.rd (by rw [cntW_len]; exact hll)
      obtain ⟨-, -, h1, h2⟩ := walk_law he k hk
      rw [h1, h2, cntW_len] at this
      exact this)
    have HIN := Lib.hid fun W k A B (c d : Nat) (h1 : RdI W W.heap.size A (cntW l.length ts k)) (h2 : RdI W W.heap.size B (cntW l.length ts k)) => (show Calls Tryd.prog 11 #[.slice A l.length c, .slice B l.length d] W (fun e w' => e = .returned (.bool true) ∧ Below W.heap.size W w') from by
      have := ints_any W A B c d _ _ h1 h2 (by rw [cntW_len]; omega)
      rw [decide_eq_true rfl, cntW_len] at this
      exact this)
    have hmki := make_ints l.length (by omega)
    have HOT := Lib.hid hot
    have HRT := Lib.hid hrt
    have hz1 : ((ts.length : Int) + 1 != (ts.length : Int) + 1) = false := by simp
    have n16 : ¬ 16 ≤ ts.length := by omega
    have n6 : ¬ 6 < l.length := by omega
    clear hr hs hT hE hL hv he hos hwv hlen hrt
    go_enter Tryd.func6, Tryd.ntmps6
    go_wp2_with (first
      | (go_at_call 8; refine HHD.out.mono ?_; rintro e w1 ⟨rfl, b1⟩; have h1 := Lib.hid b1; clear b1)
      | (go_at_call 13; refine (HWK.out _ h1.out).mono ?_; rintro e w2 ⟨b2, Av, cv, rfl, rv⟩; have h2 := Lib.hid (below_on h1.out b2); have RV := Lib.hid rv; clear b2 rv))
    obtain ⟨g, hg⟩ : ∃ g, g = w2.heap.size := ⟨_, rfl⟩
    rw [← hg]
    have HG := Lib.hid hg
    have HI0 : Hid (IRow (w2.alloc (.cells (icells (List.replicate l.length 0)).toArray 3)) g (cntW l.length ts 0)) := by
      show IRow _ _ _
      rw [hg]
      exact Blk.new w2 _ _
    clear n16 n6 hz1 hmki hg
    go_loopw [5, 9] (fun u i wx => ∃ k : Nat, k ≤ ts.length + 1 ∧ u = .bool true ∧ i = .int .i64 k ∧ Hid (Below w2.heap.size w2 wx) ∧ Hid (k ≤ ts.length → IRow wx g (cntW l.length ts k))) (fun _ i _ => ts.length + 1 - (intOf i).toNat)
    case atStart => exact ⟨0, by omega, rfl, rfl, (Below.refl _ _).alloc (Nat.le_refl _) _, fun _ => HI0.out⟩
    case round =>
      clear HI0
      obtain ⟨k, hk, rfl, rfl, HB, HI⟩ := hrel
      by_cases hkl : k ≤ ts.length
      · have hle : (k : Int) ≤ (ts.length : Int) := by omega
        have hki : (k : Int) < (ts.length : Int) + 1 := by omega
        have HW := Lib.hid (below_on h2.out HB.out)
        have HROW := Lib.hid (HI.out hkl)
        obtain ⟨av, rfl, hav, ⟨p0, p1, p2, p3, p4, p5⟩, -⟩ := (RV.out.up HB.out).at (i := k) (by rw [shs_len]; omega)
        have hx : (shs l ts ts.length)[k]'(by rw [shs_len]; omega) = shV l ts k := by simp [shs]
        rw [hx] at p0 p1 p2 p3 p4 p5
        have HC1 := Lib.hid (HCN.out wr HW.out k hkl)
        have HS1 := Lib.hid fun W hb hg => HSM.out W hb k hkl g hg
        have HIQ := Lib.hid fun W A B (c d : Nat) (h1 : RdI W W.heap.size A (cntW l.length ts k)) (h2 : RdI W W.heap.size B (cntW l.length ts k)) => (show Calls Tryd.prog 11 #[.slice A l.length c, .slice B l.length d] W (fun e w' => e = .returned (.bool true) ∧ ∃ n, w' = W.drewN n) from by
          have := ints_q W A B c d _ _ h1 h2 (by rw [cntW_len]; omega)
          rw [decide_eq_true rfl, cntW_len] at this
          exact this)
        have heq := fun W => eql_vec (shV l ts k) (shV l ts k) W
        rw [decide_eq_true rfl] at heq
        have hwz := HB.out.size
        have hgl := Blk.lt HROW.out
        have hbk : ∀ i, (⟨(av.add (k * 6)).block, i, none⟩ : Addr).block < wr.heap.size := fun i => by simp only [add_block]; exact hav
        have HPV : Hid (∀ W, Below wr.heap.size wr W → VcAt W (av.add (k * 6)) (shV l ts k)) := fun W hb =>
          ⟨(hb.cell (by rw [add_block]; exact hav)).trans p0, (hb.cell (hbk _)).trans p1, (hb.cell (hbk _)).trans p2, (hb.cell (hbk _)).trans p3, (hb.cell (hbk _)).trans p4, (hb.cell (hbk _)).trans p5⟩
        by_cases hlt : k < ts.length
        · obtain ⟨ad, rfl, had, -⟩ := (HRT.out.up HW.out).at hlt
          have HTK := Lib.hid fun W (hb : Below w.heap.size w W) => (HRT.out.up hb).at hlt
          obtain ⟨c0, c1', c2⟩ := wrong_small (of_decide_eq_true HOT.out k hlt)
          have hgt := getD_at hlt (⟨0, 0, 0, 0⟩ : Tk)
          obtain ⟨ci, hci⟩ : ∃ ci : Nat, (ts.getD k ⟨0, 0, 0, 0⟩).c = ci := ⟨(ts.getD k ⟨0, 0, 0, 0⟩).c.toNat, by omega⟩
          have hcil : ci < l.length := by omega
          have hciI : (ci : Int) < (l.length : Int) := by omega
          have hltI : (k : Int) < (ts.length : Int) := by omega
          have hsm := cntW_small HOT.out k hkl ((cntW l.length ts k).getD ci 0) (by rw [getD_at (by rw [cntW_len]; exact hcil)]; exact List.getElem_mem _)
          have HST : Hid (cntW l.length ts (k + 1) = (cntW l.length ts k).set ci ((cntW l.length ts k).getD ci 0 + (ts.getD k ⟨0, 0, 0, 0⟩).n)) := by
            show _ = _
            rw [cntW, hci, Int.toNat_natCast]
          have HCL := Lib.hid (cntW_len l.length ts k)
          clear hx hbk hav
          go_wp2_with (first
            | (go_at_call 10; refine HC1.out.mono ?_; rintro e w3 ⟨b3, A1, c1, rfl, r1⟩; have B3 := Lib.hid b3; have h3 := Lib.hid (below_on HW.out b3); have I3 : Hid (IRow w3 g (cntW l.length ts k)) := Blk.below HROW.out b3 hgl; have R1 := Lib.hid r1; clear b3 r1)
            | (go_at_call 9; refine (HS1.out _ h3.out I3.out).mono ?_; rintro e w4 ⟨rfl, b4⟩; have B4 := Lib.hid (below_on B3.out b4); have h4 := Lib.hid (below_on h3.out b4); have I4 : Hid (IRow w4 g (cntW l.length ts k)) := Blk.below I3.out b4 (Blk.lt I3.out); have R4 := Lib.hid (R1.out.up b4); clear b4))
          obtain ⟨wq, hwq⟩ : ∃ wq, wq = w4.alloc (.cells #[.int .i64 (shV l ts k).a, .int .i64 (shV l ts k).b, .int .i64 (shV l ts k).c, .int .i64 (shV l ts k).d, .int .i64 (shV l ts k).e, .int .i64 (shV l ts k).f] 25) := ⟨_, rfl⟩
          rw [← hwq]
          have bq : Below w4.heap.size w4 wq := by rw [hwq]; exact below_al (Below.refl w4.heap.size w4) _
          have KX : Blk wq w4.heap.size 25 #[.int .i64 (shV l ts k).a, .int .i64 (shV l ts k).b, .int .i64 (shV l ts k).c, .int .i64 (shV l ts k).d, .int .i64 (shV l ts k).e, .int .i64 (shV l ts k).f] := by rw [hwq]; exact Blk.new _ _ _
          have t0 := KX.cell 0
          have t1 := KX.cell 1
          have t2 := KX.cell 2
          have t3 := KX.cell 3
          have t4 := KX.cell 4
          have t5 := KX.cell 5
          simp at t0 t1 t2 t3 t4 t5
          have B5 := Lib.hid (below_on B4.out bq)
          have h5 := Lib.hid (below_on h4.out bq)
          have I5 : Hid (IRow wq g (cntW l.length ts k)) := Blk.below I4.out bq (Blk.lt I4.out)
          have R5 := Lib.hid (R4.out.up bq)
          obtain ⟨q0, q1, q2, q3, q4, q5⟩ := HPV.out _ B5.out
          clear bq KX hwq p0 p1 p2 p3 p4 p5
          have HQ := Lib.hid fun n => HIQ.out (wq.drewN n) A1 (some ⟨g, 0, none⟩) c1 l.length (R5.out.up (below_dN (Below.refl _ _) n)) (IRow.rd (show IRow (wq.drewN n) g _ from I5.out))
          go_quiet (first | (go_at_call 11; refine Calls.quiet_of (HQ.out _)))
          obtain ⟨ad', e', had', tk0, tk1, tk2, tk3⟩ := HTK.out wq h5.out
          obtain rfl := Option.some.inj e'
          rw [← hgt] at tk0 tk1 tk2 tk3
          rw [hci] at tk1
          have qc := I5.out.cell ci (by rw [HCL.out]; exact hcil)
          clear e' had'
          go_wp2_with fail
          have qf := I5.out.frozen ci
          obtain ⟨wz, hwz2⟩ : ∃ wz, wz = wq.drewN nq := ⟨_, rfl⟩
          rw [← hwz2]
          have dN : ∀ p, (wq.drewN nq).cell? p = wq.cell? p := fun _ => rfl
          have fN : ∀ p, (wq.drewN nq).frozen? p = wq.frozen? p := fun _ => rfl
          have x1 := (dN _).trans tk1
          have x2 := (dN _).trans tk2
          have xc := (dN _).trans qc
          have xf := (fN _).trans qf
          have HRZ : Hid (IRow (wq.drewN nq) g (cntW l.length ts k)) := I5.out
          have HBZ : Hid (Below w2.heap.size w2 (wq.drewN nq)) := below_dN (HB.out.trans (B5.out.mono HB.out.size)) _
          rw [← hwz2] at x1 x2 xc xf HRZ HBZ
          clear dN fN tk0 tk1 tk2 tk3 qc qf q0 q1 q2 q3 q4 q5 t0 t1 t2 t3 t4 t5 hwz2
          generalize (cntW l.length ts k).getD ci 0 = y at *
          generalize (ts.getD k ⟨0, 0, 0, 0⟩).n = n at *
          have hwy : IntKind.i64.wrap (y + n) = y + n := IntWalk.i64_in _ (by omega)
          have hE : ∀ p, World.cell? { wz with drawn := wz.drawn + 1 } p = wz.cell? p := fun _ => rfl
          go_still_tail 15, (by kernel_rfl)
          change wpList _ _ _ _ _ wz.drew
          go_wp2_with fail
          go_roundw
          case rel =>
            refine ⟨k + 1, by omega, rfl, by go_num, ?_, fun _ => ?_⟩
            · exact HBZ.out.drew.setCell (by rw [HG.out]; exact Nat.le_refl _) _
            · rw [HST.out]
              exact IRow.put (show IRow wz.drew g _ from HRZ.out) ci (y + n)
          case measure => simp [intOf]; omega
        · obtain rfl : k = ts.length := by omega
          have hltI : ¬ (ts.length : Int) < (ts.length : Int) := by omega
          clear hlt hx hbk hav hkl
          go_wp2_with (first
            | (go_at_call 10; refine HC1.out.mono ?_; rintro e w3 ⟨b3, A1, c1, rfl, r1⟩; have B3 := Lib.hid b3; have h3 := Lib.hid (below_on HW.out b3); have I3 : Hid (IRow w3 g (cntW l.length ts ts.length)) := Blk.below HROW.out b3 hgl; have R1 := Lib.hid r1; clear b3 r1)
            | (go_at_call 9; refine (HS1.out _ h3.out I3.out).mono ?_; rintro e w4 ⟨rfl, b4⟩; have B4 := Lib.hid (below_on B3.out b4); have h4 := Lib.hid (below_on h3.out b4); have I4 : Hid (IRow w4 g (cntW l.length ts ts.length)) := Blk.below I3.out b4 (Blk.lt I3.out); have R4 := Lib.hid (R1.out.up b4); clear b4))
          obtain ⟨wq, hwq⟩ : ∃ wq, wq = w4.alloc (.cells #[.int .i64 (shV l ts ts.length).a, .int .i64 (shV l ts ts.length).b, .int .i64 (shV l ts ts.length).c, .int .i64 (shV l ts ts.length).d, .int .i64 (shV l ts ts.length).e, .int .i64 (shV l ts ts.length).f] 25) := ⟨_, rfl⟩
          rw [← hwq]
          have bq : Below w4.heap.size w4 wq := by rw [hwq]; exact below_al (Below.refl w4.heap.size w4) _
          have KX : Blk wq w4.heap.size 25 #[.int .i64 (shV l ts ts.length).a, .int .i64 (shV l ts ts.length).b, .int .i64 (shV l ts ts.length).c, .int .i64 (shV l ts ts.length).d, .int .i64 (shV l ts ts.length).e, .int .i64 (shV l ts ts.length).f] := by rw [hwq]; exact Blk.new _ _ _
          have t0 := KX.cell 0
          have t1 := KX.cell 1
          have t2 := KX.cell 2
          have t3 := KX.cell 3
          have t4 := KX.cell 4
          have t5 := KX.cell 5
          simp at t0 t1 t2 t3 t4 t5
          have B5 := Lib.hid (below_on B4.out bq)
          have h5 := Lib.hid (below_on h4.out bq)
          have I5 : Hid (IRow wq g (cntW l.length ts ts.length)) := Blk.below I4.out bq (Blk.lt I4.out)
          have R5 := Lib.hid (R4.out.up bq)
          obtain ⟨q0, q1, q2, q3, q4, q5⟩ := HPV.out _ B5.out
          clear bq KX hwq p0 p1 p2 p3 p4 p5
          have HQ := Lib.hid fun n => HIQ.out (wq.drewN n) A1 (some ⟨g, 0, none⟩) c1 l.length (R5.out.up (below_dN (Below.refl _ _) n)) (IRow.rd (show IRow (wq.drewN n) g _ from I5.out))
          go_quiet (first | (go_at_call 11; refine Calls.quiet_of (HQ.out _)))
          go_wp2_with fail
          go_roundw
          case rel => exact ⟨ts.length + 1, by omega, rfl, by go_num, below_dN (HB.out.trans (B5.out.mono HB.out.size)) _, fun h => absurd h (by omega)⟩
          case measure => simp [intOf]
      · obtain rfl : k = ts.length + 1 := by omega
        have hle : ¬ ((ts.length + 1 : Nat) : Int) ≤ (ts.length : Int) := by omega
        go_wp2_with fail
        go_ret
        exact ⟨rfl, below_on h2.out HB.out⟩
  · have hw0 : (walkV l ts).length = 0 := by rw [walk_empty he]; rfl
    have hez : (walkE l ts != 0) = true := by rw [bne_iff_ne]; exact he
    rw [hw0] at HWK
    generalize walkE l ts = k at *
    generalize walkV l ts = vs at *
    clear hr hs hT hE he hw0 hrt
    go_enter Tryd.func6, Tryd.ntmps6
    go_wp2_with (first
      | (go_at_call 8; refine HHD.out.mono ?_; rintro e w1 ⟨rfl, b1⟩; have h1 := Lib.hid b1; clear b1)
      | (go_at_call 13; refine (HWK.out _ h1.out).mono ?_; rintro e w2 ⟨b2, Av, cv, rfl, rv⟩; have h2 := Lib.hid (below_on h1.out b2); clear b2 rv))
    go_ret
    exact ⟨rfl, h2.out⟩

end Go.Proofs.YtipaapplingbnaaDoor
