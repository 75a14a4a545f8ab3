/- Walks: Sum. -/
import Derived.Test.YtipaapplingbnaaDoorCo
namespace Go.Proofs.YtipaapplingbnaaDoor
open Go.RowKit Go.Deep

def zeroV : Vc := ⟨0, 0, 0, 0, 0, 0⟩
/-- The sum of the first k intervals, multiplied. -/
def tot (l : List Cm) (cs : List Int) : Nat → Vc
  | 0 => zeroV
  | k + 1 => (tot l cs k).addm (cs.getD k 0) (l.getD k ⟨[], zeroV⟩).v
theorem zeroV_at (j : Nat) : zeroV.at j = 0 := by
  unfold Vc.at zeroV
  split <;> rfl
theorem tot_comb (l : List Cm) (cs : List Int) (hc : cs.length = l.length) (k : Nat) (hk : k ≤ l.length) (j : Nat) : (tot l cs k).at j = comb (cs.take k) ((l.take k).map fun x => x.v.at) j := by
  induction k with
  | zero => simp [tot, zeroV_at, comb]
  | succ k ih =>
    have hlt : k < l.length := by omega
    have hltc : k < cs.length := by omega
    rw [tot, Vc.addm_at, ih (by omega), List.take_succ_eq_append_getElem hlt, List.take_succ_eq_append_getElem hltc, List.map_append]
    have e := comb_mid (cs.take k) [] cs[k] ((l.take k).map fun x => x.v.at) [] l[k].v.at (by simp; omega) j
    simp only [List.append_nil, List.map_cons, List.map_nil] at e ⊢
    rw [e]
    simp only [List.getD_eq_getElem?_getD, List.getElem?_eq_getElem hlt, List.getElem?_eq_getElem hltc, Option.getD_some]
    omega
theorem tot_all (l : List Cm) (cs : List Int) (hc : cs.length = l.length) (j : Nat) : (tot l cs l.length).at j = comb cs (l.map fun x => x.v.at) j := by
  have := tot_comb l cs hc l.length (Nat.le_refl _) j
  rwa [List.take_length, List.take_of_length_le (by omega)] at this
theorem tot_small (l : List Cm) (cs : List Int) (hv : ∀ x ∈ l, x.v.ok = true) (M : Nat) (hr : ∀ n ∈ cs, n.natAbs ≤ M) (hc : cs.length = l.length) (k : Nat) (hk : k ≤ l.length) (j : Nat) (hj : j < 6) : ((tot l cs k).at j).natAbs ≤ M * 48 * k := by
  induction k with
  | zero => rw [tot, zeroV_at]; simp
  | succ k ih =>
    have hlt : k < l.length := by omega
    have hltc : k < cs.length := by omega
    have h1 := ih (by omega)
    have h2 := hr _ (List.getElem_mem hltc)
    have h3 := (Vc.ok_iff _).1 (hv _ (List.getElem_mem hlt)) j hj
    rw [tot, Vc.addm_at]
    simp only [List.getD_eq_getElem?_getD, List.getElem?_eq_getElem hlt, List.getElem?_eq_getElem hltc, Option.getD_some]
    have h4 : (cs[k] * l[k].v.at j).natAbs ≤ M * 48 := by rw [Int.natAbs_mul]; exact Nat.mul_le_mul h2 h3
    rw [Nat.mul_add, Nat.mul_one]
    omega
noncomputable def sumV (l : List Cm) (cs : List Int) : Vc := if accB l cs && (tot l cs l.length).ok then tot l cs l.length else zeroV
noncomputable def sumE (l : List Cm) (cs : List Int) : Int := if accB l cs then (if (tot l cs l.length).ok then 0 else 3) else 1
theorem Blk.set6 {w : World} {g : Nat} {t : TypeId} {c0 c1 c2 c3 c4 c5 : Value} (h : Blk w g t #[c0, c1, c2, c3, c4, c5]) (v0 v1 v2 v3 v4 v5 : Value) :
    Blk ((((((w.setCell ⟨g, 0, none⟩ v0).setCell ⟨g, 1, none⟩ v1).setCell ⟨g, 2, none⟩ v2).setCell ⟨g, 3, none⟩ v3).setCell ⟨g, 4, none⟩ v4).setCell ⟨g, 5, none⟩ v5) g t #[v0, v1, v2, v3, v4, v5] := by
  have := (((((h.set_ 0 v0).set_ 1 v1).set_ 2 v2).set_ 3 v3).set_ 4 v4).set_ 5 v5
  simpa using this
theorem below_set6 {B : Nat} {w0 w : World} {g : Nat} (h : Below B w0 w) (hg : B ≤ g) (v0 v1 v2 v3 v4 v5 : Value) :
    Below B w0 ((((((w.setCell ⟨g, 0, none⟩ v0).setCell ⟨g, 1, none⟩ v1).setCell ⟨g, 2, none⟩ v2).setCell ⟨g, 3, none⟩ v3).setCell ⟨g, 4, none⟩ v4).setCell ⟨g, 5, none⟩ v5) :=
  (((((h.setCell (p := ⟨g, 0, none⟩) hg _).setCell (p := ⟨g, 1, none⟩) hg _).setCell (p := ⟨g, 2, none⟩) hg _).setCell (p := ⟨g, 3, none⟩) hg _).setCell (p := ⟨g, 4, none⟩) hg _).setCell (p := ⟨g, 5, none⟩) hg _
theorem vec_load {w : World} {g : Nat} {v : Vc} (h : Blk w g 25 v.cells) : ∀ j u, v.cells.toList[j]? = some u → w.cell? ((⟨g, 0, none⟩ : Addr).add j) = some u := fun j u hu => by
  rw [show (⟨g, 0, none⟩ : Addr).add j = ⟨g, j, none⟩ from by unfold Addr.add; split <;> simp_all, h.cell j, ← hu]
  simp
theorem Only.blk {g x : Nat} {w w' : World} {t : TypeId} {cs : Array Value} (h : Only g w w') (hb : Blk w x t cs) (hx : x ≠ g) : Blk w' x t cs := (h.block x hx hb.lt).trans hb

set_option maxRecDepth 100000 in
set_option maxHeartbeats 4000000 in
theorem sum_any (w : World) (A Ac : Option Addr) (c cc : Nat) (l : List Cm) (cs : List Int) (hr : RdN w w.heap.size A l) (hs : ∀ x ∈ l, x.nm.length ≤ 9223372036854775807) (hll : l.length ≤ 9223372036854775807) (hrc : RdI w w.heap.size Ac cs) (hcl : cs.length ≤ 9223372036854775807) :
    Calls Tryd.prog 9 #[.slice A l.length c, .slice Ac cs.length cc] w fun e w' => e = .returned (.tuple #[.agg (sumV l cs).cells, .int .i64 (sumE l cs)]) ∧ Below w.heap.size w w' := by
  have hal := (Below.refl w.heap.size w).alloc (Nat.le_refl _) (.cells zeroV.cells 25)
  have HA := Lib.hid (account_any (w.alloc (.cells zeroV.cells 25)) A Ac c cc l cs (hr.up hal) hs hll (hrc.up hal) hcl)
  have HBL := Lib.hid (Blk.new w 25 zeroV.cells)
  have HAL := Lib.hid hal
  unfold sumV sumE
  rcases ha : accB l cs with _ | _
  · rw [ha] at HA
    simp only [Bool.false_and, Bool.false_eq_true, if_false]
    clear hr hs hrc hal
    go_enter Tryd.func9, Tryd.ntmps9
    go_wp2_with (go_at_call 18; refine HA.out.mono ?_; rintro e w1 ⟨rfl, b1⟩; have K1 := Lib.hid (HBL.out.below b1 HBL.out.lt); have p0 := K1.out.cell 0; have p1 := K1.out.cell 1; have p2 := K1.out.cell 2; have p3 := K1.out.cell 3; have p4 := K1.out.cell 4; have p5 := K1.out.cell 5; have z0 := K1.out.frozen 0; have z1 := K1.out.frozen 1; have z2 := K1.out.frozen 2; have z3 := K1.out.frozen 3; have z4 := K1.out.frozen 4; have z5 := K1.out.frozen 5; simp [zeroV] at p0 p1 p2 p3 p4 p5; replace b1 := Lib.hid b1)
    have HB1 := (HAL.out.trans (b1.out.mono HAL.out.size))
    refine bodyPost_ret (results_cell_tmp rfl _ ⟨w.heap.size, 0, none⟩ rfl _ Tryd.underlying25 rfl _ (zeroV).cells size_vec (vec_load (K1.out.set6 (.int .i64 0) (.int .i64 0) (.int .i64 0) (.int .i64 0) (.int .i64 0) (.int .i64 0)))) rfl ?_
    exact ⟨rfl, below_set6 HB1 (Nat.le_refl _) _ _ _ _ _ _⟩
  · rw [ha] at HA
    obtain ⟨hir, hlen, hL⟩ := accB_iff.1 ha
    have hl6 := hL.hi
    have HIR := Lib.hid (inRange_abs hir)
    have HVK := Lib.hid hL.vecs
    have HTS := Lib.hid fun k (hk : k ≤ l.length) j (hj : j < 6) => tot_small l cs hL.vecs 1000 (inRange_abs hir) hlen k hk j hj
    have HR := Lib.hid hr
    have HC := Lib.hid hrc
    have HLEN := Lib.hid hlen
    simp only [Bool.true_and, if_true]
    obtain ⟨RV, hRV⟩ : ∃ RV : Vc, (if (tot l cs l.length).ok = true then tot l cs l.length else zeroV) = RV := ⟨_, rfl⟩
    obtain ⟨RE, hRE⟩ : ∃ RE : Int, (if (tot l cs l.length).ok = true then (0 : Int) else 3) = RE := ⟨_, rfl⟩
    rw [hRV, hRE]
    have HRV := Lib.hid hRV
    have HRE := Lib.hid hRE
    clear hr hs hrc hal hir hL hlen ha hRV hRE
    go_enter Tryd.func9, Tryd.ntmps9
    go_wp2_with (go_at_call 18; refine HA.out.mono ?_; rintro e w1 ⟨rfl, b1⟩; have K1 := Lib.hid (HBL.out.below b1 HBL.out.lt); have HB1 := Lib.hid (HAL.out.trans (b1.mono HAL.out.size)); clear b1)
    go_loopw [16] (fun i wx => ∃ k : Nat, k ≤ l.length ∧ i = .int .i64 k ∧ Hid (Below w.heap.size w wx) ∧ Hid (Blk wx w1.heap.size 25 (tot l cs k).cells) ∧ Hid (Blk wx w.heap.size 25 zeroV.cells)) (fun i _ => l.length - (intOf i).toNat)
    case atStart => exact ⟨0, Nat.zero_le _, rfl, HB1.out.alloc HB1.out.size _, Blk.new w1 _ _, K1.out.alloc _⟩
    case round =>
      obtain ⟨k, hk, rfl, HB, HT, HZ⟩ := hrel
      have hz1 := HB1.out.size
      have hzl := K1.out.lt
      by_cases hlt : k < l.length
      · obtain ⟨ad, rfl, had, hca⟩ := (HR.out.up HB.out).at hlt
        obtain ⟨q0, q1, q2, q3, q4, q5, q6⟩ := hca
        obtain ⟨ac, rfl, hac, hx⟩ := (HC.out.up HB.out).at (i := k) (by have := HLEN.out; omega)
        have hn := HIR.out (cs.getD k 0) (by have := HLEN.out; simp [List.getD_eq_getElem?_getD, show k < cs.length by omega])
        have HV := Lib.hid (HVK.out _ (List.getElem_mem hlt))
        have HADD := Lib.hid (add_any wr w1.heap.size (tot l cs k) l[k].v (cs.getD k 0) HT.out (by omega) HV.out (fun j hj => by have := HTS.out k hk j hj; omega))
        have HTE : Hid ((tot l cs k).addm (cs.getD k 0) l[k].v = tot l cs (k + 1)) := by
          show _ = _
          rw [tot]
          simp only [List.getD_eq_getElem?_getD, List.getElem?_eq_getElem hlt, Option.getD_some]
        rw [HTE.out] at HADD
        have hcsl : k < cs.length := by have := HLEN.out; omega
        have hlen2 : cs.length = l.length := HLEN.out
        generalize cs.getD k 0 = n at *
        generalize l[k] = x at *
        clear HTE hlen2
        go_wp2_with (go_at_call 19; refine HADD.out.mono ?_; rintro e w3 ⟨rfl, o3, k3⟩; replace o3 := Lib.hid o3; replace k3 := Lib.hid k3)
        go_roundw
        case rel => exact ⟨k + 1, by omega, by go_num, HB.out.trans (o3.out.below hz1 HB.out.size), k3.out, o3.out.blk HZ.out (by omega)⟩
        case measure => simp [intOf]; omega
      · obtain rfl : k = l.length := by omega
        have HIV := Lib.hid fun w1 => interval_any w1 (tot l cs l.length)
        generalize hT : tot l cs l.length = T at *
        clear hT HTS
        have t0 := HT.out.cell 0
        have t1 := HT.out.cell 1
        have t2 := HT.out.cell 2
        have t3 := HT.out.cell 3
        have t4 := HT.out.cell 4
        have t5 := HT.out.cell 5
        simp at t0 t1 t2 t3 t4 t5
        have hcsl : ¬ l.length < cs.length := by have := HLEN.out; omega
        rcases hq : T.ok with _ | _
        · rw [hq] at HIV
          have HV2 : Hid (RV = zeroV) := by
            show RV = _
            rw [← HRV.out, hq]
            rfl
          have HE2 : Hid (RE = 3) := by
            show RE = _
            rw [← HRE.out, hq]
            rfl
          clear hq
          go_wp2_with (go_at_call 20; refine (HIV.out _).mono ?_; rintro e w4 ⟨rfl, b4⟩; have K4 := Lib.hid (HZ.out.below b4 HZ.out.lt); have p0 := K4.out.cell 0; have p1 := K4.out.cell 1; have p2 := K4.out.cell 2; have p3 := K4.out.cell 3; have p4 := K4.out.cell 4; have p5 := K4.out.cell 5; have z0 := K4.out.frozen 0; have z1 := K4.out.frozen 1; have z2 := K4.out.frozen 2; have z3 := K4.out.frozen 3; have z4 := K4.out.frozen 4; have z5 := K4.out.frozen 5; simp [zeroV] at p0 p1 p2 p3 p4 p5; replace b4 := Lib.hid b4)
          refine bodyPost_ret (results_cell_tmp rfl _ ⟨w.heap.size, 0, none⟩ rfl _ Tryd.underlying25 rfl _ (zeroV).cells size_vec (vec_load (K4.out.set6 (.int .i64 0) (.int .i64 0) (.int .i64 0) (.int .i64 0) (.int .i64 0) (.int .i64 0)))) rfl ?_
          exact ⟨by rw [HV2.out, HE2.out]; rfl, below_set6 (below_on HB.out b4.out) (Nat.le_refl _) _ _ _ _ _ _⟩
        · rw [hq] at HIV
          have HV2 : Hid (RV = T) := by
            show RV = _
            rw [← HRV.out, hq]
            rfl
          have HE2 : Hid (RE = 0) := by
            show RE = _
            rw [← HRE.out, hq]
            rfl
          clear hq
          go_wp2_with (go_at_call 20; refine (HIV.out _).mono ?_; rintro e w4 ⟨rfl, b4⟩; have K4 := Lib.hid (HZ.out.below b4 HZ.out.lt); have T4 := Lib.hid (HT.out.below b4 HT.out.lt); have p0 := K4.out.cell 0; have p1 := K4.out.cell 1; have p2 := K4.out.cell 2; have p3 := K4.out.cell 3; have p4 := K4.out.cell 4; have p5 := K4.out.cell 5; have z0 := K4.out.frozen 0; have z1 := K4.out.frozen 1; have z2 := K4.out.frozen 2; have z3 := K4.out.frozen 3; have z4 := K4.out.frozen 4; have z5 := K4.out.frozen 5; have t0 := T4.out.cell 0; have t1 := T4.out.cell 1; have t2 := T4.out.cell 2; have t3 := T4.out.cell 3; have t4 := T4.out.cell 4; have t5 := T4.out.cell 5; simp [zeroV] at p0 p1 p2 p3 p4 p5; simp at t0 t1 t2 t3 t4 t5; replace b4 := Lib.hid b4)
          refine bodyPost_ret (results_cell_tmp rfl _ ⟨w.heap.size, 0, none⟩ rfl _ Tryd.underlying25 rfl _ (T).cells size_vec (vec_load (K4.out.set6 (.int .i64 T.a) (.int .i64 T.b) (.int .i64 T.c) (.int .i64 T.d) (.int .i64 T.e) (.int .i64 T.f)))) rfl ?_
          exact ⟨by rw [HV2.out, HE2.out]; rfl, below_set6 (below_on HB.out b4.out) (Nat.le_refl _) _ _ _ _ _ _⟩

end Go.Proofs.YtipaapplingbnaaDoor
