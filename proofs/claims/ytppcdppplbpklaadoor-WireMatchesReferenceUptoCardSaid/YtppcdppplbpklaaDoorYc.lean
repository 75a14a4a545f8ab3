/- Walks: the reference's Valid. -/
import Derived.Test.YtppcdppplbpklaaDoorYb
import Derived.Test.YtppcdppplbpklaaDoorLa
namespace Go.Proofs.YtppcdppplbpklaaDoor
open Go.RowKit

set_option maxRecDepth 100000 in
set_option maxHeartbeats 2000000 in
theorem rvalid_any (k f t s b v ts tc tn td : Int) (w : World) :
    Calls Tryd.prog 17 #[.agg #[.int .i64 k, .int .i64 f, .int .i64 t, .int .i64 s, .int .i64 b, .int .i64 v, .int .i64 ts, .int .i64 tc, .int .i64 tn, .int .i64 td]] w
      fun e w' => e = .returned (.bool (rvalidB k f t s b v ts tc tn td)) ∧ Below w.heap.size w w' := by
  by_cases hh : rheadB k f t s b = true
  · have hd := hh
    simp only [rheadB, decide_eq_true_eq] at hd
    obtain ⟨k1, k2, f1, f2, t1, t2, hft, s1, s2, b1, b2⟩ := hd
    have hft' : (f == t) = false := beq_eq_false_iff_ne.2 hft
    have HF : Hid (∀ q : Bool, q = (if k = 1 then decide (v = 0) && decide (ts = 0 ∧ tc = 0 ∧ tn = 0 ∧ td = 0)
      else if k = 2 then (decide (v = 0) && decide (ts = 0 ∧ tc = 0 ∧ tn = 0 ∧ td = 0)) || (decide (0 < v) && decide (v < b) && (rtakeB ts tc tn td && decide (ts = s)))
      else decide (v = 0) && (rtakeB ts tc tn td && decide (ts = s))) → rvalidB k f t s b v ts tc tn td = q) := by
      intro q hq
      unfold rvalidB
      rw [hh, Bool.true_and, hq]
    clear hh hft
    go_enter Tryd.func17, Tryd.ntmps17
    go_upto_region 3 with fail
    go_cut [3] (fun s3 wx => ∃ q : Bool, s3 = .bool q ∧ Hid (q = decide (ts = 0 ∧ tc = 0 ∧ tn = 0 ∧ td = 0)) ∧ wx = w.alloc (.cells #[.int .i64 k, .int .i64 f, .int .i64 t, .int .i64 s, .int .i64 b, .int .i64 v, .int .i64 ts, .int .i64 tc, .int .i64 tn, .int .i64 td] 25))
    case first =>
      have HH : Hid (∀ q : Bool, (q = true ↔ (ts = 0 ∧ tc = 0 ∧ tn = 0 ∧ td = 0)) → Hid (q = decide (ts = 0 ∧ tc = 0 ∧ tn = 0 ∧ td = 0))) := by
        intro q hq; show q = _; rw [Bool.eq_iff_iff, hq]; simp
      by_cases h0 : ts = 0
      · have q0 : (ts == 0) = true := beq_iff_eq.2 h0
        by_cases h1 : tc = 0
        · have q1 : (tc == 0) = true := beq_iff_eq.2 h1
          by_cases h2 : tn = 0
          · have q2 : (tn == 0) = true := beq_iff_eq.2 h2
            by_cases h3 : td = 0
            · have q3 : (td == 0) = true := beq_iff_eq.2 h3
              have HQ := HH.out true (by simp [h0, h1, h2, h3])
              clear h0 h1 h2 h3
              go_wp2_with fail
              go_meet
              case rel => exact ⟨_, rfl, HQ, rfl⟩
            · have q3 : (td == 0) = false := beq_eq_false_iff_ne.2 h3
              have HQ := HH.out false (by simp [h3])
              clear h0 h1 h2 h3
              go_wp2_with fail
              go_meet
              case rel => exact ⟨_, rfl, HQ, rfl⟩
          · have q2 : (tn == 0) = false := beq_eq_false_iff_ne.2 h2
            have HQ := HH.out false (by simp [h2])
            clear h0 h1 h2
            go_wp2_with fail
            go_meet
            case rel => exact ⟨_, rfl, HQ, rfl⟩
        · have q1 : (tc == 0) = false := beq_eq_false_iff_ne.2 h1
          have HQ := HH.out false (by simp [h1])
          clear h0 h1
          go_wp2_with fail
          go_meet
          case rel => exact ⟨_, rfl, HQ, rfl⟩
      · have q0 : (ts == 0) = false := beq_eq_false_iff_ne.2 h0
        have HQ := HH.out false (by simp [h0])
        clear h0
        go_wp2_with fail
        go_meet
        case rel => exact ⟨_, rfl, HQ, rfl⟩
    case rest =>
      obtain ⟨q3, rfl, H3, rfl⟩ := hcut
      go_wp2_with fail
      refine (rtake_any _ _ _ _ _).mono ?_
      rintro e w4 ⟨rfl, hb⟩
      have hb0 : Below w.heap.size w w4 := (((Below.refl _ _).alloc (Nat.le_refl _) _).trans (hb.mono (by simp)))
      have hbl := (Blk.new w 25 #[.int .i64 k, .int .i64 f, .int .i64 t, .int .i64 s, .int .i64 b, .int .i64 v, .int .i64 ts, .int .i64 tc, .int .i64 tn, .int .i64 td]).below hb (by simp)
      have c0 := hbl.cell 0
      have c3 := hbl.cell 3
      have c4 := hbl.cell 4
      have c5 := hbl.cell 5
      have c6 := hbl.cell 6
      simp at c0 c3 c4 c5 c6
      clear hb hbl
      have HB := Lib.hid hb0
      clear hb0
      generalize hrt : rtakeB ts tc tn td = rt at *
      have HRT := Lib.hid hrt
      clear hrt
      obtain ⟨sm, hsm⟩ : ∃ sm, sm = (ts == s) := ⟨_, rfl⟩
      have hsm' : (ts == s) = sm := hsm.symm
      have HSM := Lib.hid (show sm = decide (ts = s) by rw [hsm, Bool.eq_iff_iff]; simp)
      clear hsm
      rw [show decide (ts = s) = sm from HSM.out.symm, show decide (ts = 0 ∧ tc = 0 ∧ tn = 0 ∧ td = 0) = q3 from H3.out.symm] at HF
      by_cases hk1 : k = 1
      · have e1 : (k == 1) = true := beq_iff_eq.2 hk1
        rw [if_pos hk1] at HF
        by_cases hv : v = 0
        · have e2 : (v == 0) = true := beq_iff_eq.2 hv
          have HG := Lib.hid (HF.out q3 (by simp [hv]))
          clear hk1 hv HF
          cases sm <;> cases rt
          all_goals
            go_wp2_with fail
            go_ret
            exact ⟨by rw [HG.out] <;> rfl, HB.out⟩
        · have e2 : (v == 0) = false := beq_eq_false_iff_ne.2 hv
          have HG := Lib.hid (HF.out false (by simp [hv]))
          clear hk1 hv HF
          cases sm <;> cases rt
          all_goals
            go_wp2_with fail
            go_ret
            exact ⟨by rw [HG.out] <;> rfl, HB.out⟩
      · have e1 : (k == 1) = false := beq_eq_false_iff_ne.2 hk1
        rw [if_neg hk1] at HF
        by_cases hk2 : k = 2
        · have e3 : (k == 2) = true := beq_iff_eq.2 hk2
          rw [if_pos hk2] at HF
          by_cases hv : v = 0
          · have e2 : (v == 0) = true := beq_iff_eq.2 hv
            have e4 : ¬ 0 < v := by omega
            cases q3
            · have HG := Lib.hid (HF.out false (by simp [e4]))
              clear hk1 hk2 hv HF
              cases sm <;> cases rt
              all_goals
                go_wp2_with fail
                go_ret
                exact ⟨by rw [HG.out] <;> rfl, HB.out⟩
            · have HG := Lib.hid (HF.out true (by simp [hv]))
              clear hk1 hk2 hv HF
              cases sm <;> cases rt
              all_goals
                go_wp2_with fail
                go_ret
                exact ⟨by rw [HG.out] <;> rfl, HB.out⟩
          · have e2 : (v == 0) = false := beq_eq_false_iff_ne.2 hv
            by_cases hv0 : 0 < v
            · by_cases hvb : v < b
              · have HG := Lib.hid (HF.out (rt && sm) (by simp [hv, hv0, hvb]))
                clear hk1 hk2 hv HF
                cases sm <;> cases rt
                all_goals
                  go_wp2_with fail
                  go_ret
                  exact ⟨by rw [HG.out] <;> rfl, HB.out⟩
              · have HG := Lib.hid (HF.out false (by simp [hv, hvb]))
                clear hk1 hk2 hv HF
                cases sm <;> cases rt
                all_goals
                  go_wp2_with fail
                  go_ret
                  exact ⟨by rw [HG.out] <;> rfl, HB.out⟩
            · have HG := Lib.hid (HF.out false (by simp [hv, hv0]))
              clear hk1 hk2 hv HF
              cases sm <;> cases rt
              all_goals
                go_wp2_with fail
                go_ret
                exact ⟨by rw [HG.out] <;> rfl, HB.out⟩
        · have e3 : (k == 2) = false := beq_eq_false_iff_ne.2 hk2
          rw [if_neg hk2] at HF
          by_cases hv : v = 0
          · have e2 : (v == 0) = true := beq_iff_eq.2 hv
            have HG := Lib.hid (HF.out (rt && sm) (by simp [hv]))
            clear hk1 hk2 hv HF
            cases sm <;> cases rt
            all_goals
              go_wp2_with fail
              go_ret
              exact ⟨by rw [HG.out] <;> rfl, HB.out⟩
          · have e2 : (v == 0) = false := beq_eq_false_iff_ne.2 hv
            have HG := Lib.hid (HF.out false (by simp [hv]))
            clear hk1 hk2 hv HF
            cases sm <;> cases rt
            all_goals
              go_wp2_with fail
              go_ret
              exact ⟨by rw [HG.out] <;> rfl, HB.out⟩
  · exact rvalid_bad k f t s b v ts tc tn td w (by simpa using hh)
end Go.Proofs.YtppcdppplbpklaaDoor
