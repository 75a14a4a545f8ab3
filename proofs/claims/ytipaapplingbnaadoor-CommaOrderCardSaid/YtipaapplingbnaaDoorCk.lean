/- Walks: matrix.framed. -/
import Derived.Test.YtipaapplingbnaaDoorCj
namespace Go.Proofs.YtipaapplingbnaaDoor
open Go.RowKit Go.Deep

theorem Blk.set4 {w : World} {g : Nat} {t : TypeId} {c0 c1 c2 c3 : Value} (h : Blk w g t #[c0, c1, c2, c3]) (v0 v1 v2 v3 : Value) :
    Blk ((((w.setCell ⟨g, 0, none⟩ v0).setCell ⟨g, 1, none⟩ v1).setCell ⟨g, 2, none⟩ v2).setCell ⟨g, 3, none⟩ v3) g t #[v0, v1, v2, v3] := by
  have := (((h.set_ 0 v0).set_ 1 v1).set_ 2 v2).set_ 3 v3
  simpa using this
theorem OwnI.form1 {w : World} {base : Nat} {v : Value} {l : List Nat} {x : Nat} (h : OwnI w base v (l ++ [x])) : ∃ A c, v = .slice A (l.length + 1) c ∧ RdI w w.heap.size A (ofN (l ++ [x])) := by
  obtain ⟨A, c, h1, _, h3⟩ := h.form
  exact ⟨A, c, by rw [h1, List.length_append, List.length_singleton], h3⟩
theorem ofN_six (k : Nat) (h : k < 6) : (ofN [0, 1, 2, 3, 4, 5]).getD k 0 = (k : Int) := by
  rcases (show k = 0 ∨ k = 1 ∨ k = 2 ∨ k = 3 ∨ k = 4 ∨ k = 5 by omega) with rfl | rfl | rfl | rfl | rfl | rfl <;> rfl
def FiRel (wo : World) (rows : List Vc) (is js : List Nat) (k : Nat) (i : Value) (wx : World) : Prop :=
  ∃ n : Nat, n ≤ rows.length ∧ i = .int .i64 n ∧ Below wo.heap.size wo wx ∧ Hid (∀ i', i' < n → Dt (rowf rows (is ++ [i'])) (js ++ [k]) = 0)
def FramedIs (w : World) (Ar : Option Addr) (cr : Nat) (rows : List Vc) (e : Ending) (w' : World) : Prop :=
  Below w.heap.size w w' ∧ ∃ (Ai Aj : Option Addr) (ci cj n nj : Nat) (m : Int), e = .returned (.agg #[.slice Ar rows.length cr, .slice Ai n ci, .slice Aj nj cj, .int .i64 m]) ∧ (n = rows.length ↔ Indep 6 (rows.map Vc.at))

set_option maxRecDepth 100000 in
set_option maxHeartbeats 4000000 in
theorem framed_any (w : World) (Ar Ao : Option Addr) (cr co : Nat) (rows : List Vc) (rr : RdV w w.heap.size Ar rows) (ro : RdI w w.heap.size Ao (ofN [0, 1, 2, 3, 4, 5])) (hr6 : rows.length ≤ 6) (hok : ∀ v ∈ rows, v.ok = true) :
    Calls Tryd.prog 36 #[.slice Ar rows.length cr, .slice Ao 6 co] w (FramedIs w Ar cr rows) := by
  have RR := Lib.hid rr
  have RO := Lib.hid ro
  have HOK := Lib.hid hok
  clear rr ro hok
  go_enter Tryd.func36, Tryd.ntmps36
  go_wp2_with fail
  go_loopw [16] (fun i wx => FrRel w Ar cr rows i wx) (fun i _ => 6 - (intOf i).toNat)
  case atStart =>
    refine ⟨0, by omega, rfl, [], [], .slice none 0 0, .slice none 0 0, 1, ?_⟩
    exact ⟨((Below.refl w.heap.size w).alloc (Nat.le_refl _) _).alloc (by simp) _, by
      have := Blk.new (w.alloc (.cells #[.slice none 0 0, .slice none 0 0, .slice none 0 0, .int .i64 0] 83)) 83 #[.slice Ar rows.length cr, .slice none 0 0, .slice none 0 0, .int .i64 1]
      simpa using this, (Blk.new w 83 _).alloc _, OwnI.start _ _, OwnI.start _ _, by simp [rowf, Dt, WW, one0], by simp, by simp, rfl, by simp, fun c hc => by omega⟩
  case round =>
    obtain ⟨k, hk, rfl, is, js, vi, vj, m, HF⟩ := hrel
    by_cases hlt : k < 6
    · have hjk := HF.out.jk
      have hij := HF.out.len
      obtain ⟨Ai, ci, rfl, -, -⟩ := HF.out.oi.form
      obtain ⟨Aj, cj, rfl, -, -⟩ := HF.out.oj.form
      have HCJ := Lib.hid (clone_own wr _ _ js HF.out.oj (by omega))
      obtain ⟨ao, rfl, hao, ho⟩ := (RO.out.up HF.out.below).at (i := k) (by simp [ofN]; omega)
      rw [ofN_six k hlt] at ho
      have b2 := HF.out.blk.cell 2
      simp at b2
      have HIJ := Lib.hid hij
      clear hij
      go_wp2_with (first
        | (go_at_call 54; refine HCJ.out.mono ?_; rintro e w2 ⟨v2, rfl, o2, b2'⟩; have hz2 := b2'.size; have HO2 := Lib.hid (And.intro (World.ownsRow.alloc o2 (.cells #[.int .i64 (k : Int)] 3)) (shows_new w2 #[.int .i64 (k : Int)] 3 1 1 rfl)); obtain ⟨A2, c2, rfl, -, -⟩ := o2.form; have HB2 := Lib.hid b2'; have HOB := Lib.hid o2.block; clear o2 b2')
        | (at_builtin; go_must (refine wpList_app _ rfl (.tmp 22) (.tmp 24) 23 3 (.int .i64 0) 1 8 rfl Tryd.underlying23 int_info rfl (by decide) wr.heap.size _ _ _ rfl HO2.out.1 (w2.heap.size + 1) (some ⟨w2.heap.size, 0, none⟩) 1 1 [.int .i64 (k : Int)] rfl HO2.out.2 (by simp [Value.oneCell']) (by simp only [maxLen]; omega) (by omega) (by simp; omega) ?_); intro v3 w3 ho3 hg3 _; have HJ3 := Lib.hid (OwnI.snoc ho3); have HB3 := Lib.hid (below_grown (HB2.out.alloc HB2.out.size _) hg3 (by simp; omega) (fun g h => HOB.out g h)); clear ho3 hg3))
      obtain ⟨A3, c3, rfl, -⟩ := HJ3.out.form1
      have HF3 := Lib.hid (HF.out.on HB3.out)
      obtain ⟨wo, hwo⟩ : ∃ wo, wo = w3 := ⟨_, rfl⟩
      subst hwo
      go_loopw [28] (fun i wx => FiRel wo rows is js k i wx) (fun i _ => rows.length - (intOf i).toNat)
      case atStart => exact ⟨0, Nat.zero_le _, rfl, Below.refl _ _, fun i hi => by omega⟩
      case round =>
        obtain ⟨n, hn, rfl, hB, HZ⟩ := hrel
        by_cases hnt : n < rows.length
        · have HW := Lib.hid (HF3.out.on hB)
          have hile := HW.out.isle
          have HCI := Lib.hid (clone_own wr _ _ is HW.out.oi (by omega))
          have b1 := HW.out.blk.cell 1
          simp at b1
          have HMN := Lib.hid fun (w1 : World) (hb : Below wr.heap.size wr w1) (A5 : Option Addr) (c5 : Nat) (h5 : RdI w1 w1.heap.size A5 (ofN (is ++ [n]))) => minor_any w1 Ar A5 A3 cr c5 c3 rows (is ++ [n]) (js ++ [k]) (RR.out.up (below_on HW.out.below hb)) h5 (by
              obtain ⟨A', c', e', r'⟩ := HJ3.out.form1
              injection e' with e'
              subst e'
              exact r'.up (below_on hB hb)) (by rw [List.length_append, List.length_append, HIJ.out]; rfl) (by simp; omega) hr6 (fun c hc => by
              rcases List.mem_append.1 hc with hc | hc
              · have := HW.out.hj c hc; omega
              · obtain rfl := List.mem_singleton.1 hc; exact hlt) (fun x hx => by
              rcases List.mem_append.1 hx with hx | hx
              · exact HW.out.hi x hx
              · obtain rfl := List.mem_singleton.1 hx; exact hnt) HOK.out
          rw [show (is ++ [n]).length = is.length + 1 by simp, show (js ++ [k]).length = js.length + 1 by simp] at HMN
          have HZ2 : Hid (Dt (rowf rows (is ++ [n])) (js ++ [k]) = 0 → ∀ i', i' < n + 1 → Dt (rowf rows (is ++ [i'])) (js ++ [k]) = 0) := fun h0 i' hi' => by
            rcases Nat.lt_or_ge i' n with h | h
            · exact HZ.out i' h
            · obtain rfl : i' = n := by omega
              exact h0
          have HTK := Lib.hid fun (wy : World) (vi' vj' : Value) (hd : Dt (rowf rows (is ++ [n])) (js ++ [k]) ≠ 0) h1 h2 h3 h4 h5 => FrAt.take (vi' := vi') (vj' := vj') (wy := wy) (d := Dt (rowf rows (is ++ [n])) (js ++ [k])) HW.out hnt hd h1 h2 h3 h4 h5
          generalize Dt (rowf rows (is ++ [n])) (js ++ [k]) = d at *
          by_cases hd : d = 0
          · go_wp2_with (first
              | (go_at_call 54; refine HCI.out.mono ?_; rintro e w2 ⟨v2, rfl, o2, b2'⟩; have hz2 := b2'.size; have HO2 := Lib.hid (And.intro (World.ownsRow.alloc o2 (.cells #[.int .i64 (n : Int)] 3)) (shows_new w2 #[.int .i64 (n : Int)] 3 1 1 rfl)); obtain ⟨A2, c2, rfl, -, -⟩ := o2.form; have HB2 := Lib.hid b2'; have HOB := Lib.hid o2.block; clear o2 b2')
              | (at_builtin; go_must (refine wpList_app _ rfl (.tmp 33) (.tmp 35) 23 3 (.int .i64 0) 1 8 rfl Tryd.underlying23 int_info rfl (by decide) wr.heap.size _ _ _ rfl HO2.out.1 (w2.heap.size + 1) (some ⟨w2.heap.size, 0, none⟩) 1 1 [.int .i64 (n : Int)] rfl HO2.out.2 (by simp [Value.oneCell']) (by simp only [maxLen]; omega) (by omega) (by simp; omega) ?_); intro v4 w4 ho4 hg4 _; have HJ4 := Lib.hid (OwnI.snoc ho4); have HB4 := Lib.hid (below_grown (HB2.out.alloc HB2.out.size _) hg4 (by simp; omega) (fun g h => HOB.out g h)); clear ho4 hg4; obtain ⟨A5, c5, rfl, r5⟩ := HJ4.out.form1; have HM5 := Lib.hid (HMN.out _ HB4.out A5 c5 r5); clear r5)
              | (go_at_call 55; refine HM5.out.mono ?_; rintro e w6 ⟨rfl, b6⟩; have HB6 := Lib.hid b6; clear b6))
            go_roundw
            case rel => exact ⟨n + 1, by omega, by go_num, below_on (below_on hB HB4.out) HB6.out, HZ2.out hd⟩
            case measure => simp [intOf]; omega
          · have hd' : (d != 0) = true := by rw [bne_iff_ne]; exact hd
            go_wp2_with (first
              | (go_at_call 54; refine HCI.out.mono ?_; rintro e w2 ⟨v2, rfl, o2, b2'⟩; have hz2 := b2'.size; have HO2 := Lib.hid (And.intro (World.ownsRow.alloc o2 (.cells #[.int .i64 (n : Int)] 3)) (shows_new w2 #[.int .i64 (n : Int)] 3 1 1 rfl)); obtain ⟨A2, c2, rfl, -, -⟩ := o2.form; have HB2 := Lib.hid b2'; have HOB := Lib.hid o2.block; clear o2 b2')
              | (at_builtin; go_must (refine wpList_app _ rfl (.tmp 33) (.tmp 35) 23 3 (.int .i64 0) 1 8 rfl Tryd.underlying23 int_info rfl (by decide) wr.heap.size _ _ _ rfl HO2.out.1 (w2.heap.size + 1) (some ⟨w2.heap.size, 0, none⟩) 1 1 [.int .i64 (n : Int)] rfl HO2.out.2 (by simp [Value.oneCell']) (by simp only [maxLen]; omega) (by omega) (by simp; omega) ?_); intro v4 w4 ho4 hg4 _; have HJ4 := Lib.hid (OwnI.snoc ho4); have HB4 := Lib.hid (below_grown (HB2.out.alloc HB2.out.size _) hg4 (by simp; omega) (fun g h => HOB.out g h)); clear ho4 hg4; obtain ⟨A5, c5, rfl, r5⟩ := HJ4.out.form1; have HM5 := Lib.hid (HMN.out _ HB4.out A5 c5 r5); clear r5)
              | (go_at_call 55; refine HM5.out.mono ?_; rintro e w6 ⟨rfl, b6⟩; have HB6 := Lib.hid b6; have HW6 := Lib.hid (HW.out.on (below_on HB4.out b6)); have p1 := HW6.out.blk.cell 1; have p2 := HW6.out.blk.cell 2; have p3 := HW6.out.blk.cell 3; have z1 := HW6.out.blk.frozen 1; have z2 := HW6.out.blk.frozen 2; have z3 := HW6.out.blk.frozen 3; simp at p1 p2 p3; clear b6))
            have HBW := below_on HB4.out HB6.out
            have K1 := (((HW6.out.blk.set_ 1 (.slice A5 (is.length + 1) c5)).set_ 2 (.slice A3 (js.length + 1) c3)).set_ 3 (.int .i64 d))
            have O4 := (((((HJ4.out.on HB6.out).lower (Nat.succ_le_of_lt HW.out.blk.lt)).far (p := ⟨w.heap.size + 1, 1, none⟩) (by simp) (.slice A5 (is.length + 1) c5)).far (p := ⟨w.heap.size + 1, 2, none⟩) (by simp) (.slice A3 (js.length + 1) c3)).far (p := ⟨w.heap.size + 1, 3, none⟩) (by simp) (.int .i64 d))
            have O3 := ((((((HJ3.out.on hB).on HBW).lower (Nat.succ_le_of_lt HF.out.blk.lt)).far (p := ⟨w.heap.size + 1, 1, none⟩) (by simp) (.slice A5 (is.length + 1) c5)).far (p := ⟨w.heap.size + 1, 2, none⟩) (by simp) (.slice A3 (js.length + 1) c3)).far (p := ⟨w.heap.size + 1, 3, none⟩) (by simp) (.int .i64 d))
            have R6 := ((HW6.out.res.far (p := ⟨w.heap.size + 1, 1, none⟩) (by simp) (.slice A5 (is.length + 1) c5)).far (p := ⟨w.heap.size + 1, 2, none⟩) (by simp) (.slice A3 (js.length + 1) c3)).far (p := ⟨w.heap.size + 1, 3, none⟩) (by simp) (.int .i64 d)
            have HN := HTK.out _ _ _ hd (((HW6.out.below.setCell (p := ⟨w.heap.size + 1, 1, none⟩) (by simp) (.slice A5 (is.length + 1) c5)).setCell (p := ⟨w.heap.size + 1, 2, none⟩) (by simp) (.slice A3 (js.length + 1) c3)).setCell (p := ⟨w.heap.size + 1, 3, none⟩) (by simp) (.int .i64 d)) (by simpa using K1) R6 O4 O3
            go_roundw
            case rel => exact ⟨k + 1, by omega, by go_num, is ++ [n], js ++ [k], _, _, d, HN⟩
            case measure => simp [intOf]; omega
        · obtain rfl : n = rows.length := by omega
          have HN := Lib.hid ((HF3.out.on hB).pass (fun i hi => HZ.out i hi))
          go_wp2_with fail
          go_roundw
          case rel => exact ⟨k + 1, by omega, by go_num, is, js, _, _, m, HN⟩
          case measure => simp [intOf]; omega
    · obtain rfl : k = 6 := by omega
      have hfull := HF.out.full
      have hile := HF.out.isle
      obtain ⟨Ai, ci, rfl, -, -⟩ := HF.out.oi.form
      obtain ⟨Aj, cj, rfl, -, -⟩ := HF.out.oj.form
      have b0 := HF.out.blk.cell 0
      have b1 := HF.out.blk.cell 1
      have b2 := HF.out.blk.cell 2
      have b3 := HF.out.blk.cell 3
      have r0 := HF.out.res.cell 0
      have r1 := HF.out.res.cell 1
      have r2 := HF.out.res.cell 2
      have r3 := HF.out.res.cell 3
      have f0 := HF.out.res.frozen 0
      have f1 := HF.out.res.frozen 1
      have f2 := HF.out.res.frozen 2
      have f3 := HF.out.res.frozen 3
      simp at b0 b1 b2 b3 r0 r1 r2 r3
      have hsz : (Tryd.prog.info? 83).map (·.size) = some 4 := by kernel_rfl
      have HB0 := Lib.hid HF.out.below
      have R4 := Lib.hid (Blk.set4 HF.out.res (.slice Ar rows.length cr) (.slice Ai is.length ci) (.slice Aj js.length cj) (.int .i64 m))
      have HSZ := Lib.hid hsz
      have HFULL := Lib.hid hfull
      clear hsz hfull HF
      go_wp2_with fail
      refine bodyPost_ret (results_cell rfl _ ⟨w.heap.size, 0, none⟩ rfl _ Tryd.underlying83 rfl _ #[.slice Ar rows.length cr, .slice Ai is.length ci, .slice Aj js.length cj, .int .i64 m] HSZ.out (fun j v hv => ?_)) rfl ?_
      · rw [show (⟨w.heap.size, 0, none⟩ : Addr).add j = ⟨w.heap.size, j, none⟩ from by unfold Addr.add; split <;> simp_all, R4.out.cell j, ← hv]
        simp
      · exact ⟨(((HB0.out.setCell (Nat.le_refl _) _).setCell (Nat.le_refl _) _).setCell (Nat.le_refl _) _).setCell (Nat.le_refl _) _, Ai, Aj, ci, cj, is.length, js.length, m, rfl, HFULL.out⟩

end Go.Proofs.YtipaapplingbnaaDoor
