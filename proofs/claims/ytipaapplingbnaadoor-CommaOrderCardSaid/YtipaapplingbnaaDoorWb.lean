/- Walks: Walk. -/
import Derived.Test.YtipaapplingbnaaDoorWa
import Derived.Deep.DeepCutAuto
import Derived.StillTailTactics
namespace Go.Proofs.YtipaapplingbnaaDoor
open Go.RowKit Go.Deep

theorem walk_err {w w' : World} {l : List Cm} {ts : List Tk} {e : Int} (hb : Below w.heap.size w w') (h : walkE l ts = e ∧ walkV l ts = []) : WalkEnds w l ts (.returned (.tuple #[.slice none 0 0, .int .i64 e])) w' := by
  refine ⟨hb, none, 0, by rw [h.1, h.2]; rfl, ?_⟩
  rw [h.2]
  exact Shows.nil_
theorem walk_bad {l : List Cm} {ts : List Tk} (h : validB l = false ∨ ¬ ts.length < 16 ∨ okT l.length ts = false) : walkE l ts = 1 ∧ walkV l ts = [] := by
  unfold walkE walkV
  rcases h with h | h | h <;> simp [h]
theorem walk_out {l : List Cm} {ts : List Tk} (h1 : validB l = true) (h2 : ts.length < 16) (h3 : okT l.length ts = true) (h4 : okS l ts = false) : walkE l ts = 3 ∧ walkV l ts = [] := by
  unfold walkE walkV
  simp [h1, h2, h3, h4]
theorem walk_ok {l : List Cm} {ts : List Tk} (h1 : validB l = true) (h2 : ts.length < 16) (h3 : okT l.length ts = true) (h4 : okS l ts = true) : walkE l ts = 0 ∧ walkV l ts = (List.range (ts.length + 1)).map (shV l ts) := by
  unfold walkE walkV
  simp [h1, h2, h3, h4]
def shs (l : List Cm) (ts : List Tk) (k : Nat) : List Vc := (List.range (k + 1)).map (shV l ts)
theorem shs_len (l : List Cm) (ts : List Tk) (k : Nat) : (shs l ts k).length = k + 1 := by simp [shs]
theorem shs_succ (l : List Cm) (ts : List Tk) (k : Nat) : shs l ts (k + 1) = shs l ts k ++ [shV l ts (k + 1)] := by
  unfold shs
  rw [List.range_succ (n := k + 1), List.map_append]
  rfl
theorem okS_false {l : List Cm} {ts : List Tk} {k : Nat} (hk : k ≤ ts.length) (h : (shV l ts k).ok = false) : okS l ts = false := by
  unfold okS
  rw [decide_eq_false_iff_not]
  intro hh
  rw [hh k hk] at h
  cases h
theorem okT_false {n : Nat} {ts : List Tk} {k : Nat} (hk : k < ts.length) (h : wrongT n k (ts.getD k ⟨0, 0, 0, 0⟩) = true) : okT n ts = false := by
  unfold okT
  rw [decide_eq_false_iff_not]
  intro hh
  rw [hh k hk] at h
  cases h
theorem below_al' {w W : World} (h : Below w.heap.size w W) (o : Obj) : Below w.heap.size w (W.alloc o) := h.alloc h.size o
theorem OwnV.only {w w' : World} {g : Nat} {v : Value} {l : List Vc} (h : OwnV w (g + 1) v l) (o : Only g w w') : OwnV w' (g + 1) v l :=
  OwnV.kept (r := some g) h ⟨o.os, o.tape, o.output, o.size, fun k hk hne => o.block k (fun e => hne (by rw [e])) hk⟩ (by
    rcases hv : v.ownBlock with _ | b
    · exact Or.inl rfl
    · right; intro e; injection e with e; have := h.block b hv; omega)
theorem OwnV.drew {w : World} {base : Nat} {v : Value} {l : List Vc} (h : OwnV w base v l) : OwnV w.drew base v l := h
structure W1Rel (w : World) (l : List Cm) (A : Option Addr) (c : Nat) (ts : List Tk) (k : Nat) (wx : World) : Prop where
  below : Below w.heap.size w wx
  box : Blk wx w.heap.size 22 #[.slice A l.length c]
  ok : ∀ j, j < k → wrongT l.length j (ts.getD j ⟨0, 0, 0, 0⟩) = false
structure W2Rel (w : World) (l : List Cm) (A : Option Addr) (c g : Nat) (ts : List Tk) (k : Nat) (s : Value) (wx : World) : Prop where
  below : Below w.heap.size w wx
  box : Blk wx w.heap.size 22 #[.slice A l.length c]
  v : Blk wx g 25 (shV l ts k).cells
  out : OwnV wx (g + 1) s (shs l ts k)
  ok : ∀ j, j ≤ k → (shV l ts j).ok = true
  gw : w.heap.size < g

set_option maxRecDepth 100000 in
set_option maxHeartbeats 4000000 in
theorem walk_any (w : World) (A At : Option Addr) (c ct : Nat) (l : List Cm) (ts : List Tk) (hr : RdN w w.heap.size A l) (hs : ∀ x ∈ l, x.nm.length ≤ 9223372036854775807) (hll : l.length ≤ 9223372036854775807) (hrt : RdT w w.heap.size At ts) (htl : ts.length ≤ 9223372036854775807) :
    Calls Tryd.prog 13 #[.slice A l.length c, .slice At ts.length ct] w (WalkEnds w l ts) := by
  have hal := (Below.refl w.heap.size w).alloc (Nat.le_refl _) (.cells #[.slice A l.length c] 22)
  have HV := Lib.hid (valid_any (w.alloc (.cells #[.slice A l.length c] 22)) A c l (hr.up hal) hs hll)
  have HBX := Lib.hid (Blk.new w 22 #[.slice A l.length c])
  have HAL := Lib.hid hal
  have HBAD := Lib.hid fun h => walk_bad (l := l) (ts := ts) h
  rcases hv : validB l with _ | _
  · have HF := Lib.hid (HBAD.out (.inl hv))
    rw [hv] at HV
    clear hr hs hrt hal hv
    go_enter Tryd.func13, Tryd.ntmps13
    go_wp2_with (go_at_call 12; refine HV.out.mono ?_; rintro e w1 ⟨rfl, b1⟩; replace b1 := Lib.hid b1)
    go_ret2
    exact walk_err (HAL.out.trans (b1.out.mono HAL.out.size)) HF.out
  · rw [hv] at HV
    by_cases h16 : ts.length < 16
    · have hL := validB_iff.1 hv
      have hl6 := hL.hi
      have HVK := Lib.hid hL.vecs
      have HR := Lib.hid hr
      have HRT := Lib.hid hrt
      have HVB := Lib.hid hv
      have n16 : ¬ 16 ≤ ts.length := by omega
      have n16' : ¬ (16 : Int) ≤ (ts.length : Int) := by omega
      have n16d : decide ((16 : Int) ≤ (ts.length : Int)) = false := by rw [decide_eq_false_iff_not]; exact n16'
      clear hr hs hrt hal hv hL
      go_enter Tryd.func13, Tryd.ntmps13
      go_wp2_with (go_at_call 12; refine HV.out.mono ?_; rintro e w1 ⟨rfl, b1⟩; have K1 := Lib.hid (HBX.out.below b1 HBX.out.lt); have HB1 := Lib.hid (HAL.out.trans (b1.mono HAL.out.size)); have kb := K1.out.cell 0; simp at kb; clear b1)
      clear n16 n16' n16d
      go_loopw [24] (fun i wx => ∃ k : Nat, k ≤ ts.length ∧ i = .int .i64 k ∧ Hid (W1Rel w l A c ts k wx)) (fun i _ => ts.length - (intOf i).toNat)
      case atStart => exact ⟨0, Nat.zero_le _, rfl, HB1.out, K1.out, fun j hj => absurd hj (by omega)⟩
      case round =>
        clear kb
        obtain ⟨k, hk, rfl, HX⟩ := hrel
        by_cases hlt : k < ts.length
        · obtain ⟨ad, rfl, had, hca⟩ := (HRT.out.up HX.out.below).at hlt
          obtain ⟨q0, q1, q2, q3⟩ := hca
          have HGT := Lib.hid (getD_at hlt (⟨0, 0, 0, 0⟩ : Tk))
          rw [← HGT.out] at q0 q1 q2 q3
          have HWR := Lib.hid fun W (hb : Blk W w.heap.size 22 #[.slice A l.length c]) => wrong_any W w.heap.size A c l.length k (ts.getD k ⟨0, 0, 0, 0⟩) (by omega) (by have := hb.cell 0; simpa using this)
          have HBXA := Lib.hid fun o => HX.out.box.alloc o
          have hbz := HX.out.below.size
          rcases hw : wrongT l.length k (ts.getD k ⟨0, 0, 0, 0⟩) with _ | _
          · rw [hw] at HWR
            have HNX : Hid (∀ j, j < k + 1 → wrongT l.length j (ts.getD j ⟨0, 0, 0, 0⟩) = false) := fun j hj => by
              rcases Nat.lt_or_ge j k with h | h
              · exact HX.out.ok j h
              · obtain rfl : j = k := by omega
                exact hw
            clear hw
            generalize ts.getD k ⟨0, 0, 0, 0⟩ = t at *
            go_wp2_with (go_at_call 26; refine (HWR.out _ (HBXA.out _)).mono ?_; rintro e w2 ⟨rfl, b2⟩; replace b2 := Lib.hid b2)
            go_roundw
            case rel => exact ⟨k + 1, by omega, by go_num, below_on (below_al' HX.out.below _) b2.out, (HBXA.out _).below b2.out (HBXA.out _).lt, HNX.out⟩
            case measure => simp [intOf]; omega
          · have HF := Lib.hid (HBAD.out (.inr (.inr (okT_false hlt hw))))
            rw [hw] at HWR
            clear hw
            generalize ts.getD k ⟨0, 0, 0, 0⟩ = t at *
            go_wp2_with (go_at_call 26; refine (HWR.out _ (HBXA.out _)).mono ?_; rintro e w2 ⟨rfl, b2⟩; replace b2 := Lib.hid b2)
            go_ret2
            exact walk_err (below_on (below_al' HX.out.below _) b2.out) HF.out
        · obtain rfl : k = ts.length := by omega
          have hOT : okT l.length ts = true := decide_eq_true (fun j hj => HX.out.ok j hj)
          have HOT := Lib.hid hOT
          have HSM := Lib.hid fun k (hk : k ≤ ts.length) j (hj : j < 6) => shV_small l HVK.out ts hOT k hk j hj
          clear hOT
          obtain ⟨g, hg⟩ : ∃ g, g = wr.heap.size := ⟨_, rfl⟩
          have hbl := HX.out.box.lt
          go_wp2_with fail
          rw [← hg]
          have HS0 : Hid (W2Rel w l A c g ts 0 (.slice (some ⟨g + 1, 0, none⟩) 1 1) ((wr.alloc (.cells zeroV.cells 25)).alloc (.cells zeroV.cells 25))) := by
            refine ⟨below_al' (below_al' HX.out.below _) _, (HX.out.box.alloc _).alloc _, by rw [hg]; exact (Blk.new wr 25 zeroV.cells).alloc _, ?_, fun j hj => ?_, by rw [hg]; exact hbl⟩
            · have := World.ownsRow_lit (base := g + 1) (e := 25) (size := 6) (wr.alloc (.cells zeroV.cells 25)) zeroV.cells 1 (by rw [World.size_alloc, hg]; exact Nat.le_refl _) (by decide) rfl
              rw [World.size_alloc, ← hg] at this
              exact this
            · obtain rfl : j = 0 := by omega
              rfl
          have hgw : w.heap.size < g := by rw [hg]; exact hbl
          clear hg
          go_loopw [10, 38] (fun s i wx => ∃ k : Nat, k ≤ ts.length ∧ i = .int .i64 k ∧ Hid (W2Rel w l A c g ts k s wx)) (fun _ i _ => ts.length - (intOf i).toNat)
          case atStart => exact ⟨0, Nat.zero_le _, rfl, HS0.out⟩
          case round =>
            clear HX HS0 hbl
            obtain ⟨k, hk, rfl, HX⟩ := hrel
            by_cases hlt : k < ts.length
            · obtain ⟨ad, rfl, had, hca⟩ := (HRT.out.up HX.out.below).at hlt
              obtain ⟨q0, q1, q2, q3⟩ := hca
              have HGT := Lib.hid (getD_at hlt (⟨0, 0, 0, 0⟩ : Tk))
              rw [← HGT.out] at q0 q1 q2 q3
              obtain ⟨c0, c1, c2⟩ := wrong_small (of_decide_eq_true HOT.out k hlt)
              obtain ⟨ci, hci⟩ : ∃ ci : Nat, (ts.getD k ⟨0, 0, 0, 0⟩).c = ci := ⟨(ts.getD k ⟨0, 0, 0, 0⟩).c.toNat, by omega⟩
              rw [hci] at q1 c1
              have hcil : ci < l.length := by omega
              have HSH : Hid (shV l ts (k + 1) = (shV l ts k).addm (ts.getD k ⟨0, 0, 0, 0⟩).n l[ci].v) := by
                show _ = _
                rw [shV, hci, Int.toNat_natCast, getD_at hcil]
              have hnn : (ts.getD k ⟨0, 0, 0, 0⟩).n.natAbs ≤ 1 := by rcases c2 with h | h | h <;> rw [h] <;> decide
              obtain ⟨an, hae, hadn, hcn⟩ := (HR.out.up HX.out.below).at hcil
              obtain ⟨x0, x1, x2, x3, x4, x5, x6⟩ := hcn
              subst hae
              have hcell := HX.out.box.cell 0
              simp at hcell
              have hbz := HX.out.below.size
              have HVX := Lib.hid (HVK.out _ (List.getElem_mem hcil))
              have hgl := HX.out.v.lt
              have hbx : ∀ o, (wr.alloc o).cell? ⟨w.heap.size, 0, none⟩ = some (.slice (some an) l.length c) := fun o => (World.cell?_alloc_lt wr o ⟨w.heap.size, 0, none⟩ HX.out.box.lt).trans hcell
              have hlt2 : ∀ i, (⟨(an.add (ci * 7)).block, i, none⟩ : Addr).block < wr.heap.size := fun i => by simp only [add_block]; exact hadn
              have y1 := fun o => (World.cell?_alloc_lt wr o _ (hlt2 ((an.add (ci * 7)).off + 1))).trans x1
              have y2 := fun o => (World.cell?_alloc_lt wr o _ (hlt2 ((an.add (ci * 7)).off + 2))).trans x2
              have y3 := fun o => (World.cell?_alloc_lt wr o _ (hlt2 ((an.add (ci * 7)).off + 3))).trans x3
              have y4 := fun o => (World.cell?_alloc_lt wr o _ (hlt2 ((an.add (ci * 7)).off + 4))).trans x4
              have y5 := fun o => (World.cell?_alloc_lt wr o _ (hlt2 ((an.add (ci * 7)).off + 5))).trans x5
              have y6 := fun o => (World.cell?_alloc_lt wr o _ (hlt2 ((an.add (ci * 7)).off + 6))).trans x6
              have HADD := Lib.hid fun W (hb : Blk W g 25 (shV l ts k).cells) => add_any W g (shV l ts k) l[ci].v (ts.getD k ⟨0, 0, 0, 0⟩).n hb (by omega) HVX.out (fun j hj => by have := HSM.out k hk j hj; omega)
              rw [← HSH.out] at HADD
              have hci2 : (ci : Int) < (l.length : Int) := by omega
              have HIV := Lib.hid fun w1 => interval_any w1 (shV l ts (k + 1))
              have HOA := Lib.hid fun o => (HX.out.out.alloc o)
              have HSS := Lib.hid (shs_succ l ts k)
              have HSL := Lib.hid (shs_len l ts k)
              have HOKF := Lib.hid fun h => walk_out HVB.out h16 HOT.out (okS_false (l := l) (k := k + 1) hlt h)
              have HNO := Lib.hid fun (h : (shV l ts (k + 1)).ok = true) j (hj : j ≤ k + 1) => (show (shV l ts j).ok = true from by
                rcases Nat.lt_or_ge j (k + 1) with h' | h'
                · exact HX.out.ok j (by omega)
                · obtain rfl : j = k + 1 := by omega
                  exact h)
              clear hcell hci c0 c1 hnn
              have HVE := Lib.hid (rfl : shV l ts (k + 1) = shV l ts (k + 1))
              generalize hV : shV l ts (k + 1) = V at *
              replace HVE : Hid (shV l ts (k + 1) = V) := Lib.hid hV
              clear hV
              generalize ts.getD k ⟨0, 0, 0, 0⟩ = t at *
              generalize l[ci] = x at *
              go_wp2_with fail
              obtain ⟨wq, hwq⟩ : ∃ wq, wq = wr.alloc (.cells #[.int .i64 t.s, .int .i64 (ci : Int), .int .i64 t.n, .int .i64 t.d] 37) := ⟨_, rfl⟩
              rw [← hwq]
              have hE : ∀ p, World.cell? { wq with drawn := wq.drawn + 1 } p = wq.cell? p := fun _ => rfl
              have hbx' := hbx (.cells #[.int .i64 t.s, .int .i64 (ci : Int), .int .i64 t.n, .int .i64 t.d] 37)
              have y1' := y1 (.cells #[.int .i64 t.s, .int .i64 (ci : Int), .int .i64 t.n, .int .i64 t.d] 37)
              have y2' := y2 (.cells #[.int .i64 t.s, .int .i64 (ci : Int), .int .i64 t.n, .int .i64 t.d] 37)
              have y3' := y3 (.cells #[.int .i64 t.s, .int .i64 (ci : Int), .int .i64 t.n, .int .i64 t.d] 37)
              have y4' := y4 (.cells #[.int .i64 t.s, .int .i64 (ci : Int), .int .i64 t.n, .int .i64 t.d] 37)
              have y5' := y5 (.cells #[.int .i64 t.s, .int .i64 (ci : Int), .int .i64 t.n, .int .i64 t.d] 37)
              have y6' := y6 (.cells #[.int .i64 t.s, .int .i64 (ci : Int), .int .i64 t.n, .int .i64 t.d] 37)
              have z1 := (Blk.new wr 37 #[.int .i64 t.s, .int .i64 (ci : Int), .int .i64 t.n, .int .i64 t.d]).cell 1
              have z2 := (Blk.new wr 37 #[.int .i64 t.s, .int .i64 (ci : Int), .int .i64 t.n, .int .i64 t.d]).cell 2
              simp only [List.getElem?_toArray, List.getElem?_cons_succ, List.getElem?_cons_zero] at z1 z2
              have HV4 := Lib.hid (HX.out.v.alloc (.cells #[.int .i64 t.s, .int .i64 (ci : Int), .int .i64 t.n, .int .i64 t.d] 37))
              have HB4 := Lib.hid (HX.out.box.alloc (.cells #[.int .i64 t.s, .int .i64 (ci : Int), .int .i64 t.n, .int .i64 t.d] 37))
              have HO4 := Lib.hid (HX.out.out.alloc (.cells #[.int .i64 t.s, .int .i64 (ci : Int), .int .i64 t.n, .int .i64 t.d] 37))
              have HW4 := Lib.hid (below_al' HX.out.below (.cells #[.int .i64 t.s, .int .i64 (ci : Int), .int .i64 t.n, .int .i64 t.d] 37))
              rw [← hwq] at hbx' y1' y2' y3' y4' y5' y6' z1 z2 HV4 HB4 HO4 HW4
              clear hbx y1 y2 y3 y4 y5 y6 x0 x1 x2 x3 x4 x5 x6 q0 q1 q2 q3 hwq
              go_still_tail 8, (by kernel_rfl)
              change wpList _ _ _ _ _ wq.drew
              have hgw4 := HV4.out.lt
              have hww4 := HW4.out.size
              rcases hok : V.ok with _ | _
              · have HF := Lib.hid (HOKF.out hok)
                rw [hok] at HIV
                clear hok
                go_wp2_with (first
                  | (go_at_call 19; refine (HADD.out _ HV4.out.drew).mono ?_; rintro e w3 ⟨rfl, o3, k3⟩; have t0 := k3.cell 0; have t1 := k3.cell 1; have t2 := k3.cell 2; have t3 := k3.cell 3; have t4 := k3.cell 4; have t5 := k3.cell 5; simp at t0 t1 t2 t3 t4 t5; replace o3 := Lib.hid o3; replace k3 := Lib.hid k3)
                  | (go_at_call 20; refine (HIV.out _).mono ?_; rintro e w4 ⟨rfl, b4⟩; have K4 := Lib.hid (k3.out.below b4 k3.out.lt); have s0 := K4.out.cell 0; have s1 := K4.out.cell 1; have s2 := K4.out.cell 2; have s3 := K4.out.cell 3; have s4 := K4.out.cell 4; have s5 := K4.out.cell 5; simp at s0 s1 s2 s3 s4 s5; have HB5 := Lib.hid (Blk.below (o3.out.blk (Blk.drew HB4.out) (by omega)) b4 (o3.out.blk (Blk.drew HB4.out) (by omega)).lt); have HO5 := Lib.hid (((OwnV.only (OwnV.drew HO4.out) o3.out).on b4).alloc (.cells V.cells 25)); have HW5 := Lib.hid (below_on (HW4.out.drew.trans (o3.out.below (by omega) HW4.out.size)) b4); have hw5 := HW5.out.size; have hg5 := K4.out.lt; replace b4 := Lib.hid b4))
                go_ret2
                exact walk_err HW5.out HF.out
              · have HNX := Lib.hid (HNO.out hok)
                rw [hok] at HIV
                clear hok
                go_wp2_with (first
                  | (go_at_call 19; refine (HADD.out _ HV4.out.drew).mono ?_; rintro e w3 ⟨rfl, o3, k3⟩; have t0 := k3.cell 0; have t1 := k3.cell 1; have t2 := k3.cell 2; have t3 := k3.cell 3; have t4 := k3.cell 4; have t5 := k3.cell 5; simp at t0 t1 t2 t3 t4 t5; replace o3 := Lib.hid o3; replace k3 := Lib.hid k3)
                  | (go_at_call 20; refine (HIV.out _).mono ?_; rintro e w4 ⟨rfl, b4⟩; have K4 := Lib.hid (k3.out.below b4 k3.out.lt); have s0 := K4.out.cell 0; have s1 := K4.out.cell 1; have s2 := K4.out.cell 2; have s3 := K4.out.cell 3; have s4 := K4.out.cell 4; have s5 := K4.out.cell 5; simp at s0 s1 s2 s3 s4 s5; have HB5 := Lib.hid (Blk.below (o3.out.blk (Blk.drew HB4.out) (by omega)) b4 (o3.out.blk (Blk.drew HB4.out) (by omega)).lt); have HO5 := Lib.hid (((OwnV.only (OwnV.drew HO4.out) o3.out).on b4).alloc (.cells V.cells 25)); have HW5 := Lib.hid (below_on (HW4.out.drew.trans (o3.out.below (by omega) HW4.out.size)) b4); have hw5 := HW5.out.size; have hg5 := K4.out.lt; replace b4 := Lib.hid b4)
                  | (at_builtin; go_must (refine wpList_appv _ rfl (.tmp 54) (.tmp 56) rfl (g + 1) _ _ rfl HO5.out (w4.heap.size + 1) (some ⟨w4.heap.size, 0, none⟩) 1 V rfl (shows_vec w4 V) (by rw [HSL.out]; omega) (by simp; omega) ?_); intro v6 w6 ho6 hg6 _; replace ho6 := Lib.hid ho6; replace hg6 := Lib.hid hg6))
                go_roundw
                case rel => exact ⟨k + 1, by omega, by go_num, below_grown (below_al' HW5.out _) hg6.out (by simp; omega) (fun b h => by have := HX.out.out.block b h; omega), (HB5.out.alloc _).grown hg6.out (fun e => by have := HX.out.out.block _ e; omega), by rw [HVE.out]; exact (K4.out.alloc _).grown hg6.out (fun e => by have := HX.out.out.block _ e; omega), by rw [HSS.out]; exact ho6.out, HNX.out, hgw⟩
                case measure => simp [intOf]; omega
            · obtain rfl : k = ts.length := by omega
              have hOS : okS l ts = true := decide_eq_true (fun j hj => HX.out.ok j hj)
              obtain ⟨h1, h2⟩ := walk_ok HVB.out h16 HOT.out hOS
              have HW := Lib.hid (show walkV l ts = shs l ts ts.length from h2)
              have HE := Lib.hid h1
              obtain ⟨Ao, co, rfl, -, hrv⟩ := HX.out.out.form
              have HRV := Lib.hid hrv
              clear h1 h2 hOS hrv
              rw [shs_len]
              go_wp2_with fail
              go_ret2
              refine ⟨HX.out.below, Ao, co, by rw [HE.out, HW.out, shs_len]; rfl, ?_⟩
              rw [HW.out]
              exact HRV.out
    · have HF := Lib.hid (HBAD.out (.inr (.inl h16)))
      have n16 : 16 ≤ ts.length := by omega
      have n16' : (16 : Int) ≤ (ts.length : Int) := by omega
      have n16d : decide ((16 : Int) ≤ (ts.length : Int)) = true := by rw [decide_eq_true_eq]; exact n16'
      clear hr hs hrt hal hv h16
      go_enter Tryd.func13, Tryd.ntmps13
      go_wp2_with (go_at_call 12; refine HV.out.mono ?_; rintro e w1 ⟨rfl, b1⟩; replace b1 := Lib.hid b1)
      go_ret2
      exact walk_err (HAL.out.trans (b1.out.mono HAL.out.size)) HF.out

end Go.Proofs.YtipaapplingbnaaDoor
