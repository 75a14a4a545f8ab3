/- Walks: Parse. -/
import Derived.Test.YtipaapplingbnaaDoorSf
import Derived.Deep.DeepCutAuto
import Derived.Deep.RegionHeld3
import Derived.Maps.OwnIn
namespace Go.Proofs.YtipaapplingbnaaDoor
open Go.RowKit Go.Deep Go.Shelf Go.Maps Go.WideMaps
attribute [local go_sem] Oper.semAt_some

set_option maxRecDepth 100000 in
set_option maxHeartbeats 4000000 in
theorem parse_any (w : World) (A : Option Addr) (c : Nat) (l : List Cm) (s : List UInt8) (hr : RdN w w.heap.size A l) (hs : ∀ x ∈ l, x.nm.length ≤ 9223372036854775807) (hll : l.length ≤ 9223372036854775807) (hsl : s.length ≤ 281474976710656) (hT : Tab w) (hE : Errs w) :
    Calls Tryd.prog 16 #[.slice A l.length c, str s] w (ParseEnds w l s) := by
  refine (callsIn_wide (n := 3)).1 (callsIn_of_wp_marks Tryd.func16 rfl trivial (wpIn_wide.2 ?_) rfl)
  simp only [Tryd.ntmps16, List.size_toArray, List.length_cons, List.length_nil, Nat.reduceAdd, Nat.reduceSub, Array.replicate_succ, Array.replicate_zero, List.push_toArray, List.append_toArray, List.nil_append, List.cons_append]
  have hal1 := ((Below.refl w.heap.size w).alloc (Nat.le_refl _) (.cells #[.slice none 0 0] 23)).alloc (by simp) (.cells #[.int .i64 0] 27)
  have HV := Lib.hid (valid_any ((w.alloc (.cells #[.slice none 0 0] 23)).alloc (.cells #[.int .i64 0] 27)) A c l (hr.up hal1) hs hll)
  have HAL := Lib.hid hal1
  rcases hv : validB l with _ | _
  · rw [hv] at HV
    have HPV : Hid (parseV l s = []) := by show parseV l s = _; unfold parseV; rw [hv]; rfl
    have HPE : Hid (parseE l s = 1) := by show parseE l s = _; unfold parseE; rw [hv]; rfl
    clear hr hT hE hal1 hv
    have HB := Lib.hid ((Blk.new w 23 #[.slice none 0 0]).alloc (.cells #[.int .i64 0] 27))
    have HC := Lib.hid (Blk.new (w.alloc (.cells #[.slice none 0 0] 23)) 27 #[.int .i64 0])
    go_wp2_with (go_at_call 12; refine HV.out.mono ?_; rintro e w1 ⟨rfl, b1⟩; have K4 := HB.out.below b1 HB.out.lt; have K5 := HC.out.below b1 HC.out.lt; rw [World.size_alloc] at K5; have p4 := K4.cell 0; have p5 := K5.cell 0; have f4 := K4.frozen 0; have f5 := K5.frozen 0; simp at p4 p5; replace b1 := Lib.hid b1; replace K4 := Lib.hid K4; replace K5 := Lib.hid K5)
    exact parse_bad _ _ [] (.inl rfl) rfl rfl 1 ((blk_upd K4.out).farb (by omega) _) (blk_upd (K5.out.farb (by omega) _)) (below_stb (below_stb (HAL.out.trans (b1.out.mono HAL.out.size)) _ _ (Nat.le_refl _)) _ _ (by omega)) HPV.out HPE.out
  · rw [hv] at HV
    have hL := validB_iff.1 hv
    have hl6 := hL.hi
    have hmki := make_ints l.length (by omega)
    have HN := Lib.hid fun (w1 : World) (hb : Below w.heap.size w w1) => names_any w1 A c l (hr.up hb) hL.hi hs
    have HR := Lib.hid hr
    have HT := Lib.hid hT
    have HE := Lib.hid hE
    have HVB := Lib.hid hv
    clear hr hT hE hal1 hv hL
    go_wp2_with (go_at_call 12; refine HV.out.mono ?_; rintro e w1 ⟨rfl, b1⟩; have HB1 := Lib.hid (HAL.out.trans (b1.mono HAL.out.size)); replace b1 := Lib.hid b1)
    have hz1 := HB1.out.size
    have hz2 : w.heap.size + 2 ≤ w1.heap.size := by have := b1.out.size; simpa using this
    have K4 := Lib.hid (((Blk.new w 23 #[.slice none 0 0]).alloc (.cells #[.int .i64 0] 27)).below b1.out (by simp only [World.size_alloc]; omega))
    have K5 := Lib.hid ((Blk.new (w.alloc (.cells #[.slice none 0 0] 23)) 27 #[.int .i64 0]).below b1.out (by simp only [World.size_alloc]; omega))
    rw [World.size_alloc] at K5
    go_cut [6, 7] from 21 to 26 (fun s6 s7 wx => PRel w l s6 s7 wx)
    case first =>
      have HBL : Hid (∀ W, Below w.heap.size w W → Below w.heap.size w W.drew) := fun W h => h.drew
      go_region_held3 (fun w' => Below w.heap.size w w')
        (first
          | ((try refine below_dr ?_); repeat (first | exact HB1.out | exact b3.out | (refine below_al ?_ _) | (refine below_st ?_ _ _ (by have hz2 := b3.out.size; simp only; omega)))))
        (first
          | (go_at_call 23; refine (HN.out _ (by assumption)).mono ?_; rintro e w2 ⟨b2, g, rfl, hg, hM⟩; have b3 := Lib.hid (below_on (by assumption) b2); (try (have B0 := (Blk.new _ _ _).drew.below b2 (by simp); have p0 := B0.cell 0; have f0 := B0.frozen 0; simp at p0 f0; (try simp only [World.size_alloc] at B0); replace B0 := Lib.hid B0)); (try (have B1 := ((Blk.new _ _ _).alloc _).drew.below b2 (by simp <;> omega); have p1 := B1.cell 0; have f1 := B1.frozen 0; simp at p1 f1; (try simp only [World.size_alloc] at B1); replace B1 := Lib.hid B1)); (try (have B2 := (((Blk.new _ _ _).alloc _).alloc _).drew.below b2 (by simp <;> omega); have p2 := B2.cell 0; have f2 := B2.frozen 0; simp at p2 f2; (try simp only [World.size_drew, World.size_alloc] at B2); replace B2 := Lib.hid B2)); have z2 := b2.size; simp only [World.size_drew, World.size_alloc] at z2; (try have n0 : w1.heap.size ≠ w2.heap.size := (by omega)); (try have m0 : w2.heap.size ≠ w1.heap.size := (by omega)); (try have n1 : w1.heap.size + 1 ≠ w2.heap.size := (by omega)); (try have m1 : w2.heap.size ≠ w1.heap.size + 1 := (by omega)); (try have n2 : w1.heap.size + 2 ≠ w2.heap.size := (by omega)); (try have m2 : w2.heap.size ≠ w1.heap.size + 2 := (by omega)); (try have nn1 : w1.heap.size ≠ w2.heap.size + 1 := (by omega)); (try have mm1 : w2.heap.size + 1 ≠ w1.heap.size := (by omega)); (try have nn2 : w1.heap.size ≠ w2.heap.size + 2 := (by omega)); (try have mm2 : w2.heap.size + 2 ≠ w1.heap.size := (by omega)); (try have l00 : w1.heap.size < w2.heap.size := (by omega)); (try have l01 : w1.heap.size < w2.heap.size + 1 := (by omega)); (try have l02 : w1.heap.size < w2.heap.size + 2 := (by omega)); (try have l10 : w1.heap.size + 1 < w2.heap.size := (by omega)); (try have l11 : w1.heap.size + 1 < w2.heap.size + 1 := (by omega)); (try have l12 : w1.heap.size + 1 < w2.heap.size + 2 := (by omega)); (try have l20 : w1.heap.size + 2 < w2.heap.size := (by omega)); (try have l21 : w1.heap.size + 2 < w2.heap.size + 1 := (by omega)); (try have l22 : w1.heap.size + 2 < w2.heap.size + 2 := (by omega)); have KK4 : Hid (Blk w2 w.heap.size 23 #[.slice none 0 0]) := Blk.below (by first | exact K4.out.drew | exact (K4.out.alloc _).drew | exact ((K4.out.alloc _).alloc _).drew | exact (((K4.out.alloc _).alloc _).alloc _).drew) b2 (by simp only [World.size_drew, World.size_alloc]; omega); have KK5 : Hid (Blk w2 (w.heap.size + 1) 27 #[.int .i64 0]) := Blk.below (by first | exact K5.out.drew | exact (K5.out.alloc _).drew | exact ((K5.out.alloc _).alloc _).drew | exact (((K5.out.alloc _).alloc _).alloc _).drew) b2 (by simp only [World.size_drew, World.size_alloc]; omega); replace z2 := Lib.hid z2; replace b2 := Lib.hid b2; replace hM := Lib.hid hM)
          )
      all_goals
        have hz3 := z2.out
        go_wp2_with fail
        go_meet
        case rel =>
          (try have e0 := hM.out.ne_row B0.out)
          (try have e1 := hM.out.ne_row B1.out)
          (try have e2 := hM.out.ne_row B2.out)
          apply PRel.of (gm := g)
          case k6 => (repeat' (first | with_reducible exact B0.out | with_reducible exact B1.out | with_reducible exact B2.out | (with_reducible apply blk_upd) | (with_reducible refine blk_new2 ?_) | (with_reducible refine blk_newS1 ?_) | (with_reducible refine blk_new1 ?_) | (with_reducible refine blk_newSS ?_) | (with_reducible refine blk_newS ?_) | (with_reducible refine blk_new ?_) | (with_reducible refine Blk.alloc ?_ _) | (with_reducible refine Blk.farb ?_ ?_ _) | omega))
          case k7 => (repeat' (first | with_reducible exact B0.out | with_reducible exact B1.out | with_reducible exact B2.out | (with_reducible apply blk_upd) | (with_reducible refine blk_new2 ?_) | (with_reducible refine blk_newS1 ?_) | (with_reducible refine blk_new1 ?_) | (with_reducible refine blk_newSS ?_) | (with_reducible refine blk_newS ?_) | (with_reducible refine blk_new ?_) | (with_reducible refine Blk.alloc ?_ _) | (with_reducible refine Blk.farb ?_ ?_ _) | omega))
          case row =>
            unfold IRow
            (repeat' (first | with_reducible exact B0.out | with_reducible exact B1.out | with_reducible exact B2.out | (with_reducible apply blk_upd) | (with_reducible refine blk_new2 ?_) | (with_reducible refine blk_newS1 ?_) | (with_reducible refine blk_new1 ?_) | (with_reducible refine blk_newSS ?_) | (with_reducible refine blk_newS ?_) | (with_reducible refine blk_new ?_) | (with_reducible refine Blk.alloc ?_ _) | (with_reducible refine Blk.farb ?_ ?_ _) | omega))
          case map => (repeat' (first | with_reducible exact hM.out | (with_reducible refine NamesAt.alloc ?_ _) | (with_reducible refine NamesAt.set ?_ ?_ _) | assumption))
          case k4 => (repeat' (first | with_reducible exact KK4.out | (with_reducible refine Blk.alloc ?_ _) | (with_reducible refine Blk.farb ?_ ?_ _) | omega))
          case k5 => (repeat' (first | with_reducible exact KK5.out | (with_reducible refine Blk.alloc ?_ _) | (with_reducible refine Blk.farb ?_ ?_ _) | omega))
          case below =>
            have hz4 := b3.out.size
            (repeat' (first | with_reducible exact b3.out | (with_reducible refine below_al ?_ _) | (with_reducible refine below_stb ?_ _ _ ?_) | omega))
          case q0 => omega
          case q6 => omega
          case n46 => omega
    case rest =>
      obtain ⟨g0, gm, b6, b7, rfl, rfl, HP⟩ := hcut
      have HLO := Lib.hid HP.out.lo
      have HS := Lib.hid hs
      rcases hone : (s == [49]) with _ | _
      · obtain ⟨B, hB⟩ : ∃ B, B = wc.heap.size := ⟨_, rfl⟩
        have HRW : Hid (rawC (nms l) s = loopC (nms l) (zeroC (nms l)) (splitSp s)) := by
          show rawC _ _ = _
          unfold rawC
          rw [if_neg (by rw [beq_eq_false_iff_ne] at hone; exact hone)]
        have HLOB : Hid (PLo w l B g0 gm b6 b7 (zeroC (nms l)) wc) := by
          show PLo _ _ _ _ _ _ _ _ _
          rw [hB]
          have : zeroC (nms l) = List.replicate l.length 0 := by unfold zeroC nms; rw [List.length_map]
          rw [this]
          exact HLO.out
        clear HLO HP
        go_wp2_with (go_at_call 29; refine (splitSeq_any _ s).mono ?_; rintro e w0 ⟨rfl, hw0⟩; have HW0 := Lib.hid hw0; clear hw0)
        have hz0 : w0.heap.size = B + 3 := by rw [HW0.out, hB]; simp
        rw [← hB]
        have HBB := Lib.hid hB
        clear hB
        refine (wpIn_wide (n := 3)).1 ?_
        refine range_split 3 (b0 := B + 1) (b1 := B) (b2 := B + 2) rfl s (by omega) (by omega) (by omega) (by omega) (by omega) (by omega) rfl ?h0 ?h1 ?hf ?h2
          (fun pre W => ∃ out, Hid (loopC (nms l) (zeroC (nms l)) pre = some out) ∧ Hid (PLo w l B g0 gm b6 b7 out W) ∧ B + 3 ≤ W.heap.size)
          (fun c pre W => c = .ret ∧ Hid (loopC (nms l) (zeroC (nms l)) pre = none) ∧ Hid (Blk W w.heap.size 23 #[.slice none 0 0] ∧ Blk W (w.heap.size + 1) 27 #[.int .i64 8] ∧ Below w.heap.size w W))
          ?hA ?hP ?hS ?hX ?hI0 (fun x => { tmps := #[.slice A l.length c, str s, undef, undef, .pointer (some ⟨w.heap.size, 0, none⟩), .pointer (some ⟨w.heap.size + 1, 0, none⟩), .pointer (some ⟨b6, 0, none⟩), .pointer (some ⟨b7, 0, none⟩), str x, undef, undef, undef, undef, undef, undef, undef, undef, undef, .slice A l.length c, .bool true, .bool false, u21, u22, u23, u24, u25, str s, .bool true, str s, .func (.func 59) #[] #[.pointer (some ⟨B + 1, 0, none⟩), .pointer (some ⟨B, 0, none⟩), .pointer (some ⟨B + 2, 0, none⟩)], str x, undef, undef, undef, undef, undef, undef, undef, undef, undef, undef, undef, undef, undef, undef, undef, undef, undef, undef, undef, undef, undef, undef, undef, undef, undef, undef, undef, undef, undef, undef, undef, undef, undef, undef, undef, undef, undef, undef, undef, undef, undef, undef, undef, undef, undef], defers := [] }) ?hassign ?hbody ?hdone ?hstop
        case h0 => rw [HW0.out]; exact ((Blk.new (wc.alloc (.cells #[str s] 9)) 9 #[.string ⟨#[32]⟩]).alloc (.cells #[.int .i64 0] 3)).cell 0 |> fun h => by rw [World.size_alloc, ← HBB.out] at h; exact h
        case h1 => rw [HW0.out]; exact (((Blk.new wc 9 #[str s]).alloc (.cells #[.string ⟨#[32]⟩] 9)).alloc (.cells #[.int .i64 0] 3)).cell 0 |> fun h => by rw [← HBB.out] at h; exact h
        case hf => rw [HW0.out]; exact (((Blk.new wc 9 #[str s]).alloc (.cells #[.string ⟨#[32]⟩] 9)).alloc (.cells #[.int .i64 0] 3)).frozen 0 |> fun h => by rw [← HBB.out] at h; exact h
        case h2 => rw [HW0.out]; exact (Blk.new ((wc.alloc (.cells #[str s] 9)).alloc (.cells #[.string ⟨#[32]⟩] 9)) 3 #[.int .i64 0]).cell 0 |> fun h => by rw [World.size_alloc, World.size_alloc, ← HBB.out] at h; exact h
        case hA => rintro pre W o ⟨out, h1, h2, h3⟩; exact ⟨out, h1, h2.out.alloc o, by rw [World.size_alloc]; omega⟩
        case hP => rintro pre W k o hk ⟨out, h1, h2, h3⟩; exact ⟨out, h1, h2.out.putObj k o (by omega), by rw [size_putObj]; exact h3⟩
        case hS => rintro pre W v ⟨out, h1, h2, h3⟩; exact ⟨out, h1, h2.out.setCell B v (Nat.le_refl _), by rw [World.size_setCell]; exact h3⟩
        case hX =>
          rintro c pre W k o hk ⟨h1, h2, h3⟩
          have hg := grownBy_putObj' W k o
          have hwB := HLOB.out.wB
          exact ⟨h1, h2, h3.out.1.grown hg (fun e => by injection e; omega), h3.out.2.1.grown hg (fun e => by injection e; omega), h3.out.2.2.grown hg h3.out.2.2.size (fun r e => by cases e; omega)⟩
        case hI0 => exact ⟨_, rfl, by
          show PLo _ _ _ _ _ _ _ _ _
          rw [HW0.out]
          exact ((HLOB.out.alloc _).alloc _).alloc _, by omega⟩
        case hassign =>
          intro l' x W K hK
          gi_wp2
          exact hK
        case hbody =>
          rintro l' pre x W ⟨out, h1, h2, h3⟩ hxl
          have hcl := cutP_len x
          have hLEN : out.length = l.length := by
            rw [loopC_len h1.out]
            unfold zeroC nms
            rw [List.length_replicate, List.length_map]
          have hwB := HLOB.out.wB
          have hND := (validB_iff.1 HVB.out).nodup
          have HCUT := Lib.hid fun (W1 : World) => cut_any W1 x (by omega)
          have HAT := Lib.hid fun (W1 : World) (hE : Errs W1) => (atoi_any W1 (cutP x).2.1 (by omega) hE).mono fun e w' h => AtoiEnds.one h
          have hnl : (cutP x).1.length ≤ 9223372036854775807 := by omega
          have HC1 := Lib.hid fun (h : (cutP x).2.2 = false) => stepC_cut (ns := nms l) (out := out) h
          have HC2 := Lib.hid fun (h : idxOf (nms l) (cutP x).1 = none) => stepC_known (out := out) h
          have HC3 := Lib.hid fun (h : ∀ v, Lib.atoiAll (cutP x).2.1 ≠ .ok v) => stepC_num (ns := nms l) (out := out) h
          have HC4 := Lib.hid fun (k : Nat) (n : Int) h1 h2 h3 => stepC_all (ns := nms l) (out := out) (x := x) (k := k) (n := n) h1 h2 h3
          have HLK := Lib.hid fun (i : Int) h => names_look hND (cutP x).1 i h
          have HNOT : Hid (stepC (nms l) out x = none → loopC (nms l) (zeroC (nms l)) (pre ++ [x]) = none) := fun h => by
            rw [loopC_snoc, h1.out]
            exact h
          have HYES : Hid (∀ o, stepC (nms l) out x = some o → loopC (nms l) (zeroC (nms l)) (pre ++ [x]) = some o) := fun o h => by
            rw [loopC_snoc, h1.out]
            exact h
          clear hcl hND
          generalize (cutP x).1 = nm at *
          generalize (cutP x).2.1 = ds at *
          rcases hcb : (cutP x).2.2 with _ | _
          · have HNO : Hid (loopC (nms l) (zeroC (nms l)) (pre ++ [x]) = none) := HNOT.out (HC1.out hcb)
            rw [hcb] at HCUT
            clear hcb
            gi_wp2_with (first
              | (refine ⟨trivial, ?_⟩; gi_at_call 30; refine (CallsIn.inRound l' (callsIn_wide.2 (HCUT.out _))).mono ?_; rintro e W1 ⟨rfl, b1⟩; have HL1 := Lib.hid (h2.out.on b1); have c7 := HL1.out.st.k7.cell 0; simp at c7; have hE1 := Lib.hid (HE.out.below HL1.out.st.below); have HB1' := Lib.hid b1; clear b1)
              | (gi_at_lookup; refine wpListIn_lookup_own_ok_int (H := Unit) _ rfl _ _ 59 rfl 9 3 .i64 lawS Tryd.underlying59 Tryd.underlying3 (zeroI _) gm l.length _ rfl HL1.out.st.map _ _ rfl (key_str _ hnl) ?_; intro ii hat hwc; clear hat hwc; generalize has (namesK (nms l) l.length) (nkey nm) = hb)
              | (refine ⟨trivial, ?_⟩; gi_at_call 31; refine (CallsIn.inRound l' (callsIn_wide.2 (HAT.out _ hE1.out))).mono ?_; rintro e W2 ⟨b2, n, ev, rfl, -⟩; have HL2 := Lib.hid (HL1.out.on b2); have c6 := HL2.out.st.k6.cell 0; have c4 := HL2.out.st.k4.cell 0; have c5 := HL2.out.st.k5.cell 0; have f4 := HL2.out.st.k4.frozen 0; have f5 := HL2.out.st.k5.frozen 0; simp at c4 c5 c6; have hfr := HL2.out.st.row.frozen; have hrc := HL2.out.st.row.cell; rw [hLEN] at hrc; have HB2' := Lib.hid b2; clear b2))
            exact ⟨((keeps_below HB1'.out).trans (keeps_below HB2'.out)).trans ((keeps_set _ _ _ _).trans (keeps_set _ _ _ _)), rfl, HNO, Lib.hid ⟨(blk_upd HL2.out.st.k4).farb (by omega) _, blk_upd (HL2.out.st.k5.farb (by omega) _), below_stb (below_stb HL2.out.st.below _ _ (Nat.le_refl _)) _ _ (by omega)⟩⟩
          · rw [hcb] at HCUT
            rcases hh : has (namesK (nms l) l.length) (nkey nm) with _ | _
            · have HHF := Lib.hid hh
              have HIX : Hid (idxOf (nms l) nm = none → loopC (nms l) (zeroC (nms l)) (pre ++ [x]) = none) := fun h => HNOT.out (HC2.out h)
              clear hcb hh
              gi_wp2_with (first
                | (refine ⟨trivial, ?_⟩; gi_at_call 30; refine (CallsIn.inRound l' (callsIn_wide.2 (HCUT.out _))).mono ?_; rintro e W1 ⟨rfl, b1⟩; have HL1 := Lib.hid (h2.out.on b1); have c7 := HL1.out.st.k7.cell 0; simp at c7; have hE1 := Lib.hid (HE.out.below HL1.out.st.below); have HB1' := Lib.hid b1; clear b1)
                | (gi_at_lookup; refine wpListIn_lookup_own_ok_int (H := Unit) _ rfl _ _ 59 rfl 9 3 .i64 lawS Tryd.underlying59 Tryd.underlying3 (zeroI _) gm l.length _ rfl HL1.out.st.map _ _ rfl (key_str _ hnl) ?_; intro ii hat hwc; rw [HHF.out]; have HNO : Hid (loopC (nms l) (zeroC (nms l)) (pre ++ [x]) = none) := HIX.out (by rcases HLK.out ii hat with ⟨h, -⟩ | ⟨-, h⟩; rw [HHF.out] at h; cases h; exact h); clear hat hwc)
                | (refine ⟨trivial, ?_⟩; gi_at_call 31; refine (CallsIn.inRound l' (callsIn_wide.2 (HAT.out _ hE1.out))).mono ?_; rintro e W2 ⟨b2, n, ev, rfl, -⟩; have HL2 := Lib.hid (HL1.out.on b2); have c6 := HL2.out.st.k6.cell 0; have c4 := HL2.out.st.k4.cell 0; have c5 := HL2.out.st.k5.cell 0; have f4 := HL2.out.st.k4.frozen 0; have f5 := HL2.out.st.k5.frozen 0; simp at c4 c5 c6; have hfr := HL2.out.st.row.frozen; have hrc := HL2.out.st.row.cell; rw [hLEN] at hrc; have HB2' := Lib.hid b2; clear b2))
              exact ⟨((keeps_below HB1'.out).trans (keeps_below HB2'.out)).trans ((keeps_set _ _ _ _).trans (keeps_set _ _ _ _)), rfl, HNO, Lib.hid ⟨(blk_upd HL2.out.st.k4).farb (by omega) _, blk_upd (HL2.out.st.k5.farb (by omega) _), below_stb (below_stb HL2.out.st.below _ _ (Nat.le_refl _)) _ _ (by omega)⟩⟩
            · have HHT := Lib.hid hh
              clear hh
              by_cases hok : ∃ v, Lib.atoiAll ds = .ok v
              · obtain ⟨n0, hn0⟩ := hok
                have HN0 := Lib.hid hn0
                have HCB := Lib.hid hcb
                clear hcb hn0
                gi_wp2_with (first
                  | (refine ⟨trivial, ?_⟩; gi_at_call 30; refine (CallsIn.inRound l' (callsIn_wide.2 (HCUT.out _))).mono ?_; rintro e W1 ⟨rfl, b1⟩; have HL1 := Lib.hid (h2.out.on b1); have c7 := HL1.out.st.k7.cell 0; simp at c7; have hE1 := Lib.hid (HE.out.below HL1.out.st.below); have HB1' := Lib.hid b1; clear b1)
                  | (gi_at_lookup; refine wpListIn_lookup_own_ok_int (H := Unit) _ rfl _ _ 59 rfl 9 3 .i64 lawS Tryd.underlying59 Tryd.underlying3 (zeroI _) gm l.length _ rfl HL1.out.st.map _ _ rfl (key_str _ hnl) ?_; intro ii hat hwc; rw [HHT.out]; obtain ⟨k, rfl, hk, hix⟩ : ∃ k : Nat, ii = k ∧ k < l.length ∧ idxOf (nms l) nm = some k := (by rcases HLK.out ii hat with ⟨-, h⟩ | ⟨h, -⟩; exact h; rw [HHT.out] at h; cases h); have HIX := Lib.hid hix; have hkI : (k : Int) < (l.length : Int) := (by omega); clear hat hwc hix)
                  | (refine ⟨trivial, ?_⟩; gi_at_call 31; refine (CallsIn.inRound l' (callsIn_wide.2 (HAT.out _ hE1.out))).mono ?_; rintro e W2 ⟨b2, n, ev, rfl, hev⟩; obtain ⟨hn, rfl⟩ : Lib.atoiAll ds = .ok n ∧ ev = .nilIface := (by rcases hev with h | ⟨h, -⟩; exact h; exact absurd HN0.out (h n0)); obtain rfl : n = n0 := (by have := hn.symm.trans HN0.out; injection this); clear hn hev; have HL2 := Lib.hid (HL1.out.on b2); have c6 := HL2.out.st.k6.cell 0; have c4 := HL2.out.st.k4.cell 0; have c5 := HL2.out.st.k5.cell 0; have f4 := HL2.out.st.k4.frozen 0; have f5 := HL2.out.st.k5.frozen 0; simp at c4 c5 c6; have hfr := HL2.out.st.row.frozen; have hrc := HL2.out.st.row.cell; rw [hLEN] at hrc; have HB2' := Lib.hid b2; clear b2))
                exact ⟨((keeps_below HB1'.out).trans (keeps_below HB2'.out)).trans (keeps_set _ _ _ _), ((kp3_below HB1'.out (by omega) (by omega) (by omega)).trans (kp3_below HB2'.out (by have := HB1'.out.size; omega) (by have := HB1'.out.size; omega) (by have := HB1'.out.size; omega))).trans (kp3_set _ _ _ (by have := HLOB.out.gB; simp only [ne_eq]; omega) (by have := HLOB.out.gB; simp only [ne_eq]; omega) (by have := HLOB.out.gB; simp only [ne_eq]; omega)), _, Lib.hid (HYES.out _ (HC4.out _ _ HCB.out HIX.out HN0.out)), Lib.hid (HL2.out.put _ _), by have := HB1'.out.size; have := HB2'.out.size; simp only [World.size_setCell]; omega⟩
              · have HNO : Hid (loopC (nms l) (zeroC (nms l)) (pre ++ [x]) = none) := HNOT.out (HC3.out fun v h => hok ⟨v, h⟩)
                have HOK := Lib.hid hok
                clear hcb hok
                gi_wp2_with (first
                  | (refine ⟨trivial, ?_⟩; gi_at_call 30; refine (CallsIn.inRound l' (callsIn_wide.2 (HCUT.out _))).mono ?_; rintro e W1 ⟨rfl, b1⟩; have HL1 := Lib.hid (h2.out.on b1); have c7 := HL1.out.st.k7.cell 0; simp at c7; have hE1 := Lib.hid (HE.out.below HL1.out.st.below); have HB1' := Lib.hid b1; clear b1)
                  | (gi_at_lookup; refine wpListIn_lookup_own_ok_int (H := Unit) _ rfl _ _ 59 rfl 9 3 .i64 lawS Tryd.underlying59 Tryd.underlying3 (zeroI _) gm l.length _ rfl HL1.out.st.map _ _ rfl (key_str _ hnl) ?_; intro ii hat hwc; rw [HHT.out]; clear hat hwc)
                  | (refine ⟨trivial, ?_⟩; gi_at_call 31; refine (CallsIn.inRound l' (callsIn_wide.2 (HAT.out _ hE1.out))).mono ?_; rintro e W2 ⟨b2, n, ev, rfl, hev⟩; obtain ⟨p, rfl⟩ : ∃ p, ev = .iface 111 (.pointer (some p)) := (by rcases hev with ⟨h, -⟩ | ⟨-, h⟩; exact absurd ⟨n, h⟩ HOK.out; exact h); clear hev; have HL2 := Lib.hid (HL1.out.on b2); have c6 := HL2.out.st.k6.cell 0; have c4 := HL2.out.st.k4.cell 0; have c5 := HL2.out.st.k5.cell 0; have f4 := HL2.out.st.k4.frozen 0; have f5 := HL2.out.st.k5.frozen 0; simp at c4 c5 c6; have hfr := HL2.out.st.row.frozen; have hrc := HL2.out.st.row.cell; rw [hLEN] at hrc; have HB2' := Lib.hid b2; clear b2))
                exact ⟨((keeps_below HB1'.out).trans (keeps_below HB2'.out)).trans ((keeps_set _ _ _ _).trans (keeps_set _ _ _ _)), rfl, HNO, Lib.hid ⟨(blk_upd HL2.out.st.k4).farb (by omega) _, blk_upd (HL2.out.st.k5.farb (by omega) _), below_stb (below_stb HL2.out.st.below _ _ (Nat.le_refl _)) _ _ (by omega)⟩⟩
        case hdone =>
          rintro D W hD ⟨out, h1, h2, h3⟩ hK
          have HRAW : Hid (rawC (nms l) s = some out) := HRW.out.trans h1.out
          have HLEN : Hid (out.length = l.length) := by
            show _ = _
            rw [loopC_len h1.out]
            unfold zeroC nms
            rw [List.length_replicate, List.length_map]
          have HKD := Lib.hid hK
          have hwB := HLOB.out.wB
          clear h1 hK
          have HX := Lib.hid (text_at A c hll HR.out HS.out h2.out.st HLEN.out HT.out)
          have c4 := h2.out.st.k4.cell 0
          have c5 := h2.out.st.k5.cell 0
          have c6 := h2.out.st.k6.cell 0
          simp at c4 c5 c6
          rcases parse_out HVB.out HRAW.out HLEN.out with ⟨h1, h2, h3, h4⟩ | ⟨h1, h2, h3, h4⟩ | ⟨h1, h3, h4⟩
          · have ht : (textV l out == s) = true := by rw [beq_iff_eq]; exact h2
            rw [h1] at HX
            generalize textV l out = tv at *
            clear h1 h2
            go_wp2_with (go_at_call 15; refine HX.out.mono ?_; rintro e W9 ⟨rfl, b9⟩; have HL9 := Lib.hid (h2.out.on b9); have hK9 := b9; have d4 := HL9.out.st.k4.cell 0; have d5 := HL9.out.st.k5.cell 0; have d6 := HL9.out.st.k6.cell 0; have e4 := HL9.out.st.k4.frozen 0; have e5 := HL9.out.st.k5.frozen 0; simp at d4 d5 d6; replace hK9 := Lib.hid hK9; clear b9)
            exact parse_good _ _ _ (.inr ⟨D, rfl, by omega, by rw [heap_setCell_other _ _ _ _ (by show D ≠ w.heap.size + 1; omega), heap_setCell_other _ _ _ _ (by show D ≠ w.heap.size; omega)]; exact (hK9.out.block D (Array.getElem?_eq_some_iff.1 HKD.out).1).trans HKD.out⟩) rfl rfl g0 _ _ (HLEN.out).symm ((blk_upd HL9.out.st.k4).farb (by omega) _) (blk_upd (HL9.out.st.k5.farb (by omega) _)) (Blk.farb (Blk.farb HL9.out.st.row (blk_ne HL9.out.st.row HL9.out.st.k4 (by decide)) _) (blk_ne HL9.out.st.row HL9.out.st.k5 (by decide)) _) (below_stb (below_stb HL9.out.st.below _ _ (Nat.le_refl _)) _ _ (by omega)) h3 h4
          · have ht : (textV l out == s) = false := by rw [beq_eq_false_iff_ne]; exact h2
            rw [h1] at HX
            generalize textV l out = tv at *
            clear h1 h2
            go_wp2_with (go_at_call 15; refine HX.out.mono ?_; rintro e W9 ⟨rfl, b9⟩; have HL9 := Lib.hid (h2.out.on b9); have hK9 := b9; have d4 := HL9.out.st.k4.cell 0; have d5 := HL9.out.st.k5.cell 0; have d6 := HL9.out.st.k6.cell 0; have e4 := HL9.out.st.k4.frozen 0; have e5 := HL9.out.st.k5.frozen 0; simp at d4 d5 d6; replace hK9 := Lib.hid hK9; clear b9)
            exact parse_bad _ _ _ (.inr ⟨D, rfl, by omega, by rw [heap_setCell_other _ _ _ _ (by show D ≠ w.heap.size + 1; omega), heap_setCell_other _ _ _ _ (by show D ≠ w.heap.size; omega)]; exact (hK9.out.block D (Array.getElem?_eq_some_iff.1 HKD.out).1).trans HKD.out⟩) rfl rfl 8 ((blk_upd HL9.out.st.k4).farb (by omega) _) (blk_upd (HL9.out.st.k5.farb (by omega) _)) (below_stb (below_stb HL9.out.st.below _ _ (Nat.le_refl _)) _ _ (by omega)) h3 h4
          · rw [h1] at HX
            clear h1
            go_wp2_with (go_at_call 15; refine HX.out.mono ?_; rintro e W9 ⟨rfl, b9⟩; have HL9 := Lib.hid (h2.out.on b9); have hK9 := b9; have d4 := HL9.out.st.k4.cell 0; have d5 := HL9.out.st.k5.cell 0; have d6 := HL9.out.st.k6.cell 0; have e4 := HL9.out.st.k4.frozen 0; have e5 := HL9.out.st.k5.frozen 0; simp at d4 d5 d6; replace hK9 := Lib.hid hK9; clear b9)
            exact parse_bad _ _ _ (.inr ⟨D, rfl, by omega, by rw [heap_setCell_other _ _ _ _ (by show D ≠ w.heap.size + 1; omega), heap_setCell_other _ _ _ _ (by show D ≠ w.heap.size; omega)]; exact (hK9.out.block D (Array.getElem?_eq_some_iff.1 HKD.out).1).trans HKD.out⟩) rfl rfl 8 ((blk_upd HL9.out.st.k4).farb (by omega) _) (blk_upd (HL9.out.st.k5.farb (by omega) _)) (below_stb (below_stb HL9.out.st.below _ _ (Nat.le_refl _)) _ _ (by omega)) h3 h4
        case hstop =>
          rintro D c' pre W hD hpre ⟨rfl, h2, h3⟩ hK
          have hwB := HLOB.out.wB
          have hnone : rawC (nms l) s = none := HRW.out.trans (loopC_prefix hpre h2.out)
          have h4 : parseV l s = [] := by unfold parseV parseC; rw [HVB.out, hnone]; rfl
          have h5 : parseE l s = 8 := by unfold parseE parseC; rw [HVB.out, hnone]; rfl
          refine wpIn_wide.2 ?_
          go_wp2
          exact parse_bad _ _ _ (.inr ⟨D, rfl, by omega, hK⟩) rfl rfl 8 h3.out.1 h3.out.2.1 h3.out.2.2 h4 h5
      · have HRAW : Hid (rawC (nms l) s = some (List.replicate l.length 0)) := by
          show rawC _ _ = _
          unfold rawC
          rw [if_pos (by rw [beq_iff_eq] at hone; exact hone)]
          unfold zeroC nms
          rw [List.length_map]
        have HLEN : Hid ((List.replicate l.length (0 : Int)).length = l.length) := by simp [Hid]
        clear HP
        generalize List.replicate l.length (0 : Int) = out at *
        have HX := Lib.hid (text_at A c hll HR.out HS.out HLO.out.st HLEN.out HT.out)
        have c4 := HLO.out.st.k4.cell 0
        have c5 := HLO.out.st.k5.cell 0
        have c6 := HLO.out.st.k6.cell 0
        simp at c4 c5 c6
        rcases parse_out HVB.out HRAW.out HLEN.out with ⟨h1, h2, h3, h4⟩ | ⟨h1, h2, h3, h4⟩ | ⟨h1, h3, h4⟩
        · have ht : (textV l out == s) = true := by rw [beq_iff_eq]; exact h2
          rw [h1] at HX
          generalize textV l out = tv at *
          clear h1 h2
          go_wp2_with (go_at_call 15; refine HX.out.mono ?_; rintro e W9 ⟨rfl, b9⟩; have HL9 := Lib.hid (HLO.out.on b9); have hK9 := b9; have d4 := HL9.out.st.k4.cell 0; have d5 := HL9.out.st.k5.cell 0; have d6 := HL9.out.st.k6.cell 0; have e4 := HL9.out.st.k4.frozen 0; have e5 := HL9.out.st.k5.frozen 0; simp at d4 d5 d6; replace hK9 := Lib.hid hK9; clear b9)
          exact parse_good _ _ _ (.inl rfl) rfl rfl g0 _ _ (HLEN.out).symm ((blk_upd HL9.out.st.k4).farb (by omega) _) (blk_upd (HL9.out.st.k5.farb (by omega) _)) (Blk.farb (Blk.farb HL9.out.st.row (blk_ne HL9.out.st.row HL9.out.st.k4 (by decide)) _) (blk_ne HL9.out.st.row HL9.out.st.k5 (by decide)) _) (below_stb (below_stb HL9.out.st.below _ _ (Nat.le_refl _)) _ _ (by omega)) h3 h4
        · have ht : (textV l out == s) = false := by rw [beq_eq_false_iff_ne]; exact h2
          rw [h1] at HX
          generalize textV l out = tv at *
          clear h1 h2
          go_wp2_with (go_at_call 15; refine HX.out.mono ?_; rintro e W9 ⟨rfl, b9⟩; have HL9 := Lib.hid (HLO.out.on b9); have hK9 := b9; have d4 := HL9.out.st.k4.cell 0; have d5 := HL9.out.st.k5.cell 0; have d6 := HL9.out.st.k6.cell 0; have e4 := HL9.out.st.k4.frozen 0; have e5 := HL9.out.st.k5.frozen 0; simp at d4 d5 d6; replace hK9 := Lib.hid hK9; clear b9)
          exact parse_bad _ _ _ (.inl rfl) rfl rfl 8 ((blk_upd HL9.out.st.k4).farb (by omega) _) (blk_upd (HL9.out.st.k5.farb (by omega) _)) (below_stb (below_stb HL9.out.st.below _ _ (Nat.le_refl _)) _ _ (by omega)) h3 h4
        · rw [h1] at HX
          clear h1
          go_wp2_with (go_at_call 15; refine HX.out.mono ?_; rintro e W9 ⟨rfl, b9⟩; have HL9 := Lib.hid (HLO.out.on b9); have hK9 := b9; have d4 := HL9.out.st.k4.cell 0; have d5 := HL9.out.st.k5.cell 0; have d6 := HL9.out.st.k6.cell 0; have e4 := HL9.out.st.k4.frozen 0; have e5 := HL9.out.st.k5.frozen 0; simp at d4 d5 d6; replace hK9 := Lib.hid hK9; clear b9)
          exact parse_bad _ _ _ (.inl rfl) rfl rfl 8 ((blk_upd HL9.out.st.k4).farb (by omega) _) (blk_upd (HL9.out.st.k5.farb (by omega) _)) (below_stb (below_stb HL9.out.st.below _ _ (Nat.le_refl _)) _ _ (by omega)) h3 h4

end Go.Proofs.YtipaapplingbnaaDoor
