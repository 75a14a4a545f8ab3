/- Walks: Text. -/
import Derived.Test.YtipaapplingbnaaDoorCy
import Derived.Deep.RegionHeld3
namespace Go.Proofs.YtipaapplingbnaaDoor
open Go.RowKit Go.Deep

set_option maxRecDepth 100000 in
set_option maxHeartbeats 4000000 in
theorem text_any (w : World) (A Ac : Option Addr) (c cc : Nat) (l : List Cm) (cs : List Int) (hr : RdN w w.heap.size A l) (hs : ∀ x ∈ l, x.nm.length ≤ 9223372036854775807) (hll : l.length ≤ 9223372036854775807) (hrc : RdI w w.heap.size Ac cs) (hcl : cs.length ≤ 9223372036854775807) (hT : Tab w) :
    Calls Tryd.prog 15 #[.slice A l.length c, .slice Ac cs.length cc] w fun e w' => e = .returned (.tuple #[str (textV l cs), .int .i64 (textE l cs)]) ∧ Below w.heap.size w w' := by
  have HA := Lib.hid (account_any w A Ac c cc l cs hr hs hll hrc hcl)
  unfold textV textE
  rcases ha : accB l cs with _ | _
  · rw [ha] at HA
    simp only [Bool.false_eq_true, if_false]
    clear hr hs hrc hT
    go_enter Tryd.func15, Tryd.ntmps15
    go_wp2_with (go_at_call 18; refine HA.out.mono ?_; rintro e w1 ⟨rfl, b1⟩; replace b1 := Lib.hid b1)
    go_ret2
    exact ⟨rfl, b1.out⟩
  · rw [ha] at HA
    obtain ⟨hir, hlen, hL⟩ := accB_iff.1 ha
    have hl6 := hL.hi
    have HIR := Lib.hid (inRange_abs hir)
    have HNM : Hid (∀ x ∈ nms l, isName x = true) := by
      intro x hx
      obtain ⟨y, hy, rfl⟩ := List.mem_map.1 hx
      exact hL.names y hy
    have HR := Lib.hid hr
    have HC := Lib.hid hrc
    have HT := Lib.hid hT
    have HLEN := Lib.hid hlen
    have HNL : Hid ((nms l).length = l.length) := by simp [Hid, nms]
    simp only [if_true]
    obtain ⟨R, hR⟩ : ∃ R, textC (nms l) cs = R := ⟨_, rfl⟩
    rw [hR]
    have HRT := Lib.hid hR
    clear hr hs hrc hir hL hlen ha hR hT
    go_enter Tryd.func15, Tryd.ntmps15
    go_wp2_with (go_at_call 18; refine HA.out.mono ?_; rintro e w1 ⟨rfl, b1⟩; replace b1 := Lib.hid b1)
    go_loopw [6, 15] (fun g i wx => ∃ k : Nat, k ≤ l.length ∧ i = .int .i64 k ∧ Hid (Below w.heap.size w wx) ∧ Hid (OwnS wx w.heap.size g (entries ((nms l).take k) (cs.take k)))) (fun _ i _ => l.length - (intOf i).toNat)
    case atStart => exact ⟨0, Nat.zero_le _, rfl, b1, by simp only [List.take_zero, entries]; exact OwnS.start _ _⟩
    case round =>
      obtain ⟨k, hk, rfl, HB, HO⟩ := hrel
      by_cases hlt : k < l.length
      · obtain ⟨ad, rfl, had, hca⟩ := (HR.out.up HB.out).at hlt
        have q0 := hca.n
        obtain ⟨ad', hae, hadw, -⟩ := HR.out.at hlt
        obtain rfl : ad = ad' := by injection hae
        have hzr := HB.out.size
        have hcsl : k < cs.length := by have := HLEN.out; omega
        obtain ⟨ac, rfl, hac, hx⟩ := (HC.out.up HB.out).at hcsl
        have hn := HIR.out (cs.getD k 0) (by simp [List.getD_eq_getElem?_getD, hcsl])
        have hst := entries_step (nms l) cs k (by have := HNL.out; omega) hcsl
        have hg : cs.getD k 0 = cs[k] := by simp [List.getD_eq_getElem?_getD, hcsl]
        have hgn : (nms l)[k]'(by have := HNL.out; omega) = l[k].nm := by simp [nms]
        rw [← hg, hgn] at hst
        clear hg hgn
        have hx16 : l[k].nm.length ≤ 16 := by
          have := HNM.out l[k].nm (List.mem_map.2 ⟨l[k], List.getElem_mem hlt, rfl⟩)
          unfold isName at this
          rw [Bool.and_eq_true] at this
          exact (of_decide_eq_true this.1).2
        have HEL := Lib.hid (entries_length ((nms l).take k) (cs.take k))
        generalize entries ((nms l).take k) (cs.take k) = W at *
        generalize cs.getD k 0 = n at *
        generalize l[k] = x at *
        by_cases h0 : n = 0
        · rw [if_pos h0, List.append_nil] at hst
          have HST := Lib.hid hst
          have h0' : (n == 0) = true := by rw [beq_iff_eq]; exact h0
          clear hst
          go_wp2_with fail
          go_roundw
          case rel => exact ⟨k + 1, by omega, by go_num, HB, by rw [HST.out]; exact HO.out⟩
          case measure => simp [intOf] <;> omega
        · rw [if_neg h0] at hst
          have HST := Lib.hid hst
          have h0' : (n == 0) = false := by rw [beq_eq_false_iff_ne]; exact h0
          have HIT := Lib.hid fun w1 (hb : Below wr.heap.size wr w1) => itoa_any w1 n (by omega) (by omega) (HT.out.below (below_on HB.out hb))
          clear hst h0
          go_wp2_with fail
          have HI2 := Lib.hid (HIT.out wr.drew (Below.refl _ _).drew)
          have HO1 := Lib.hid (OwnS.on HO.out (Below.refl _ _).drew)
          have HWL : Hid (W.length ≤ 6) := by have := HEL.out; simp at this; show _ ≤ _; omega
          have hwl := HWL.out
          have HCV : Hid (∀ (W9 : World) (V : Value), W9.ownsRow w.heap.size 9 1 V (W.length + 1) (W.map str ++ [.string ({ data := x.nm.toArray } ++ { data := #[42] } ++ { data := (Lib.itoa n).toArray })]) → OwnS W9 w.heap.size V (W ++ [entry x.nm n])) := by
            intro W9 V h
            refine OwnS.snoc ?_
            have e : (({ data := x.nm.toArray } ++ { data := #[42] } ++ { data := (Lib.itoa n).toArray }) : ByteArray) = ⟨(entry x.nm n).toArray⟩ := by
              unfold entry
              apply ByteArray.ext
              simp [ByteArray.data_append]
            rw [e] at h
            exact h
          have hil := (itoa_len n hn).1
          have hd1 : ¬ 9223372036854775807 < x.nm.length + 1 := by omega
          have hd2 : ¬ 9223372036854775807 < x.nm.length + 1 + (Lib.itoa n).length := by omega
          have hq0 : (ad.add (k * 7)).block < wr.heap.size := by rw [add_block]; exact had
          go_region_held3 (fun w' => w'.cell? (ad.add (k * 7)) = some (str x.nm))
            (first
              | go_keep
              | (rw [HQ2.out _ (by simpa using hq0)]; exact q0)
              | (rw [HQ4.out, HQ2.out _ (by simpa using hq0)]; exact q0))
            (first
              | (go_at_call 27; refine HI2.out.mono ?_; rintro e w2 ⟨rfl, b2⟩; have HQ2 := Lib.hid (fun p hp => b2.cell (p := p) hp); have HB2 := Lib.hid b2; have HO2 := Lib.hid (OwnS.on HO1.out b2); have hz2 : wr.heap.size ≤ w2.heap.size := b2.size; clear b2)
              | (refine step_app _ (by rfl) _ _ 64 9 (.string ⟨#[]⟩) 1 16 (by rfl) Tryd.underlying64 info_str rfl (by decide) w.heap.size _ _ _ (by rfl) (HO2.out.alloc _) (w2.heap.size + 1) (some ⟨w2.heap.size, 0, none⟩) 1 1 [.string ({ data := x.nm.toArray } ++ { data := #[42] } ++ { data := (Lib.itoa n).toArray })] (by rfl) (shows_new w2 #[.string ({ data := x.nm.toArray } ++ { data := #[42] } ++ { data := (Lib.itoa n).toArray })] _ 1 1 rfl) (by simp [Value.oneCell']) (by simp only [maxLen]; omega) (by omega) (by simp; omega) ?_; intro v3 w3 hown3 hg3 hat3; replace hown3 := HCV.out _ _ hown3; have HQ4 : Hid (w3.cell? (ad.add (k * 7)) = w2.cell? (ad.add (k * 7))) := (hg3.cell_far _ (by simp; omega) (fun e => by have := (World.ownsRow.lt HO2.out _ e.symm).1; rw [add_block] at this; omega)).trans (World.cell?_alloc_lt _ _ _ (by rw [add_block]; omega))))
          all_goals
            have HE3 := Lib.hid hown3
            have HB3 : Hid (Below w.heap.size w w3) := by
              have b3 := below_on HB.out (show Below wr.heap.size wr w2 from (Below.refl _ _).drew.trans HB2.out)
              exact (b3.alloc b3.size _).grown hg3 (by have := b3.size; simp; omega) (fun g hg => (World.ownsRow.lt HO2.out g hg).1)
            clear hown3 hg3 hat3
            go_wp2_with fail
            go_roundw
            case rel => exact ⟨k + 1, by omega, by go_num, HB3, by rw [HST.out]; exact HE3.out⟩
            case measure => simp [intOf] <;> omega
      · obtain rfl : k = l.length := by omega
        have hcsl : ¬ l.length < cs.length := by have := HLEN.out; omega
        have e1 : (nms l).take l.length = nms l := List.take_of_length_le (by have := HNL.out; omega)
        have e2 : cs.take l.length = cs := List.take_of_length_le (by omega)
        rw [e1, e2] at HO
        have HSM := Lib.hid (join_small 22 _ (entries_small (nms l) cs HNM.out HIR.out))
        have HEL := Lib.hid (entries_length (nms l) cs)
        have HTX : Hid (R = if entries (nms l) cs = [] then [49] else Lib.join (entries (nms l) cs) [32]) := HRT.out.symm
        generalize entries (nms l) cs = W at *
        clear e1 e2
        by_cases hw : W = []
        · have HR2 : Hid (R = [49]) := by show _ = _; rw [HTX.out, if_pos hw]
          subst hw
          rcases HO.out.2 with ⟨rfl, -⟩ | ⟨g, cap, cur, rfl, -⟩
          · go_wp2_with fail
            go_ret2
            exact ⟨by rw [HR2.out]; rfl, HB.out⟩
          · go_wp2_with fail
            go_ret2
            exact ⟨by rw [HR2.out]; rfl, HB.out⟩
        · have HR2 : Hid (R = Lib.join W [32]) := by show _ = _; rw [HTX.out, if_neg hw]
          have hpos : 0 < W.length := List.length_pos_iff.2 hw
          obtain ⟨g, cap, rfl, hg1, hg2⟩ := HO.out.form hpos
          have HJ := Lib.hid (join_words wr w.heap.size g cap W W.length rfl HO.out (by have := HEL.out; omega) (by have := HSM.out; have := HEL.out; omega))
          have hz : ((W.length : Int) == 0) = false := by rw [beq_eq_false_iff_ne]; omega
          clear hw
          go_wp2_with (go_at_call 28; refine HJ.out.mono ?_; rintro e w9 ⟨rfl, b9⟩; replace b9 := Lib.hid b9)
          go_ret2
          exact ⟨by rw [HR2.out]; rfl, below_on HB.out b9.out⟩

end Go.Proofs.YtipaapplingbnaaDoor
