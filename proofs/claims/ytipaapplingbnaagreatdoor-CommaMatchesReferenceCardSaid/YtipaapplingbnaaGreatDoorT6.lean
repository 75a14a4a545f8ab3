/- Several texts in one: T3, Pf, U6. -/
import Derived.Test.YtipaapplingbnaaGreatDoorT1
import Derived.Test.YtipaapplingbnaaGreatDoorPa
import Derived.Test.YtipaapplingbnaaGreatDoorHd
namespace Go.Proofs.YtipaapplingbnaaGreatDoor
open Go.RowKit Go.Deep

theorem conv1 (w : World) (v : Int) (c : Nat) : (convert 99 9 (.slice (some ⟨w.heap.size, 0, none⟩) 1 c)).run Tryz.prog (w.alloc (.cells #[.int .u8 v] 5)) = .ok (str [UInt8.ofNat v.toNat]) (w.alloc (.cells #[.int .u8 v] 5)) :=
  run_convert_bytes_arg (P := Tryz.prog) (w.alloc (.cells #[.int .u8 v] 5)) 99 5 Tryz.underlying99 Tryz.underlying5 w.heap.size 0 1 c [v] rfl (fun i hi => by
    obtain rfl : i = 0 := by omega
    rw [Nat.add_zero, World.cell?_alloc_new w #[.int .u8 v] 5 0]
    rfl) 9 Tryz.underlying9
theorem str_add (a b : List UInt8) : (Value.string (({ data := a.toArray } : ByteArray) ++ { data := b.toArray })) = str (a ++ b) := by
  have : (({ data := a.toArray } : ByteArray) ++ { data := b.toArray }) = ⟨(a ++ b).toArray⟩ := by
    apply ByteArray.ext
    simp [ByteArray.data_append]
  rw [this]
theorem dec_small (n : Nat) (h : n ≤ 1000) : (Lib.decDigits n).length ≤ 4 := dec_len_le n 4 (by omega) (by omega)

set_option maxRecDepth 100000 in
set_option maxHeartbeats 2000000 in
theorem rDigits_any (w : World) (n : Nat) (hn : n ≤ 1000) :
    Calls Tryz.prog 62 #[.int .i64 (n : Int)] w fun e w' => e = .returned (str (Lib.decDigits n)) ∧ Below w.heap.size w w' := by
  have HS := Lib.hid (dec_small n hn)
  obtain ⟨R, hR⟩ : ∃ R, R = Lib.decDigits n := ⟨_, rfl⟩
  rw [← hR] at HS ⊢
  have HR := Lib.hid hR
  clear hR
  go_enter Tryz.func62, Tryz.ntmps62
  go_wp2_with fail
  go_loopw [0, 3] (fun x s wx => ∃ (m : Nat) (ds : List UInt8), m ≤ 1000 ∧ x = .int .i64 m ∧ s = str ds ∧ Hid (Below w.heap.size w wx) ∧ Hid (R = Lib.decDigits m ++ ds)) (fun x _ _ => (intOf x).toNat)
  case atStart => exact ⟨n, [], hn, rfl, rfl, Below.refl _ _, by show _ = _; rw [List.append_nil]; exact HR.out⟩
  case round =>
    obtain ⟨m, ds, hm, rfl, rfl, HB, HM⟩ := hrel
    have hds : ds.length ≤ 4 := by have := HS.out; rw [HM.out, List.length_append] at this; omega
    by_cases h9 : 9 < m
    · have h9i : (9 : Int) < (m : Int) := by omega
      obtain ⟨q, hq⟩ : ∃ q, q = m / 10 := ⟨_, rfl⟩
      obtain ⟨r, hr⟩ : ∃ r, r = m % 10 := ⟨_, rfl⟩
      have e1 : (m : Int) % 10 = (r : Int) := by omega
      have e2 : (m : Int) / 10 = (q : Int) := by omega
      have HN : Hid (R = Lib.decDigits q ++ ([UInt8.ofNat (48 + r)] ++ ds)) := by
        show _ = _
        rw [HM.out, decDigits_big (by omega), ← hq, ← hr, List.append_assoc]
      have hr9 : r < 10 := by omega
      have hqm : q < m := by omega
      clear hq hr HM
      have kc := fun W => conv1 W (48 + (r : Int)) 1
      obtain ⟨y, hy⟩ : ∃ y : UInt8, y = UInt8.ofNat (48 + r) := ⟨_, rfl⟩
      rw [show (48 + (r : Int)).toNat = 48 + r by omega, ← hy] at kc
      rw [← hy] at HN
      clear hy
      have hd1 : ¬ 9223372036854775807 < 1 + ds.length := by omega
      go_wp2_with fail
      go_roundw
      case rel => exact ⟨q, [y] ++ ds, by omega, by go_num, str_add [y] ds, HB.out.alloc HB.out.size _, HN.out⟩
      case measure => simp [intOf]; omega
    · have h9i : ¬ (9 : Int) < (m : Int) := by omega
      have kc := fun W => conv1 W (48 + (m : Int)) 1
      have HN : Hid (R = [UInt8.ofNat (48 + m)] ++ ds) := by
        show _ = _
        rw [HM.out, decDigits_small (by omega)]
      obtain ⟨y, hy⟩ : ∃ y : UInt8, y = UInt8.ofNat (48 + m) := ⟨_, rfl⟩
      rw [show (48 + (m : Int)).toNat = 48 + m by omega, ← hy] at kc
      rw [← hy] at HN
      have hd1 : ¬ 9223372036854775807 < 1 + ds.length := by omega
      clear hy HM
      go_wp2_with fail
      go_ret
      exact ⟨by rw [HN.out]; exact congrArg Ending.returned (str_add [y] ds), HB.out.alloc HB.out.size _⟩

set_option maxRecDepth 100000 in
set_option maxHeartbeats 2000000 in
theorem rItoa_any (w : World) (n : Int) (hn : n.natAbs ≤ 1000) :
    Calls Tryz.prog 42 #[.int .i64 n] w fun e w' => e = .returned (str (Lib.itoa n)) ∧ Below w.heap.size w w' := by
  rcases itoa_cases n with ⟨h0, e⟩ | ⟨h0, e⟩
  · rw [e]
    have HD := Lib.hid fun W => rDigits_any W n.natAbs hn
    rw [show ((n.natAbs : Nat) : Int) = n by omega] at HD
    have h0' : ¬ n < 0 := by omega
    clear e
    generalize Lib.decDigits n.natAbs = ds at *
    go_enter Tryz.func42, Tryz.ntmps42
    go_wp2_with (go_at_call 62; refine (HD.out _).mono ?_; rintro e w1 ⟨rfl, b1⟩)
    go_ret
    exact ⟨rfl, b1⟩
  · rw [e]
    have HD := Lib.hid fun W => rDigits_any W n.natAbs hn
    rw [show ((n.natAbs : Nat) : Int) = -n by omega] at HD
    have hl := dec_small n.natAbs hn
    clear e
    generalize Lib.decDigits n.natAbs = ds at *
    have hd1 : ¬ 9223372036854775807 < 1 + ds.length := by omega
    have b1 : -1000 ≤ n := by omega
    go_enter Tryz.func42, Tryz.ntmps42
    go_wp2_with (go_at_call 62; refine (HD.out _).mono ?_; rintro e w1 ⟨rfl, b1⟩)
    go_ret
    exact ⟨congrArg Ending.returned (str_add [45] ds), b1⟩

end Go.Proofs.YtipaapplingbnaaGreatDoor
namespace Go.Proofs.YtipaapplingbnaaGreatDoor
open Go.RowKit Go.Deep

theorem str_four (p a b c : List UInt8) : (Value.string (({ data := p.toArray } : ByteArray) ++ ({ data := a.toArray } ++ { data := b.toArray } ++ { data := c.toArray }))) = str (p ++ (a ++ b ++ c)) := by
  have : (({ data := p.toArray } : ByteArray) ++ ({ data := a.toArray } ++ { data := b.toArray } ++ { data := c.toArray })) = ⟨(p ++ (a ++ b ++ c)).toArray⟩ := by
    apply ByteArray.ext
    simp [ByteArray.data_append]
  rw [this]
theorem str_five (p q a b c : List UInt8) : (Value.string ((({ data := p.toArray } : ByteArray) ++ { data := q.toArray }) ++ ({ data := a.toArray } ++ { data := b.toArray } ++ { data := c.toArray }))) = str ((p ++ q) ++ (a ++ b ++ c)) := by
  have : ((({ data := p.toArray } : ByteArray) ++ { data := q.toArray }) ++ ({ data := a.toArray } ++ { data := b.toArray } ++ { data := c.toArray })) = ⟨((p ++ q) ++ (a ++ b ++ c)).toArray⟩ := by
    apply ByteArray.ext
    simp [ByteArray.data_append]
  rw [this]
theorem inter_snoc (W : List (List UInt8)) (x : List UInt8) (h : W ≠ []) : ([32] : List UInt8).intercalate (W ++ [x]) = ([32] : List UInt8).intercalate W ++ ([32] ++ x) := by
  induction W with
  | nil => exact absurd rfl h
  | cons a W ih =>
    cases W with
    | nil => simp [List.intercalate]
    | cons b W =>
      have := ih (by simp)
      simp only [List.intercalate, List.cons_append, List.intersperse, List.flatten_cons, List.append_assoc] at this ⊢
      rw [this]
theorem joinW_snoc (W : List (List UInt8)) (x : List UInt8) (h : W ≠ []) : Lib.join (W ++ [x]) [32] = Lib.join W [32] ++ ([32] ++ x) := inter_snoc W x h
theorem joinW_one (x : List UInt8) : Lib.join ([] ++ [x]) [32] = x := by simp [Lib.join, List.intercalate]
theorem joinW_nil : Lib.join [] [32] = [] := rfl
theorem joinW_ne {W : List (List UInt8)} (h : W ≠ []) (hx : ∀ x ∈ W, x ≠ []) : Lib.join W [32] ≠ [] := by
  cases W with
  | nil => exact absurd rfl h
  | cons a W =>
    intro e
    have ha := hx a (by simp)
    cases W with
    | nil => simp [Lib.join, List.intercalate] at e; exact ha e
    | cons b W => simp [Lib.join, List.intercalate] at e
theorem entries_ne (ns : List (List UInt8)) (cs : List Int) : ∀ x ∈ entries ns cs, x ≠ [] := by
  induction ns generalizing cs with
  | nil => intro x hx; simp [entries] at hx
  | cons nm ns ih =>
    intro x hx
    cases cs with
    | nil => simp [entries] at hx
    | cons n cs =>
      unfold entries at hx
      split at hx
      · exact ih cs x hx
      · rcases List.mem_cons.1 hx with rfl | hx
        · simp [entry]
        · exact ih cs x hx

set_option maxRecDepth 100000 in
set_option maxHeartbeats 4000000 in
theorem rText_any (w : World) (A Ac : Option Addr) (c cc : Nat) (l : List Cm) (cs : List Int) (hr : RdN w w.heap.size A l) (hs : ∀ x ∈ l, x.nm.length ≤ 9223372036854775807) (hll : l.length ≤ 9223372036854775807) (hrc : RdI w w.heap.size Ac cs) (hcl : cs.length ≤ 9223372036854775807) :
    Calls Tryz.prog 16 #[.slice A l.length c, .slice Ac cs.length cc] w fun e w' => e = .returned (.tuple #[str (textV l cs), .int .i64 (textE l cs)]) ∧ Below w.heap.size w w' := by
  have HVL := Lib.hid (rValid_any w A c l hr hs hll)
  have HAC := Lib.hid fun W (hb : Below w.heap.size w W) => rAccount_any W A Ac c cc l.length cs hll (hrc.up hb) hcl
  obtain ⟨RV, hRV⟩ : ∃ R, textV l cs = R := ⟨_, rfl⟩
  obtain ⟨RE, hRE⟩ : ∃ R, textE l cs = R := ⟨_, rfl⟩
  rw [hRV, hRE]
  rcases hvb : validB l with _ | _
  · have hab : accB l cs = false := by unfold accB; rw [hvb]; simp
    have HV2 : Hid (RV = []) := by show _ = _; rw [← hRV]; unfold textV; rw [hab]; rfl
    have HE2 : Hid (RE = 1) := by show _ = _; rw [← hRE]; unfold textE; rw [hab]; rfl
    rw [hvb] at HVL
    clear hr hs hrc hRV hRE hvb hab
    go_enter Tryz.func16, Tryz.ntmps16
    go_wp2_with (go_at_call 7; refine HVL.out.mono ?_; rintro e w1 ⟨rfl, b1⟩; have B1 := Lib.hid b1; clear b1)
    go_ret2
    exact ⟨by rw [HV2.out, HE2.out]; rfl, B1.out⟩
  have hL := validB_iff.1 hvb
  have hl6 := hL.hi
  rw [hvb] at HVL
  rcases hac : (decide (cs.length = l.length) && inRange cs) with _ | _
  · have hab : accB l cs = false := by
      unfold accB
      rw [hvb, Bool.and_true, Bool.and_comm, hac]
    have HV2 : Hid (RV = []) := by show _ = _; rw [← hRV]; unfold textV; rw [hab]; rfl
    have HE2 : Hid (RE = 1) := by show _ = _; rw [← hRE]; unfold textE; rw [hab]; rfl
    rw [hac] at HAC
    clear hr hs hrc hRV hRE hvb hab hac hL
    go_enter Tryz.func16, Tryz.ntmps16
    go_wp2_with (first
      | (go_at_call 7; refine HVL.out.mono ?_; rintro e w1 ⟨rfl, b1⟩; have B1 := Lib.hid b1; clear b1)
      | (go_at_call 34; refine (HAC.out _ B1.out).mono ?_; rintro e w2 ⟨rfl, rfl⟩))
    go_ret2
    exact ⟨by rw [HV2.out, HE2.out]; rfl, B1.out⟩
  obtain ⟨hlen, hir⟩ : cs.length = l.length ∧ inRange cs = true := by simpa using hac
  have hab : accB l cs = true := accB_iff.2 ⟨hir, hlen, hL⟩
  rw [hac] at HAC
  have HE2 : Hid (RE = 0) := by show _ = _; rw [← hRE]; unfold textE; rw [hab]; rfl
  have HRT : Hid (RV = textC (nms l) cs) := by show _ = _; rw [← hRV]; unfold textV; rw [hab]; rfl
  have HR := Lib.hid hr
  have HC := Lib.hid hrc
  have HNM := Lib.hid (fun nm (hm : nm ∈ nms l) => (show isName nm = true from by
    obtain ⟨x, hx, rfl⟩ := List.mem_map.1 hm
    exact hL.names x hx))
  have HIR := Lib.hid (inRange_abs hir)
  have HLEN := Lib.hid hlen
  have hnl : (nms l).length = l.length := by simp [nms]
  have HNL := Lib.hid hnl
  rw [hlen] at HAC ⊢
  clear hr hs hrc hRV hRE hvb hab hac hL hir hlen hnl
  go_enter Tryz.func16, Tryz.ntmps16
  go_wp2_with (first
    | (go_at_call 7; refine HVL.out.mono ?_; rintro e w1 ⟨rfl, b1⟩; have B1 := Lib.hid b1; clear b1)
    | (go_at_call 34; refine (HAC.out _ B1.out).mono ?_; rintro e w2 ⟨rfl, rfl⟩))
  go_loopw [7, 8] (fun s i wx => ∃ k : Nat, k ≤ l.length ∧ i = .int .i64 k ∧ Hid (Below w.heap.size w wx) ∧ ∃ J, s = str J ∧ Hid (J = Lib.join (entries ((nms l).take k) (cs.take k)) [32])) (fun _ i _ => l.length - (intOf i).toNat)
  case atStart => exact ⟨0, Nat.zero_le _, rfl, B1.out, [], rfl, by show _ = _; simp [entries, joinW_nil]⟩
  case round =>
    obtain ⟨k, hk, rfl, HB, J, rfl, HJ⟩ := hrel
    by_cases hlt : k < l.length
    · obtain ⟨ad, rfl, had, q0, -⟩ := (HR.out.up HB.out).at hlt
      obtain ⟨ac, rfl, hac, hx⟩ := (HC.out.up HB.out).at (i := k) (by have := HLEN.out; omega)
      have hn := HIR.out (cs.getD k 0) (by have := HLEN.out; simp [List.getD_eq_getElem?_getD, show k < cs.length by omega])
      have HNX : Hid (entries ((nms l).take (k + 1)) (cs.take (k + 1)) = entries ((nms l).take k) (cs.take k) ++ if cs.getD k 0 = 0 then [] else [entry l[k].nm (cs.getD k 0)]) := by
        have hcsl : k < cs.length := by have := HLEN.out; omega
        have hst := entries_step (nms l) cs k (by have := HNL.out; omega) hcsl
        have hg : cs.getD k 0 = cs[k] := by simp [List.getD_eq_getElem?_getD, hcsl]
        have hgn : (nms l)[k]'(by have := HNL.out; omega) = l[k].nm := by simp [nms]
        rw [← hg, hgn] at hst
        exact hst
      have hnm16 : l[k].nm.length ≤ 16 := by
        have := HNM.out l[k].nm (List.mem_map.2 ⟨l[k], List.getElem_mem hlt, rfl⟩)
        unfold isName at this
        rw [Bool.and_eq_true] at this
        exact (of_decide_eq_true this.1).2
      have HSM := Lib.hid (join_small 22 _ (entries_small ((nms l).take k) (cs.take k) (fun x hx => HNM.out x (List.mem_of_mem_take hx)) (fun x hx => HIR.out x (List.mem_of_mem_take hx))))
      have HEL := Lib.hid (entries_length ((nms l).take k) (cs.take k))
      have HNE := Lib.hid (entries_ne ((nms l).take k) (cs.take k))
      have HIT := Lib.hid fun W => rItoa_any W (cs.getD k 0) hn
      have hil := (itoa_len (cs.getD k 0) hn).1
      generalize entries ((nms l).take k) (cs.take k) = W at *
      generalize cs.getD k 0 = n at *
      generalize l[k] = x at *
      have hJl : J.length ≤ 200 := by
        have h1 := HSM.out
        have h2 := HEL.out
        rw [← HJ.out] at h1
        rw [List.length_take] at h2
        have : (22 + 1) * W.length ≤ (22 + 1) * 6 := Nat.mul_le_mul_left _ (by omega)
        omega
      by_cases h0 : n = 0
      · have h0' : (n == 0) = true := by rw [beq_iff_eq]; exact h0
        have HN := HNX.out
        rw [if_pos h0, List.append_nil] at HN
        replace HN := Lib.hid HN
        clear HNX
        go_wp2_with fail
        go_roundw
        case rel => exact ⟨k + 1, by omega, by go_num, HB.out, J, rfl, by show _ = _; rw [HN.out]; exact HJ.out⟩
        case measure => simp [intOf]; omega
      · have h0' : (n == 0) = false := by rw [beq_eq_false_iff_ne]; exact h0
        have HN := HNX.out
        rw [if_neg h0] at HN
        replace HN := Lib.hid HN
        clear HNX h0
        have hq0 : (ad.add (k * 7)).block < wr.heap.size := by rw [add_block]; exact had
        have hq1 : (ac.add k).block < wr.heap.size := by rw [add_block]; exact hac
        have HKS : Hid (∀ W, Below wr.heap.size wr W → Below wr.heap.size wr W ∧ W.cell? (ad.add (k * 7)) = some (str x.nm) ∧ W.cell? (ac.add k) = some (.int .i64 n)) := fun W hb => ⟨hb, (hb.cell hq0).trans q0, (hb.cell hq1).trans hx⟩
        have hd1 : ¬ 9223372036854775807 < x.nm.length + 1 := by omega
        have hd2 : ¬ 9223372036854775807 < x.nm.length + 1 + (Lib.itoa n).length := by omega
        by_cases hW : W = []
        · have HJ0 : J = [] := HJ.out.trans (by rw [hW]; rfl)
          subst HJ0
          subst hW
          have hd3 : ¬ 9223372036854775807 < ([] : List UInt8).length + (x.nm.length + 1 + (Lib.itoa n).length) := by simp; omega
          have hd4 : ¬ 9223372036854775807 < x.nm.length + 1 + (Lib.itoa n).length := hd2
          go_wp2_with fail
          go_region_held3 (fun W => Below wr.heap.size wr W ∧ W.cell? (ad.add (k * 7)) = some (str x.nm) ∧ W.cell? (ac.add k) = some (.int .i64 n))
            ((refine HKS.out _ ?_; first
              | exact (Below.refl _ _).drew
              | exact Below.refl _ _
              | exact HB9.out))
            ((have hS : Below wr.heap.size wr _ ∧ _ := (by assumption); (go_at_call 42; refine (HIT.out _).mono ?_; rintro e w9 ⟨rfl, b9⟩; have HB9 := Lib.hid (below_on hS.1 b9); clear b9)))
          all_goals
            go_wp2_with fail
            go_roundw
            case rel => exact ⟨k + 1, by omega, by go_num, below_on HB.out HB9.out, [] ++ (x.nm ++ [42] ++ Lib.itoa n), str_four [] x.nm [42] (Lib.itoa n), by show _ = _; rw [HN.out, joinW_one]; simp [entry]⟩
            case measure => simp [intOf]; omega
        · have HJ1 : J ≠ [] := fun e => joinW_ne hW HNE.out (HJ.out.symm.trans e)
          have hj1 : (J == []) = false := by rw [beq_eq_false_iff_ne]; exact HJ1
          have hd3 : ¬ 9223372036854775807 < J.length + 1 + (x.nm.length + 1 + (Lib.itoa n).length) := by omega
          have hd5 : ¬ 9223372036854775807 < J.length + 1 := by omega
          have HWW := Lib.hid hW
          have hd6 : ¬ 9223372036854775807 < (J ++ [32]).length + (x.nm.length + 1 + (Lib.itoa n).length) := by simp; omega
          clear HJ1 hW
          go_wp2_with fail
          go_region_held3 (fun W => Below wr.heap.size wr W ∧ W.cell? (ad.add (k * 7)) = some (str x.nm) ∧ W.cell? (ac.add k) = some (.int .i64 n))
            ((refine HKS.out _ ?_; first
              | exact (Below.refl _ _).drew
              | exact Below.refl _ _
              | exact HB9.out))
            ((have hS : Below wr.heap.size wr _ ∧ _ := (by assumption); (go_at_call 42; refine (HIT.out _).mono ?_; rintro e w9 ⟨rfl, b9⟩; have HB9 := Lib.hid (below_on hS.1 b9); clear b9)))
          all_goals
            go_wp2_with fail
            go_roundw
            case rel => exact ⟨k + 1, by omega, by go_num, below_on HB.out HB9.out, (J ++ [32]) ++ (x.nm ++ [42] ++ Lib.itoa n), str_five J [32] x.nm [42] (Lib.itoa n), by show _ = _; rw [HN.out, joinW_snoc W _ HWW.out, ← HJ.out]; simp [entry]⟩
            case measure => simp [intOf]; omega
    · obtain rfl : k = l.length := by omega
      have e1 : (nms l).take l.length = nms l := List.take_of_length_le (by have := HNL.out; omega)
      have e2 : cs.take l.length = cs := List.take_of_length_le (by have := HLEN.out; omega)
      rw [e1, e2] at HJ
      have HNE := Lib.hid (entries_ne (nms l) cs)
      have HTX : Hid (RV = if entries (nms l) cs = [] then [49] else Lib.join (entries (nms l) cs) [32]) := HRT.out
      generalize entries (nms l) cs = W at *
      clear e1 e2
      by_cases hW : W = []
      · have HR2 : Hid (RV = [49]) := by show _ = _; rw [HTX.out, if_pos hW]
        have HJ0 : J = [] := HJ.out.trans (by rw [hW]; rfl)
        subst HJ0
        clear hW
        go_wp2_with fail
        go_ret2
        exact ⟨by rw [HR2.out, HE2.out]; rfl, HB.out⟩
      · have HR2 : Hid (RV = J) := by show _ = _; rw [HTX.out, if_neg hW, ← HJ.out]
        have HJ1 : J ≠ [] := fun e => joinW_ne hW HNE.out (HJ.out.symm.trans e)
        have hj1 : (J == []) = false := by rw [beq_eq_false_iff_ne]; exact HJ1
        clear hW HJ1
        go_wp2_with fail
        go_ret2
        exact ⟨by rw [HR2.out, HE2.out]; rfl, HB.out⟩

end Go.Proofs.YtipaapplingbnaaGreatDoor
namespace Go.Proofs.YtipaapplingbnaaGreatDoor
open Go.RowKit Go.Deep

def digitB (x : UInt8) : Bool := decide (48 ≤ x.toNat ∧ x.toNat ≤ 57)
def dVal (E : List UInt8) : Nat := E.foldl (fun a x => 10 * a + (x.toNat - 48)) 0
theorem dVal_snoc (E : List UInt8) (x : UInt8) : dVal (E ++ [x]) = 10 * dVal E + (x.toNat - 48) := by simp [dVal, List.foldl_append]
theorem dfold_small (E : List UInt8) (a : Nat) (h : ∀ x ∈ E, digitB x = true) : E.foldl (fun a x => 10 * a + (x.toNat - 48)) a < (a + 1) * 10 ^ E.length := by
  induction E generalizing a with
  | nil => simp
  | cons x E ih =>
    have h1 := ih (10 * a + (x.toNat - 48)) fun y hy => h y (List.mem_cons_of_mem _ hy)
    have h2 := of_decide_eq_true (h x (by simp))
    rw [List.foldl_cons, List.length_cons, Nat.pow_succ]
    refine Nat.lt_of_lt_of_le h1 ?_
    rw [Nat.mul_comm (10 ^ E.length) 10, ← Nat.mul_assoc]
    exact Nat.mul_le_mul_right _ (by omega)
theorem dVal_small (E : List UInt8) (h : ∀ x ∈ E, digitB x = true) : dVal E < 10 ^ E.length := by
  have := dfold_small E 0 h
  simpa [dVal] using this
/-- The number of digits with a sign. -/
def rNum (s : Int) (E : List UInt8) : Option Int := if 1 ≤ E.length ∧ E.length ≤ 4 ∧ E.all digitB = true then some (s * (dVal E : Nat)) else none
def rNumD (D : List UInt8) : Option Int := if D.head? = some 45 then rNum (-1) D.tail else rNum 1 D
/-- What entry returns, the names from the i-th on. -/
def rEnt : List (List UInt8) → Nat → List UInt8 → Int × Int
  | [], _, _ => (-1, 0)
  | nm :: ns, i, s => if s.length ≤ (nm ++ [42]).length ∨ s.take (nm ++ [42]).length ≠ nm ++ [42] then rEnt ns (i + 1) s else match rNumD (s.drop (nm ++ [42]).length) with
    | none => (-1, 0)
    | some n => (i, n)
theorem rNum_small {s : Int} {E : List UInt8} {n : Int} (hs : s = 1 ∨ s = -1) (h : rNum s E = some n) : n.natAbs ≤ 9999 := by
  unfold rNum at h
  split at h
  · rename_i hc
    obtain ⟨h1, h2, h3⟩ := hc
    have h4 := dVal_small E fun x hx => List.all_eq_true.1 h3 x hx
    have h5 : 10 ^ E.length ≤ 10 ^ 4 := Nat.pow_le_pow_right (by omega) h2
    injection h with h
    rcases hs with rfl | rfl <;> omega
  · cases h

set_option maxRecDepth 100000 in
set_option maxHeartbeats 4000000 in
theorem rEntry_any (w : World) (A : Option Addr) (c : Nat) (l : List Cm) (s : List UInt8) (hr : RdN w w.heap.size A l) (hl6 : l.length ≤ 6) (hs : ∀ x ∈ l, x.nm.length ≤ 16) (hsl : s.length ≤ 9223372036854775807) :
    Calls Tryz.prog 46 #[.slice A l.length c, str s] w fun e w' => e = .returned (.tuple #[.int .i64 (rEnt (nms l) 0 s).1, .int .i64 (rEnt (nms l) 0 s).2]) ∧ w = w' := by
  have HR := Lib.hid hr
  have HS := Lib.hid hs
  clear hr hs
  obtain ⟨R, hR⟩ : ∃ R, rEnt (nms l) 0 s = R := ⟨_, rfl⟩
  rw [hR]
  have HRR := Lib.hid hR
  clear hR
  go_enter Tryz.func46, Tryz.ntmps46
  go_wp2_with fail
  go_loop [6] (fun i => ∃ k : Nat, k ≤ l.length ∧ i = .int .i64 k ∧ Hid (rEnt ((nms l).drop k) k s = R)) (fun i => l.length - (intOf i).toNat)
  case atStart => exact ⟨0, Nat.zero_le _, rfl, HRR.out⟩
  case round =>
    obtain ⟨k, hk, rfl, HK⟩ := hrel
    by_cases hlt : k < l.length
    · obtain ⟨ad, rfl, had, q0, -⟩ := HR.out.at hlt
      have hn16 := HS.out _ (List.getElem_mem hlt)
      have hdr : (nms l).drop k = l[k].nm :: (nms l).drop (k + 1) := by
        rw [List.drop_eq_getElem_cons (by simpa [nms] using hlt)]
        simp [nms]
      have hst := HK.out
      rw [hdr, rEnt] at hst
      clear hdr HK
      generalize l[k].nm = nm at *
      have hd1 : ¬ 9223372036854775807 < nm.length + 1 := by omega
      have hcat : (({ data := nm.toArray } : ByteArray) ++ { data := #[42] }) = { data := (nm ++ [42]).toArray } := by
        apply ByteArray.ext
        simp [ByteArray.data_append]
      have hFl : (nm ++ [42]).length ≤ 17 := by simp; omega
      have hF1 : 1 ≤ (nm ++ [42]).length := by simp
      obtain ⟨F, hF⟩ : ∃ F, F = nm ++ [42] := ⟨_, rfl⟩
      rw [← hF] at hcat hst hFl hF1
      clear hF
      by_cases hle : s.length ≤ F.length
      · rw [if_pos (.inl hle)] at hst
        have HN := Lib.hid hst
        clear hst
        go_wp2_with fail
        refine ⟨⟨k + 1, by omega, by go_num, HN⟩, by simp [intOf]; omega⟩
      · have hle2 : F.length ≤ s.length := by omega
        have hex1 : (⟨s.toArray⟩ : ByteArray).extract 0 F.length = ⟨(s.take F.length).toArray⟩ := by
          apply ByteArray.ext
          simp [ByteArray.data_extract]
        have hex2 : (⟨s.toArray⟩ : ByteArray).extract F.length s.length = ⟨(s.drop F.length).toArray⟩ := by
          apply ByteArray.ext
          simp [ByteArray.data_extract]
          rw [List.take_of_length_le (by simp)]
        have hDl : (s.drop F.length).length = s.length - F.length := List.length_drop
        obtain ⟨P, hP⟩ : ∃ P, P = s.take F.length := ⟨_, rfl⟩
        obtain ⟨D, hD⟩ : ∃ D, D = s.drop F.length := ⟨_, rfl⟩
        rw [← hP] at hex1 hst
        rw [← hD] at hex2 hst hDl
        clear hP hD
        by_cases hpf : P = F
        · have hpf' : (P != F) = false := by rw [bne_eq_false_iff_eq]; exact hpf
          have hpf2 : (P == F) = true := by rw [beq_iff_eq]; exact hpf
          rw [if_neg (by rintro (h | h); exact hle h; exact h hpf)] at hst
          have HST := Lib.hid hst
          clear hst hpf
          have hDl1 : 1 ≤ D.length := by omega
          have hDl2 : D.length ≤ 9223372036854775807 := by omega
          obtain ⟨d0, D1, rfl⟩ : ∃ a b, D = a :: b := List.exists_cons_of_length_pos (by omega)
          clear hDl
          have hz0 : (⟨(d0 :: D1).toArray⟩ : ByteArray)[0]'(by simp [ByteArray.size]) = d0 := rfl
          have hex3 : (⟨(d0 :: D1).toArray⟩ : ByteArray).extract 1 (D1.length + 1) = ⟨D1.toArray⟩ := by
            apply ByteArray.ext
            simp [ByteArray.data_extract]
          by_cases h45 : d0 = 45
          · subst h45
            have h45' : (((45 : UInt8).toNat : Int) == 45) = true := by decide
            have HE := HST.out
            rw [rNumD, if_pos (by rfl), List.tail_cons] at HE
            obtain ⟨E, hE⟩ : ∃ E, E = D1 := ⟨_, rfl⟩
            subst hE
            have hE2 : E.length ≤ 9223372036854775807 := by simp at hDl2; omega
            have hEl : ((45 : UInt8) :: E).length = E.length + 1 := rfl
            replace HE := Lib.hid HE
            clear HST
            by_cases hlen : 1 ≤ E.length ∧ E.length ≤ 4
            case neg =>
              have HN : Hid (R = (-1, 0)) := by
                have h := HE.out
                rw [rNum, if_neg (fun h => hlen ⟨h.1, h.2.1⟩)] at h
                exact h.symm
              clear HE
              by_cases hl1 : E.length < 1
              · go_wp2_with fail
                go_ret2
                exact ⟨by rw [HN.out]; rfl, rfl⟩
              · have hl4 : 4 < E.length := by omega
                go_wp2_with fail
                go_ret2
                exact ⟨by rw [HN.out]; rfl, rfl⟩
            obtain ⟨hl1, hl4⟩ := hlen
            go_wp2_with fail
            go_loop [10, 11] (fun x i => ∃ (m v : Nat), m ≤ E.length ∧ i = .int .i64 m ∧ x = .int .i64 v ∧ v < 10 ^ m ∧ Hid ((∀ y ∈ E.take m, digitB y = true) ∧ v = dVal (E.take m))) (fun _ i => E.length - (intOf i).toNat)
            case atStart => exact ⟨0, 0, Nat.zero_le _, rfl, rfl, by simp, fun y hy => by simp at hy, rfl⟩
            case round =>
              obtain ⟨m, v, hm, rfl, rfl, hv, HD⟩ := hrel
              by_cases hmt : m < E.length
              · have hz : (⟨E.toArray⟩ : ByteArray)[m]'(by simpa [ByteArray.size] using hmt) = E[m] := rfl
                have HME := Lib.hid (List.getElem_mem hmt)
                have HTK := Lib.hid (List.take_succ_eq_append_getElem hmt)
                generalize E[m] = y at *
                have HL : Hid (digitB y = decide (48 ≤ y.toNat ∧ y.toNat ≤ 57)) := rfl
                have hp : 10 ^ m ≤ 1000 := Nat.le_trans (Nat.pow_le_pow_right (by omega) (show m ≤ 3 by omega)) (by decide)
                by_cases h1 : y.toNat < 48
                · have HN : Hid (R = (-1, 0)) := by
                    have h := HE.out
                    rw [rNum, if_neg (fun h => by have := List.all_eq_true.1 h.2.2 y HME.out; rw [HL.out, decide_eq_true_eq] at this; omega)] at h
                    exact h.symm
                  clear HE HD
                  go_wp2_with fail
                  go_ret2
                  exact ⟨by rw [HN.out]; rfl, rfl⟩
                by_cases h2 : 57 < y.toNat
                · have HN : Hid (R = (-1, 0)) := by
                    have h := HE.out
                    rw [rNum, if_neg (fun h => by have := List.all_eq_true.1 h.2.2 y HME.out; rw [HL.out, decide_eq_true_eq] at this; omega)] at h
                    exact h.symm
                  clear HE HD
                  go_wp2_with fail
                  go_ret2
                  exact ⟨by rw [HN.out]; rfl, rfl⟩
                obtain ⟨q, hq⟩ : ∃ q, y.toNat = q + 48 := ⟨y.toNat - 48, by omega⟩
                have HN : Hid ((∀ z ∈ E.take (m + 1), digitB z = true) ∧ 10 * v + q = dVal (E.take (m + 1))) := by
                  rw [HTK.out]
                  refine ⟨fun z hz => ?_, by rw [dVal_snoc, ← HD.out.2]; omega⟩
                  rcases List.mem_append.1 hz with hz | hz
                  · exact HD.out.1 z hz
                  · obtain rfl := List.mem_singleton.1 hz
                    rw [HL.out, decide_eq_true_eq]
                    omega
                have hq9 : q ≤ 9 := by omega
                have hv2 : 10 * v + q < 10 ^ (m + 1) := by rw [Nat.pow_succ]; omega
                have hqi : (y.toNat : Int) - 48 = (q : Int) := by omega
                have hvb : v < 1000 := by omega
                have e1 : ¬ (y.toNat : Int) < 48 := by omega
                have e2 : ¬ 57 < (y.toNat : Int) := by omega
                clear HD HL HME HTK
                go_wp2_with fail
                go_round
                case rel => exact ⟨m + 1, 10 * v + q, by omega, by go_num, by go_num, hv2, HN.out⟩
                case measure => simp [intOf]; omega
              · obtain rfl : m = E.length := by omega
                have HN : Hid (R = ((k : Int), (-1) * (v : Int))) := by
                  have h := HE.out
                  have hd := HD.out
                  rw [List.take_length] at hd
                  rw [rNum, if_pos ⟨hl1, hl4, List.all_eq_true.2 hd.1⟩, ← hd.2] at h
                  exact h.symm
                have hp : 10 ^ E.length ≤ 10000 := Nat.le_trans (Nat.pow_le_pow_right (by omega) hl4) (by decide)
                have hvb : v < 10000 := by omega
                clear HE HD hp hv
                go_wp2_with fail
                go_ret2
                exact ⟨by rw [HN.out]; first | rfl | simp, rfl⟩
          · have h45' : ((d0.toNat : Int) == 45) = false := by
              rw [beq_eq_false_iff_ne]
              intro e
              refine h45 (UInt8.toNat_inj.1 ?_)
              show d0.toNat = 45
              omega
            have HE := HST.out
            rw [rNumD, if_neg (by simp; exact h45)] at HE
            obtain ⟨E, hE⟩ : ∃ E, E = d0 :: D1 := ⟨_, rfl⟩
            have hE2 := hDl2
            have hz0' : ∀ h, (⟨E.toArray⟩ : ByteArray)[0]'h = d0 := fun h => by subst hE; rfl
            have hE1 : 1 ≤ E.length := by rw [hE]; simp
            rw [← hE] at HE hex2 hE2 hDl1
            have hz1 := hz0' (by simp [ByteArray.size]; omega)
            clear hz0 hex3 hE h45 hz0' hDl2
            replace HE := Lib.hid HE
            clear HST
            by_cases hlen : 1 ≤ E.length ∧ E.length ≤ 4
            case neg =>
              have HN : Hid (R = (-1, 0)) := by
                have h := HE.out
                rw [rNum, if_neg (fun h => hlen ⟨h.1, h.2.1⟩)] at h
                exact h.symm
              clear HE
              by_cases hl1 : E.length < 1
              · exact absurd hl1 (by omega)
              · have hl4 : 4 < E.length := by omega
                go_wp2_with fail
                go_ret2
                exact ⟨by rw [HN.out]; rfl, rfl⟩
            obtain ⟨hl1, hl4⟩ := hlen
            go_wp2_with fail
            go_loop [10, 11] (fun x i => ∃ (m v : Nat), m ≤ E.length ∧ i = .int .i64 m ∧ x = .int .i64 v ∧ v < 10 ^ m ∧ Hid ((∀ y ∈ E.take m, digitB y = true) ∧ v = dVal (E.take m))) (fun _ i => E.length - (intOf i).toNat)
            case atStart => exact ⟨0, 0, Nat.zero_le _, rfl, rfl, by simp, fun y hy => by simp at hy, rfl⟩
            case round =>
              obtain ⟨m, v, hm, rfl, rfl, hv, HD⟩ := hrel
              by_cases hmt : m < E.length
              · have hz : (⟨E.toArray⟩ : ByteArray)[m]'(by simpa [ByteArray.size] using hmt) = E[m] := rfl
                have HME := Lib.hid (List.getElem_mem hmt)
                have HTK := Lib.hid (List.take_succ_eq_append_getElem hmt)
                generalize E[m] = y at *
                have HL : Hid (digitB y = decide (48 ≤ y.toNat ∧ y.toNat ≤ 57)) := rfl
                have hp : 10 ^ m ≤ 1000 := Nat.le_trans (Nat.pow_le_pow_right (by omega) (show m ≤ 3 by omega)) (by decide)
                by_cases h1 : y.toNat < 48
                · have HN : Hid (R = (-1, 0)) := by
                    have h := HE.out
                    rw [rNum, if_neg (fun h => by have := List.all_eq_true.1 h.2.2 y HME.out; rw [HL.out, decide_eq_true_eq] at this; omega)] at h
                    exact h.symm
                  clear HE HD
                  go_wp2_with fail
                  go_ret2
                  exact ⟨by rw [HN.out]; rfl, rfl⟩
                by_cases h2 : 57 < y.toNat
                · have HN : Hid (R = (-1, 0)) := by
                    have h := HE.out
                    rw [rNum, if_neg (fun h => by have := List.all_eq_true.1 h.2.2 y HME.out; rw [HL.out, decide_eq_true_eq] at this; omega)] at h
                    exact h.symm
                  clear HE HD
                  go_wp2_with fail
                  go_ret2
                  exact ⟨by rw [HN.out]; rfl, rfl⟩
                obtain ⟨q, hq⟩ : ∃ q, y.toNat = q + 48 := ⟨y.toNat - 48, by omega⟩
                have HN : Hid ((∀ z ∈ E.take (m + 1), digitB z = true) ∧ 10 * v + q = dVal (E.take (m + 1))) := by
                  rw [HTK.out]
                  refine ⟨fun z hz => ?_, by rw [dVal_snoc, ← HD.out.2]; omega⟩
                  rcases List.mem_append.1 hz with hz | hz
                  · exact HD.out.1 z hz
                  · obtain rfl := List.mem_singleton.1 hz
                    rw [HL.out, decide_eq_true_eq]
                    omega
                have hq9 : q ≤ 9 := by omega
                have hv2 : 10 * v + q < 10 ^ (m + 1) := by rw [Nat.pow_succ]; omega
                have hqi : (y.toNat : Int) - 48 = (q : Int) := by omega
                have hvb : v < 1000 := by omega
                have e1 : ¬ (y.toNat : Int) < 48 := by omega
                have e2 : ¬ 57 < (y.toNat : Int) := by omega
                clear HD HL HME HTK
                go_wp2_with fail
                go_round
                case rel => exact ⟨m + 1, 10 * v + q, by omega, by go_num, by go_num, hv2, HN.out⟩
                case measure => simp [intOf]; omega
              · obtain rfl : m = E.length := by omega
                have HN : Hid (R = ((k : Int), 1 * (v : Int))) := by
                  have h := HE.out
                  have hd := HD.out
                  rw [List.take_length] at hd
                  rw [rNum, if_pos ⟨hl1, hl4, List.all_eq_true.2 hd.1⟩, ← hd.2] at h
                  exact h.symm
                have hp : 10 ^ E.length ≤ 10000 := Nat.le_trans (Nat.pow_le_pow_right (by omega) hl4) (by decide)
                have hvb : v < 10000 := by omega
                clear HE HD hp hv
                go_wp2_with fail
                go_ret2
                exact ⟨by rw [HN.out]; first | rfl | simp, rfl⟩
        · have hpf' : (P != F) = true := by rw [bne_iff_ne]; exact hpf
          have hpf2 : (P == F) = false := by rw [beq_eq_false_iff_ne]; exact hpf
          rw [if_pos (.inr hpf)] at hst
          have HN := Lib.hid hst
          clear hst hpf
          go_wp2_with fail
          refine ⟨⟨k + 1, by omega, by go_num, HN⟩, by simp [intOf]; omega⟩
    · obtain rfl : k = l.length := by omega
      have HN : Hid (R = (-1, 0)) := by
        show _ = _
        rw [← HK.out, List.drop_of_length_le (by simp [nms])]
        rfl
      go_wp2_with fail
      go_ret2
      exact ⟨by rw [HN.out]; rfl, rfl⟩

end Go.Proofs.YtipaapplingbnaaGreatDoor
namespace Go.Proofs.YtipaapplingbnaaGreatDoor
open Go.RowKit Go.Deep

def rstep (ns : List (List UInt8)) (out : List Int) (w : List UInt8) : Option (List Int) := if (rEnt ns 0 w).1 < 0 then none else some (out.set (rEnt ns 0 w).1.toNat (rEnt ns 0 w).2)
def rloop (ns : List (List UInt8)) : List Int → List (List UInt8) → Option (List Int)
  | out, [] => some out
  | out, w :: ws => match rstep ns out w with
    | none => none
    | some out' => rloop ns out' ws
def rRaw (ns : List (List UInt8)) (s : List UInt8) : Option (List Int) := if s = [49] then some (zeroC ns) else rloop ns (zeroC ns) (splitSp s)
theorem rloop_snoc (ns : List (List UInt8)) (out : List Int) (ws : List (List UInt8)) (x : List UInt8) : rloop ns out (ws ++ [x]) = (rloop ns out ws).bind fun u => rstep ns u x := by
  induction ws generalizing out with
  | nil =>
    simp only [List.nil_append, rloop, Option.bind_some]
    cases rstep ns out x <;> rfl
  | cons y ws ih =>
    simp only [List.cons_append, rloop]
    cases rstep ns out y with
    | none => rfl
    | some u => exact ih u
theorem rloop_app {ns : List (List UInt8)} {out : List Int} {ws : List (List UInt8)} (vs : List (List UInt8)) (hn : rloop ns out ws = none) : rloop ns out (ws ++ vs) = none := by
  induction ws generalizing out with
  | nil => simp [rloop] at hn
  | cons y ws ih =>
    simp only [List.cons_append, rloop] at hn ⊢
    cases hy : rstep ns out y with
    | none => rfl
    | some => rw [hy] at hn; exact ih hn
theorem rEnt_lt (ns : List (List UInt8)) (i : Nat) (w : List UInt8) : (rEnt ns i w).1 < 0 ∨ ((i : Int) ≤ (rEnt ns i w).1 ∧ (rEnt ns i w).1 < i + ns.length) := by
  induction ns generalizing i with
  | nil => left; rw [rEnt]; simp
  | cons nm ns ih =>
    rw [rEnt]
    split
    · rcases ih (i + 1) with h | ⟨h1, h2⟩
      · exact .inl h
      · right; simp only [List.length_cons]; omega
    · split
      · left; simp
      · right; simp only [List.length_cons]; omega
theorem dVal_dec (u : Nat) : dVal (Lib.decDigits u) = u := by
  induction u using Nat.strongRecOn with
  | ind u ih =>
    by_cases h : u < 10
    · rw [decDigits_small h]
      simp only [dVal, List.foldl_cons, List.foldl_nil, UInt8.toNat_ofNat']
      omega
    · rw [decDigits_big (by omega), dVal_snoc, ih (u / 10) (by omega), UInt8.toNat_ofNat']
      omega
theorem digits_dec (u : Nat) : (Lib.decDigits u).all digitB = true := List.all_eq_true.2 fun x hx => decide_eq_true (decDigits_range u x hx)
theorem rNumD_itoa (n : Int) (h : n.natAbs ≤ 1000) : rNumD (Lib.itoa n) = some n := by
  have hl := dec_small n.natAbs h
  have hp := decDigits_pos n.natAbs
  rcases itoa_cases n with ⟨h0, e⟩ | ⟨h0, e⟩
  · rw [e]
    unfold rNumD
    rw [if_neg, rNum, if_pos ⟨by omega, hl, digits_dec _⟩, dVal_dec]
    · congr 1; omega
    · intro hh
      rcases hd : Lib.decDigits n.natAbs with _ | ⟨a, r⟩
      · rw [hd] at hp; simp at hp
      · rw [hd] at hh
        have := decDigits_range n.natAbs a (by rw [hd]; simp)
        simp at hh
        subst hh
        exact absurd this.1 (by decide)
  · rw [e]
    unfold rNumD
    rw [if_pos (by rfl), List.tail_cons, rNum, if_pos ⟨by omega, hl, digits_dec _⟩, dVal_dec]
    congr 1; omega
theorem star_prefix {p nm r : List UInt8} (hp : ∀ x ∈ p, x ≠ 42) (hn : ∀ x ∈ nm, x ≠ 42) (h : (nm ++ 42 :: r).take (p ++ [42]).length = p ++ [42]) : p = nm := by
  have h1 : nm ++ 42 :: r = p ++ 42 :: (nm ++ 42 :: r).drop (p ++ [42]).length := by
    have := List.take_append_drop (p ++ [42]).length (nm ++ 42 :: r)
    rw [h, List.append_assoc, List.singleton_append] at this
    exact this.symm
  have h2 := cutStar_entry hn r
  rw [h1, cutStar_entry hp] at h2
  injection h2 with h2
  injection h2
theorem rEnt_at (pre ns : List (List UInt8)) (nm : List UInt8) (i : Nat) (hn : (pre ++ nm :: ns).Nodup) (hnm : ∀ x ∈ pre ++ nm :: ns, isName x = true) (n : Int) (hr : n.natAbs ≤ 1000) : rEnt (pre ++ nm :: ns) i (entry nm n) = (((i + pre.length : Nat) : Int), n) := by
  have hst : ∀ x ∈ pre ++ nm :: ns, ∀ y ∈ x, y ≠ 42 := fun x hx y hy => (name_bytes (hnm x hx) y hy).2
  induction pre generalizing i with
  | nil =>
    rw [List.nil_append, rEnt]
    have hl := (itoa_len n hr).2
    have e1 : entry nm n = (nm ++ [42]) ++ Lib.itoa n := by simp [entry]
    rw [e1, if_neg, List.drop_left, rNumD_itoa n hr]
    · simp
    · rintro (h | h)
      · rw [List.length_append] at h; omega
      · rw [List.take_left] at h; exact h rfl
  | cons p pre ih =>
    rw [List.cons_append, List.nodup_cons] at hn
    have hne : p ≠ nm := fun e => hn.1 (by rw [e]; simp)
    rw [List.cons_append, rEnt, if_pos]
    · rw [ih (i + 1) hn.2 (fun x hx => hnm x (List.mem_cons_of_mem _ hx)) (fun x hx => hst x (List.mem_cons_of_mem _ hx))]
      simp; omega
    · right
      intro h
      exact hne (star_prefix (hst p (by simp)) (hst nm (by simp)) h)
theorem rloop_entries (pre ns : List (List UInt8)) (hn : (pre ++ ns).Nodup) (hnm : ∀ nm ∈ pre ++ ns, isName nm = true) (done cs : List Int) (hd : done.length = pre.length) (hc : cs.length = ns.length) (hr : ∀ n ∈ cs, n.natAbs ≤ 1000) :
    rloop (pre ++ ns) (done ++ List.replicate ns.length 0) (entries ns cs) = some (done ++ cs) := by
  induction ns generalizing pre done cs with
  | nil =>
    obtain rfl := List.eq_nil_of_length_eq_zero hc
    simp [entries, rloop]
  | cons nm ns ih =>
    cases cs with
    | nil => cases hc
    | cons n cs =>
      have e1 : pre ++ nm :: ns = (pre ++ [nm]) ++ ns := by simp
      have hrec := ih (pre ++ [nm]) (by rw [← e1]; exact hn) (by rw [← e1]; exact hnm) (done ++ [n]) cs (by simp [hd]) (by simpa using hc) (fun m hm => hr m (List.mem_cons_of_mem _ hm))
      have e2 : done ++ n :: cs = (done ++ [n]) ++ cs := by simp
      by_cases h0 : n = 0
      · subst h0
        rw [entries, if_pos rfl, e1, e2]
        have e3 : done ++ List.replicate (nm :: ns).length 0 = (done ++ [0]) ++ List.replicate ns.length 0 := by simp [List.replicate_succ]
        rw [e3]
        exact hrec
      · rw [entries, if_neg h0, rloop]
        have hstep : rstep (pre ++ nm :: ns) (done ++ List.replicate (nm :: ns).length 0) (entry nm n) = some ((done ++ [n]) ++ List.replicate ns.length 0) := by
          unfold rstep
          rw [rEnt_at pre ns nm 0 hn hnm n (hr n (List.mem_cons_self ..)), if_neg (by simp)]
          simp only [Nat.zero_add, Int.toNat_natCast]
          congr 1
          rw [← hd, List.length_cons, List.replicate_succ, List.set_append_right _ _ (Nat.le_refl _), Nat.sub_self]
          simp
        rw [hstep, e1, e2]
        exact hrec
theorem rRaw_text {ns : List (List UInt8)} (hn : ns.Nodup) (hnm : ∀ nm ∈ ns, isName nm = true) {cs : List Int} (hc : cs.length = ns.length) (hr : inRange cs = true) : rRaw ns (textC ns cs) = some cs := by
  unfold rRaw
  by_cases h : entries ns cs = []
  · have : textC ns cs = [49] := if_pos h
    rw [if_pos this, entries_zero ns cs hc h]
  · have e : textC ns cs = Lib.join (entries ns cs) [32] := if_neg h
    have hne : textC ns cs ≠ [49] := by
      intro e2
      have h2 := splitSp_join (entries ns cs) h (entries_bytes ns cs hnm)
      rw [← e, e2] at h2
      have h3 : entries ns cs = [[49]] := by rw [← h2]; decide
      have : ∀ (ns : List (List UInt8)) (cs : List Int), ∀ w ∈ entries ns cs, (42 : UInt8) ∈ w := by
        intro ns
        induction ns with
        | nil => intro cs w hw; simp [entries] at hw
        | cons nm ns ih =>
          intro cs w hw
          cases cs with
          | nil => simp [entries] at hw
          | cons n cs =>
            unfold entries at hw
            split at hw
            · exact ih cs w hw
            · rcases List.mem_cons.1 hw with rfl | hw
              · simp [entry]
              · exact ih cs w hw
      have := this ns cs [49] (by rw [h3]; simp)
      exact absurd this (by decide)
    rw [if_neg hne, e, splitSp_join _ h (entries_bytes ns cs hnm)]
    have := rloop_entries [] ns hn hnm [] cs rfl hc (inRange_abs hr)
    simpa [zeroC] using this
theorem rRaw_parse {l : List Cm} (hL : ValidL l) {s : List UInt8} {cs : List Int} (h : parseC (nms l) s = some cs) : rRaw (nms l) s = some cs := by
  obtain ⟨hr, ht⟩ := parse_back h
  have hlen : cs.length = (nms l).length := by
    unfold parseC at h
    split at h
    · cases h
    · rename_i h2
      split at h
      · injection h with h
        subst h
        unfold rawC at h2
        split at h2
        · injection h2 with h2; rw [← h2, zeroC, List.length_replicate]
        · rw [loopC_len h2, zeroC, List.length_replicate]
      · cases h
  rw [← ht]
  exact rRaw_text hL.nodup (fun nm hm => by
    rw [nms, List.mem_map] at hm
    obtain ⟨x, hx, rfl⟩ := hm
    exact hL.names x hx) hlen hr
theorem rParse_ok {l : List Cm} (hL : ValidL l) {s : List UInt8} {o : List Int} (h : textE l o = 0 ∧ textV l o = s) : parseE l s = 0 ∧ parseV l s = o := by
  obtain ⟨h1, h2⟩ := h
  unfold textE at h1
  rcases ha : accB l o with _ | _
  · rw [ha] at h1; simp at h1
  · obtain ⟨hi, hlen, -⟩ := accB_iff.1 ha
    have ht : textC (nms l) o = s := by rw [← h2]; unfold textV; rw [ha]; rfl
    have hp := parse_text (nms l) hL.nodup (fun nm hm => by
      rw [nms, List.mem_map] at hm
      obtain ⟨x, hx, rfl⟩ := hm
      exact hL.names x hx) o (by rw [nms, List.length_map]; exact hlen) hi
    rw [ht] at hp
    unfold parseE parseV
    rw [validB_true hL, hp]
    exact ⟨rfl, rfl⟩
theorem rParse_bad {l : List Cm} (hL : ValidL l) {s : List UInt8} (h : rRaw (nms l) s = none ∨ ∃ o, rRaw (nms l) s = some o ∧ ¬ (textE l o = 0 ∧ textV l o = s)) : parseE l s = 8 ∧ parseV l s = [] := by
  have hp : parseC (nms l) s = none := by
    rcases hc : parseC (nms l) s with _ | cs
    · rfl
    · exfalso
      have hr := rRaw_parse hL hc
      rcases h with h | ⟨o, h, h2⟩
      · rw [h] at hr; cases hr
      · rw [h] at hr
        injection hr with hr
        subst hr
        obtain ⟨hi, ht⟩ := parse_back hc
        refine h2 ?_
        have hlen : o.length = l.length := by
          have := loopC_len (ns := nms l) (out := zeroC (nms l)) (o := o) (ws := splitSp s)
          unfold parseC at hc
          split at hc
          · cases hc
          · rename_i h3
            split at hc
            · injection hc with hc
              subst hc
              unfold rawC at h3
              split at h3
              · injection h3 with h3; rw [← h3, zeroC, List.length_replicate, nms, List.length_map]
              · rw [loopC_len h3, zeroC, List.length_replicate, nms, List.length_map]
            · cases hc
        have ha : accB l o = true := accB_iff.2 ⟨hi, hlen, hL⟩
        unfold textE textV
        rw [ha]
        exact ⟨rfl, ht⟩
  unfold parseE parseV
  rw [validB_true hL, hp]
  exact ⟨rfl, rfl⟩
theorem rParse_arg {l : List Cm} {s : List UInt8} (h : validB l = false) : parseE l s = 1 ∧ parseV l s = [] := by
  unfold parseE parseV
  rw [h]
  exact ⟨rfl, rfl⟩

end Go.Proofs.YtipaapplingbnaaGreatDoor
namespace Go.Proofs.YtipaapplingbnaaGreatDoor
open Go.RowKit Go.Deep

theorem split_at {s : List UInt8} {f i : Nat} (hf : f ≤ i) (hi : i < s.length) (h32 : s.getD i 0 = 32) (hno : ∀ j, f ≤ j → j < i → s.getD j 0 ≠ 32) : splitSp (s.drop f) = (s.drop f).take (i - f) :: splitSp (s.drop (i + 1)) := by
  have e : s.drop f = (s.drop f).take (i - f) ++ 32 :: s.drop (i + 1) := by
    have h1 := (List.take_append_drop (i - f) (s.drop f)).symm
    rw [List.drop_drop, show f + (i - f) = i by omega, List.drop_eq_getElem_cons hi] at h1
    have h2 : s[i] = 32 := by rw [← h32, List.getD_eq_getElem?_getD, List.getElem?_eq_getElem hi]; rfl
    rw [h2] at h1
    exact h1
  conv => lhs; rw [e]
  refine splitSp_cons (fun x hx => ?_) _
  obtain ⟨j, hj, rfl⟩ := List.mem_iff_getElem.1 hx
  rw [List.length_take] at hj
  have := hno (f + j) (by omega) (by omega)
  rw [List.getElem_take, List.getElem_drop]
  rwa [List.getD_eq_getElem?_getD, List.getElem?_eq_getElem (show f + j < s.length by omega)] at this
theorem split_last {s : List UInt8} {f : Nat} (hno : ∀ j, f ≤ j → j < s.length → s.getD j 0 ≠ 32) : splitSp (s.drop f) = [s.drop f] := by
  refine splitSp_one fun x hx => ?_
  obtain ⟨j, hj, rfl⟩ := List.mem_iff_getElem.1 hx
  rw [List.length_drop] at hj
  have := hno (f + j) (by omega) (by omega)
  rw [List.getElem_drop]
  rwa [List.getD_eq_getElem?_getD, List.getElem?_eq_getElem (show f + j < s.length by omega)] at this
/-- What has been read so far. -/
structure PaAt (ns : List (List UInt8)) (s : List UInt8) (f i : Nat) (out : List Int) : Prop where
  len : out.length = ns.length
  raw : ∃ ws, rloop ns (zeroC ns) ws = some out ∧ splitSp s = ws ++ (if f ≤ s.length then splitSp (s.drop f) else [])
  no : ∀ j, f ≤ j → j < i → s.getD j 0 ≠ 32
theorem PaAt.start (ns : List (List UInt8)) (s : List UInt8) : PaAt ns s 0 0 (zeroC ns) := ⟨by simp [zeroC], ⟨[], rfl, by simp⟩, fun j _ hj => by omega⟩
theorem PaAt.more {ns : List (List UInt8)} {s : List UInt8} {f i : Nat} {out : List Int} (h : PaAt ns s f i out) (hx : s.getD i 0 ≠ 32) : PaAt ns s f (i + 1) out :=
  ⟨h.len, h.raw, fun j h1 h2 => by
    rcases Nat.lt_or_ge j i with h3 | h3
    · exact h.no j h1 h3
    · obtain rfl : j = i := by omega
      exact hx⟩
/-- The piece in front of i is read. -/
theorem PaAt.take {ns : List (List UInt8)} {s : List UInt8} {f i : Nat} {out : List Int} (h : PaAt ns s f i out) (hf : f ≤ i) (hi : i ≤ s.length) (hx : i < s.length → s.getD i 0 = 32) :
    (∀ o, rstep ns out ((s.drop f).take (i - f)) = some o → PaAt ns s (i + 1) (i + 1) o) ∧ (rstep ns out ((s.drop f).take (i - f)) = none → s ≠ [49] → rRaw ns s = none) := by
  obtain ⟨ws, h1, h2⟩ := h.raw
  rw [if_pos (by omega)] at h2
  have h3 : splitSp (s.drop f) = (s.drop f).take (i - f) :: (if i + 1 ≤ s.length then splitSp (s.drop (i + 1)) else []) := by
    by_cases hlt : i < s.length
    · rw [split_at hf hlt (hx hlt) h.no, if_pos (by omega)]
    · rw [split_last (fun j ha hb => h.no j ha (by omega)), if_neg (by omega), List.take_of_length_le (by rw [List.length_drop]; omega)]
  constructor
  · intro o ho
    refine ⟨?_, ⟨ws ++ [(s.drop f).take (i - f)], by rw [rloop_snoc, h1]; exact ho, by rw [h2, h3]; simp⟩, fun j ha hb => by omega⟩
    unfold rstep at ho
    split at ho
    · cases ho
    · injection ho with ho
      rw [← ho, List.length_set]
      exact h.len
  · intro hn hne
    unfold rRaw
    rw [if_neg hne, h2, h3]
    have : ws ++ (s.drop f).take (i - f) :: (if i + 1 ≤ s.length then splitSp (s.drop (i + 1)) else []) = (ws ++ [(s.drop f).take (i - f)]) ++ (if i + 1 ≤ s.length then splitSp (s.drop (i + 1)) else []) := by simp
    rw [this]
    exact rloop_app _ (by rw [rloop_snoc, h1]; exact hn)
theorem PaAt.done {ns : List (List UInt8)} {s : List UInt8} {f i : Nat} {out : List Int} (h : PaAt ns s f i out) (hf : s.length < f) (hne : s ≠ [49]) : rRaw ns s = some out := by
  obtain ⟨ws, h1, h2⟩ := h.raw
  rw [if_neg (by omega), List.append_nil] at h2
  unfold rRaw
  rw [if_neg hne, h2]
  exact h1

set_option maxRecDepth 100000 in
set_option maxHeartbeats 2000000 in
theorem rParse_any (w : World) (A : Option Addr) (c : Nat) (l : List Cm) (s : List UInt8) (hr : RdN w w.heap.size A l) (hs : ∀ x ∈ l, x.nm.length ≤ 9223372036854775807) (hll : l.length ≤ 9223372036854775807) (hsl : s.length ≤ 140737488351232) :
    Calls Tryz.prog 18 #[.slice A l.length c, str s] w (ParseEnds w l s) := by
  have HVL := Lib.hid (rValid_any w A c l hr hs hll)
  obtain ⟨RV, hRV⟩ : ∃ R, parseV l s = R := ⟨_, rfl⟩
  obtain ⟨RE, hRE⟩ : ∃ R, parseE l s = R := ⟨_, rfl⟩
  have HPOST : Hid (∀ e w', (Below w.heap.size w w' ∧ ∃ A c, e = .returned (.tuple #[.slice A RV.length c, .int .i64 RE]) ∧ RdI w' w'.heap.size A RV) → ParseEnds w l s e w') := fun e w' h => by
    unfold ParseEnds
    rw [hRV, hRE]
    exact h
  rcases hvb : validB l with _ | _
  · obtain ⟨e1, e2⟩ := rParse_arg (l := l) (s := s) hvb
    have HE2 : Hid (RE = 1) := hRE.symm.trans e1
    have HV2 : Hid (RV = []) := hRV.symm.trans e2
    rw [hvb] at HVL
    clear hr hs hRV hRE hvb e1 e2
    go_enter Tryz.func18, Tryz.ntmps18
    go_wp2_with (go_at_call 7; refine HVL.out.mono ?_; rintro e w1 ⟨rfl, b1⟩; have B1 := Lib.hid b1; clear b1)
    go_ret2
    refine HPOST.out _ _ ⟨B1.out, none, 0, ?_, ?_⟩
    · rw [HV2.out, HE2.out]; rfl
    · rw [HV2.out]; exact RdI.nil _ _ _
  have hL := validB_iff.1 hvb
  have hl6 := hL.hi
  have hl1 := hL.lo
  rw [hvb] at HVL
  have HN16 : Hid (∀ x ∈ l, x.nm.length ≤ 16) := fun x hx => by
    have := hL.names x hx
    unfold isName at this
    rw [Bool.and_eq_true] at this
    exact (of_decide_eq_true this.1).2
  have HOK : Hid (∀ o, textE l o = 0 ∧ textV l o = s → RE = 0 ∧ RV = o) := fun o h => by
    obtain ⟨e1, e2⟩ := rParse_ok hL h
    exact ⟨hRE.symm.trans e1, hRV.symm.trans e2⟩
  have HBAD : Hid ((rRaw (nms l) s = none ∨ ∃ o, rRaw (nms l) s = some o ∧ ¬ (textE l o = 0 ∧ textV l o = s)) → RE = 8 ∧ RV = []) := fun h => by
    obtain ⟨e1, e2⟩ := rParse_bad hL h
    exact ⟨hRE.symm.trans e1, hRV.symm.trans e2⟩
  have HR := Lib.hid hr
  have hnl : (nms l).length = l.length := by simp [nms]
  have HEN := Lib.hid fun W (hb : Below w.heap.size w W) t (ht : t.length ≤ 9223372036854775807) => rEntry_any W A c l t (hr.up hb) hl6 HN16.out ht
  have HTX := Lib.hid fun W (hb : Below w.heap.size w W) g o (hg : IRow W g o) (ho : o.length = l.length) => rText_any W A (some ⟨g, 0, none⟩) c l.length l o (hr.up hb) hs hll hg.rd (by omega)
  have hmk := make_ints l.length (by omega)
  have HRL := Lib.hid (rEnt_lt (nms l) 0)
  clear hr hs hRV hRE hvb hL
  by_cases hone : s = [49]
  · have hone1 : (s == [49]) = true := by rw [beq_iff_eq]; exact hone
    have HR49 : Hid (rRaw (nms l) s = some (List.replicate l.length 0)) := by
      show _ = _
      unfold rRaw
      rw [if_pos hone, zeroC, hnl]
    have hs1l : s.length = 1 := by rw [hone]; rfl
    clear hone hnl HEN HRL HN16
    go_enter Tryz.func18, Tryz.ntmps18
    go_wp2_with (go_at_call 7; refine HVL.out.mono ?_; rintro e w1 ⟨rfl, b1⟩; have B1 := Lib.hid b1; clear b1)
    obtain ⟨g, hg⟩ : ∃ g, g = w1.heap.size := ⟨_, rfl⟩
    have HW0 : Hid (IRow (w1.alloc (.cells (icells (List.replicate l.length 0)).toArray 3)) g (List.replicate l.length 0)) := by show IRow _ _ _; rw [hg]; exact Blk.new w1 _ _
    rw [← hg]
    clear hg
    go_loopw [9] (fun i wx => ∃ k : Nat, k ≤ 2 ∧ i = .int .i64 k ∧ Hid (Below w.heap.size w wx) ∧ Hid (IRow wx g (List.replicate l.length 0))) (fun i _ => 2 - (intOf i).toNat)
    case atStart => exact ⟨0, by omega, rfl, B1.out.alloc B1.out.size _, HW0.out⟩
    case round =>
      obtain ⟨k, hk, rfl, HB, HROW⟩ := hrel
      by_cases hk2 : k < 2
      · have hkl : (k : Int) ≤ (s.length : Int) := by omega
        go_wp2_with fail
        go_roundw
        case rel => exact ⟨k + 1, by omega, by go_num, HB.out, HROW.out⟩
        case measure => simp [intOf]; omega
      · have hkl : ¬ (k : Int) ≤ (s.length : Int) := by omega
        obtain ⟨o, ho⟩ : ∃ o, o = List.replicate l.length (0 : Int) := ⟨_, rfl⟩
        have hol : o.length = l.length := by rw [ho, List.length_replicate]
        have HRAW := HR49.out
        rw [← ho] at HROW HRAW
        replace HRAW := Lib.hid HRAW
        clear ho HR49 HW0
        have HT := Lib.hid (HTX.out wr HB.out g o HROW.out hol)
        rw [hol] at HT
        by_cases he : textE l o = 0
        · by_cases ht : textV l o = s
          · have HF := Lib.hid (HOK.out o ⟨he, ht⟩)
            rw [he, ht] at HT
            have hs1 : (s != s) = false := by simp
            have hs2 : (s == s) = true := by simp
            clear he ht
            go_wp2_with (go_at_call 16; refine HT.out.mono ?_; rintro e w5 ⟨rfl, b5⟩; replace b5 := Lib.hid b5)
            go_ret2
            refine HPOST.out _ _ ⟨below_on HB.out b5.out, some ⟨g, 0, none⟩, l.length, ?_, ?_⟩
            · rw [HF.out.1, HF.out.2, hol]; rfl
            · rw [HF.out.2]; exact HROW.out.rd.up b5.out
          · have HF := Lib.hid (HBAD.out (.inr ⟨o, HRAW.out, fun h => ht h.2⟩))
            rw [he] at HT
            have hs1 : (textV l o != s) = true := by rw [bne_iff_ne]; exact ht
            have hs2 : (textV l o == s) = false := by rw [beq_eq_false_iff_ne]; exact ht
            generalize textV l o = t at *
            clear he ht
            go_wp2_with (go_at_call 16; refine HT.out.mono ?_; rintro e w5 ⟨rfl, b5⟩; replace b5 := Lib.hid b5)
            go_ret2
            refine HPOST.out _ _ ⟨below_on HB.out b5.out, none, 0, ?_, ?_⟩
            · rw [HF.out.1, HF.out.2]; rfl
            · rw [HF.out.2]; exact RdI.nil _ _ _
        · have HF := Lib.hid (HBAD.out (.inr ⟨o, HRAW.out, fun h => he h.1⟩))
          have hs1 : (textE l o != 0) = true := by rw [bne_iff_ne]; exact he
          generalize textE l o = t at *
          generalize textV l o = t2 at *
          clear he
          go_wp2_with (go_at_call 16; refine HT.out.mono ?_; rintro e w5 ⟨rfl, b5⟩; replace b5 := Lib.hid b5)
          go_ret2
          refine HPOST.out _ _ ⟨below_on HB.out b5.out, none, 0, ?_, ?_⟩
          · rw [HF.out.1, HF.out.2]; rfl
          · rw [HF.out.2]; exact RdI.nil _ _ _
  · have hone1 : (s == [49]) = false := by rw [beq_eq_false_iff_ne]; exact hone
    have HONE := Lib.hid hone
    have HZ0 : Hid (zeroC (nms l) = List.replicate l.length 0) := by show _ = _; rw [zeroC, hnl]
    have HNL := Lib.hid hnl
    clear hone hnl
    go_enter Tryz.func18, Tryz.ntmps18
    go_wp2_with (go_at_call 7; refine HVL.out.mono ?_; rintro e w1 ⟨rfl, b1⟩; have B1 := Lib.hid b1; clear b1)
    obtain ⟨g, hg⟩ : ∃ g, g = w1.heap.size := ⟨_, rfl⟩
    have HW0 : Hid (IRow (w1.alloc (.cells (icells (List.replicate l.length 0)).toArray 3)) g (List.replicate l.length 0)) := by show IRow _ _ _; rw [hg]; exact Blk.new w1 _ _
    have HGW : Hid (w.heap.size ≤ g) := by show _ ≤ _; rw [hg]; exact B1.out.size
    rw [← hg]
    clear hg
    go_loopw [8, 9] (fun fr i wx => ∃ (f k : Nat) (o : List Int), k ≤ s.length + 1 ∧ f ≤ k ∧ (k = s.length + 1 → f = s.length + 1) ∧ fr = .int .i64 f ∧ i = .int .i64 k ∧ Hid (Below w.heap.size w wx) ∧ Hid (IRow wx g o) ∧ Hid (PaAt (nms l) s f k o)) (fun _ i _ => s.length + 1 - (intOf i).toNat)
    case atStart => exact ⟨0, 0, List.replicate l.length 0, by omega, by omega, fun h => by omega, rfl, rfl, B1.out.alloc B1.out.size _, HW0.out, by show PaAt _ _ _ _ _; rw [← HZ0.out]; exact PaAt.start _ _⟩
    case round =>
      obtain ⟨f, k, o, hk, hf, hend, rfl, rfl, HB, HROW, HP⟩ := hrel
      have HEND := Lib.hid hend
      clear hend
      by_cases hkl : k ≤ s.length
      · have hkli : (k : Int) ≤ (s.length : Int) := by omega
        have hfi : (f : Int) ≤ (k : Int) := by omega
        by_cases hsp : k < s.length ∧ s.getD k 0 ≠ 32
        · obtain ⟨hlt, h32⟩ := hsp
          have hlti : (k : Int) < (s.length : Int) := by omega
          have HN := Lib.hid (HP.out.more h32)
          have hz : (⟨s.toArray⟩ : ByteArray)[k]'(by simpa [ByteArray.size] using hlt) = s.getD k 0 := by rw [List.getD_eq_getElem?_getD, List.getElem?_eq_getElem hlt]; rfl
          generalize s.getD k 0 = x at *
          have hx : ((x.toNat : Int) != 32) = true := by
            rw [bne_iff_ne]
            intro e
            refine h32 (UInt8.toNat_inj.1 ?_)
            show x.toNat = 32
            omega
          clear h32
          go_wp2_with fail
          go_roundw
          case rel => exact ⟨f, k + 1, o, by omega, by omega, fun h => absurd h (by omega), rfl, by go_num, HB.out, HROW.out, HN.out⟩
          case measure => simp [intOf]; omega
        · have HX : Hid (k < s.length → s.getD k 0 = 32) := fun h => Classical.byContradiction fun e => hsp ⟨h, e⟩
          obtain ⟨ht1, ht2⟩ := HP.out.take hf hkl HX.out
          have HT1 := Lib.hid ht1
          have HT2 := Lib.hid ht2
          have hex : (⟨s.toArray⟩ : ByteArray).extract f k = ⟨((s.drop f).take (k - f)).toArray⟩ := by
            apply ByteArray.ext
            simp [ByteArray.data_extract, List.extract_eq_take_drop]
          have hPl : ((s.drop f).take (k - f)).length ≤ 9223372036854775807 := by rw [List.length_take, List.length_drop]; omega
          have hol := HP.out.len
          have HOL := Lib.hid (hol.trans HNL.out)
          obtain ⟨P, hP⟩ : ∃ P, P = (s.drop f).take (k - f) := ⟨_, rfl⟩
          rw [← hP] at hex hPl HT1 HT2
          have HE := Lib.hid (HEN.out wr HB.out P hPl)
          have hlt2 := HRL.out P
          rw [HNL.out] at hlt2
          clear ht1 ht2 hol hP hsp
          have hstep : rstep (nms l) o P = if (rEnt (nms l) 0 P).1 < 0 then none else some (o.set (rEnt (nms l) 0 P).1.toNat (rEnt (nms l) 0 P).2) := rfl
          generalize rEnt (nms l) 0 P = r at *
          obtain ⟨a, b⟩ := r
          simp only at hlt2 hstep HE
          have hkc : k = s.length ∨ (k < s.length ∧ s.getD k 0 = 32) := by
            by_cases h : k < s.length
            · exact .inr ⟨h, HX.out h⟩
            · exact .inl (by omega)
          clear HX
          by_cases ha : a < 0
          · rw [if_pos ha] at hstep
            have HF := Lib.hid (HBAD.out (.inl (HT2.out hstep HONE.out)))
            clear hstep hlt2
            rcases hkc with rfl | ⟨hlt, h32⟩
            · have hlti : ¬ (s.length : Int) < (s.length : Int) := by omega
              go_wp2_with (go_at_call 46; refine HE.out.mono ?_; rintro e w4 ⟨rfl, rfl⟩)
              go_ret2
              refine HPOST.out _ _ ⟨HB.out, none, 0, ?_, ?_⟩
              · rw [HF.out.1, HF.out.2]; rfl
              · rw [HF.out.2]; exact RdI.nil _ _ _
            · have hlti : (k : Int) < (s.length : Int) := by omega
              have hz : (⟨s.toArray⟩ : ByteArray)[k]'(by simpa [ByteArray.size] using hlt) = 32 := by rw [← h32, List.getD_eq_getElem?_getD, List.getElem?_eq_getElem hlt]; rfl
              clear h32
              go_wp2_with (go_at_call 46; refine HE.out.mono ?_; rintro e w4 ⟨rfl, rfl⟩)
              go_ret2
              refine HPOST.out _ _ ⟨HB.out, none, 0, ?_, ?_⟩
              · rw [HF.out.1, HF.out.2]; rfl
              · rw [HF.out.2]; exact RdI.nil _ _ _
          · rw [if_neg ha] at hstep
            obtain ⟨K, hK⟩ : ∃ K : Nat, a = K := ⟨a.toNat, by omega⟩
            subst hK
            rw [Int.toNat_natCast] at hstep
            have hKl : K < l.length := by omega
            have hKi : (K : Int) < (l.length : Int) := by omega
            have HN := Lib.hid (HT1.out _ hstep)
            have qc := HROW.out.cell K (by rw [HOL.out]; exact hKl)
            have qf := HROW.out.frozen K
            have HROW2 := Lib.hid (HROW.out.put K b)
            have HB2 := Lib.hid (HB.out.setCell (p := ⟨g, K, none⟩) HGW.out (.int .i64 b))
            clear hstep hlt2
            rcases hkc with rfl | ⟨hlt, h32⟩
            · have hlti : ¬ (s.length : Int) < (s.length : Int) := by omega
              go_wp2_with (go_at_call 46; refine HE.out.mono ?_; rintro e w4 ⟨rfl, rfl⟩)
              go_roundw
              case rel => exact ⟨s.length + 1, s.length + 1, o.set K b, by omega, by omega, fun _ => rfl, by go_num, by go_num, HB2.out, HROW2.out, HN.out⟩
              case measure => simp [intOf] <;> omega
            · have hlti : (k : Int) < (s.length : Int) := by omega
              have hz : (⟨s.toArray⟩ : ByteArray)[k]'(by simpa [ByteArray.size] using hlt) = 32 := by rw [← h32, List.getD_eq_getElem?_getD, List.getElem?_eq_getElem hlt]; rfl
              clear h32
              go_wp2_with (go_at_call 46; refine HE.out.mono ?_; rintro e w4 ⟨rfl, rfl⟩)
              go_roundw
              case rel => exact ⟨k + 1, k + 1, o.set K b, by omega, by omega, fun h => absurd h (by omega), by go_num, by go_num, HB2.out, HROW2.out, HN.out⟩
              case measure => simp [intOf]; omega
      · have hkli : ¬ (k : Int) ≤ (s.length : Int) := by omega
        have HRAW := Lib.hid (HP.out.done (by rw [HEND.out (by omega)]; exact Nat.lt_succ_self _) HONE.out)
        have hol : o.length = l.length := HP.out.len.trans HNL.out
        clear HP HEND HEN HW0 HZ0
        have HT := Lib.hid (HTX.out wr HB.out g o HROW.out hol)
        rw [hol] at HT
        by_cases he : textE l o = 0
        · by_cases ht : textV l o = s
          · have HF := Lib.hid (HOK.out o ⟨he, ht⟩)
            rw [he, ht] at HT
            have hs1 : (s != s) = false := by simp
            have hs2 : (s == s) = true := by simp
            clear he ht
            go_wp2_with (go_at_call 16; refine HT.out.mono ?_; rintro e w5 ⟨rfl, b5⟩; replace b5 := Lib.hid b5)
            go_ret2
            refine HPOST.out _ _ ⟨below_on HB.out b5.out, some ⟨g, 0, none⟩, l.length, ?_, ?_⟩
            · rw [HF.out.1, HF.out.2, hol]; rfl
            · rw [HF.out.2]; exact HROW.out.rd.up b5.out
          · have HF := Lib.hid (HBAD.out (.inr ⟨o, HRAW.out, fun h => ht h.2⟩))
            rw [he] at HT
            have hs1 : (textV l o != s) = true := by rw [bne_iff_ne]; exact ht
            have hs2 : (textV l o == s) = false := by rw [beq_eq_false_iff_ne]; exact ht
            generalize textV l o = t at *
            clear he ht
            go_wp2_with (go_at_call 16; refine HT.out.mono ?_; rintro e w5 ⟨rfl, b5⟩; replace b5 := Lib.hid b5)
            go_ret2
            refine HPOST.out _ _ ⟨below_on HB.out b5.out, none, 0, ?_, ?_⟩
            · rw [HF.out.1, HF.out.2]; rfl
            · rw [HF.out.2]; exact RdI.nil _ _ _
        · have HF := Lib.hid (HBAD.out (.inr ⟨o, HRAW.out, fun h => he h.1⟩))
          have hs1 : (textE l o != 0) = true := by rw [bne_iff_ne]; exact he
          generalize textE l o = t at *
          generalize textV l o = t2 at *
          clear he
          go_wp2_with (go_at_call 16; refine HT.out.mono ?_; rintro e w5 ⟨rfl, b5⟩; replace b5 := Lib.hid b5)
          go_ret2
          refine HPOST.out _ _ ⟨below_on HB.out b5.out, none, 0, ?_, ?_⟩
          · rw [HF.out.1, HF.out.2]; rfl
          · rw [HF.out.2]; exact RdI.nil _ _ _

end Go.Proofs.YtipaapplingbnaaGreatDoor
namespace Go.Proofs.YtipaapplingbnaaGreatDoor
open Go.RowKit Go.Deep

theorem OwnV.one (w : World) (g : Nat) (hg : g ≤ w.heap.size) (v : Vc) : OwnV (w.alloc (.cells #[.int .i64 v.a, .int .i64 v.b, .int .i64 v.c, .int .i64 v.d, .int .i64 v.e, .int .i64 v.f] 25)) g (.slice (some ⟨w.heap.size, 0, none⟩) 1 1) [v] :=
  ⟨rfl, .inr ⟨w.heap.size, 1, _, rfl, hg, heap_alloc_new w _, Nat.le_refl _, by simp [maxLen], rfl, rfl⟩⟩

theorem OwnV.far {w : World} {base : Nat} {v : Value} {l : List Vc} (h : OwnV w base v l) {p : Addr} (hp : p.block < base) (u : Value) : OwnV (w.setCell p u) base v l :=
  OwnV.kept (r := some p.block) h ⟨rfl, rfl, rfl, by simp, fun k _ hk => heap_setCell_other w p k u (fun e => hk (by rw [e]))⟩ (by
    rcases hv : v.ownBlock with _ | g
    · exact Or.inl rfl
    · right; intro e; injection e with e; have := (World.ownsRow.lt h g hv).1; omega)

set_option maxRecDepth 100000 in
set_option maxHeartbeats 4000000 in
theorem rWalk_any (w : World) (A At : Option Addr) (c ct : Nat) (l : List Cm) (ts : List Tk) (hr : RdN w w.heap.size A l) (hs : ∀ x ∈ l, x.nm.length ≤ 9223372036854775807) (hll : l.length ≤ 9223372036854775807) (hrt : RdT w w.heap.size At ts) (htl : ts.length ≤ 9223372036854775807) :
    Calls Tryz.prog 20 #[.slice A l.length c, .slice At ts.length ct] w (WalkEnds w l ts) := by
  have HVL := Lib.hid (rValid_any w A c l hr hs hll)
  have HTA := Lib.hid fun W (hb : Below w.heap.size w W) => rTakes_any W A At c ct l.length ts hll (hrt.up hb) htl
  have HBAD := Lib.hid fun h => walk_bad (l := l) (ts := ts) h
  rcases hv : validB l with _ | _
  · have HF := Lib.hid (HBAD.out (.inl hv))
    rw [hv] at HVL
    clear hr hs hrt hv
    go_enter Tryz.func20, Tryz.ntmps20
    go_wp2_with (go_at_call 7; refine HVL.out.mono ?_; rintro e w1 ⟨rfl, b1⟩; replace b1 := Lib.hid b1)
    go_ret2
    exact walk_err b1.out HF.out
  rw [hv] at HVL
  rcases hta : (decide (ts.length < 16) && okT l.length ts) with _ | _
  · have HF := Lib.hid (HBAD.out (by
      rcases (Bool.and_eq_false_iff.1 hta) with h | h
      · exact .inr (.inl (of_decide_eq_false h))
      · exact .inr (.inr h)))
    rw [hta] at HTA
    clear hr hs hrt hv hta
    go_enter Tryz.func20, Tryz.ntmps20
    go_wp2_with (first
      | (go_at_call 7; refine HVL.out.mono ?_; rintro e w1 ⟨rfl, b1⟩; have B1 := Lib.hid b1; clear b1)
      | (go_at_call 48; refine (HTA.out _ B1.out).mono ?_; rintro e w2 ⟨rfl, b2⟩; have B2 := Lib.hid (below_on B1.out b2); clear b2))
    go_ret2
    exact walk_err B2.out HF.out
  obtain ⟨h16, hot⟩ : ts.length < 16 ∧ okT l.length ts = true := by simpa using hta
  have hL := validB_iff.1 hv
  have hl6 := hL.hi
  rw [hta] at HTA
  have HR := Lib.hid hr
  have HRT := Lib.hid hrt
  have HVB := Lib.hid hv
  have HOT := Lib.hid hot
  have HVK := Lib.hid hL.vecs
  have HSM := Lib.hid fun k (hk : k ≤ ts.length) j (hj : j < 6) => shV_small l hL.vecs ts hot k hk j hj
  have HOUT := Lib.hid fun (h : okS l ts = false) => walk_out hv h16 hot h
  have HWOK := Lib.hid fun (h : okS l ts = true) => walk_ok hv h16 hot h
  clear hr hs hrt hv hta hot hL
  go_enter Tryz.func20, Tryz.ntmps20
  go_wp2_with (first
    | (go_at_call 7; refine HVL.out.mono ?_; rintro e w1 ⟨rfl, b1⟩; have B1 := Lib.hid b1; clear b1)
    | (go_at_call 48; refine (HTA.out _ B1.out).mono ?_; rintro e w2 ⟨rfl, b2⟩; have B2 := Lib.hid (below_on B1.out b2); clear b2))
  have B3 : Hid (Below w.heap.size w ((w2.alloc (.cells #[.int .i64 0, .int .i64 0, .int .i64 0, .int .i64 0, .int .i64 0, .int .i64 0] 25)).alloc (.cells #[.int .i64 0, .int .i64 0, .int .i64 0, .int .i64 0, .int .i64 0, .int .i64 0] 25))) := (B2.out.alloc B2.out.size _).alloc (by have := B2.out.size; simp; omega) _
  have KG : Hid (Blk ((w2.alloc (.cells #[.int .i64 0, .int .i64 0, .int .i64 0, .int .i64 0, .int .i64 0, .int .i64 0] 25)).alloc (.cells #[.int .i64 0, .int .i64 0, .int .i64 0, .int .i64 0, .int .i64 0, .int .i64 0] 25)) w2.heap.size 25 #[.int .i64 0, .int .i64 0, .int .i64 0, .int .i64 0, .int .i64 0, .int .i64 0]) := (Blk.new w2 _ _).alloc _
  have OG : Hid (OwnV ((w2.alloc (.cells #[.int .i64 0, .int .i64 0, .int .i64 0, .int .i64 0, .int .i64 0, .int .i64 0] 25)).alloc (.cells #[.int .i64 0, .int .i64 0, .int .i64 0, .int .i64 0, .int .i64 0, .int .i64 0] 25)) (w2.heap.size + 1) (.slice (some ⟨w2.heap.size + 1, 0, none⟩) 1 1) [zeroV]) := by
    have := OwnV.one (w2.alloc (.cells #[.int .i64 0, .int .i64 0, .int .i64 0, .int .i64 0, .int .i64 0, .int .i64 0] 25)) (w2.heap.size + 1) (by simp) zeroV
    rw [World.size_alloc] at this
    exact this
  have HG0 := Lib.hid B2.out.size
  obtain ⟨g, hg⟩ : ∃ g, g = w2.heap.size := ⟨_, rfl⟩
  rw [← hg] at KG OG HG0 ⊢
  clear hg
  go_loopw [8, 9] (fun o i wx => ∃ k : Nat, k ≤ ts.length ∧ i = .int .i64 k ∧ Hid (Below w.heap.size w wx) ∧ Hid (Blk wx g 25 (shV l ts k).cells) ∧ Hid (OwnV wx (g + 1) o (shs l ts k)) ∧ Hid (∀ j, j ≤ k → (shV l ts j).ok = true)) (fun _ i _ => ts.length - (intOf i).toNat)
  case atStart => exact ⟨0, Nat.zero_le _, rfl, B3.out, KG.out, OG.out, fun j hj => by
    have hj0 : j = 0 := by omega
    subst hj0
    rfl⟩
  case round =>
    obtain ⟨k, hk, rfl, HB, HT, HO, HK⟩ := hrel
    by_cases hlt : k < ts.length
    · have hkl : (k : Int) < (ts.length : Int) := by omega
      obtain ⟨ad, rfl, had, -, q1, q2, -⟩ := HRT.out.at hlt
      obtain ⟨c0, c1, c2⟩ := wrong_small (of_decide_eq_true HOT.out k hlt)
      have hgt := getD_at hlt (⟨0, 0, 0, 0⟩ : Tk)
      rw [← hgt] at q1 q2
      have HTN : Hid (∀ j, (shV l ts (k + 1)).at j = (shV l ts k).at j + (ts.getD k ⟨0, 0, 0, 0⟩).n * (l.getD (ts.getD k ⟨0, 0, 0, 0⟩).c.toNat ⟨[], zeroV⟩).v.at j) := fun j => by rw [shV, Vc.addm_at]
      obtain ⟨ci, hci⟩ : ∃ ci : Nat, (ts.getD k ⟨0, 0, 0, 0⟩).c = ci := ⟨(ts.getD k ⟨0, 0, 0, 0⟩).c.toNat, by omega⟩
      rw [hci] at q1 HTN c1
      rw [Int.toNat_natCast] at HTN
      have hcl : ci < l.length := by omega
      have hcli : (ci : Int) < (l.length : Int) := by omega
      rw [getD_at hcl] at HTN
      obtain ⟨al, rfl, hal, hca⟩ := HR.out.vec hcl
      have HVX := Lib.hid (HVK.out _ (List.getElem_mem hcl))
      have HC1 := Lib.hid fun W (hb : Below w.heap.size w W) => (hb.cell (p := ⟨(ad.add (k * 4)).block, (ad.add (k * 4)).off + 1, none⟩) (by show (ad.add (k * 4)).block < _; rw [add_block]; exact had)).trans q1
      have HC2 := Lib.hid fun W (hb : Below w.heap.size w W) => (hb.cell (p := ⟨(ad.add (k * 4)).block, (ad.add (k * 4)).off + 2, none⟩) (by show (ad.add (k * 4)).block < _; rw [add_block]; exact had)).trans q2
      have HCA := Lib.hid fun W (hb : Below w.heap.size w W) j hj => (hb.cell (p := ⟨(al.add (ci * 7)).block, (al.add (ci * 7)).off + 1 + j, none⟩) (by show (al.add (ci * 7)).block < _; rw [add_block]; exact hal)).trans (hca j hj)
      have HIV := Lib.hid fun W => rInterval_any W (shV l ts (k + 1))
      have HOF : Hid ((shV l ts (k + 1)).ok = false → okS l ts = false) := fun h => okS_false (by omega) h
      have HNO : Hid ((shV l ts (k + 1)).ok = true → ∀ j, j ≤ k + 1 → (shV l ts j).ok = true) := fun h j hj => by
        rcases Nat.lt_or_ge j (k + 1) with h1 | h1
        · exact HK.out j (by omega)
        · obtain rfl : j = k + 1 := by omega
          exact h
      have HSS := Lib.hid (shs_succ l ts k)
      have HSL := Lib.hid (shs_len l ts k)
      have HUB := Lib.hid fun j hj => HSM.out k hk j hj
      obtain ⟨u, hu⟩ : ∃ u, u = shV l ts k := ⟨_, rfl⟩
      obtain ⟨t, ht⟩ : ∃ t, t = shV l ts (k + 1) := ⟨_, rfl⟩
      rw [← hu, ← ht] at HTN
      rw [← hu] at HUB HT
      rw [← ht] at HIV HOF HNO HSS
      have HTT := Lib.hid ht
      clear hu ht q1 q2 hca hgt had hal c0 hci HK
      generalize (ts.getD k ⟨0, 0, 0, 0⟩).n = n at *
      generalize l[ci].v = x at *
      have n1 : -1 ≤ n := by omega
      have n2 : n ≤ 1 := by omega
      clear c2
      go_wp2_with fail
      go_loopw [10] (fun i wx => ∃ m : Nat, m ≤ 6 ∧ i = .int .i64 m ∧ Hid (Below w.heap.size w wx) ∧ Hid (Blk wx g 25 (mixv u t m).cells) ∧ Hid (OwnV wx (g + 1) u8 (shs l ts k))) (fun i _ => 6 - (intOf i).toNat)
      case atStart => exact ⟨0, by omega, rfl, HB.out, by rw [mixv_zero]; exact HT.out, HO.out⟩
      case round =>
        obtain ⟨m, hm, rfl, HBm, HTm, HOm⟩ := hrel
        by_cases hm6 : m < 6
        · have hm6i : (m : Int) < 6 := by omega
          have p1 := HC1.out _ HBm.out
          have p2 := HC2.out _ HBm.out
          have p3 := HCA.out _ HBm.out m hm6
          have q3 := HTm.out.cell m
          rw [Vc.cell _ m hm6, mixv_at _ _ _ hm6] at q3
          have q4 := HTm.out.frozen m
          have hxs := (Vc.ok_iff x).1 HVX.out m hm6
          have hus := HUB.out m hm6
          have HS := Lib.hid (HTm.out.set_ m (.int .i64 (t.at m)))
          rw [mixv_set _ _ _ hm6, HTN.out m] at HS
          obtain ⟨y, hy⟩ : ∃ y, n * x.at m = y := ⟨_, rfl⟩
          have hyb : -48 ≤ y ∧ y ≤ 48 := by
            rw [← hy]
            rcases (show n = -1 ∨ n = 0 ∨ n = 1 by omega) with rfl | rfl | rfl <;> omega
          rw [hy] at HS
          generalize x.at m = xm at *
          generalize u.at m = z at *
          obtain ⟨y1, y2⟩ := hyb
          have w1 : IntKind.i64.wrap y = y := IntWalk.i64_in _ (by omega)
          have w2 : IntKind.i64.wrap (z + y) = z + y := IntWalk.i64_in _ (by omega)
          clear hus hxs
          go_wp2_with fail
          have hE : ∀ p, World.cell? { wr with drawn := wr.drawn + 1 } p = wr.cell? p := fun _ => rfl
          go_still_tail 22, (by kernel_rfl)
          change wpList _ _ _ _ _ wr.drew
          go_wp2_with fail
          go_roundw
          case rel => exact ⟨m + 1, by omega, by go_num, HBm.out.drew.setCell (by simpa using HG0.out) _, HS.out.drew, OwnV.far (OwnV.drew HOm.out) (by simp) _⟩
          case measure => simp [intOf]; omega
        · obtain rfl : m = 6 := by omega
          rw [mixv_six] at HTm
          have t0 := HTm.out.cell 0
          have t1 := HTm.out.cell 1
          have t2 := HTm.out.cell 2
          have t3 := HTm.out.cell 3
          have t4 := HTm.out.cell 4
          have t5 := HTm.out.cell 5
          simp at t0 t1 t2 t3 t4 t5
          have hgl := HTm.out.lt
          rcases hok : t.ok with _ | _
          · have HF := Lib.hid (HOUT.out (HOF.out hok))
            rw [hok] at HIV
            clear hok
            go_wp2_with (go_at_call 29; refine (HIV.out _).mono ?_; rintro e w4 ⟨rfl, b4⟩; replace b4 := Lib.hid b4)
            go_ret2
            exact walk_err (below_on HBm.out b4.out) HF.out
          · have HN := Lib.hid (HNO.out hok)
            rw [hok] at HIV
            clear hok
            have hsl : (shs l ts k).length ≤ 16 := by rw [HSL.out]; omega
            go_wp2_with (first
              | (go_at_call 29; refine (HIV.out _).mono ?_; rintro e w4 ⟨rfl, b4⟩; have K4 := Lib.hid (HTm.out.below b4 HTm.out.lt); have s0 := K4.out.cell 0; have s1 := K4.out.cell 1; have s2 := K4.out.cell 2; have s3 := K4.out.cell 3; have s4 := K4.out.cell 4; have s5 := K4.out.cell 5; simp at s0 s1 s2 s3 s4 s5; have HO4 := Lib.hid ((OwnV.on HOm.out b4).alloc (.cells t.cells 25)); have HW4 := Lib.hid (below_on HBm.out b4); have hw4 := HW4.out.size; have hg4 := K4.out.lt; clear b4)
              | (at_builtin; refine wpList_appv _ rfl (.tmp 58) (.tmp 60) rfl (g + 1) _ _ rfl HO4.out (w4.heap.size + 1) (some ⟨w4.heap.size, 0, none⟩) 1 t rfl (shows_vec w4 t) (by omega) (by simp; omega) ?_; intro v6 w6 ho6 hg6 _; replace ho6 := Lib.hid ho6; replace hg6 := Lib.hid hg6))
            go_roundw
            case rel => exact ⟨k + 1, by omega, by go_num, below_grown (below_al' HW4.out _) hg6.out (by simp; omega) (fun b h => by have := HOm.out.block b h; have := HG0.out; omega), by show Blk _ _ _ _; rw [← HTT.out]; exact (K4.out.alloc _).grown hg6.out (fun e => by have := HOm.out.block _ e; omega), by show OwnV _ _ _ _; rw [HSS.out]; exact ho6.out, HN.out⟩
            case measure => simp [intOf]; omega
    · obtain rfl : k = ts.length := by omega
      have hOS : okS l ts = true := decide_eq_true (fun j hj => HK.out j hj)
      obtain ⟨h1, h2⟩ := HWOK.out hOS
      obtain ⟨Ao, co, rfl, -, hro⟩ := HO.out.form
      have HF := Lib.hid (And.intro h1 h2)
      have HRO := Lib.hid hro
      clear hro h1 h2 hOS
      go_wp2_with fail
      go_ret2
      unfold WalkEnds
      rw [HF.out.1, HF.out.2]
      exact ⟨HB.out, Ao, co, rfl, HRO.out⟩

end Go.Proofs.YtipaapplingbnaaGreatDoor
namespace Go.Proofs.YtipaapplingbnaaGreatDoor

theorem text_well {l : List Cm} {cs : List Int} (h : textE l cs = 0) : parseE l (textV l cs) = 0 ∧ parseV l (textV l cs) = cs := by
  unfold textE at h
  rcases ha : accB l cs with _ | _
  · rw [ha] at h; simp at h
  · obtain ⟨hi, hlen, hL⟩ := accB_iff.1 ha
    have hp := parse_text (nms l) hL.nodup (fun nm hm => by
      unfold nms at hm
      obtain ⟨x, hx, rfl⟩ := List.mem_map.1 hm
      exact hL.names x hx) cs (by unfold nms; rw [List.length_map]; exact hlen) hi
    unfold parseE parseV textV
    rw [ha, validB_true hL, if_pos rfl, if_pos rfl, if_pos rfl, hp]
    exact ⟨rfl, rfl⟩
theorem text_len {l : List Cm} {cs : List Int} (h : textE l cs = 0) : cs.length ≤ 6 := by
  unfold textE at h
  rcases ha : accB l cs with _ | _
  · rw [ha] at h; simp at h
  · obtain ⟨hi, hlen, hL⟩ := accB_iff.1 ha
    rw [hlen]
    exact hL.hi
theorem raw_len {ns : List (List UInt8)} {s : List UInt8} {o : List Int} (h : rawC ns s = some o) : o.length = ns.length := by
  unfold rawC at h
  split at h
  · injection h with h
    rw [← h, zeroC, List.length_replicate]
  · rw [loopC_len h, zeroC, List.length_replicate]
theorem parseC_raw {ns : List (List UInt8)} {s : List UInt8} {cs : List Int} (h : parseC ns s = some cs) : rawC ns s = some cs := by
  unfold parseC at h
  split at h
  · cases h
  · rename_i h2
    split at h
    · injection h with h; subst h; exact h2
    · cases h
theorem parse_well {l : List Cm} {s : List UInt8} (h : parseE l s = 0) : textE l (parseV l s) = 0 ∧ textV l (parseV l s) = s := by
  unfold parseE at h
  rcases hv : validB l with _ | _
  · rw [hv] at h; simp at h
  · rw [hv, if_pos rfl] at h
    rcases hp : parseC (nms l) s with _ | cs
    · rw [hp] at h; simp at h
    · obtain ⟨hr, ht⟩ := parse_back hp
      have hlen := raw_len (parseC_raw hp)
      have ha : accB l cs = true := accB_iff.2 ⟨hr, by rw [hlen, nms, List.length_map], validB_iff.1 hv⟩
      have e : parseV l s = cs := by unfold parseV; rw [hv, if_pos rfl, hp]; rfl
      unfold textE textV
      rw [e, ha, if_pos rfl, if_pos rfl]
      exact ⟨rfl, ht⟩
theorem parse_tiny (l : List Cm) (s : List UInt8) : (parseV l s).length ≤ 6 := by
  unfold parseV
  rcases hv : validB l with _ | _
  · simp
  · rw [if_pos rfl]
    rcases hp : parseC (nms l) s with _ | cs
    · simp
    · have := raw_len (parseC_raw hp)
      have h6 := (validB_iff.1 hv).hi
      rw [Option.getD_some, this, nms, List.length_map]
      exact h6
theorem text_tiny (l : List Cm) (cs : List Int) : (textV l cs).length ≤ 1000 := by
  unfold textV
  rcases ha : accB l cs with _ | _
  · simp
  · obtain ⟨hi, hlen, hL⟩ := accB_iff.1 ha
    rw [if_pos rfl]
    unfold textC
    split
    · simp
    · have h1 := entries_length (nms l) cs
      have h6 := hL.hi
      have h2 := entries_small (nms l) cs (fun nm hm => by
        rw [nms, List.mem_map] at hm
        obtain ⟨x, hx, rfl⟩ := hm
        exact hL.names x hx) (fun n hn => inRange_abs hi n hn)
      have h3 := join_small 22 _ h2
      have : (22 + 1) * (entries (nms l) cs).length ≤ 23 * 6 := Nat.mul_le_mul_left _ (by omega)
      exact Nat.le_trans h3 (by omega)

end Go.Proofs.YtipaapplingbnaaGreatDoor
namespace Go.Proofs.YtipaapplingbnaaGreatDoor
open Go.RowKit Go.Deep

theorem walkV_len (l : List Cm) (ts : List Tk) : (walkV l ts).length ≤ 16 := by
  unfold walkV
  split
  · rename_i h
    simp only [Bool.and_eq_true, decide_eq_true_eq] at h
    rw [List.length_map, List.length_range]
    omega
  · simp
theorem ends_cnt {w w' : World} {l : List Cm} {v : Vc} {e : Ending} (h : CntEnds w l v e w') : Below w.heap.size w w' ∧ ∃ A c, e = .returned (.tuple #[.slice A (cntV l v).length c, .int .i64 (cntK l v)]) ∧ RdI w' w'.heap.size A (cntV l v) := by
  obtain ⟨b, A, c, h1, h2, -⟩ := h
  exact ⟨b, A, c, h1, h2⟩
theorem ends_parse {w w' : World} {l : List Cm} {s : List UInt8} {e : Ending} (h : ParseEnds w l s e w') : Below w.heap.size w w' ∧ ∃ A c, e = .returned (.tuple #[.slice A (parseV l s).length c, .int .i64 (parseE l s)]) ∧ RdI w' w'.heap.size A (parseV l s) := h
theorem ends_walk {w w' : World} {l : List Cm} {ts : List Tk} {e : Ending} (h : WalkEnds w l ts e w') : Below w.heap.size w w' ∧ ∃ A c, e = .returned (.tuple #[.slice A (walkV l ts).length c, .int .i64 (walkE l ts)]) ∧ RdV w' w'.heap.size A (walkV l ts) := h

set_option maxRecDepth 100000 in
set_option maxHeartbeats 16000000 in
theorem matches_any (w : World) (A A1 At : Option Addr) (c c1 ct : Nat) (l : List Cm) (cs : List Int) (v : Vc) (s : List UInt8) (ts : List Tk) (hr : RdN w w.heap.size A l) (hs : ∀ x ∈ l, x.nm.length ≤ 9223372036854775807) (hll : l.length ≤ 9223372036854775807) (hrc : RdI w w.heap.size A1 cs) (hcl : cs.length ≤ 9223372036854775807) (hsl : s.length ≤ 140737488351232) (hrt : RdT w w.heap.size At ts) (htl : ts.length ≤ 9223372036854775807) (hT : Tab w) (hE : Errs w) :
    Calls Tryz.prog 3 #[.slice A l.length c, .slice A1 cs.length c1, .agg #[.int .i64 v.a, .int .i64 v.b, .int .i64 v.c, .int .i64 v.d, .int .i64 v.e, .int .i64 v.f], str s, .slice At ts.length ct] w fun e w' => e = .returned (.bool true) ∧ Below w.heap.size w w' := by
  have HHD := Lib.hid fun W (hb : Below w.heap.size w W) => head_any W (hT.below hb) (hE.below hb)
  have HVA := Lib.hid fun W (hb : Below w.heap.size w W) => valid_any W A c l (hr.up hb) hs hll
  have HVR := Lib.hid fun W (hb : Below w.heap.size w W) => rValid_any W A c l (hr.up hb) hs hll
  have HFA := Lib.hid fun W (hb : Below w.heap.size w W) => find_any W A c l s (hr.up hb) hs hll (by omega)
  have HFR := Lib.hid fun W (hb : Below w.heap.size w W) => rFind_any W A c l s (hr.up hb) hs hll
  have HSA := Lib.hid fun W (hb : Below w.heap.size w W) Ax (hx : RdI W W.heap.size Ax cs) => sum_any W A Ax c c1 l cs (hr.up hb) hs hll hx hcl
  have HSR := Lib.hid fun W (hb : Below w.heap.size w W) Ax (hx : RdI W W.heap.size Ax cs) => rSum_any W A Ax c c1 l cs (hr.up hb) hs hll hx hcl
  have HCA := Lib.hid fun W (hb : Below w.heap.size w W) => (counts_any W A c l v (hr.up hb) hs hll).mono fun e w' h => ends_cnt h
  have HCR := Lib.hid fun W (hb : Below w.heap.size w W) => (rCounts_any W A c l v (hr.up hb) hs hll).mono fun e w' h => ends_cnt h
  have HTA := Lib.hid fun W (hb : Below w.heap.size w W) Ax (hx : RdI W W.heap.size Ax cs) => text_any W A Ax c c1 l cs (hr.up hb) hs hll hx hcl (hT.below hb)
  have HTR := Lib.hid fun W (hb : Below w.heap.size w W) Ax (hx : RdI W W.heap.size Ax cs) => rText_any W A Ax c c1 l cs (hr.up hb) hs hll hx hcl
  have HPA := Lib.hid fun W (hb : Below w.heap.size w W) => (parse_any W A c l s (hr.up hb) hs hll (by omega) (hT.below hb) (hE.below hb)).mono fun e w' h => ends_parse h
  have HPR := Lib.hid fun W (hb : Below w.heap.size w W) => (rParse_any W A c l s (hr.up hb) hs hll hsl).mono fun e w' h => ends_parse h
  have HWA := Lib.hid fun W (hb : Below w.heap.size w W) => (walk_any W A At c ct l ts (hr.up hb) hs hll (hrt.up hb) htl).mono fun e w' h => ends_walk h
  have HWR := Lib.hid fun W (hb : Below w.heap.size w W) => (rWalk_any W A At c ct l ts (hr.up hb) hs hll (hrt.up hb) htl).mono fun e w' h => ends_walk h
  have l1 := cnt_small l v
  have l2 := parse_tiny l s
  have l3 := walkV_len l ts
  obtain ⟨w0, hw0⟩ : ∃ w0, w0 = w.alloc (.cells #[.int .i64 v.a, .int .i64 v.b, .int .i64 v.c, .int .i64 v.d, .int .i64 v.e, .int .i64 v.f] 25) := ⟨_, rfl⟩
  have hB0 : Below w.heap.size w w0 := by rw [hw0]; exact (Below.refl w.heap.size w).alloc (Nat.le_refl _) (.cells v.cells 25)
  have H0 := Lib.hid hB0
  have kv : Hid (Blk w0 w.heap.size 25 v.cells) := by rw [hw0]; exact Blk.new w 25 v.cells
  have rc := Lib.hid (hrc.up hB0)
  have HW0 := Lib.hid hw0
  obtain ⟨x, hx⟩ : ∃ x, x = sumV l cs := ⟨_, rfl⟩
  rw [← hx] at HSA HSR
  have heq := fun W => eql_vec x x W
  rw [decide_eq_true rfl] at heq
  clear hr hs hrc hrt hT hE hB0 hx hw0 hll hcl hsl htl
  generalize cntV l v = ls at *
  generalize cntK l v = lk at *
  generalize parseV l s = ps at *
  generalize parseE l s = pe at *
  generalize walkV l ts = ws at *
  generalize walkE l ts = we at *
  generalize textV l cs = tx at *
  generalize textE l cs = te at *
  generalize sumE l cs = se at *
  generalize findV l s = fv at *
  generalize findE l s = fe at *
  generalize validB l = vb at *
  have HI1 := Lib.hid fun W A B (c d : Nat) (h1 : RdI W W.heap.size A ls) (h2 : RdI W W.heap.size B ls) => (ints_any W A B c d ls ls h1 h2 (by omega)).mono fun e w' h => (show e = .returned (.bool true) ∧ Below W.heap.size W w' from by rw [decide_eq_true rfl] at h; exact h)
  have HI2 := Lib.hid fun W A B (c d : Nat) (h1 : RdI W W.heap.size A ps) (h2 : RdI W W.heap.size B ps) => (ints_any W A B c d ps ps h1 h2 (by omega)).mono fun e w' h => (show e = .returned (.bool true) ∧ Below W.heap.size W w' from by rw [decide_eq_true rfl] at h; exact h)
  have HSM := Lib.hid fun W A B (c d : Nat) (h1 : RdV W W.heap.size A ws) (h2 : RdV W W.heap.size B ws) => (same_any W A B c d ws ws h1 h2 (by omega)).mono fun e w' h => (show e = .returned (.bool true) ∧ Below W.heap.size W w' from by rw [decide_eq_true rfl] at h; exact h)
  have e1 : (tx == tx) = true := beq_self_eq_true tx
  have e2 : (vb == vb) = true := beq_self_eq_true vb
  clear l1 l2 l3
  go_enter Tryz.func3, Tryz.ntmps3
  have tk0 := Lib.hid trivial
  go_wp2_with (first
    | (have _t := tk0; go_at_call 5; rw [← HW0.out]; have bp := Below.refl w0.heap.size w0; have hb := below_on H0.out bp; have rc' := rc.out.up bp; refine (HHD.out _ hb).mono ?_; rintro e v0w ⟨rfl, b'⟩; have b := below_on bp b'; have h0 := Lib.hid (below_on H0.out b); replace kv := Lib.hid (kv.out.below b kv.out.lt); replace rc := Lib.hid (rc.out.up b); have kvc0 := kv.out.cell 0; have kvc1 := kv.out.cell 1; have kvc2 := kv.out.cell 2; have kvc3 := kv.out.cell 3; have kvc4 := kv.out.cell 4; have kvc5 := kv.out.cell 5; have kvl := kv.out.lt; simp at kvc0 kvc1 kvc2 kvc3 kvc4 kvc5; have tk1 := Lib.hid trivial; clear b b' bp hb tk0 rc')
    | (have _t := tk1; go_at_call 6; have bp := Below.refl v0w.heap.size v0w; have hb := below_on h0.out bp; have rc' := rc.out.up bp; refine (HVA.out _ hb).mono ?_; rintro e v1w ⟨rfl, b'⟩; have b := below_on bp b'; have h1 := Lib.hid (below_on h0.out b); replace kv := Lib.hid (kv.out.below b kv.out.lt); replace rc := Lib.hid (rc.out.up b); have kvc0 := kv.out.cell 0; have kvc1 := kv.out.cell 1; have kvc2 := kv.out.cell 2; have kvc3 := kv.out.cell 3; have kvc4 := kv.out.cell 4; have kvc5 := kv.out.cell 5; have kvl := kv.out.lt; simp at kvc0 kvc1 kvc2 kvc3 kvc4 kvc5; have tk2 := Lib.hid trivial; clear b b' bp hb tk1 rc')
    | (have _t := tk2; go_at_call 7; have bp := Below.refl v1w.heap.size v1w; have hb := below_on h1.out bp; have rc' := rc.out.up bp; refine (HVR.out _ hb).mono ?_; rintro e v2w ⟨rfl, b'⟩; have b := below_on bp b'; have h2 := Lib.hid (below_on h1.out b); replace kv := Lib.hid (kv.out.below b kv.out.lt); replace rc := Lib.hid (rc.out.up b); have kvc0 := kv.out.cell 0; have kvc1 := kv.out.cell 1; have kvc2 := kv.out.cell 2; have kvc3 := kv.out.cell 3; have kvc4 := kv.out.cell 4; have kvc5 := kv.out.cell 5; have kvl := kv.out.lt; simp at kvc0 kvc1 kvc2 kvc3 kvc4 kvc5; have tk3 := Lib.hid trivial; clear b b' bp hb tk2 rc')
    | (have _t := tk3; go_at_call 8; have bp := Below.refl v2w.heap.size v2w; have hb := below_on h2.out bp; have rc' := rc.out.up bp; refine (HFA.out _ hb).mono ?_; rintro e v3w ⟨rfl, b'⟩; have b := below_on bp b'; have h3 := Lib.hid (below_on h2.out b); replace kv := Lib.hid (kv.out.below b kv.out.lt); replace rc := Lib.hid (rc.out.up b); have kvc0 := kv.out.cell 0; have kvc1 := kv.out.cell 1; have kvc2 := kv.out.cell 2; have kvc3 := kv.out.cell 3; have kvc4 := kv.out.cell 4; have kvc5 := kv.out.cell 5; have kvl := kv.out.lt; simp at kvc0 kvc1 kvc2 kvc3 kvc4 kvc5; have tk4 := Lib.hid trivial; clear b b' bp hb tk3 rc')
    | (have _t := tk4; go_at_call 9; have bp := Below.refl v3w.heap.size v3w; have hb := below_on h3.out bp; have rc' := rc.out.up bp; refine (HFR.out _ hb).mono ?_; rintro e v4w ⟨rfl, b'⟩; have b := below_on bp b'; have h4 := Lib.hid (below_on h3.out b); replace kv := Lib.hid (kv.out.below b kv.out.lt); replace rc := Lib.hid (rc.out.up b); have kvc0 := kv.out.cell 0; have kvc1 := kv.out.cell 1; have kvc2 := kv.out.cell 2; have kvc3 := kv.out.cell 3; have kvc4 := kv.out.cell 4; have kvc5 := kv.out.cell 5; have kvl := kv.out.lt; simp at kvc0 kvc1 kvc2 kvc3 kvc4 kvc5; have tk5 := Lib.hid trivial; clear b b' bp hb tk4 rc')
    | (have _t := tk5; go_at_call 10; have bp := Below.refl v4w.heap.size v4w; have hb := below_on h4.out bp; have rc' := rc.out.up bp; refine (HSA.out _ hb _ rc').mono ?_; rintro e v5w ⟨rfl, b'⟩; have b := below_on bp b'; have h5 := Lib.hid (below_on h4.out b); replace kv := Lib.hid (kv.out.below b kv.out.lt); replace rc := Lib.hid (rc.out.up b); have kvc0 := kv.out.cell 0; have kvc1 := kv.out.cell 1; have kvc2 := kv.out.cell 2; have kvc3 := kv.out.cell 3; have kvc4 := kv.out.cell 4; have kvc5 := kv.out.cell 5; have kvl := kv.out.lt; simp at kvc0 kvc1 kvc2 kvc3 kvc4 kvc5; have tk6 := Lib.hid trivial; clear b b' bp hb tk5 rc')
    | (have _t := tk6; go_at_call 11; have bp := below_al (Below.refl v5w.heap.size v5w) (.cells #[.int .i64 x.a, .int .i64 x.b, .int .i64 x.c, .int .i64 x.d, .int .i64 x.e, .int .i64 x.f] 25); have hb := below_on h5.out bp; have rc' := rc.out.up bp; refine (HSR.out _ hb _ rc').mono ?_; rintro e v6w ⟨rfl, b'⟩; have b := below_on bp b'; have h6 := Lib.hid (below_on h5.out b); replace kv := Lib.hid (kv.out.below b kv.out.lt); have kx := Lib.hid (Blk.below (Blk.new v5w 25 #[.int .i64 x.a, .int .i64 x.b, .int .i64 x.c, .int .i64 x.d, .int .i64 x.e, .int .i64 x.f]) b' (Blk.new v5w 25 #[.int .i64 x.a, .int .i64 x.b, .int .i64 x.c, .int .i64 x.d, .int .i64 x.e, .int .i64 x.f]).lt); replace rc := Lib.hid (rc.out.up b); have kvc0 := kv.out.cell 0; have kvc1 := kv.out.cell 1; have kvc2 := kv.out.cell 2; have kvc3 := kv.out.cell 3; have kvc4 := kv.out.cell 4; have kvc5 := kv.out.cell 5; have kvl := kv.out.lt; simp at kvc0 kvc1 kvc2 kvc3 kvc4 kvc5; have kxc0 := kx.out.cell 0; have kxc1 := kx.out.cell 1; have kxc2 := kx.out.cell 2; have kxc3 := kx.out.cell 3; have kxc4 := kx.out.cell 4; have kxc5 := kx.out.cell 5; have kxl := kx.out.lt; simp at kxc0 kxc1 kxc2 kxc3 kxc4 kxc5; have tk7 := Lib.hid trivial; clear b b' bp hb tk6 rc')
    | (have _t := tk7; go_at_call 12; have bp := below_al (Below.refl v6w.heap.size v6w) (.cells #[.int .i64 x.a, .int .i64 x.b, .int .i64 x.c, .int .i64 x.d, .int .i64 x.e, .int .i64 x.f] 25); have hb := below_on h6.out bp; have rc' := rc.out.up bp; refine (HCA.out _ hb).mono ?_; rintro e v7w ⟨b', A2, c2, rfl, r2⟩; have b := below_on bp b'; have h7 := Lib.hid (below_on h6.out b); replace kv := Lib.hid (kv.out.below b kv.out.lt); replace kx := Lib.hid (kx.out.below b kx.out.lt); have ky := Lib.hid (Blk.below (Blk.new v6w 25 #[.int .i64 x.a, .int .i64 x.b, .int .i64 x.c, .int .i64 x.d, .int .i64 x.e, .int .i64 x.f]) b' (Blk.new v6w 25 #[.int .i64 x.a, .int .i64 x.b, .int .i64 x.c, .int .i64 x.d, .int .i64 x.e, .int .i64 x.f]).lt); replace rc := Lib.hid (rc.out.up b); replace r2 := Lib.hid r2; have kvc0 := kv.out.cell 0; have kvc1 := kv.out.cell 1; have kvc2 := kv.out.cell 2; have kvc3 := kv.out.cell 3; have kvc4 := kv.out.cell 4; have kvc5 := kv.out.cell 5; have kvl := kv.out.lt; simp at kvc0 kvc1 kvc2 kvc3 kvc4 kvc5; have kxc0 := kx.out.cell 0; have kxc1 := kx.out.cell 1; have kxc2 := kx.out.cell 2; have kxc3 := kx.out.cell 3; have kxc4 := kx.out.cell 4; have kxc5 := kx.out.cell 5; have kxl := kx.out.lt; simp at kxc0 kxc1 kxc2 kxc3 kxc4 kxc5; have kyc0 := ky.out.cell 0; have kyc1 := ky.out.cell 1; have kyc2 := ky.out.cell 2; have kyc3 := ky.out.cell 3; have kyc4 := ky.out.cell 4; have kyc5 := ky.out.cell 5; have kyl := ky.out.lt; simp at kyc0 kyc1 kyc2 kyc3 kyc4 kyc5; have tk8 := Lib.hid trivial; clear b b' bp hb tk7 rc')
    | (have _t := tk8; go_at_call 13; have bp := Below.refl v7w.heap.size v7w; have hb := below_on h7.out bp; have rc' := rc.out.up bp; have r2' := r2.out.up bp; refine (HCR.out _ hb).mono ?_; rintro e v8w ⟨b', A3, c3, rfl, r3⟩; have b := below_on bp b'; have h8 := Lib.hid (below_on h7.out b); replace kv := Lib.hid (kv.out.below b kv.out.lt); replace kx := Lib.hid (kx.out.below b kx.out.lt); replace ky := Lib.hid (ky.out.below b ky.out.lt); replace rc := Lib.hid (rc.out.up b); replace r2 := Lib.hid (r2.out.up b); replace r3 := Lib.hid r3; have kvc0 := kv.out.cell 0; have kvc1 := kv.out.cell 1; have kvc2 := kv.out.cell 2; have kvc3 := kv.out.cell 3; have kvc4 := kv.out.cell 4; have kvc5 := kv.out.cell 5; have kvl := kv.out.lt; simp at kvc0 kvc1 kvc2 kvc3 kvc4 kvc5; have kxc0 := kx.out.cell 0; have kxc1 := kx.out.cell 1; have kxc2 := kx.out.cell 2; have kxc3 := kx.out.cell 3; have kxc4 := kx.out.cell 4; have kxc5 := kx.out.cell 5; have kxl := kx.out.lt; simp at kxc0 kxc1 kxc2 kxc3 kxc4 kxc5; have kyc0 := ky.out.cell 0; have kyc1 := ky.out.cell 1; have kyc2 := ky.out.cell 2; have kyc3 := ky.out.cell 3; have kyc4 := ky.out.cell 4; have kyc5 := ky.out.cell 5; have kyl := ky.out.lt; simp at kyc0 kyc1 kyc2 kyc3 kyc4 kyc5; have tk9 := Lib.hid trivial; clear b b' bp hb tk8 rc' r2')
    | (have _t := tk9; go_at_call 14; have bp := Below.refl v8w.heap.size v8w; have hb := below_on h8.out bp; have rc' := rc.out.up bp; have r2' := r2.out.up bp; have r3' := r3.out.up bp; refine (HI1.out _ _ _ _ _ r2' r3').mono ?_; rintro e v9w ⟨rfl, b'⟩; have b := below_on bp b'; have h9 := Lib.hid (below_on h8.out b); replace kv := Lib.hid (kv.out.below b kv.out.lt); replace kx := Lib.hid (kx.out.below b kx.out.lt); replace ky := Lib.hid (ky.out.below b ky.out.lt); replace rc := Lib.hid (rc.out.up b); replace r2 := Lib.hid (r2.out.up b); replace r3 := Lib.hid (r3.out.up b); have kvc0 := kv.out.cell 0; have kvc1 := kv.out.cell 1; have kvc2 := kv.out.cell 2; have kvc3 := kv.out.cell 3; have kvc4 := kv.out.cell 4; have kvc5 := kv.out.cell 5; have kvl := kv.out.lt; simp at kvc0 kvc1 kvc2 kvc3 kvc4 kvc5; have kxc0 := kx.out.cell 0; have kxc1 := kx.out.cell 1; have kxc2 := kx.out.cell 2; have kxc3 := kx.out.cell 3; have kxc4 := kx.out.cell 4; have kxc5 := kx.out.cell 5; have kxl := kx.out.lt; simp at kxc0 kxc1 kxc2 kxc3 kxc4 kxc5; have kyc0 := ky.out.cell 0; have kyc1 := ky.out.cell 1; have kyc2 := ky.out.cell 2; have kyc3 := ky.out.cell 3; have kyc4 := ky.out.cell 4; have kyc5 := ky.out.cell 5; have kyl := ky.out.lt; simp at kyc0 kyc1 kyc2 kyc3 kyc4 kyc5; have tk10 := Lib.hid trivial; clear b b' bp hb tk9 rc' r2' r3')
    | (have _t := tk10; go_at_call 15; have bp := Below.refl v9w.heap.size v9w; have hb := below_on h9.out bp; have rc' := rc.out.up bp; have r2' := r2.out.up bp; have r3' := r3.out.up bp; refine (HTA.out _ hb _ rc').mono ?_; rintro e v10w ⟨rfl, b'⟩; have b := below_on bp b'; have h10 := Lib.hid (below_on h9.out b); replace kv := Lib.hid (kv.out.below b kv.out.lt); replace kx := Lib.hid (kx.out.below b kx.out.lt); replace ky := Lib.hid (ky.out.below b ky.out.lt); replace rc := Lib.hid (rc.out.up b); replace r2 := Lib.hid (r2.out.up b); replace r3 := Lib.hid (r3.out.up b); have kvc0 := kv.out.cell 0; have kvc1 := kv.out.cell 1; have kvc2 := kv.out.cell 2; have kvc3 := kv.out.cell 3; have kvc4 := kv.out.cell 4; have kvc5 := kv.out.cell 5; have kvl := kv.out.lt; simp at kvc0 kvc1 kvc2 kvc3 kvc4 kvc5; have kxc0 := kx.out.cell 0; have kxc1 := kx.out.cell 1; have kxc2 := kx.out.cell 2; have kxc3 := kx.out.cell 3; have kxc4 := kx.out.cell 4; have kxc5 := kx.out.cell 5; have kxl := kx.out.lt; simp at kxc0 kxc1 kxc2 kxc3 kxc4 kxc5; have kyc0 := ky.out.cell 0; have kyc1 := ky.out.cell 1; have kyc2 := ky.out.cell 2; have kyc3 := ky.out.cell 3; have kyc4 := ky.out.cell 4; have kyc5 := ky.out.cell 5; have kyl := ky.out.lt; simp at kyc0 kyc1 kyc2 kyc3 kyc4 kyc5; have tk11 := Lib.hid trivial; clear b b' bp hb tk10 rc' r2' r3')
    | (have _t := tk11; go_at_call 16; have bp := Below.refl v10w.heap.size v10w; have hb := below_on h10.out bp; have rc' := rc.out.up bp; have r2' := r2.out.up bp; have r3' := r3.out.up bp; refine (HTR.out _ hb _ rc').mono ?_; rintro e v11w ⟨rfl, b'⟩; have b := below_on bp b'; have h11 := Lib.hid (below_on h10.out b); replace kv := Lib.hid (kv.out.below b kv.out.lt); replace kx := Lib.hid (kx.out.below b kx.out.lt); replace ky := Lib.hid (ky.out.below b ky.out.lt); replace rc := Lib.hid (rc.out.up b); replace r2 := Lib.hid (r2.out.up b); replace r3 := Lib.hid (r3.out.up b); have kvc0 := kv.out.cell 0; have kvc1 := kv.out.cell 1; have kvc2 := kv.out.cell 2; have kvc3 := kv.out.cell 3; have kvc4 := kv.out.cell 4; have kvc5 := kv.out.cell 5; have kvl := kv.out.lt; simp at kvc0 kvc1 kvc2 kvc3 kvc4 kvc5; have kxc0 := kx.out.cell 0; have kxc1 := kx.out.cell 1; have kxc2 := kx.out.cell 2; have kxc3 := kx.out.cell 3; have kxc4 := kx.out.cell 4; have kxc5 := kx.out.cell 5; have kxl := kx.out.lt; simp at kxc0 kxc1 kxc2 kxc3 kxc4 kxc5; have kyc0 := ky.out.cell 0; have kyc1 := ky.out.cell 1; have kyc2 := ky.out.cell 2; have kyc3 := ky.out.cell 3; have kyc4 := ky.out.cell 4; have kyc5 := ky.out.cell 5; have kyl := ky.out.lt; simp at kyc0 kyc1 kyc2 kyc3 kyc4 kyc5; have tk12 := Lib.hid trivial; clear b b' bp hb tk11 rc' r2' r3')
    | (have _t := tk12; go_at_call 17; have bp := Below.refl v11w.heap.size v11w; have hb := below_on h11.out bp; have rc' := rc.out.up bp; have r2' := r2.out.up bp; have r3' := r3.out.up bp; refine (HPA.out _ hb).mono ?_; rintro e v12w ⟨b', A4, c4, rfl, r4⟩; have b := below_on bp b'; have h12 := Lib.hid (below_on h11.out b); replace kv := Lib.hid (kv.out.below b kv.out.lt); replace kx := Lib.hid (kx.out.below b kx.out.lt); replace ky := Lib.hid (ky.out.below b ky.out.lt); replace rc := Lib.hid (rc.out.up b); replace r2 := Lib.hid (r2.out.up b); replace r3 := Lib.hid (r3.out.up b); replace r4 := Lib.hid r4; have kvc0 := kv.out.cell 0; have kvc1 := kv.out.cell 1; have kvc2 := kv.out.cell 2; have kvc3 := kv.out.cell 3; have kvc4 := kv.out.cell 4; have kvc5 := kv.out.cell 5; have kvl := kv.out.lt; simp at kvc0 kvc1 kvc2 kvc3 kvc4 kvc5; have kxc0 := kx.out.cell 0; have kxc1 := kx.out.cell 1; have kxc2 := kx.out.cell 2; have kxc3 := kx.out.cell 3; have kxc4 := kx.out.cell 4; have kxc5 := kx.out.cell 5; have kxl := kx.out.lt; simp at kxc0 kxc1 kxc2 kxc3 kxc4 kxc5; have kyc0 := ky.out.cell 0; have kyc1 := ky.out.cell 1; have kyc2 := ky.out.cell 2; have kyc3 := ky.out.cell 3; have kyc4 := ky.out.cell 4; have kyc5 := ky.out.cell 5; have kyl := ky.out.lt; simp at kyc0 kyc1 kyc2 kyc3 kyc4 kyc5; have tk13 := Lib.hid trivial; clear b b' bp hb tk12 rc' r2' r3')
    | (have _t := tk13; go_at_call 18; have bp := Below.refl v12w.heap.size v12w; have hb := below_on h12.out bp; have rc' := rc.out.up bp; have r2' := r2.out.up bp; have r3' := r3.out.up bp; have r4' := r4.out.up bp; refine (HPR.out _ hb).mono ?_; rintro e v13w ⟨b', A5, c5, rfl, r5⟩; have b := below_on bp b'; have h13 := Lib.hid (below_on h12.out b); replace kv := Lib.hid (kv.out.below b kv.out.lt); replace kx := Lib.hid (kx.out.below b kx.out.lt); replace ky := Lib.hid (ky.out.below b ky.out.lt); replace rc := Lib.hid (rc.out.up b); replace r2 := Lib.hid (r2.out.up b); replace r3 := Lib.hid (r3.out.up b); replace r4 := Lib.hid (r4.out.up b); replace r5 := Lib.hid r5; have kvc0 := kv.out.cell 0; have kvc1 := kv.out.cell 1; have kvc2 := kv.out.cell 2; have kvc3 := kv.out.cell 3; have kvc4 := kv.out.cell 4; have kvc5 := kv.out.cell 5; have kvl := kv.out.lt; simp at kvc0 kvc1 kvc2 kvc3 kvc4 kvc5; have kxc0 := kx.out.cell 0; have kxc1 := kx.out.cell 1; have kxc2 := kx.out.cell 2; have kxc3 := kx.out.cell 3; have kxc4 := kx.out.cell 4; have kxc5 := kx.out.cell 5; have kxl := kx.out.lt; simp at kxc0 kxc1 kxc2 kxc3 kxc4 kxc5; have kyc0 := ky.out.cell 0; have kyc1 := ky.out.cell 1; have kyc2 := ky.out.cell 2; have kyc3 := ky.out.cell 3; have kyc4 := ky.out.cell 4; have kyc5 := ky.out.cell 5; have kyl := ky.out.lt; simp at kyc0 kyc1 kyc2 kyc3 kyc4 kyc5; have tk14 := Lib.hid trivial; clear b b' bp hb tk13 rc' r2' r3' r4')
    | (have _t := tk14; go_at_call 14; have bp := Below.refl v13w.heap.size v13w; have hb := below_on h13.out bp; have rc' := rc.out.up bp; have r2' := r2.out.up bp; have r3' := r3.out.up bp; have r4' := r4.out.up bp; have r5' := r5.out.up bp; refine (HI2.out _ _ _ _ _ r4' r5').mono ?_; rintro e v14w ⟨rfl, b'⟩; have b := below_on bp b'; have h14 := Lib.hid (below_on h13.out b); replace kv := Lib.hid (kv.out.below b kv.out.lt); replace kx := Lib.hid (kx.out.below b kx.out.lt); replace ky := Lib.hid (ky.out.below b ky.out.lt); replace rc := Lib.hid (rc.out.up b); replace r2 := Lib.hid (r2.out.up b); replace r3 := Lib.hid (r3.out.up b); replace r4 := Lib.hid (r4.out.up b); replace r5 := Lib.hid (r5.out.up b); have kvc0 := kv.out.cell 0; have kvc1 := kv.out.cell 1; have kvc2 := kv.out.cell 2; have kvc3 := kv.out.cell 3; have kvc4 := kv.out.cell 4; have kvc5 := kv.out.cell 5; have kvl := kv.out.lt; simp at kvc0 kvc1 kvc2 kvc3 kvc4 kvc5; have kxc0 := kx.out.cell 0; have kxc1 := kx.out.cell 1; have kxc2 := kx.out.cell 2; have kxc3 := kx.out.cell 3; have kxc4 := kx.out.cell 4; have kxc5 := kx.out.cell 5; have kxl := kx.out.lt; simp at kxc0 kxc1 kxc2 kxc3 kxc4 kxc5; have kyc0 := ky.out.cell 0; have kyc1 := ky.out.cell 1; have kyc2 := ky.out.cell 2; have kyc3 := ky.out.cell 3; have kyc4 := ky.out.cell 4; have kyc5 := ky.out.cell 5; have kyl := ky.out.lt; simp at kyc0 kyc1 kyc2 kyc3 kyc4 kyc5; have tk15 := Lib.hid trivial; clear b b' bp hb tk14 rc' r2' r3' r4' r5')
    | (have _t := tk15; go_at_call 19; have bp := Below.refl v14w.heap.size v14w; have hb := below_on h14.out bp; have rc' := rc.out.up bp; have r2' := r2.out.up bp; have r3' := r3.out.up bp; have r4' := r4.out.up bp; have r5' := r5.out.up bp; refine (HWA.out _ hb).mono ?_; rintro e v15w ⟨b', A6, c6, rfl, r6⟩; have b := below_on bp b'; have h15 := Lib.hid (below_on h14.out b); replace kv := Lib.hid (kv.out.below b kv.out.lt); replace kx := Lib.hid (kx.out.below b kx.out.lt); replace ky := Lib.hid (ky.out.below b ky.out.lt); replace rc := Lib.hid (rc.out.up b); replace r2 := Lib.hid (r2.out.up b); replace r3 := Lib.hid (r3.out.up b); replace r4 := Lib.hid (r4.out.up b); replace r5 := Lib.hid (r5.out.up b); replace r6 := Lib.hid r6; have kvc0 := kv.out.cell 0; have kvc1 := kv.out.cell 1; have kvc2 := kv.out.cell 2; have kvc3 := kv.out.cell 3; have kvc4 := kv.out.cell 4; have kvc5 := kv.out.cell 5; have kvl := kv.out.lt; simp at kvc0 kvc1 kvc2 kvc3 kvc4 kvc5; have kxc0 := kx.out.cell 0; have kxc1 := kx.out.cell 1; have kxc2 := kx.out.cell 2; have kxc3 := kx.out.cell 3; have kxc4 := kx.out.cell 4; have kxc5 := kx.out.cell 5; have kxl := kx.out.lt; simp at kxc0 kxc1 kxc2 kxc3 kxc4 kxc5; have kyc0 := ky.out.cell 0; have kyc1 := ky.out.cell 1; have kyc2 := ky.out.cell 2; have kyc3 := ky.out.cell 3; have kyc4 := ky.out.cell 4; have kyc5 := ky.out.cell 5; have kyl := ky.out.lt; simp at kyc0 kyc1 kyc2 kyc3 kyc4 kyc5; have tk16 := Lib.hid trivial; clear b b' bp hb tk15 rc' r2' r3' r4' r5')
    | (have _t := tk16; go_at_call 20; have bp := Below.refl v15w.heap.size v15w; have hb := below_on h15.out bp; have rc' := rc.out.up bp; have r2' := r2.out.up bp; have r3' := r3.out.up bp; have r4' := r4.out.up bp; have r5' := r5.out.up bp; have r6' := r6.out.up bp; refine (HWR.out _ hb).mono ?_; rintro e v16w ⟨b', A7, c7, rfl, r7⟩; have b := below_on bp b'; have h16 := Lib.hid (below_on h15.out b); replace kv := Lib.hid (kv.out.below b kv.out.lt); replace kx := Lib.hid (kx.out.below b kx.out.lt); replace ky := Lib.hid (ky.out.below b ky.out.lt); replace rc := Lib.hid (rc.out.up b); replace r2 := Lib.hid (r2.out.up b); replace r3 := Lib.hid (r3.out.up b); replace r4 := Lib.hid (r4.out.up b); replace r5 := Lib.hid (r5.out.up b); replace r6 := Lib.hid (r6.out.up b); replace r7 := Lib.hid r7; have kvc0 := kv.out.cell 0; have kvc1 := kv.out.cell 1; have kvc2 := kv.out.cell 2; have kvc3 := kv.out.cell 3; have kvc4 := kv.out.cell 4; have kvc5 := kv.out.cell 5; have kvl := kv.out.lt; simp at kvc0 kvc1 kvc2 kvc3 kvc4 kvc5; have kxc0 := kx.out.cell 0; have kxc1 := kx.out.cell 1; have kxc2 := kx.out.cell 2; have kxc3 := kx.out.cell 3; have kxc4 := kx.out.cell 4; have kxc5 := kx.out.cell 5; have kxl := kx.out.lt; simp at kxc0 kxc1 kxc2 kxc3 kxc4 kxc5; have kyc0 := ky.out.cell 0; have kyc1 := ky.out.cell 1; have kyc2 := ky.out.cell 2; have kyc3 := ky.out.cell 3; have kyc4 := ky.out.cell 4; have kyc5 := ky.out.cell 5; have kyl := ky.out.lt; simp at kyc0 kyc1 kyc2 kyc3 kyc4 kyc5; have tk17 := Lib.hid trivial; clear b b' bp hb tk16 rc' r2' r3' r4' r5' r6')
    | (have _t := tk17; go_at_call 21; have bp := Below.refl v16w.heap.size v16w; have hb := below_on h16.out bp; have rc' := rc.out.up bp; have r2' := r2.out.up bp; have r3' := r3.out.up bp; have r4' := r4.out.up bp; have r5' := r5.out.up bp; have r6' := r6.out.up bp; have r7' := r7.out.up bp; refine (HSM.out _ _ _ _ _ r6' r7').mono ?_; rintro e v17w ⟨rfl, b'⟩; have b := below_on bp b'; have h17 := Lib.hid (below_on h16.out b); replace kv := Lib.hid (kv.out.below b kv.out.lt); replace kx := Lib.hid (kx.out.below b kx.out.lt); replace ky := Lib.hid (ky.out.below b ky.out.lt); replace rc := Lib.hid (rc.out.up b); replace r2 := Lib.hid (r2.out.up b); replace r3 := Lib.hid (r3.out.up b); replace r4 := Lib.hid (r4.out.up b); replace r5 := Lib.hid (r5.out.up b); replace r6 := Lib.hid (r6.out.up b); replace r7 := Lib.hid (r7.out.up b); have kvc0 := kv.out.cell 0; have kvc1 := kv.out.cell 1; have kvc2 := kv.out.cell 2; have kvc3 := kv.out.cell 3; have kvc4 := kv.out.cell 4; have kvc5 := kv.out.cell 5; have kvl := kv.out.lt; simp at kvc0 kvc1 kvc2 kvc3 kvc4 kvc5; have kxc0 := kx.out.cell 0; have kxc1 := kx.out.cell 1; have kxc2 := kx.out.cell 2; have kxc3 := kx.out.cell 3; have kxc4 := kx.out.cell 4; have kxc5 := kx.out.cell 5; have kxl := kx.out.lt; simp at kxc0 kxc1 kxc2 kxc3 kxc4 kxc5; have kyc0 := ky.out.cell 0; have kyc1 := ky.out.cell 1; have kyc2 := ky.out.cell 2; have kyc3 := ky.out.cell 3; have kyc4 := ky.out.cell 4; have kyc5 := ky.out.cell 5; have kyl := ky.out.lt; simp at kyc0 kyc1 kyc2 kyc3 kyc4 kyc5; have tk18 := Lib.hid trivial; clear b b' bp hb tk17 rc' r2' r3' r4' r5' r6' r7'))
  go_ret
  exact ⟨rfl, h17.out⟩

end Go.Proofs.YtipaapplingbnaaGreatDoor
