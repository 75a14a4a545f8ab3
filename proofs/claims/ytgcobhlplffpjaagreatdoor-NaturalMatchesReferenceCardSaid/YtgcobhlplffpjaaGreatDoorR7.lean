/- Walks of the reference: Add, Mul, Sub. -/
import Derived.Test.YtgcobhlplffpjaaGreatDoorR6
namespace Go.Proofs.YtgcobhlplffpjaaGreatDoor
open Go.RowKit Go.Deep

set_option maxRecDepth 100000 in
set_option maxHeartbeats 1000000 in
theorem rAdd_any (w : World) (A1 A2 : Option Addr) (c1 c2 : Nat) (a b : List Nat) (ra : RdW w w.heap.size A1 a) (rb : RdW w w.heap.size A2 b) (la : Lim a) (lb : Lim b) (na : a.length ≤ 9223372036854775807) (nb : b.length ≤ 9223372036854775807) :
    Calls Tryz.prog 26 #[.slice A1 a.length c1, .slice A2 b.length c2] w (REndsO w (addO a b)) := by
  have HB := Lib.hid (rBoth_any w A1 A2 c1 c2 a b ra rb na nb)
  unfold addO both
  rcases h : (isNat a && isNat b) with _ | _
  · rw [h] at HB
    rw [if_neg (by decide)]
    clear h ra rb la lb
    go_enter Tryz.func26, Tryz.ntmps26
    go_wp2_with (go_at_call 55; refine HB.out.mono ?_; rintro e w' ⟨rfl, rfl⟩)
    go_ret2
    exact ⟨Below.refl _ _, none, 0, rfl, RdW.nil _ _ _⟩
  · rw [h] at HB
    rw [if_pos rfl]
    rw [Bool.and_eq_true] at h
    have na6 := (isNat_norm h.1).1
    have nb6 := (isNat_norm h.2).1
    have HP := Lib.hid (rPlus_any w A1 A2 c1 c2 a b ra rb la lb (by omega) (by omega))
    have hbd := limbs_sum_len (val_nat la h.1) (val_nat lb h.2)
    clear h ra rb la lb na6 nb6
    generalize val a + val b = v at *
    have HQ := Lib.hid fun (w1 : World) (A : Option Addr) (c : Nat) (hr : RdW w1 w1.heap.size A (limbs v)) (hc : (limbs v).length ≤ c) => rBounded_any w1 A c v hr (by omega) hc
    generalize cutO v = o at *
    clear hbd
    go_enter Tryz.func26, Tryz.ntmps26
    go_wp2_with (first
      | (go_at_call 55; refine HB.out.mono ?_; rintro e w' ⟨rfl, rfl⟩)
      | (go_at_call 57; refine HP.out.mono ?_; rintro e w' ⟨hb, A, c, rfl, hc, hr⟩; replace hb := Lib.hid hb; replace hr := Lib.hid hr; replace hc := Lib.hid hc)
      | (go_at_call 56; refine (HQ.out _ _ _ hr.out hc.out).mono ?_; rintro e w' ⟨hb2, A', c', rfl, hr2⟩; replace hb2 := Lib.hid hb2; replace hr2 := Lib.hid hr2))
    go_ret2
    exact ⟨below_on hb.out hb2.out, A', c', rfl, hr2.out⟩

set_option maxRecDepth 100000 in
set_option maxHeartbeats 1000000 in
theorem rMul_any (w : World) (A1 A2 : Option Addr) (c1 c2 : Nat) (a b : List Nat) (ra : RdW w w.heap.size A1 a) (rb : RdW w w.heap.size A2 b) (la : Lim a) (lb : Lim b) (na : a.length ≤ 9223372036854775807) (nb : b.length ≤ 9223372036854775807) :
    Calls Tryz.prog 28 #[.slice A1 a.length c1, .slice A2 b.length c2] w (REndsO w (mulO a b)) := by
  have HB := Lib.hid (rBoth_any w A1 A2 c1 c2 a b ra rb na nb)
  unfold mulO both
  rcases h : (isNat a && isNat b) with _ | _
  · rw [h] at HB
    rw [if_neg (by decide)]
    clear h ra rb la lb
    go_enter Tryz.func28, Tryz.ntmps28
    go_wp2_with (go_at_call 55; refine HB.out.mono ?_; rintro e w' ⟨rfl, rfl⟩)
    go_ret2
    exact ⟨Below.refl _ _, none, 0, rfl, RdW.nil _ _ _⟩
  · rw [h] at HB
    rw [if_pos rfl]
    rw [Bool.and_eq_true] at h
    have na6 := (isNat_norm h.1).1
    have nb6 := (isNat_norm h.2).1
    have HP := Lib.hid (rProduct_any w A1 A2 c1 c2 a b ra rb la lb (by omega) (by omega))
    have hbd := limbs_mul_len (val_nat la h.1) (val_nat lb h.2)
    clear h ra rb la lb na6 nb6
    generalize val a * val b = v at *
    have HQ := Lib.hid fun (w1 : World) (A : Option Addr) (c : Nat) (hr : RdW w1 w1.heap.size A (limbs v)) (hc : (limbs v).length ≤ c) => rBounded_any w1 A c v hr (by omega) hc
    generalize cutO v = o at *
    clear hbd
    go_enter Tryz.func28, Tryz.ntmps28
    go_wp2_with (first
      | (go_at_call 55; refine HB.out.mono ?_; rintro e w' ⟨rfl, rfl⟩)
      | (go_at_call 60; refine HP.out.mono ?_; rintro e w' ⟨hb, A, c, rfl, hc, hr⟩; replace hb := Lib.hid hb; replace hr := Lib.hid hr; replace hc := Lib.hid hc)
      | (go_at_call 56; refine (HQ.out _ _ _ hr.out hc.out).mono ?_; rintro e w' ⟨hb2, A', c', rfl, hr2⟩; replace hb2 := Lib.hid hb2; replace hr2 := Lib.hid hr2))
    go_ret2
    exact ⟨below_on hb.out hb2.out, A', c', rfl, hr2.out⟩

set_option maxRecDepth 100000 in
set_option maxHeartbeats 1000000 in
theorem rSub_any (w : World) (A1 A2 : Option Addr) (c1 c2 : Nat) (a b : List Nat) (ra : RdW w w.heap.size A1 a) (rb : RdW w w.heap.size A2 b) (la : Lim a) (lb : Lim b) (na : a.length ≤ 9223372036854775807) (nb : b.length ≤ 9223372036854775807) :
    Calls Tryz.prog 27 #[.slice A1 a.length c1, .slice A2 b.length c2] w (REndsO w (subO a b)) := by
  have HB := Lib.hid (rBoth_any w A1 A2 c1 c2 a b ra rb na nb)
  unfold subO both
  rcases h : (isNat a && isNat b) with _ | _
  · rw [h] at HB
    rw [if_neg (by decide)]
    clear h ra rb la lb
    go_enter Tryz.func27, Tryz.ntmps27
    go_wp2_with (go_at_call 55; refine HB.out.mono ?_; rintro e w' ⟨rfl, rfl⟩)
    go_ret2
    exact ⟨Below.refl _ _, none, 0, rfl, RdW.nil _ _ _⟩
  · rw [h] at HB
    rw [if_pos rfl]
    rw [Bool.and_eq_true] at h
    have na6 := (isNat_norm h.1).1
    have nb6 := (isNat_norm h.2).1
    have HO := Lib.hid (rOrder_any w A1 A2 c1 c2 a b ra rb la lb (isNat_norm h.1).2 (isNat_norm h.2).2 (by omega))
    by_cases hv : val b ≤ val a
    · have hl := norm_len la (isNat_norm h.2).2 hv
      have HP := Lib.hid fun (w1 : World) (hb : Below w.heap.size w w1) => rMinus_any w1 A1 A2 c1 c2 a b ((ra.below hb (Nat.le_refl _)).mono hb.size) ((rb.below hb (Nat.le_refl _)).mono hb.size) la lb (by omega) hl hv
      have hf : (limbs (val a - val b)).length ≤ 640 := limbs_len.2 (by have := val_nat la h.1; omega)
      have e : diffO (val a) (val b) = .num (val a - val b) := by rw [diffO, if_pos hv]; exact if_pos hf
      have ec : (cmpI (val a) (val b) < 0) = False := by
        unfold cmpI
        rw [if_neg (by omega)]
        split <;> simp
      rw [e]
      clear h ra rb la lb hl hv hf e na6 nb6
      generalize cmpI (val a) (val b) = r at *
      generalize val a - val b = v at *
      have er : decide (r < 0) = false := decide_eq_false fun h => ec.mp h
      clear ec
      go_enter Tryz.func27, Tryz.ntmps27
      go_wp2_with (first
        | (go_at_call 55; refine HB.out.mono ?_; rintro e w' ⟨rfl, rfl⟩)
        | (go_at_call 58; refine HO.out.mono ?_; rintro e w' ⟨rfl, hb⟩; replace hb := Lib.hid hb)
        | (go_at_call 59; refine (HP.out _ hb.out).mono ?_; rintro e w' ⟨hb2, A', c', rfl, hc, hr2⟩; replace hb2 := Lib.hid hb2; replace hr2 := Lib.hid hr2; clear hc))
      go_ret2
      exact ⟨below_on hb.out hb2.out, A', c', rfl, hr2.out⟩
    · have e : diffO (val a) (val b) = .err 3 := if_neg hv
      have ec : cmpI (val a) (val b) = -1 := by rw [cmpI, if_pos (by omega)]
      rw [e]
      rw [ec] at HO
      clear h ra rb la lb hv e ec na6 nb6
      go_enter Tryz.func27, Tryz.ntmps27
      go_wp2_with (first
        | (go_at_call 55; refine HB.out.mono ?_; rintro e w' ⟨rfl, rfl⟩)
        | (go_at_call 58; refine HO.out.mono ?_; rintro e w' ⟨rfl, hb⟩; replace hb := Lib.hid hb))
      go_ret2
      exact ⟨hb.out, none, 0, rfl, RdW.nil _ _ _⟩

end Go.Proofs.YtgcobhlplffpjaaGreatDoor
