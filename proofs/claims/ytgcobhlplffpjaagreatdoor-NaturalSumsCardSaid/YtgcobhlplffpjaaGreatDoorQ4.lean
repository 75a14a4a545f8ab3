/- Walk: the law NaturalSums answers true. -/
import Derived.Test.YtgcobhlplffpjaaGreatDoorN9
namespace Go.Proofs.YtgcobhlplffpjaaGreatDoor
open Go.RowKit Go.Deep

set_option maxRecDepth 100000 in
set_option maxHeartbeats 8000000 in
theorem sums_good (w : World) (A1 A2 A3 : Option Addr) (c1 c2 c3 : Nat) (x y z : Nat) (hx : Fit x) (hy : Fit y) (hz : Fit z) (r1 : RdW w w.heap.size A1 (limbs x)) (r2 : RdW w w.heap.size A2 (limbs y)) (r3 : RdW w w.heap.size A3 (limbs z)) (hT : Tab w) :
    Calls Tryz.prog 4 #[.slice A1 (limbs x).length c1, .slice A2 (limbs y).length c2, .slice A3 (limbs z).length c3] w fun e w' => e = .returned (.bool true) ∧ Below w.heap.size w w' := by
  have HT := Lib.hid hT; clear hT
  have HB := Lib.hid (Below.refl w.heap.size w)
  have HR := Lib.hid (store3 r1 r2 r3); clear r1 r2 r3
  have k0 : kE (y + x) = kE (x + y) := by rw [Nat.add_comm]
  have s0 : decide (vE (x + y) = vE (y + x)) = true := by rw [Nat.add_comm y x]; simp
  by_cases F1 : Fit (x + y)
  · have k1 := kE_fit F1
    have k2 : kS (vE (x + y)) y = 0 := by rw [vE_fit F1]; exact kS_le (by omega)
    have s1 : decide (vE (x + y) - y = x) = true := by rw [vE_fit F1]; simp
    have f5 : Fit (vE (x + y) - y) := fitS _ (fitV _)
    rw [k1] at k0
    by_cases F2 : Fit (y + z)
    · have k3 := kE_fit F2
      have k5 : kE (x + vE (y + z)) = kE (vE (x + y) + z) := by rw [vE_fit F2, vE_fit F1, Nat.add_assoc]
      have s2 : decide (vE (vE (x + y) + z) = vE (x + vE (y + z))) = true := by rw [vE_fit F2, vE_fit F1, Nat.add_assoc]; simp
      by_cases F3 : Fit (vE (x + y) + z)
      · have k4 := kE_fit F3
        rw [k4] at k5
        clear F1 F2 F3
        go_enter Tryz.func4, Tryz.ntmps4
        go_wp2_with (first
            | (go_at_call 12; refine (head_any _ (HT.out.below HB.out)).mono ?_; rintro e w' ⟨rfl, hb⟩; replace HR := Lib.hid (HR.out.on hb); replace HB := Lib.hid (below_on HB.out hb); clear hb)
            | (go_at_call 17; refine (threeN _ _ _ _ _ _ _ _ _ _ ?_ ?_ ?_ ?_ ?_ ?_).mono ?_; (first | exact fitV _ | assumption | exact fitQ _ (by assumption) | exact fitR _ (by assumption) | exact fitS _ (by assumption) | exact fit_zero | exact fitP _); (first | exact fitV _ | assumption | exact fitQ _ (by assumption) | exact fitR _ (by assumption) | exact fitS _ (by assumption) | exact fit_zero | exact fitP _); (first | exact fitV _ | assumption | exact fitQ _ (by assumption) | exact fitR _ (by assumption) | exact fitS _ (by assumption) | exact fit_zero | exact fitP _); exact HR.out.rd (by repeat (first | exact List.Mem.head _ | apply List.Mem.tail)); exact HR.out.rd (by repeat (first | exact List.Mem.head _ | apply List.Mem.tail)); exact HR.out.rd (by repeat (first | exact List.Mem.head _ | apply List.Mem.tail)); rintro e w' ⟨rfl, rfl⟩)
            | (go_at_call 18; refine (addU _ _ _ _ _ _ _ ?_ ?_ ?_ ?_).mono ?_; (first | exact fitV _ | assumption | exact fitQ _ (by assumption) | exact fitR _ (by assumption) | exact fitS _ (by assumption) | exact fit_zero | exact fitP _); (first | exact fitV _ | assumption | exact fitQ _ (by assumption) | exact fitR _ (by assumption) | exact fitS _ (by assumption) | exact fit_zero | exact fitP _); exact HR.out.rd (by repeat (first | exact List.Mem.head _ | apply List.Mem.tail)); exact HR.out.rd (by repeat (first | exact List.Mem.head _ | apply List.Mem.tail)); rintro e w' ⟨hb, A', c', rfl, hr⟩; replace HR := Lib.hid (HR.out.push hb hr); replace HB := Lib.hid (below_on HB.out hb); clear hb hr)
            | (go_at_call 19; refine (subU _ _ _ _ _ _ _ ?_ ?_ ?_ ?_).mono ?_; (first | exact fitV _ | assumption | exact fitQ _ (by assumption) | exact fitR _ (by assumption) | exact fitS _ (by assumption) | exact fit_zero | exact fitP _); (first | exact fitV _ | assumption | exact fitQ _ (by assumption) | exact fitR _ (by assumption) | exact fitS _ (by assumption) | exact fit_zero | exact fitP _); exact HR.out.rd (by repeat (first | exact List.Mem.head _ | apply List.Mem.tail)); exact HR.out.rd (by repeat (first | exact List.Mem.head _ | apply List.Mem.tail)); rintro e w' ⟨hb, A', c', rfl, hr⟩; replace HR := Lib.hid (HR.out.push hb hr); replace HB := Lib.hid (below_on HB.out hb); clear hb hr)
            | (go_at_call 15; refine (sameU _ _ _ _ _ _ _ ?_ ?_ ?_).mono ?_; (first | exact fitV _ | assumption | exact fitQ _ (by assumption) | exact fitR _ (by assumption) | exact fitS _ (by assumption) | exact fit_zero | exact fitP _); exact HR.out.rd (by repeat (first | exact List.Mem.head _ | apply List.Mem.tail)); exact HR.out.rd (by repeat (first | exact List.Mem.head _ | apply List.Mem.tail)); rintro e w' ⟨hb, rfl⟩; replace HR := Lib.hid (HR.out.on hb); replace HB := Lib.hid (below_on HB.out hb); clear hb)
            | (go_at_call 13; refine (validN _ _ _ _ ?_ ?_).mono ?_; (first | exact fitV _ | assumption | exact fitQ _ (by assumption) | exact fitR _ (by assumption) | exact fitS _ (by assumption) | exact fit_zero | exact fitP _); exact HR.out.rd (by repeat (first | exact List.Mem.head _ | apply List.Mem.tail)); rintro e w' ⟨rfl, rfl⟩))
        go_ret
        exact ⟨rfl, HB.out⟩
      · have k4 := kE_big F3
        rw [k4] at k5
        clear F1 F2 F3
        go_enter Tryz.func4, Tryz.ntmps4
        go_wp2_with (first
            | (go_at_call 12; refine (head_any _ (HT.out.below HB.out)).mono ?_; rintro e w' ⟨rfl, hb⟩; replace HR := Lib.hid (HR.out.on hb); replace HB := Lib.hid (below_on HB.out hb); clear hb)
            | (go_at_call 17; refine (threeN _ _ _ _ _ _ _ _ _ _ ?_ ?_ ?_ ?_ ?_ ?_).mono ?_; (first | exact fitV _ | assumption | exact fitQ _ (by assumption) | exact fitR _ (by assumption) | exact fitS _ (by assumption) | exact fit_zero | exact fitP _); (first | exact fitV _ | assumption | exact fitQ _ (by assumption) | exact fitR _ (by assumption) | exact fitS _ (by assumption) | exact fit_zero | exact fitP _); (first | exact fitV _ | assumption | exact fitQ _ (by assumption) | exact fitR _ (by assumption) | exact fitS _ (by assumption) | exact fit_zero | exact fitP _); exact HR.out.rd (by repeat (first | exact List.Mem.head _ | apply List.Mem.tail)); exact HR.out.rd (by repeat (first | exact List.Mem.head _ | apply List.Mem.tail)); exact HR.out.rd (by repeat (first | exact List.Mem.head _ | apply List.Mem.tail)); rintro e w' ⟨rfl, rfl⟩)
            | (go_at_call 18; refine (addU _ _ _ _ _ _ _ ?_ ?_ ?_ ?_).mono ?_; (first | exact fitV _ | assumption | exact fitQ _ (by assumption) | exact fitR _ (by assumption) | exact fitS _ (by assumption) | exact fit_zero | exact fitP _); (first | exact fitV _ | assumption | exact fitQ _ (by assumption) | exact fitR _ (by assumption) | exact fitS _ (by assumption) | exact fit_zero | exact fitP _); exact HR.out.rd (by repeat (first | exact List.Mem.head _ | apply List.Mem.tail)); exact HR.out.rd (by repeat (first | exact List.Mem.head _ | apply List.Mem.tail)); rintro e w' ⟨hb, A', c', rfl, hr⟩; replace HR := Lib.hid (HR.out.push hb hr); replace HB := Lib.hid (below_on HB.out hb); clear hb hr)
            | (go_at_call 19; refine (subU _ _ _ _ _ _ _ ?_ ?_ ?_ ?_).mono ?_; (first | exact fitV _ | assumption | exact fitQ _ (by assumption) | exact fitR _ (by assumption) | exact fitS _ (by assumption) | exact fit_zero | exact fitP _); (first | exact fitV _ | assumption | exact fitQ _ (by assumption) | exact fitR _ (by assumption) | exact fitS _ (by assumption) | exact fit_zero | exact fitP _); exact HR.out.rd (by repeat (first | exact List.Mem.head _ | apply List.Mem.tail)); exact HR.out.rd (by repeat (first | exact List.Mem.head _ | apply List.Mem.tail)); rintro e w' ⟨hb, A', c', rfl, hr⟩; replace HR := Lib.hid (HR.out.push hb hr); replace HB := Lib.hid (below_on HB.out hb); clear hb hr)
            | (go_at_call 15; refine (sameU _ _ _ _ _ _ _ ?_ ?_ ?_).mono ?_; (first | exact fitV _ | assumption | exact fitQ _ (by assumption) | exact fitR _ (by assumption) | exact fitS _ (by assumption) | exact fit_zero | exact fitP _); exact HR.out.rd (by repeat (first | exact List.Mem.head _ | apply List.Mem.tail)); exact HR.out.rd (by repeat (first | exact List.Mem.head _ | apply List.Mem.tail)); rintro e w' ⟨hb, rfl⟩; replace HR := Lib.hid (HR.out.on hb); replace HB := Lib.hid (below_on HB.out hb); clear hb)
            | (go_at_call 13; refine (validN _ _ _ _ ?_ ?_).mono ?_; (first | exact fitV _ | assumption | exact fitQ _ (by assumption) | exact fitR _ (by assumption) | exact fitS _ (by assumption) | exact fit_zero | exact fitP _); exact HR.out.rd (by repeat (first | exact List.Mem.head _ | apply List.Mem.tail)); rintro e w' ⟨rfl, rfl⟩))
        go_ret
        exact ⟨rfl, HB.out⟩
    · have k3 := kE_big F2
      have k4 : kE (vE (x + y) + z) = 2 := kE_big (fun h => F2 (fit_mono (by rw [vE_fit F1]; omega) h))
      clear F1 F2
      go_enter Tryz.func4, Tryz.ntmps4
      go_wp2_with (first
          | (go_at_call 12; refine (head_any _ (HT.out.below HB.out)).mono ?_; rintro e w' ⟨rfl, hb⟩; replace HR := Lib.hid (HR.out.on hb); replace HB := Lib.hid (below_on HB.out hb); clear hb)
          | (go_at_call 17; refine (threeN _ _ _ _ _ _ _ _ _ _ ?_ ?_ ?_ ?_ ?_ ?_).mono ?_; (first | exact fitV _ | assumption | exact fitQ _ (by assumption) | exact fitR _ (by assumption) | exact fitS _ (by assumption) | exact fit_zero | exact fitP _); (first | exact fitV _ | assumption | exact fitQ _ (by assumption) | exact fitR _ (by assumption) | exact fitS _ (by assumption) | exact fit_zero | exact fitP _); (first | exact fitV _ | assumption | exact fitQ _ (by assumption) | exact fitR _ (by assumption) | exact fitS _ (by assumption) | exact fit_zero | exact fitP _); exact HR.out.rd (by repeat (first | exact List.Mem.head _ | apply List.Mem.tail)); exact HR.out.rd (by repeat (first | exact List.Mem.head _ | apply List.Mem.tail)); exact HR.out.rd (by repeat (first | exact List.Mem.head _ | apply List.Mem.tail)); rintro e w' ⟨rfl, rfl⟩)
          | (go_at_call 18; refine (addU _ _ _ _ _ _ _ ?_ ?_ ?_ ?_).mono ?_; (first | exact fitV _ | assumption | exact fitQ _ (by assumption) | exact fitR _ (by assumption) | exact fitS _ (by assumption) | exact fit_zero | exact fitP _); (first | exact fitV _ | assumption | exact fitQ _ (by assumption) | exact fitR _ (by assumption) | exact fitS _ (by assumption) | exact fit_zero | exact fitP _); exact HR.out.rd (by repeat (first | exact List.Mem.head _ | apply List.Mem.tail)); exact HR.out.rd (by repeat (first | exact List.Mem.head _ | apply List.Mem.tail)); rintro e w' ⟨hb, A', c', rfl, hr⟩; replace HR := Lib.hid (HR.out.push hb hr); replace HB := Lib.hid (below_on HB.out hb); clear hb hr)
          | (go_at_call 19; refine (subU _ _ _ _ _ _ _ ?_ ?_ ?_ ?_).mono ?_; (first | exact fitV _ | assumption | exact fitQ _ (by assumption) | exact fitR _ (by assumption) | exact fitS _ (by assumption) | exact fit_zero | exact fitP _); (first | exact fitV _ | assumption | exact fitQ _ (by assumption) | exact fitR _ (by assumption) | exact fitS _ (by assumption) | exact fit_zero | exact fitP _); exact HR.out.rd (by repeat (first | exact List.Mem.head _ | apply List.Mem.tail)); exact HR.out.rd (by repeat (first | exact List.Mem.head _ | apply List.Mem.tail)); rintro e w' ⟨hb, A', c', rfl, hr⟩; replace HR := Lib.hid (HR.out.push hb hr); replace HB := Lib.hid (below_on HB.out hb); clear hb hr)
          | (go_at_call 15; refine (sameU _ _ _ _ _ _ _ ?_ ?_ ?_).mono ?_; (first | exact fitV _ | assumption | exact fitQ _ (by assumption) | exact fitR _ (by assumption) | exact fitS _ (by assumption) | exact fit_zero | exact fitP _); exact HR.out.rd (by repeat (first | exact List.Mem.head _ | apply List.Mem.tail)); exact HR.out.rd (by repeat (first | exact List.Mem.head _ | apply List.Mem.tail)); rintro e w' ⟨hb, rfl⟩; replace HR := Lib.hid (HR.out.on hb); replace HB := Lib.hid (below_on HB.out hb); clear hb)
          | (go_at_call 13; refine (validN _ _ _ _ ?_ ?_).mono ?_; (first | exact fitV _ | assumption | exact fitQ _ (by assumption) | exact fitR _ (by assumption) | exact fitS _ (by assumption) | exact fit_zero | exact fitP _); exact HR.out.rd (by repeat (first | exact List.Mem.head _ | apply List.Mem.tail)); rintro e w' ⟨rfl, rfl⟩))
      go_ret
      exact ⟨rfl, HB.out⟩
  · have k1 := kE_big F1
    rw [k1] at k0
    by_cases F2 : Fit (y + z)
    · have k3 := kE_fit F2
      have k5 : kE (x + vE (y + z)) = 2 := kE_big (fun h => F1 (fit_mono (by rw [vE_fit F2]; omega) h))
      clear F1 F2
      go_enter Tryz.func4, Tryz.ntmps4
      go_wp2_with (first
          | (go_at_call 12; refine (head_any _ (HT.out.below HB.out)).mono ?_; rintro e w' ⟨rfl, hb⟩; replace HR := Lib.hid (HR.out.on hb); replace HB := Lib.hid (below_on HB.out hb); clear hb)
          | (go_at_call 17; refine (threeN _ _ _ _ _ _ _ _ _ _ ?_ ?_ ?_ ?_ ?_ ?_).mono ?_; (first | exact fitV _ | assumption | exact fitQ _ (by assumption) | exact fitR _ (by assumption) | exact fitS _ (by assumption) | exact fit_zero | exact fitP _); (first | exact fitV _ | assumption | exact fitQ _ (by assumption) | exact fitR _ (by assumption) | exact fitS _ (by assumption) | exact fit_zero | exact fitP _); (first | exact fitV _ | assumption | exact fitQ _ (by assumption) | exact fitR _ (by assumption) | exact fitS _ (by assumption) | exact fit_zero | exact fitP _); exact HR.out.rd (by repeat (first | exact List.Mem.head _ | apply List.Mem.tail)); exact HR.out.rd (by repeat (first | exact List.Mem.head _ | apply List.Mem.tail)); exact HR.out.rd (by repeat (first | exact List.Mem.head _ | apply List.Mem.tail)); rintro e w' ⟨rfl, rfl⟩)
          | (go_at_call 18; refine (addU _ _ _ _ _ _ _ ?_ ?_ ?_ ?_).mono ?_; (first | exact fitV _ | assumption | exact fitQ _ (by assumption) | exact fitR _ (by assumption) | exact fitS _ (by assumption) | exact fit_zero | exact fitP _); (first | exact fitV _ | assumption | exact fitQ _ (by assumption) | exact fitR _ (by assumption) | exact fitS _ (by assumption) | exact fit_zero | exact fitP _); exact HR.out.rd (by repeat (first | exact List.Mem.head _ | apply List.Mem.tail)); exact HR.out.rd (by repeat (first | exact List.Mem.head _ | apply List.Mem.tail)); rintro e w' ⟨hb, A', c', rfl, hr⟩; replace HR := Lib.hid (HR.out.push hb hr); replace HB := Lib.hid (below_on HB.out hb); clear hb hr)
          | (go_at_call 19; refine (subU _ _ _ _ _ _ _ ?_ ?_ ?_ ?_).mono ?_; (first | exact fitV _ | assumption | exact fitQ _ (by assumption) | exact fitR _ (by assumption) | exact fitS _ (by assumption) | exact fit_zero | exact fitP _); (first | exact fitV _ | assumption | exact fitQ _ (by assumption) | exact fitR _ (by assumption) | exact fitS _ (by assumption) | exact fit_zero | exact fitP _); exact HR.out.rd (by repeat (first | exact List.Mem.head _ | apply List.Mem.tail)); exact HR.out.rd (by repeat (first | exact List.Mem.head _ | apply List.Mem.tail)); rintro e w' ⟨hb, A', c', rfl, hr⟩; replace HR := Lib.hid (HR.out.push hb hr); replace HB := Lib.hid (below_on HB.out hb); clear hb hr)
          | (go_at_call 15; refine (sameU _ _ _ _ _ _ _ ?_ ?_ ?_).mono ?_; (first | exact fitV _ | assumption | exact fitQ _ (by assumption) | exact fitR _ (by assumption) | exact fitS _ (by assumption) | exact fit_zero | exact fitP _); exact HR.out.rd (by repeat (first | exact List.Mem.head _ | apply List.Mem.tail)); exact HR.out.rd (by repeat (first | exact List.Mem.head _ | apply List.Mem.tail)); rintro e w' ⟨hb, rfl⟩; replace HR := Lib.hid (HR.out.on hb); replace HB := Lib.hid (below_on HB.out hb); clear hb)
          | (go_at_call 13; refine (validN _ _ _ _ ?_ ?_).mono ?_; (first | exact fitV _ | assumption | exact fitQ _ (by assumption) | exact fitR _ (by assumption) | exact fitS _ (by assumption) | exact fit_zero | exact fitP _); exact HR.out.rd (by repeat (first | exact List.Mem.head _ | apply List.Mem.tail)); rintro e w' ⟨rfl, rfl⟩))
      go_ret
      exact ⟨rfl, HB.out⟩
    · have k3 := kE_big F2
      clear F1 F2
      go_enter Tryz.func4, Tryz.ntmps4
      go_wp2_with (first
          | (go_at_call 12; refine (head_any _ (HT.out.below HB.out)).mono ?_; rintro e w' ⟨rfl, hb⟩; replace HR := Lib.hid (HR.out.on hb); replace HB := Lib.hid (below_on HB.out hb); clear hb)
          | (go_at_call 17; refine (threeN _ _ _ _ _ _ _ _ _ _ ?_ ?_ ?_ ?_ ?_ ?_).mono ?_; (first | exact fitV _ | assumption | exact fitQ _ (by assumption) | exact fitR _ (by assumption) | exact fitS _ (by assumption) | exact fit_zero | exact fitP _); (first | exact fitV _ | assumption | exact fitQ _ (by assumption) | exact fitR _ (by assumption) | exact fitS _ (by assumption) | exact fit_zero | exact fitP _); (first | exact fitV _ | assumption | exact fitQ _ (by assumption) | exact fitR _ (by assumption) | exact fitS _ (by assumption) | exact fit_zero | exact fitP _); exact HR.out.rd (by repeat (first | exact List.Mem.head _ | apply List.Mem.tail)); exact HR.out.rd (by repeat (first | exact List.Mem.head _ | apply List.Mem.tail)); exact HR.out.rd (by repeat (first | exact List.Mem.head _ | apply List.Mem.tail)); rintro e w' ⟨rfl, rfl⟩)
          | (go_at_call 18; refine (addU _ _ _ _ _ _ _ ?_ ?_ ?_ ?_).mono ?_; (first | exact fitV _ | assumption | exact fitQ _ (by assumption) | exact fitR _ (by assumption) | exact fitS _ (by assumption) | exact fit_zero | exact fitP _); (first | exact fitV _ | assumption | exact fitQ _ (by assumption) | exact fitR _ (by assumption) | exact fitS _ (by assumption) | exact fit_zero | exact fitP _); exact HR.out.rd (by repeat (first | exact List.Mem.head _ | apply List.Mem.tail)); exact HR.out.rd (by repeat (first | exact List.Mem.head _ | apply List.Mem.tail)); rintro e w' ⟨hb, A', c', rfl, hr⟩; replace HR := Lib.hid (HR.out.push hb hr); replace HB := Lib.hid (below_on HB.out hb); clear hb hr)
          | (go_at_call 19; refine (subU _ _ _ _ _ _ _ ?_ ?_ ?_ ?_).mono ?_; (first | exact fitV _ | assumption | exact fitQ _ (by assumption) | exact fitR _ (by assumption) | exact fitS _ (by assumption) | exact fit_zero | exact fitP _); (first | exact fitV _ | assumption | exact fitQ _ (by assumption) | exact fitR _ (by assumption) | exact fitS _ (by assumption) | exact fit_zero | exact fitP _); exact HR.out.rd (by repeat (first | exact List.Mem.head _ | apply List.Mem.tail)); exact HR.out.rd (by repeat (first | exact List.Mem.head _ | apply List.Mem.tail)); rintro e w' ⟨hb, A', c', rfl, hr⟩; replace HR := Lib.hid (HR.out.push hb hr); replace HB := Lib.hid (below_on HB.out hb); clear hb hr)
          | (go_at_call 15; refine (sameU _ _ _ _ _ _ _ ?_ ?_ ?_).mono ?_; (first | exact fitV _ | assumption | exact fitQ _ (by assumption) | exact fitR _ (by assumption) | exact fitS _ (by assumption) | exact fit_zero | exact fitP _); exact HR.out.rd (by repeat (first | exact List.Mem.head _ | apply List.Mem.tail)); exact HR.out.rd (by repeat (first | exact List.Mem.head _ | apply List.Mem.tail)); rintro e w' ⟨hb, rfl⟩; replace HR := Lib.hid (HR.out.on hb); replace HB := Lib.hid (below_on HB.out hb); clear hb)
          | (go_at_call 13; refine (validN _ _ _ _ ?_ ?_).mono ?_; (first | exact fitV _ | assumption | exact fitQ _ (by assumption) | exact fitR _ (by assumption) | exact fitS _ (by assumption) | exact fit_zero | exact fitP _); exact HR.out.rd (by repeat (first | exact List.Mem.head _ | apply List.Mem.tail)); rintro e w' ⟨rfl, rfl⟩))
      go_ret
      exact ⟨rfl, HB.out⟩



set_option maxRecDepth 100000 in
set_option maxHeartbeats 1000000 in
theorem sums_bad (w : World) (A1 A2 A3 : Option Addr) (c1 c2 c3 : Nat) (a b c : List Nat) (r1 : RdW w w.heap.size A1 a) (r2 : RdW w w.heap.size A2 b) (r3 : RdW w w.heap.size A3 c) (na : a.length ≤ 9223372036854775807) (nb : b.length ≤ 9223372036854775807) (nc : c.length ≤ 9223372036854775807) (hT : Tab w) (hbad : (isNat a && isNat b && isNat c) = false) :
    Calls Tryz.prog 4 #[.slice A1 a.length c1, .slice A2 b.length c2, .slice A3 c.length c3] w fun e w' => e = .returned (.bool true) ∧ Below w.heap.size w w' := by
  have H3 := Lib.hid fun (w1 : World) (hb : Below w.heap.size w w1) => three_any w1 A1 A2 A3 c1 c2 c3 a b c ((r1.below hb (Nat.le_refl _)).mono hb.size) ((r2.below hb (Nat.le_refl _)).mono hb.size) ((r3.below hb (Nat.le_refl _)).mono hb.size) na nb nc
  rw [hbad] at H3
  have HT := Lib.hid hT; clear hT hbad r1 r2 r3
  go_enter Tryz.func4, Tryz.ntmps4
  go_wp2_with (first
    | (go_at_call 12; refine (head_any _ HT.out).mono ?_; rintro e w1 ⟨rfl, hb⟩; replace hb := Lib.hid hb)
    | (go_at_call 17; refine (H3.out _ hb.out).mono ?_; rintro e w' ⟨rfl, rfl⟩))
  go_ret
  exact ⟨rfl, hb.out⟩

theorem sums_any (w : World) (A1 A2 A3 : Option Addr) (c1 c2 c3 : Nat) (a b c : List Nat) (r1 : RdW w w.heap.size A1 a) (r2 : RdW w w.heap.size A2 b) (r3 : RdW w w.heap.size A3 c) (la : Lim a) (lb : Lim b) (lc : Lim c) (na : a.length ≤ 9223372036854775807) (nb : b.length ≤ 9223372036854775807) (nc : c.length ≤ 9223372036854775807) (hT : Tab w) :
    Calls Tryz.prog 4 #[.slice A1 a.length c1, .slice A2 b.length c2, .slice A3 c.length c3] w fun e w' => e = .returned (.bool true) ∧ Below w.heap.size w w' := by
  rcases h : (isNat a && isNat b && isNat c) with _ | _
  · exact sums_bad w A1 A2 A3 c1 c2 c3 a b c r1 r2 r3 na nb nc hT h
  · rw [Bool.and_eq_true, Bool.and_eq_true] at h
    obtain ⟨⟨ha, hb⟩, hc⟩ := h
    have e1 := isNat_eq la ha
    have e2 := isNat_eq lb hb
    have e3 := isNat_eq lc hc
    have f1 : Fit (val a) := by unfold Fit; rw [← e1]; exact (isNat_norm ha).1
    have f2 : Fit (val b) := by unfold Fit; rw [← e2]; exact (isNat_norm hb).1
    have f3 : Fit (val c) := by unfold Fit; rw [← e3]; exact (isNat_norm hc).1
    have := sums_good w A1 A2 A3 c1 c2 c3 (val a) (val b) (val c) f1 f2 f3 (by rw [← e1]; exact r1) (by rw [← e2]; exact r2) (by rw [← e3]; exact r3) hT
    rw [← e1, ← e2, ← e3] at this
    exact this

end Go.Proofs.YtgcobhlplffpjaaGreatDoor
