/- Walk: the law NaturalProducts answers true. -/
import Derived.Test.YtgcobhlplffpjaaGreatDoorQ0
namespace Go.Proofs.YtgcobhlplffpjaaGreatDoor
open Go.RowKit Go.Deep

set_option maxRecDepth 100000 in
set_option maxHeartbeats 8000000 in
theorem products_good (w : World) (A1 A2 A3 : Option Addr) (c1 c2 c3 : Nat) (x y z : Nat) (hx : Fit x) (hy : Fit y) (hz : Fit z) (r1 : RdW w w.heap.size A1 (limbs x)) (r2 : RdW w w.heap.size A2 (limbs y)) (r3 : RdW w w.heap.size A3 (limbs z)) (hT : Tab w) :
    Calls Tryz.prog 5 #[.slice A1 (limbs x).length c1, .slice A2 (limbs y).length c2, .slice A3 (limbs z).length c3] w fun e w' => e = .returned (.bool true) ∧ Below w.heap.size w w' := by
  have HT := Lib.hid hT; clear hT
  have HB := Lib.hid (Below.refl w.heap.size w)
  have HR := Lib.hid (store3 r1 r2 r3); clear r1 r2 r3
  have k0 : kE (y * x) = kE (x * y) := by rw [Nat.mul_comm]
  have s0 : decide (vE (x * y) = vE (y * x)) = true := by rw [Nat.mul_comm y x]; simp
  by_cases F1 : Fit (x * y)
  · have k1 := kE_fit F1
    rw [k1] at k0
    have v1 := Lib.hid (vE_fit F1)
    have hq : (((limbs (vE (x * y))).length : Int) == 0) = ((((limbs x).length : Int) == 0) || (((limbs y).length : Int) == 0)) := by
      rw [len_zero, len_zero, len_zero, v1.out, ← Bool.decide_or]
      exact decide_eq_decide.2 Nat.mul_eq_zero
    clear F1
    by_cases X : x = 0
    · have q1 : (((limbs x).length : Int) == 0) = true := by rw [len_zero]; exact decide_eq_true X
      rw [q1, Bool.true_or] at hq
      clear X
      by_cases G : Fit (y * z)
      · have k2 := kE_fit G
        have k4 : kE (x * vE (y * z)) = kE (vE (x * y) * z) := by rw [vE_fit G, v1.out, Nat.mul_assoc]
        by_cases H : Fit (vE (x * y) * z)
        · have k3 := kE_fit H
          rw [k3] at k4
          have s1 : decide (vE (vE (x * y) * z) = vE (x * vE (y * z))) = true := by
            rw [v1.out, vE_fit G, Nat.mul_assoc]
            simp
          clear G H
          by_cases J : Fit (y + z)
          · have k6 := kE_fit J
            by_cases K : Fit (x * vE (y + z))
            · have k7 := kE_fit K
              have k8 : kE (x * z) = 0 := kE_fit (fit_mono (by rw [vE_fit J, Nat.mul_add]; omega) K)
              have k9 : kE (vE (x * y) + vE (x * z)) = 0 := by
                rw [v1.out, (kE_zero k8).2]
                refine kE_fit ?_
                rw [← Nat.mul_add, ← vE_fit J]
                exact K
              have s9 : decide (vE (x * vE (y + z)) = vE (vE (x * y) + vE (x * z))) = true := by
                rw [v1.out, (kE_zero k8).2, vE_fit J, Nat.mul_add]
                simp
              clear J K
              go_enter Tryz.func5, Tryz.ntmps5
              go_wp2_with (first
                  | (go_at_call 12; refine (head_any _ (HT.out.below HB.out)).mono ?_; rintro e w' ⟨rfl, hb⟩; replace HR := Lib.hid (HR.out.on hb); replace HB := Lib.hid (below_on HB.out hb); clear hb)
                  | (go_at_call 17; refine (threeN _ _ _ _ _ _ _ _ _ _ ?_ ?_ ?_ ?_ ?_ ?_).mono ?_; (first | exact fitV _ | assumption | exact fitQ _ (by assumption) | exact fitR _ (by assumption) | exact fitS _ (by assumption) | exact fit_zero | exact fitP _); (first | exact fitV _ | assumption | exact fitQ _ (by assumption) | exact fitR _ (by assumption) | exact fitS _ (by assumption) | exact fit_zero | exact fitP _); (first | exact fitV _ | assumption | exact fitQ _ (by assumption) | exact fitR _ (by assumption) | exact fitS _ (by assumption) | exact fit_zero | exact fitP _); exact HR.out.rd (by repeat (first | exact List.Mem.head _ | apply List.Mem.tail)); exact HR.out.rd (by repeat (first | exact List.Mem.head _ | apply List.Mem.tail)); exact HR.out.rd (by repeat (first | exact List.Mem.head _ | apply List.Mem.tail)); rintro e w' ⟨rfl, rfl⟩)
                  | (go_at_call 18; refine (addU _ _ _ _ _ _ _ ?_ ?_ ?_ ?_).mono ?_; (first | exact fitV _ | assumption | exact fitQ _ (by assumption) | exact fitR _ (by assumption) | exact fitS _ (by assumption) | exact fit_zero | exact fitP _); (first | exact fitV _ | assumption | exact fitQ _ (by assumption) | exact fitR _ (by assumption) | exact fitS _ (by assumption) | exact fit_zero | exact fitP _); exact HR.out.rd (by repeat (first | exact List.Mem.head _ | apply List.Mem.tail)); exact HR.out.rd (by repeat (first | exact List.Mem.head _ | apply List.Mem.tail)); rintro e w' ⟨hb, A', c', rfl, hr⟩; replace HR := Lib.hid (HR.out.push hb hr); replace HB := Lib.hid (below_on HB.out hb); clear hb hr)
                  | (go_at_call 16; refine (mulU _ _ _ _ _ _ _ ?_ ?_ ?_ ?_).mono ?_; (first | exact fitV _ | assumption | exact fitQ _ (by assumption) | exact fitR _ (by assumption) | exact fitS _ (by assumption) | exact fit_zero | exact fitP _); (first | exact fitV _ | assumption | exact fitQ _ (by assumption) | exact fitR _ (by assumption) | exact fitS _ (by assumption) | exact fit_zero | exact fitP _); exact HR.out.rd (by repeat (first | exact List.Mem.head _ | apply List.Mem.tail)); exact HR.out.rd (by repeat (first | exact List.Mem.head _ | apply List.Mem.tail)); rintro e w' ⟨hb, A', c', rfl, hr⟩; replace HR := Lib.hid (HR.out.push hb hr); replace HB := Lib.hid (below_on HB.out hb); clear hb hr)
                  | (go_at_call 15; refine (sameU _ _ _ _ _ _ _ ?_ ?_ ?_).mono ?_; (first | exact fitV _ | assumption | exact fitQ _ (by assumption) | exact fitR _ (by assumption) | exact fitS _ (by assumption) | exact fit_zero | exact fitP _); exact HR.out.rd (by repeat (first | exact List.Mem.head _ | apply List.Mem.tail)); exact HR.out.rd (by repeat (first | exact List.Mem.head _ | apply List.Mem.tail)); rintro e w' ⟨hb, rfl⟩; replace HR := Lib.hid (HR.out.on hb); replace HB := Lib.hid (below_on HB.out hb); clear hb)
                  | (go_at_call 13; refine (validN _ _ _ _ ?_ ?_).mono ?_; (first | exact fitV _ | assumption | exact fitQ _ (by assumption) | exact fitR _ (by assumption) | exact fitS _ (by assumption) | exact fit_zero | exact fitP _); exact HR.out.rd (by repeat (first | exact List.Mem.head _ | apply List.Mem.tail)); rintro e w' ⟨rfl, rfl⟩))
              go_ret
              exact ⟨rfl, HB.out⟩
            · have k7 := kE_big K
              clear J K
              go_enter Tryz.func5, Tryz.ntmps5
              go_wp2_with (first
                  | (go_at_call 12; refine (head_any _ (HT.out.below HB.out)).mono ?_; rintro e w' ⟨rfl, hb⟩; replace HR := Lib.hid (HR.out.on hb); replace HB := Lib.hid (below_on HB.out hb); clear hb)
                  | (go_at_call 17; refine (threeN _ _ _ _ _ _ _ _ _ _ ?_ ?_ ?_ ?_ ?_ ?_).mono ?_; (first | exact fitV _ | assumption | exact fitQ _ (by assumption) | exact fitR _ (by assumption) | exact fitS _ (by assumption) | exact fit_zero | exact fitP _); (first | exact fitV _ | assumption | exact fitQ _ (by assumption) | exact fitR _ (by assumption) | exact fitS _ (by assumption) | exact fit_zero | exact fitP _); (first | exact fitV _ | assumption | exact fitQ _ (by assumption) | exact fitR _ (by assumption) | exact fitS _ (by assumption) | exact fit_zero | exact fitP _); exact HR.out.rd (by repeat (first | exact List.Mem.head _ | apply List.Mem.tail)); exact HR.out.rd (by repeat (first | exact List.Mem.head _ | apply List.Mem.tail)); exact HR.out.rd (by repeat (first | exact List.Mem.head _ | apply List.Mem.tail)); rintro e w' ⟨rfl, rfl⟩)
                  | (go_at_call 18; refine (addU _ _ _ _ _ _ _ ?_ ?_ ?_ ?_).mono ?_; (first | exact fitV _ | assumption | exact fitQ _ (by assumption) | exact fitR _ (by assumption) | exact fitS _ (by assumption) | exact fit_zero | exact fitP _); (first | exact fitV _ | assumption | exact fitQ _ (by assumption) | exact fitR _ (by assumption) | exact fitS _ (by assumption) | exact fit_zero | exact fitP _); exact HR.out.rd (by repeat (first | exact List.Mem.head _ | apply List.Mem.tail)); exact HR.out.rd (by repeat (first | exact List.Mem.head _ | apply List.Mem.tail)); rintro e w' ⟨hb, A', c', rfl, hr⟩; replace HR := Lib.hid (HR.out.push hb hr); replace HB := Lib.hid (below_on HB.out hb); clear hb hr)
                  | (go_at_call 16; refine (mulU _ _ _ _ _ _ _ ?_ ?_ ?_ ?_).mono ?_; (first | exact fitV _ | assumption | exact fitQ _ (by assumption) | exact fitR _ (by assumption) | exact fitS _ (by assumption) | exact fit_zero | exact fitP _); (first | exact fitV _ | assumption | exact fitQ _ (by assumption) | exact fitR _ (by assumption) | exact fitS _ (by assumption) | exact fit_zero | exact fitP _); exact HR.out.rd (by repeat (first | exact List.Mem.head _ | apply List.Mem.tail)); exact HR.out.rd (by repeat (first | exact List.Mem.head _ | apply List.Mem.tail)); rintro e w' ⟨hb, A', c', rfl, hr⟩; replace HR := Lib.hid (HR.out.push hb hr); replace HB := Lib.hid (below_on HB.out hb); clear hb hr)
                  | (go_at_call 15; refine (sameU _ _ _ _ _ _ _ ?_ ?_ ?_).mono ?_; (first | exact fitV _ | assumption | exact fitQ _ (by assumption) | exact fitR _ (by assumption) | exact fitS _ (by assumption) | exact fit_zero | exact fitP _); exact HR.out.rd (by repeat (first | exact List.Mem.head _ | apply List.Mem.tail)); exact HR.out.rd (by repeat (first | exact List.Mem.head _ | apply List.Mem.tail)); rintro e w' ⟨hb, rfl⟩; replace HR := Lib.hid (HR.out.on hb); replace HB := Lib.hid (below_on HB.out hb); clear hb)
                  | (go_at_call 13; refine (validN _ _ _ _ ?_ ?_).mono ?_; (first | exact fitV _ | assumption | exact fitQ _ (by assumption) | exact fitR _ (by assumption) | exact fitS _ (by assumption) | exact fit_zero | exact fitP _); exact HR.out.rd (by repeat (first | exact List.Mem.head _ | apply List.Mem.tail)); rintro e w' ⟨rfl, rfl⟩))
              go_ret
              exact ⟨rfl, HB.out⟩
          · have k6 := kE_big J
            clear J
            go_enter Tryz.func5, Tryz.ntmps5
            go_wp2_with (first
                | (go_at_call 12; refine (head_any _ (HT.out.below HB.out)).mono ?_; rintro e w' ⟨rfl, hb⟩; replace HR := Lib.hid (HR.out.on hb); replace HB := Lib.hid (below_on HB.out hb); clear hb)
                | (go_at_call 17; refine (threeN _ _ _ _ _ _ _ _ _ _ ?_ ?_ ?_ ?_ ?_ ?_).mono ?_; (first | exact fitV _ | assumption | exact fitQ _ (by assumption) | exact fitR _ (by assumption) | exact fitS _ (by assumption) | exact fit_zero | exact fitP _); (first | exact fitV _ | assumption | exact fitQ _ (by assumption) | exact fitR _ (by assumption) | exact fitS _ (by assumption) | exact fit_zero | exact fitP _); (first | exact fitV _ | assumption | exact fitQ _ (by assumption) | exact fitR _ (by assumption) | exact fitS _ (by assumption) | exact fit_zero | exact fitP _); exact HR.out.rd (by repeat (first | exact List.Mem.head _ | apply List.Mem.tail)); exact HR.out.rd (by repeat (first | exact List.Mem.head _ | apply List.Mem.tail)); exact HR.out.rd (by repeat (first | exact List.Mem.head _ | apply List.Mem.tail)); rintro e w' ⟨rfl, rfl⟩)
                | (go_at_call 18; refine (addU _ _ _ _ _ _ _ ?_ ?_ ?_ ?_).mono ?_; (first | exact fitV _ | assumption | exact fitQ _ (by assumption) | exact fitR _ (by assumption) | exact fitS _ (by assumption) | exact fit_zero | exact fitP _); (first | exact fitV _ | assumption | exact fitQ _ (by assumption) | exact fitR _ (by assumption) | exact fitS _ (by assumption) | exact fit_zero | exact fitP _); exact HR.out.rd (by repeat (first | exact List.Mem.head _ | apply List.Mem.tail)); exact HR.out.rd (by repeat (first | exact List.Mem.head _ | apply List.Mem.tail)); rintro e w' ⟨hb, A', c', rfl, hr⟩; replace HR := Lib.hid (HR.out.push hb hr); replace HB := Lib.hid (below_on HB.out hb); clear hb hr)
                | (go_at_call 16; refine (mulU _ _ _ _ _ _ _ ?_ ?_ ?_ ?_).mono ?_; (first | exact fitV _ | assumption | exact fitQ _ (by assumption) | exact fitR _ (by assumption) | exact fitS _ (by assumption) | exact fit_zero | exact fitP _); (first | exact fitV _ | assumption | exact fitQ _ (by assumption) | exact fitR _ (by assumption) | exact fitS _ (by assumption) | exact fit_zero | exact fitP _); exact HR.out.rd (by repeat (first | exact List.Mem.head _ | apply List.Mem.tail)); exact HR.out.rd (by repeat (first | exact List.Mem.head _ | apply List.Mem.tail)); rintro e w' ⟨hb, A', c', rfl, hr⟩; replace HR := Lib.hid (HR.out.push hb hr); replace HB := Lib.hid (below_on HB.out hb); clear hb hr)
                | (go_at_call 15; refine (sameU _ _ _ _ _ _ _ ?_ ?_ ?_).mono ?_; (first | exact fitV _ | assumption | exact fitQ _ (by assumption) | exact fitR _ (by assumption) | exact fitS _ (by assumption) | exact fit_zero | exact fitP _); exact HR.out.rd (by repeat (first | exact List.Mem.head _ | apply List.Mem.tail)); exact HR.out.rd (by repeat (first | exact List.Mem.head _ | apply List.Mem.tail)); rintro e w' ⟨hb, rfl⟩; replace HR := Lib.hid (HR.out.on hb); replace HB := Lib.hid (below_on HB.out hb); clear hb)
                | (go_at_call 13; refine (validN _ _ _ _ ?_ ?_).mono ?_; (first | exact fitV _ | assumption | exact fitQ _ (by assumption) | exact fitR _ (by assumption) | exact fitS _ (by assumption) | exact fit_zero | exact fitP _); exact HR.out.rd (by repeat (first | exact List.Mem.head _ | apply List.Mem.tail)); rintro e w' ⟨rfl, rfl⟩))
            go_ret
            exact ⟨rfl, HB.out⟩
        · have k3 := kE_big H
          rw [k3] at k4
          clear G H
          by_cases J : Fit (y + z)
          · have k6 := kE_fit J
            by_cases K : Fit (x * vE (y + z))
            · have k7 := kE_fit K
              have k8 : kE (x * z) = 0 := kE_fit (fit_mono (by rw [vE_fit J, Nat.mul_add]; omega) K)
              have k9 : kE (vE (x * y) + vE (x * z)) = 0 := by
                rw [v1.out, (kE_zero k8).2]
                refine kE_fit ?_
                rw [← Nat.mul_add, ← vE_fit J]
                exact K
              have s9 : decide (vE (x * vE (y + z)) = vE (vE (x * y) + vE (x * z))) = true := by
                rw [v1.out, (kE_zero k8).2, vE_fit J, Nat.mul_add]
                simp
              clear J K
              go_enter Tryz.func5, Tryz.ntmps5
              go_wp2_with (first
                  | (go_at_call 12; refine (head_any _ (HT.out.below HB.out)).mono ?_; rintro e w' ⟨rfl, hb⟩; replace HR := Lib.hid (HR.out.on hb); replace HB := Lib.hid (below_on HB.out hb); clear hb)
                  | (go_at_call 17; refine (threeN _ _ _ _ _ _ _ _ _ _ ?_ ?_ ?_ ?_ ?_ ?_).mono ?_; (first | exact fitV _ | assumption | exact fitQ _ (by assumption) | exact fitR _ (by assumption) | exact fitS _ (by assumption) | exact fit_zero | exact fitP _); (first | exact fitV _ | assumption | exact fitQ _ (by assumption) | exact fitR _ (by assumption) | exact fitS _ (by assumption) | exact fit_zero | exact fitP _); (first | exact fitV _ | assumption | exact fitQ _ (by assumption) | exact fitR _ (by assumption) | exact fitS _ (by assumption) | exact fit_zero | exact fitP _); exact HR.out.rd (by repeat (first | exact List.Mem.head _ | apply List.Mem.tail)); exact HR.out.rd (by repeat (first | exact List.Mem.head _ | apply List.Mem.tail)); exact HR.out.rd (by repeat (first | exact List.Mem.head _ | apply List.Mem.tail)); rintro e w' ⟨rfl, rfl⟩)
                  | (go_at_call 18; refine (addU _ _ _ _ _ _ _ ?_ ?_ ?_ ?_).mono ?_; (first | exact fitV _ | assumption | exact fitQ _ (by assumption) | exact fitR _ (by assumption) | exact fitS _ (by assumption) | exact fit_zero | exact fitP _); (first | exact fitV _ | assumption | exact fitQ _ (by assumption) | exact fitR _ (by assumption) | exact fitS _ (by assumption) | exact fit_zero | exact fitP _); exact HR.out.rd (by repeat (first | exact List.Mem.head _ | apply List.Mem.tail)); exact HR.out.rd (by repeat (first | exact List.Mem.head _ | apply List.Mem.tail)); rintro e w' ⟨hb, A', c', rfl, hr⟩; replace HR := Lib.hid (HR.out.push hb hr); replace HB := Lib.hid (below_on HB.out hb); clear hb hr)
                  | (go_at_call 16; refine (mulU _ _ _ _ _ _ _ ?_ ?_ ?_ ?_).mono ?_; (first | exact fitV _ | assumption | exact fitQ _ (by assumption) | exact fitR _ (by assumption) | exact fitS _ (by assumption) | exact fit_zero | exact fitP _); (first | exact fitV _ | assumption | exact fitQ _ (by assumption) | exact fitR _ (by assumption) | exact fitS _ (by assumption) | exact fit_zero | exact fitP _); exact HR.out.rd (by repeat (first | exact List.Mem.head _ | apply List.Mem.tail)); exact HR.out.rd (by repeat (first | exact List.Mem.head _ | apply List.Mem.tail)); rintro e w' ⟨hb, A', c', rfl, hr⟩; replace HR := Lib.hid (HR.out.push hb hr); replace HB := Lib.hid (below_on HB.out hb); clear hb hr)
                  | (go_at_call 15; refine (sameU _ _ _ _ _ _ _ ?_ ?_ ?_).mono ?_; (first | exact fitV _ | assumption | exact fitQ _ (by assumption) | exact fitR _ (by assumption) | exact fitS _ (by assumption) | exact fit_zero | exact fitP _); exact HR.out.rd (by repeat (first | exact List.Mem.head _ | apply List.Mem.tail)); exact HR.out.rd (by repeat (first | exact List.Mem.head _ | apply List.Mem.tail)); rintro e w' ⟨hb, rfl⟩; replace HR := Lib.hid (HR.out.on hb); replace HB := Lib.hid (below_on HB.out hb); clear hb)
                  | (go_at_call 13; refine (validN _ _ _ _ ?_ ?_).mono ?_; (first | exact fitV _ | assumption | exact fitQ _ (by assumption) | exact fitR _ (by assumption) | exact fitS _ (by assumption) | exact fit_zero | exact fitP _); exact HR.out.rd (by repeat (first | exact List.Mem.head _ | apply List.Mem.tail)); rintro e w' ⟨rfl, rfl⟩))
              go_ret
              exact ⟨rfl, HB.out⟩
            · have k7 := kE_big K
              clear J K
              go_enter Tryz.func5, Tryz.ntmps5
              go_wp2_with (first
                  | (go_at_call 12; refine (head_any _ (HT.out.below HB.out)).mono ?_; rintro e w' ⟨rfl, hb⟩; replace HR := Lib.hid (HR.out.on hb); replace HB := Lib.hid (below_on HB.out hb); clear hb)
                  | (go_at_call 17; refine (threeN _ _ _ _ _ _ _ _ _ _ ?_ ?_ ?_ ?_ ?_ ?_).mono ?_; (first | exact fitV _ | assumption | exact fitQ _ (by assumption) | exact fitR _ (by assumption) | exact fitS _ (by assumption) | exact fit_zero | exact fitP _); (first | exact fitV _ | assumption | exact fitQ _ (by assumption) | exact fitR _ (by assumption) | exact fitS _ (by assumption) | exact fit_zero | exact fitP _); (first | exact fitV _ | assumption | exact fitQ _ (by assumption) | exact fitR _ (by assumption) | exact fitS _ (by assumption) | exact fit_zero | exact fitP _); exact HR.out.rd (by repeat (first | exact List.Mem.head _ | apply List.Mem.tail)); exact HR.out.rd (by repeat (first | exact List.Mem.head _ | apply List.Mem.tail)); exact HR.out.rd (by repeat (first | exact List.Mem.head _ | apply List.Mem.tail)); rintro e w' ⟨rfl, rfl⟩)
                  | (go_at_call 18; refine (addU _ _ _ _ _ _ _ ?_ ?_ ?_ ?_).mono ?_; (first | exact fitV _ | assumption | exact fitQ _ (by assumption) | exact fitR _ (by assumption) | exact fitS _ (by assumption) | exact fit_zero | exact fitP _); (first | exact fitV _ | assumption | exact fitQ _ (by assumption) | exact fitR _ (by assumption) | exact fitS _ (by assumption) | exact fit_zero | exact fitP _); exact HR.out.rd (by repeat (first | exact List.Mem.head _ | apply List.Mem.tail)); exact HR.out.rd (by repeat (first | exact List.Mem.head _ | apply List.Mem.tail)); rintro e w' ⟨hb, A', c', rfl, hr⟩; replace HR := Lib.hid (HR.out.push hb hr); replace HB := Lib.hid (below_on HB.out hb); clear hb hr)
                  | (go_at_call 16; refine (mulU _ _ _ _ _ _ _ ?_ ?_ ?_ ?_).mono ?_; (first | exact fitV _ | assumption | exact fitQ _ (by assumption) | exact fitR _ (by assumption) | exact fitS _ (by assumption) | exact fit_zero | exact fitP _); (first | exact fitV _ | assumption | exact fitQ _ (by assumption) | exact fitR _ (by assumption) | exact fitS _ (by assumption) | exact fit_zero | exact fitP _); exact HR.out.rd (by repeat (first | exact List.Mem.head _ | apply List.Mem.tail)); exact HR.out.rd (by repeat (first | exact List.Mem.head _ | apply List.Mem.tail)); rintro e w' ⟨hb, A', c', rfl, hr⟩; replace HR := Lib.hid (HR.out.push hb hr); replace HB := Lib.hid (below_on HB.out hb); clear hb hr)
                  | (go_at_call 15; refine (sameU _ _ _ _ _ _ _ ?_ ?_ ?_).mono ?_; (first | exact fitV _ | assumption | exact fitQ _ (by assumption) | exact fitR _ (by assumption) | exact fitS _ (by assumption) | exact fit_zero | exact fitP _); exact HR.out.rd (by repeat (first | exact List.Mem.head _ | apply List.Mem.tail)); exact HR.out.rd (by repeat (first | exact List.Mem.head _ | apply List.Mem.tail)); rintro e w' ⟨hb, rfl⟩; replace HR := Lib.hid (HR.out.on hb); replace HB := Lib.hid (below_on HB.out hb); clear hb)
                  | (go_at_call 13; refine (validN _ _ _ _ ?_ ?_).mono ?_; (first | exact fitV _ | assumption | exact fitQ _ (by assumption) | exact fitR _ (by assumption) | exact fitS _ (by assumption) | exact fit_zero | exact fitP _); exact HR.out.rd (by repeat (first | exact List.Mem.head _ | apply List.Mem.tail)); rintro e w' ⟨rfl, rfl⟩))
              go_ret
              exact ⟨rfl, HB.out⟩
          · have k6 := kE_big J
            clear J
            go_enter Tryz.func5, Tryz.ntmps5
            go_wp2_with (first
                | (go_at_call 12; refine (head_any _ (HT.out.below HB.out)).mono ?_; rintro e w' ⟨rfl, hb⟩; replace HR := Lib.hid (HR.out.on hb); replace HB := Lib.hid (below_on HB.out hb); clear hb)
                | (go_at_call 17; refine (threeN _ _ _ _ _ _ _ _ _ _ ?_ ?_ ?_ ?_ ?_ ?_).mono ?_; (first | exact fitV _ | assumption | exact fitQ _ (by assumption) | exact fitR _ (by assumption) | exact fitS _ (by assumption) | exact fit_zero | exact fitP _); (first | exact fitV _ | assumption | exact fitQ _ (by assumption) | exact fitR _ (by assumption) | exact fitS _ (by assumption) | exact fit_zero | exact fitP _); (first | exact fitV _ | assumption | exact fitQ _ (by assumption) | exact fitR _ (by assumption) | exact fitS _ (by assumption) | exact fit_zero | exact fitP _); exact HR.out.rd (by repeat (first | exact List.Mem.head _ | apply List.Mem.tail)); exact HR.out.rd (by repeat (first | exact List.Mem.head _ | apply List.Mem.tail)); exact HR.out.rd (by repeat (first | exact List.Mem.head _ | apply List.Mem.tail)); rintro e w' ⟨rfl, rfl⟩)
                | (go_at_call 18; refine (addU _ _ _ _ _ _ _ ?_ ?_ ?_ ?_).mono ?_; (first | exact fitV _ | assumption | exact fitQ _ (by assumption) | exact fitR _ (by assumption) | exact fitS _ (by assumption) | exact fit_zero | exact fitP _); (first | exact fitV _ | assumption | exact fitQ _ (by assumption) | exact fitR _ (by assumption) | exact fitS _ (by assumption) | exact fit_zero | exact fitP _); exact HR.out.rd (by repeat (first | exact List.Mem.head _ | apply List.Mem.tail)); exact HR.out.rd (by repeat (first | exact List.Mem.head _ | apply List.Mem.tail)); rintro e w' ⟨hb, A', c', rfl, hr⟩; replace HR := Lib.hid (HR.out.push hb hr); replace HB := Lib.hid (below_on HB.out hb); clear hb hr)
                | (go_at_call 16; refine (mulU _ _ _ _ _ _ _ ?_ ?_ ?_ ?_).mono ?_; (first | exact fitV _ | assumption | exact fitQ _ (by assumption) | exact fitR _ (by assumption) | exact fitS _ (by assumption) | exact fit_zero | exact fitP _); (first | exact fitV _ | assumption | exact fitQ _ (by assumption) | exact fitR _ (by assumption) | exact fitS _ (by assumption) | exact fit_zero | exact fitP _); exact HR.out.rd (by repeat (first | exact List.Mem.head _ | apply List.Mem.tail)); exact HR.out.rd (by repeat (first | exact List.Mem.head _ | apply List.Mem.tail)); rintro e w' ⟨hb, A', c', rfl, hr⟩; replace HR := Lib.hid (HR.out.push hb hr); replace HB := Lib.hid (below_on HB.out hb); clear hb hr)
                | (go_at_call 15; refine (sameU _ _ _ _ _ _ _ ?_ ?_ ?_).mono ?_; (first | exact fitV _ | assumption | exact fitQ _ (by assumption) | exact fitR _ (by assumption) | exact fitS _ (by assumption) | exact fit_zero | exact fitP _); exact HR.out.rd (by repeat (first | exact List.Mem.head _ | apply List.Mem.tail)); exact HR.out.rd (by repeat (first | exact List.Mem.head _ | apply List.Mem.tail)); rintro e w' ⟨hb, rfl⟩; replace HR := Lib.hid (HR.out.on hb); replace HB := Lib.hid (below_on HB.out hb); clear hb)
                | (go_at_call 13; refine (validN _ _ _ _ ?_ ?_).mono ?_; (first | exact fitV _ | assumption | exact fitQ _ (by assumption) | exact fitR _ (by assumption) | exact fitS _ (by assumption) | exact fit_zero | exact fitP _); exact HR.out.rd (by repeat (first | exact List.Mem.head _ | apply List.Mem.tail)); rintro e w' ⟨rfl, rfl⟩))
            go_ret
            exact ⟨rfl, HB.out⟩
      · have k2 := kE_big G
        clear G
        by_cases J : Fit (y + z)
        · have k6 := kE_fit J
          by_cases K : Fit (x * vE (y + z))
          · have k7 := kE_fit K
            have k8 : kE (x * z) = 0 := kE_fit (fit_mono (by rw [vE_fit J, Nat.mul_add]; omega) K)
            have k9 : kE (vE (x * y) + vE (x * z)) = 0 := by
              rw [v1.out, (kE_zero k8).2]
              refine kE_fit ?_
              rw [← Nat.mul_add, ← vE_fit J]
              exact K
            have s9 : decide (vE (x * vE (y + z)) = vE (vE (x * y) + vE (x * z))) = true := by
              rw [v1.out, (kE_zero k8).2, vE_fit J, Nat.mul_add]
              simp
            clear J K
            go_enter Tryz.func5, Tryz.ntmps5
            go_wp2_with (first
                | (go_at_call 12; refine (head_any _ (HT.out.below HB.out)).mono ?_; rintro e w' ⟨rfl, hb⟩; replace HR := Lib.hid (HR.out.on hb); replace HB := Lib.hid (below_on HB.out hb); clear hb)
                | (go_at_call 17; refine (threeN _ _ _ _ _ _ _ _ _ _ ?_ ?_ ?_ ?_ ?_ ?_).mono ?_; (first | exact fitV _ | assumption | exact fitQ _ (by assumption) | exact fitR _ (by assumption) | exact fitS _ (by assumption) | exact fit_zero | exact fitP _); (first | exact fitV _ | assumption | exact fitQ _ (by assumption) | exact fitR _ (by assumption) | exact fitS _ (by assumption) | exact fit_zero | exact fitP _); (first | exact fitV _ | assumption | exact fitQ _ (by assumption) | exact fitR _ (by assumption) | exact fitS _ (by assumption) | exact fit_zero | exact fitP _); exact HR.out.rd (by repeat (first | exact List.Mem.head _ | apply List.Mem.tail)); exact HR.out.rd (by repeat (first | exact List.Mem.head _ | apply List.Mem.tail)); exact HR.out.rd (by repeat (first | exact List.Mem.head _ | apply List.Mem.tail)); rintro e w' ⟨rfl, rfl⟩)
                | (go_at_call 18; refine (addU _ _ _ _ _ _ _ ?_ ?_ ?_ ?_).mono ?_; (first | exact fitV _ | assumption | exact fitQ _ (by assumption) | exact fitR _ (by assumption) | exact fitS _ (by assumption) | exact fit_zero | exact fitP _); (first | exact fitV _ | assumption | exact fitQ _ (by assumption) | exact fitR _ (by assumption) | exact fitS _ (by assumption) | exact fit_zero | exact fitP _); exact HR.out.rd (by repeat (first | exact List.Mem.head _ | apply List.Mem.tail)); exact HR.out.rd (by repeat (first | exact List.Mem.head _ | apply List.Mem.tail)); rintro e w' ⟨hb, A', c', rfl, hr⟩; replace HR := Lib.hid (HR.out.push hb hr); replace HB := Lib.hid (below_on HB.out hb); clear hb hr)
                | (go_at_call 16; refine (mulU _ _ _ _ _ _ _ ?_ ?_ ?_ ?_).mono ?_; (first | exact fitV _ | assumption | exact fitQ _ (by assumption) | exact fitR _ (by assumption) | exact fitS _ (by assumption) | exact fit_zero | exact fitP _); (first | exact fitV _ | assumption | exact fitQ _ (by assumption) | exact fitR _ (by assumption) | exact fitS _ (by assumption) | exact fit_zero | exact fitP _); exact HR.out.rd (by repeat (first | exact List.Mem.head _ | apply List.Mem.tail)); exact HR.out.rd (by repeat (first | exact List.Mem.head _ | apply List.Mem.tail)); rintro e w' ⟨hb, A', c', rfl, hr⟩; replace HR := Lib.hid (HR.out.push hb hr); replace HB := Lib.hid (below_on HB.out hb); clear hb hr)
                | (go_at_call 15; refine (sameU _ _ _ _ _ _ _ ?_ ?_ ?_).mono ?_; (first | exact fitV _ | assumption | exact fitQ _ (by assumption) | exact fitR _ (by assumption) | exact fitS _ (by assumption) | exact fit_zero | exact fitP _); exact HR.out.rd (by repeat (first | exact List.Mem.head _ | apply List.Mem.tail)); exact HR.out.rd (by repeat (first | exact List.Mem.head _ | apply List.Mem.tail)); rintro e w' ⟨hb, rfl⟩; replace HR := Lib.hid (HR.out.on hb); replace HB := Lib.hid (below_on HB.out hb); clear hb)
                | (go_at_call 13; refine (validN _ _ _ _ ?_ ?_).mono ?_; (first | exact fitV _ | assumption | exact fitQ _ (by assumption) | exact fitR _ (by assumption) | exact fitS _ (by assumption) | exact fit_zero | exact fitP _); exact HR.out.rd (by repeat (first | exact List.Mem.head _ | apply List.Mem.tail)); rintro e w' ⟨rfl, rfl⟩))
            go_ret
            exact ⟨rfl, HB.out⟩
          · have k7 := kE_big K
            clear J K
            go_enter Tryz.func5, Tryz.ntmps5
            go_wp2_with (first
                | (go_at_call 12; refine (head_any _ (HT.out.below HB.out)).mono ?_; rintro e w' ⟨rfl, hb⟩; replace HR := Lib.hid (HR.out.on hb); replace HB := Lib.hid (below_on HB.out hb); clear hb)
                | (go_at_call 17; refine (threeN _ _ _ _ _ _ _ _ _ _ ?_ ?_ ?_ ?_ ?_ ?_).mono ?_; (first | exact fitV _ | assumption | exact fitQ _ (by assumption) | exact fitR _ (by assumption) | exact fitS _ (by assumption) | exact fit_zero | exact fitP _); (first | exact fitV _ | assumption | exact fitQ _ (by assumption) | exact fitR _ (by assumption) | exact fitS _ (by assumption) | exact fit_zero | exact fitP _); (first | exact fitV _ | assumption | exact fitQ _ (by assumption) | exact fitR _ (by assumption) | exact fitS _ (by assumption) | exact fit_zero | exact fitP _); exact HR.out.rd (by repeat (first | exact List.Mem.head _ | apply List.Mem.tail)); exact HR.out.rd (by repeat (first | exact List.Mem.head _ | apply List.Mem.tail)); exact HR.out.rd (by repeat (first | exact List.Mem.head _ | apply List.Mem.tail)); rintro e w' ⟨rfl, rfl⟩)
                | (go_at_call 18; refine (addU _ _ _ _ _ _ _ ?_ ?_ ?_ ?_).mono ?_; (first | exact fitV _ | assumption | exact fitQ _ (by assumption) | exact fitR _ (by assumption) | exact fitS _ (by assumption) | exact fit_zero | exact fitP _); (first | exact fitV _ | assumption | exact fitQ _ (by assumption) | exact fitR _ (by assumption) | exact fitS _ (by assumption) | exact fit_zero | exact fitP _); exact HR.out.rd (by repeat (first | exact List.Mem.head _ | apply List.Mem.tail)); exact HR.out.rd (by repeat (first | exact List.Mem.head _ | apply List.Mem.tail)); rintro e w' ⟨hb, A', c', rfl, hr⟩; replace HR := Lib.hid (HR.out.push hb hr); replace HB := Lib.hid (below_on HB.out hb); clear hb hr)
                | (go_at_call 16; refine (mulU _ _ _ _ _ _ _ ?_ ?_ ?_ ?_).mono ?_; (first | exact fitV _ | assumption | exact fitQ _ (by assumption) | exact fitR _ (by assumption) | exact fitS _ (by assumption) | exact fit_zero | exact fitP _); (first | exact fitV _ | assumption | exact fitQ _ (by assumption) | exact fitR _ (by assumption) | exact fitS _ (by assumption) | exact fit_zero | exact fitP _); exact HR.out.rd (by repeat (first | exact List.Mem.head _ | apply List.Mem.tail)); exact HR.out.rd (by repeat (first | exact List.Mem.head _ | apply List.Mem.tail)); rintro e w' ⟨hb, A', c', rfl, hr⟩; replace HR := Lib.hid (HR.out.push hb hr); replace HB := Lib.hid (below_on HB.out hb); clear hb hr)
                | (go_at_call 15; refine (sameU _ _ _ _ _ _ _ ?_ ?_ ?_).mono ?_; (first | exact fitV _ | assumption | exact fitQ _ (by assumption) | exact fitR _ (by assumption) | exact fitS _ (by assumption) | exact fit_zero | exact fitP _); exact HR.out.rd (by repeat (first | exact List.Mem.head _ | apply List.Mem.tail)); exact HR.out.rd (by repeat (first | exact List.Mem.head _ | apply List.Mem.tail)); rintro e w' ⟨hb, rfl⟩; replace HR := Lib.hid (HR.out.on hb); replace HB := Lib.hid (below_on HB.out hb); clear hb)
                | (go_at_call 13; refine (validN _ _ _ _ ?_ ?_).mono ?_; (first | exact fitV _ | assumption | exact fitQ _ (by assumption) | exact fitR _ (by assumption) | exact fitS _ (by assumption) | exact fit_zero | exact fitP _); exact HR.out.rd (by repeat (first | exact List.Mem.head _ | apply List.Mem.tail)); rintro e w' ⟨rfl, rfl⟩))
            go_ret
            exact ⟨rfl, HB.out⟩
        · have k6 := kE_big J
          clear J
          go_enter Tryz.func5, Tryz.ntmps5
          go_wp2_with (first
              | (go_at_call 12; refine (head_any _ (HT.out.below HB.out)).mono ?_; rintro e w' ⟨rfl, hb⟩; replace HR := Lib.hid (HR.out.on hb); replace HB := Lib.hid (below_on HB.out hb); clear hb)
              | (go_at_call 17; refine (threeN _ _ _ _ _ _ _ _ _ _ ?_ ?_ ?_ ?_ ?_ ?_).mono ?_; (first | exact fitV _ | assumption | exact fitQ _ (by assumption) | exact fitR _ (by assumption) | exact fitS _ (by assumption) | exact fit_zero | exact fitP _); (first | exact fitV _ | assumption | exact fitQ _ (by assumption) | exact fitR _ (by assumption) | exact fitS _ (by assumption) | exact fit_zero | exact fitP _); (first | exact fitV _ | assumption | exact fitQ _ (by assumption) | exact fitR _ (by assumption) | exact fitS _ (by assumption) | exact fit_zero | exact fitP _); exact HR.out.rd (by repeat (first | exact List.Mem.head _ | apply List.Mem.tail)); exact HR.out.rd (by repeat (first | exact List.Mem.head _ | apply List.Mem.tail)); exact HR.out.rd (by repeat (first | exact List.Mem.head _ | apply List.Mem.tail)); rintro e w' ⟨rfl, rfl⟩)
              | (go_at_call 18; refine (addU _ _ _ _ _ _ _ ?_ ?_ ?_ ?_).mono ?_; (first | exact fitV _ | assumption | exact fitQ _ (by assumption) | exact fitR _ (by assumption) | exact fitS _ (by assumption) | exact fit_zero | exact fitP _); (first | exact fitV _ | assumption | exact fitQ _ (by assumption) | exact fitR _ (by assumption) | exact fitS _ (by assumption) | exact fit_zero | exact fitP _); exact HR.out.rd (by repeat (first | exact List.Mem.head _ | apply List.Mem.tail)); exact HR.out.rd (by repeat (first | exact List.Mem.head _ | apply List.Mem.tail)); rintro e w' ⟨hb, A', c', rfl, hr⟩; replace HR := Lib.hid (HR.out.push hb hr); replace HB := Lib.hid (below_on HB.out hb); clear hb hr)
              | (go_at_call 16; refine (mulU _ _ _ _ _ _ _ ?_ ?_ ?_ ?_).mono ?_; (first | exact fitV _ | assumption | exact fitQ _ (by assumption) | exact fitR _ (by assumption) | exact fitS _ (by assumption) | exact fit_zero | exact fitP _); (first | exact fitV _ | assumption | exact fitQ _ (by assumption) | exact fitR _ (by assumption) | exact fitS _ (by assumption) | exact fit_zero | exact fitP _); exact HR.out.rd (by repeat (first | exact List.Mem.head _ | apply List.Mem.tail)); exact HR.out.rd (by repeat (first | exact List.Mem.head _ | apply List.Mem.tail)); rintro e w' ⟨hb, A', c', rfl, hr⟩; replace HR := Lib.hid (HR.out.push hb hr); replace HB := Lib.hid (below_on HB.out hb); clear hb hr)
              | (go_at_call 15; refine (sameU _ _ _ _ _ _ _ ?_ ?_ ?_).mono ?_; (first | exact fitV _ | assumption | exact fitQ _ (by assumption) | exact fitR _ (by assumption) | exact fitS _ (by assumption) | exact fit_zero | exact fitP _); exact HR.out.rd (by repeat (first | exact List.Mem.head _ | apply List.Mem.tail)); exact HR.out.rd (by repeat (first | exact List.Mem.head _ | apply List.Mem.tail)); rintro e w' ⟨hb, rfl⟩; replace HR := Lib.hid (HR.out.on hb); replace HB := Lib.hid (below_on HB.out hb); clear hb)
              | (go_at_call 13; refine (validN _ _ _ _ ?_ ?_).mono ?_; (first | exact fitV _ | assumption | exact fitQ _ (by assumption) | exact fitR _ (by assumption) | exact fitS _ (by assumption) | exact fit_zero | exact fitP _); exact HR.out.rd (by repeat (first | exact List.Mem.head _ | apply List.Mem.tail)); rintro e w' ⟨rfl, rfl⟩))
          go_ret
          exact ⟨rfl, HB.out⟩
    · have q1 : (((limbs x).length : Int) == 0) = false := by rw [len_zero]; exact decide_eq_false X
      rw [q1, Bool.false_or] at hq
      clear X
      by_cases Y : y = 0
      · have q2 : (((limbs y).length : Int) == 0) = true := by rw [len_zero]; exact decide_eq_true Y
        rw [q2] at hq
        clear Y
        by_cases G : Fit (y * z)
        · have k2 := kE_fit G
          have k4 : kE (x * vE (y * z)) = kE (vE (x * y) * z) := by rw [vE_fit G, v1.out, Nat.mul_assoc]
          by_cases H : Fit (vE (x * y) * z)
          · have k3 := kE_fit H
            rw [k3] at k4
            have s1 : decide (vE (vE (x * y) * z) = vE (x * vE (y * z))) = true := by
              rw [v1.out, vE_fit G, Nat.mul_assoc]
              simp
            clear G H
            by_cases J : Fit (y + z)
            · have k6 := kE_fit J
              by_cases K : Fit (x * vE (y + z))
              · have k7 := kE_fit K
                have k8 : kE (x * z) = 0 := kE_fit (fit_mono (by rw [vE_fit J, Nat.mul_add]; omega) K)
                have k9 : kE (vE (x * y) + vE (x * z)) = 0 := by
                  rw [v1.out, (kE_zero k8).2]
                  refine kE_fit ?_
                  rw [← Nat.mul_add, ← vE_fit J]
                  exact K
                have s9 : decide (vE (x * vE (y + z)) = vE (vE (x * y) + vE (x * z))) = true := by
                  rw [v1.out, (kE_zero k8).2, vE_fit J, Nat.mul_add]
                  simp
                clear J K
                go_enter Tryz.func5, Tryz.ntmps5
                go_wp2_with (first
                    | (go_at_call 12; refine (head_any _ (HT.out.below HB.out)).mono ?_; rintro e w' ⟨rfl, hb⟩; replace HR := Lib.hid (HR.out.on hb); replace HB := Lib.hid (below_on HB.out hb); clear hb)
                    | (go_at_call 17; refine (threeN _ _ _ _ _ _ _ _ _ _ ?_ ?_ ?_ ?_ ?_ ?_).mono ?_; (first | exact fitV _ | assumption | exact fitQ _ (by assumption) | exact fitR _ (by assumption) | exact fitS _ (by assumption) | exact fit_zero | exact fitP _); (first | exact fitV _ | assumption | exact fitQ _ (by assumption) | exact fitR _ (by assumption) | exact fitS _ (by assumption) | exact fit_zero | exact fitP _); (first | exact fitV _ | assumption | exact fitQ _ (by assumption) | exact fitR _ (by assumption) | exact fitS _ (by assumption) | exact fit_zero | exact fitP _); exact HR.out.rd (by repeat (first | exact List.Mem.head _ | apply List.Mem.tail)); exact HR.out.rd (by repeat (first | exact List.Mem.head _ | apply List.Mem.tail)); exact HR.out.rd (by repeat (first | exact List.Mem.head _ | apply List.Mem.tail)); rintro e w' ⟨rfl, rfl⟩)
                    | (go_at_call 18; refine (addU _ _ _ _ _ _ _ ?_ ?_ ?_ ?_).mono ?_; (first | exact fitV _ | assumption | exact fitQ _ (by assumption) | exact fitR _ (by assumption) | exact fitS _ (by assumption) | exact fit_zero | exact fitP _); (first | exact fitV _ | assumption | exact fitQ _ (by assumption) | exact fitR _ (by assumption) | exact fitS _ (by assumption) | exact fit_zero | exact fitP _); exact HR.out.rd (by repeat (first | exact List.Mem.head _ | apply List.Mem.tail)); exact HR.out.rd (by repeat (first | exact List.Mem.head _ | apply List.Mem.tail)); rintro e w' ⟨hb, A', c', rfl, hr⟩; replace HR := Lib.hid (HR.out.push hb hr); replace HB := Lib.hid (below_on HB.out hb); clear hb hr)
                    | (go_at_call 16; refine (mulU _ _ _ _ _ _ _ ?_ ?_ ?_ ?_).mono ?_; (first | exact fitV _ | assumption | exact fitQ _ (by assumption) | exact fitR _ (by assumption) | exact fitS _ (by assumption) | exact fit_zero | exact fitP _); (first | exact fitV _ | assumption | exact fitQ _ (by assumption) | exact fitR _ (by assumption) | exact fitS _ (by assumption) | exact fit_zero | exact fitP _); exact HR.out.rd (by repeat (first | exact List.Mem.head _ | apply List.Mem.tail)); exact HR.out.rd (by repeat (first | exact List.Mem.head _ | apply List.Mem.tail)); rintro e w' ⟨hb, A', c', rfl, hr⟩; replace HR := Lib.hid (HR.out.push hb hr); replace HB := Lib.hid (below_on HB.out hb); clear hb hr)
                    | (go_at_call 15; refine (sameU _ _ _ _ _ _ _ ?_ ?_ ?_).mono ?_; (first | exact fitV _ | assumption | exact fitQ _ (by assumption) | exact fitR _ (by assumption) | exact fitS _ (by assumption) | exact fit_zero | exact fitP _); exact HR.out.rd (by repeat (first | exact List.Mem.head _ | apply List.Mem.tail)); exact HR.out.rd (by repeat (first | exact List.Mem.head _ | apply List.Mem.tail)); rintro e w' ⟨hb, rfl⟩; replace HR := Lib.hid (HR.out.on hb); replace HB := Lib.hid (below_on HB.out hb); clear hb)
                    | (go_at_call 13; refine (validN _ _ _ _ ?_ ?_).mono ?_; (first | exact fitV _ | assumption | exact fitQ _ (by assumption) | exact fitR _ (by assumption) | exact fitS _ (by assumption) | exact fit_zero | exact fitP _); exact HR.out.rd (by repeat (first | exact List.Mem.head _ | apply List.Mem.tail)); rintro e w' ⟨rfl, rfl⟩))
                go_ret
                exact ⟨rfl, HB.out⟩
              · have k7 := kE_big K
                clear J K
                go_enter Tryz.func5, Tryz.ntmps5
                go_wp2_with (first
                    | (go_at_call 12; refine (head_any _ (HT.out.below HB.out)).mono ?_; rintro e w' ⟨rfl, hb⟩; replace HR := Lib.hid (HR.out.on hb); replace HB := Lib.hid (below_on HB.out hb); clear hb)
                    | (go_at_call 17; refine (threeN _ _ _ _ _ _ _ _ _ _ ?_ ?_ ?_ ?_ ?_ ?_).mono ?_; (first | exact fitV _ | assumption | exact fitQ _ (by assumption) | exact fitR _ (by assumption) | exact fitS _ (by assumption) | exact fit_zero | exact fitP _); (first | exact fitV _ | assumption | exact fitQ _ (by assumption) | exact fitR _ (by assumption) | exact fitS _ (by assumption) | exact fit_zero | exact fitP _); (first | exact fitV _ | assumption | exact fitQ _ (by assumption) | exact fitR _ (by assumption) | exact fitS _ (by assumption) | exact fit_zero | exact fitP _); exact HR.out.rd (by repeat (first | exact List.Mem.head _ | apply List.Mem.tail)); exact HR.out.rd (by repeat (first | exact List.Mem.head _ | apply List.Mem.tail)); exact HR.out.rd (by repeat (first | exact List.Mem.head _ | apply List.Mem.tail)); rintro e w' ⟨rfl, rfl⟩)
                    | (go_at_call 18; refine (addU _ _ _ _ _ _ _ ?_ ?_ ?_ ?_).mono ?_; (first | exact fitV _ | assumption | exact fitQ _ (by assumption) | exact fitR _ (by assumption) | exact fitS _ (by assumption) | exact fit_zero | exact fitP _); (first | exact fitV _ | assumption | exact fitQ _ (by assumption) | exact fitR _ (by assumption) | exact fitS _ (by assumption) | exact fit_zero | exact fitP _); exact HR.out.rd (by repeat (first | exact List.Mem.head _ | apply List.Mem.tail)); exact HR.out.rd (by repeat (first | exact List.Mem.head _ | apply List.Mem.tail)); rintro e w' ⟨hb, A', c', rfl, hr⟩; replace HR := Lib.hid (HR.out.push hb hr); replace HB := Lib.hid (below_on HB.out hb); clear hb hr)
                    | (go_at_call 16; refine (mulU _ _ _ _ _ _ _ ?_ ?_ ?_ ?_).mono ?_; (first | exact fitV _ | assumption | exact fitQ _ (by assumption) | exact fitR _ (by assumption) | exact fitS _ (by assumption) | exact fit_zero | exact fitP _); (first | exact fitV _ | assumption | exact fitQ _ (by assumption) | exact fitR _ (by assumption) | exact fitS _ (by assumption) | exact fit_zero | exact fitP _); exact HR.out.rd (by repeat (first | exact List.Mem.head _ | apply List.Mem.tail)); exact HR.out.rd (by repeat (first | exact List.Mem.head _ | apply List.Mem.tail)); rintro e w' ⟨hb, A', c', rfl, hr⟩; replace HR := Lib.hid (HR.out.push hb hr); replace HB := Lib.hid (below_on HB.out hb); clear hb hr)
                    | (go_at_call 15; refine (sameU _ _ _ _ _ _ _ ?_ ?_ ?_).mono ?_; (first | exact fitV _ | assumption | exact fitQ _ (by assumption) | exact fitR _ (by assumption) | exact fitS _ (by assumption) | exact fit_zero | exact fitP _); exact HR.out.rd (by repeat (first | exact List.Mem.head _ | apply List.Mem.tail)); exact HR.out.rd (by repeat (first | exact List.Mem.head _ | apply List.Mem.tail)); rintro e w' ⟨hb, rfl⟩; replace HR := Lib.hid (HR.out.on hb); replace HB := Lib.hid (below_on HB.out hb); clear hb)
                    | (go_at_call 13; refine (validN _ _ _ _ ?_ ?_).mono ?_; (first | exact fitV _ | assumption | exact fitQ _ (by assumption) | exact fitR _ (by assumption) | exact fitS _ (by assumption) | exact fit_zero | exact fitP _); exact HR.out.rd (by repeat (first | exact List.Mem.head _ | apply List.Mem.tail)); rintro e w' ⟨rfl, rfl⟩))
                go_ret
                exact ⟨rfl, HB.out⟩
            · have k6 := kE_big J
              clear J
              go_enter Tryz.func5, Tryz.ntmps5
              go_wp2_with (first
                  | (go_at_call 12; refine (head_any _ (HT.out.below HB.out)).mono ?_; rintro e w' ⟨rfl, hb⟩; replace HR := Lib.hid (HR.out.on hb); replace HB := Lib.hid (below_on HB.out hb); clear hb)
                  | (go_at_call 17; refine (threeN _ _ _ _ _ _ _ _ _ _ ?_ ?_ ?_ ?_ ?_ ?_).mono ?_; (first | exact fitV _ | assumption | exact fitQ _ (by assumption) | exact fitR _ (by assumption) | exact fitS _ (by assumption) | exact fit_zero | exact fitP _); (first | exact fitV _ | assumption | exact fitQ _ (by assumption) | exact fitR _ (by assumption) | exact fitS _ (by assumption) | exact fit_zero | exact fitP _); (first | exact fitV _ | assumption | exact fitQ _ (by assumption) | exact fitR _ (by assumption) | exact fitS _ (by assumption) | exact fit_zero | exact fitP _); exact HR.out.rd (by repeat (first | exact List.Mem.head _ | apply List.Mem.tail)); exact HR.out.rd (by repeat (first | exact List.Mem.head _ | apply List.Mem.tail)); exact HR.out.rd (by repeat (first | exact List.Mem.head _ | apply List.Mem.tail)); rintro e w' ⟨rfl, rfl⟩)
                  | (go_at_call 18; refine (addU _ _ _ _ _ _ _ ?_ ?_ ?_ ?_).mono ?_; (first | exact fitV _ | assumption | exact fitQ _ (by assumption) | exact fitR _ (by assumption) | exact fitS _ (by assumption) | exact fit_zero | exact fitP _); (first | exact fitV _ | assumption | exact fitQ _ (by assumption) | exact fitR _ (by assumption) | exact fitS _ (by assumption) | exact fit_zero | exact fitP _); exact HR.out.rd (by repeat (first | exact List.Mem.head _ | apply List.Mem.tail)); exact HR.out.rd (by repeat (first | exact List.Mem.head _ | apply List.Mem.tail)); rintro e w' ⟨hb, A', c', rfl, hr⟩; replace HR := Lib.hid (HR.out.push hb hr); replace HB := Lib.hid (below_on HB.out hb); clear hb hr)
                  | (go_at_call 16; refine (mulU _ _ _ _ _ _ _ ?_ ?_ ?_ ?_).mono ?_; (first | exact fitV _ | assumption | exact fitQ _ (by assumption) | exact fitR _ (by assumption) | exact fitS _ (by assumption) | exact fit_zero | exact fitP _); (first | exact fitV _ | assumption | exact fitQ _ (by assumption) | exact fitR _ (by assumption) | exact fitS _ (by assumption) | exact fit_zero | exact fitP _); exact HR.out.rd (by repeat (first | exact List.Mem.head _ | apply List.Mem.tail)); exact HR.out.rd (by repeat (first | exact List.Mem.head _ | apply List.Mem.tail)); rintro e w' ⟨hb, A', c', rfl, hr⟩; replace HR := Lib.hid (HR.out.push hb hr); replace HB := Lib.hid (below_on HB.out hb); clear hb hr)
                  | (go_at_call 15; refine (sameU _ _ _ _ _ _ _ ?_ ?_ ?_).mono ?_; (first | exact fitV _ | assumption | exact fitQ _ (by assumption) | exact fitR _ (by assumption) | exact fitS _ (by assumption) | exact fit_zero | exact fitP _); exact HR.out.rd (by repeat (first | exact List.Mem.head _ | apply List.Mem.tail)); exact HR.out.rd (by repeat (first | exact List.Mem.head _ | apply List.Mem.tail)); rintro e w' ⟨hb, rfl⟩; replace HR := Lib.hid (HR.out.on hb); replace HB := Lib.hid (below_on HB.out hb); clear hb)
                  | (go_at_call 13; refine (validN _ _ _ _ ?_ ?_).mono ?_; (first | exact fitV _ | assumption | exact fitQ _ (by assumption) | exact fitR _ (by assumption) | exact fitS _ (by assumption) | exact fit_zero | exact fitP _); exact HR.out.rd (by repeat (first | exact List.Mem.head _ | apply List.Mem.tail)); rintro e w' ⟨rfl, rfl⟩))
              go_ret
              exact ⟨rfl, HB.out⟩
          · have k3 := kE_big H
            rw [k3] at k4
            clear G H
            by_cases J : Fit (y + z)
            · have k6 := kE_fit J
              by_cases K : Fit (x * vE (y + z))
              · have k7 := kE_fit K
                have k8 : kE (x * z) = 0 := kE_fit (fit_mono (by rw [vE_fit J, Nat.mul_add]; omega) K)
                have k9 : kE (vE (x * y) + vE (x * z)) = 0 := by
                  rw [v1.out, (kE_zero k8).2]
                  refine kE_fit ?_
                  rw [← Nat.mul_add, ← vE_fit J]
                  exact K
                have s9 : decide (vE (x * vE (y + z)) = vE (vE (x * y) + vE (x * z))) = true := by
                  rw [v1.out, (kE_zero k8).2, vE_fit J, Nat.mul_add]
                  simp
                clear J K
                go_enter Tryz.func5, Tryz.ntmps5
                go_wp2_with (first
                    | (go_at_call 12; refine (head_any _ (HT.out.below HB.out)).mono ?_; rintro e w' ⟨rfl, hb⟩; replace HR := Lib.hid (HR.out.on hb); replace HB := Lib.hid (below_on HB.out hb); clear hb)
                    | (go_at_call 17; refine (threeN _ _ _ _ _ _ _ _ _ _ ?_ ?_ ?_ ?_ ?_ ?_).mono ?_; (first | exact fitV _ | assumption | exact fitQ _ (by assumption) | exact fitR _ (by assumption) | exact fitS _ (by assumption) | exact fit_zero | exact fitP _); (first | exact fitV _ | assumption | exact fitQ _ (by assumption) | exact fitR _ (by assumption) | exact fitS _ (by assumption) | exact fit_zero | exact fitP _); (first | exact fitV _ | assumption | exact fitQ _ (by assumption) | exact fitR _ (by assumption) | exact fitS _ (by assumption) | exact fit_zero | exact fitP _); exact HR.out.rd (by repeat (first | exact List.Mem.head _ | apply List.Mem.tail)); exact HR.out.rd (by repeat (first | exact List.Mem.head _ | apply List.Mem.tail)); exact HR.out.rd (by repeat (first | exact List.Mem.head _ | apply List.Mem.tail)); rintro e w' ⟨rfl, rfl⟩)
                    | (go_at_call 18; refine (addU _ _ _ _ _ _ _ ?_ ?_ ?_ ?_).mono ?_; (first | exact fitV _ | assumption | exact fitQ _ (by assumption) | exact fitR _ (by assumption) | exact fitS _ (by assumption) | exact fit_zero | exact fitP _); (first | exact fitV _ | assumption | exact fitQ _ (by assumption) | exact fitR _ (by assumption) | exact fitS _ (by assumption) | exact fit_zero | exact fitP _); exact HR.out.rd (by repeat (first | exact List.Mem.head _ | apply List.Mem.tail)); exact HR.out.rd (by repeat (first | exact List.Mem.head _ | apply List.Mem.tail)); rintro e w' ⟨hb, A', c', rfl, hr⟩; replace HR := Lib.hid (HR.out.push hb hr); replace HB := Lib.hid (below_on HB.out hb); clear hb hr)
                    | (go_at_call 16; refine (mulU _ _ _ _ _ _ _ ?_ ?_ ?_ ?_).mono ?_; (first | exact fitV _ | assumption | exact fitQ _ (by assumption) | exact fitR _ (by assumption) | exact fitS _ (by assumption) | exact fit_zero | exact fitP _); (first | exact fitV _ | assumption | exact fitQ _ (by assumption) | exact fitR _ (by assumption) | exact fitS _ (by assumption) | exact fit_zero | exact fitP _); exact HR.out.rd (by repeat (first | exact List.Mem.head _ | apply List.Mem.tail)); exact HR.out.rd (by repeat (first | exact List.Mem.head _ | apply List.Mem.tail)); rintro e w' ⟨hb, A', c', rfl, hr⟩; replace HR := Lib.hid (HR.out.push hb hr); replace HB := Lib.hid (below_on HB.out hb); clear hb hr)
                    | (go_at_call 15; refine (sameU _ _ _ _ _ _ _ ?_ ?_ ?_).mono ?_; (first | exact fitV _ | assumption | exact fitQ _ (by assumption) | exact fitR _ (by assumption) | exact fitS _ (by assumption) | exact fit_zero | exact fitP _); exact HR.out.rd (by repeat (first | exact List.Mem.head _ | apply List.Mem.tail)); exact HR.out.rd (by repeat (first | exact List.Mem.head _ | apply List.Mem.tail)); rintro e w' ⟨hb, rfl⟩; replace HR := Lib.hid (HR.out.on hb); replace HB := Lib.hid (below_on HB.out hb); clear hb)
                    | (go_at_call 13; refine (validN _ _ _ _ ?_ ?_).mono ?_; (first | exact fitV _ | assumption | exact fitQ _ (by assumption) | exact fitR _ (by assumption) | exact fitS _ (by assumption) | exact fit_zero | exact fitP _); exact HR.out.rd (by repeat (first | exact List.Mem.head _ | apply List.Mem.tail)); rintro e w' ⟨rfl, rfl⟩))
                go_ret
                exact ⟨rfl, HB.out⟩
              · have k7 := kE_big K
                clear J K
                go_enter Tryz.func5, Tryz.ntmps5
                go_wp2_with (first
                    | (go_at_call 12; refine (head_any _ (HT.out.below HB.out)).mono ?_; rintro e w' ⟨rfl, hb⟩; replace HR := Lib.hid (HR.out.on hb); replace HB := Lib.hid (below_on HB.out hb); clear hb)
                    | (go_at_call 17; refine (threeN _ _ _ _ _ _ _ _ _ _ ?_ ?_ ?_ ?_ ?_ ?_).mono ?_; (first | exact fitV _ | assumption | exact fitQ _ (by assumption) | exact fitR _ (by assumption) | exact fitS _ (by assumption) | exact fit_zero | exact fitP _); (first | exact fitV _ | assumption | exact fitQ _ (by assumption) | exact fitR _ (by assumption) | exact fitS _ (by assumption) | exact fit_zero | exact fitP _); (first | exact fitV _ | assumption | exact fitQ _ (by assumption) | exact fitR _ (by assumption) | exact fitS _ (by assumption) | exact fit_zero | exact fitP _); exact HR.out.rd (by repeat (first | exact List.Mem.head _ | apply List.Mem.tail)); exact HR.out.rd (by repeat (first | exact List.Mem.head _ | apply List.Mem.tail)); exact HR.out.rd (by repeat (first | exact List.Mem.head _ | apply List.Mem.tail)); rintro e w' ⟨rfl, rfl⟩)
                    | (go_at_call 18; refine (addU _ _ _ _ _ _ _ ?_ ?_ ?_ ?_).mono ?_; (first | exact fitV _ | assumption | exact fitQ _ (by assumption) | exact fitR _ (by assumption) | exact fitS _ (by assumption) | exact fit_zero | exact fitP _); (first | exact fitV _ | assumption | exact fitQ _ (by assumption) | exact fitR _ (by assumption) | exact fitS _ (by assumption) | exact fit_zero | exact fitP _); exact HR.out.rd (by repeat (first | exact List.Mem.head _ | apply List.Mem.tail)); exact HR.out.rd (by repeat (first | exact List.Mem.head _ | apply List.Mem.tail)); rintro e w' ⟨hb, A', c', rfl, hr⟩; replace HR := Lib.hid (HR.out.push hb hr); replace HB := Lib.hid (below_on HB.out hb); clear hb hr)
                    | (go_at_call 16; refine (mulU _ _ _ _ _ _ _ ?_ ?_ ?_ ?_).mono ?_; (first | exact fitV _ | assumption | exact fitQ _ (by assumption) | exact fitR _ (by assumption) | exact fitS _ (by assumption) | exact fit_zero | exact fitP _); (first | exact fitV _ | assumption | exact fitQ _ (by assumption) | exact fitR _ (by assumption) | exact fitS _ (by assumption) | exact fit_zero | exact fitP _); exact HR.out.rd (by repeat (first | exact List.Mem.head _ | apply List.Mem.tail)); exact HR.out.rd (by repeat (first | exact List.Mem.head _ | apply List.Mem.tail)); rintro e w' ⟨hb, A', c', rfl, hr⟩; replace HR := Lib.hid (HR.out.push hb hr); replace HB := Lib.hid (below_on HB.out hb); clear hb hr)
                    | (go_at_call 15; refine (sameU _ _ _ _ _ _ _ ?_ ?_ ?_).mono ?_; (first | exact fitV _ | assumption | exact fitQ _ (by assumption) | exact fitR _ (by assumption) | exact fitS _ (by assumption) | exact fit_zero | exact fitP _); exact HR.out.rd (by repeat (first | exact List.Mem.head _ | apply List.Mem.tail)); exact HR.out.rd (by repeat (first | exact List.Mem.head _ | apply List.Mem.tail)); rintro e w' ⟨hb, rfl⟩; replace HR := Lib.hid (HR.out.on hb); replace HB := Lib.hid (below_on HB.out hb); clear hb)
                    | (go_at_call 13; refine (validN _ _ _ _ ?_ ?_).mono ?_; (first | exact fitV _ | assumption | exact fitQ _ (by assumption) | exact fitR _ (by assumption) | exact fitS _ (by assumption) | exact fit_zero | exact fitP _); exact HR.out.rd (by repeat (first | exact List.Mem.head _ | apply List.Mem.tail)); rintro e w' ⟨rfl, rfl⟩))
                go_ret
                exact ⟨rfl, HB.out⟩
            · have k6 := kE_big J
              clear J
              go_enter Tryz.func5, Tryz.ntmps5
              go_wp2_with (first
                  | (go_at_call 12; refine (head_any _ (HT.out.below HB.out)).mono ?_; rintro e w' ⟨rfl, hb⟩; replace HR := Lib.hid (HR.out.on hb); replace HB := Lib.hid (below_on HB.out hb); clear hb)
                  | (go_at_call 17; refine (threeN _ _ _ _ _ _ _ _ _ _ ?_ ?_ ?_ ?_ ?_ ?_).mono ?_; (first | exact fitV _ | assumption | exact fitQ _ (by assumption) | exact fitR _ (by assumption) | exact fitS _ (by assumption) | exact fit_zero | exact fitP _); (first | exact fitV _ | assumption | exact fitQ _ (by assumption) | exact fitR _ (by assumption) | exact fitS _ (by assumption) | exact fit_zero | exact fitP _); (first | exact fitV _ | assumption | exact fitQ _ (by assumption) | exact fitR _ (by assumption) | exact fitS _ (by assumption) | exact fit_zero | exact fitP _); exact HR.out.rd (by repeat (first | exact List.Mem.head _ | apply List.Mem.tail)); exact HR.out.rd (by repeat (first | exact List.Mem.head _ | apply List.Mem.tail)); exact HR.out.rd (by repeat (first | exact List.Mem.head _ | apply List.Mem.tail)); rintro e w' ⟨rfl, rfl⟩)
                  | (go_at_call 18; refine (addU _ _ _ _ _ _ _ ?_ ?_ ?_ ?_).mono ?_; (first | exact fitV _ | assumption | exact fitQ _ (by assumption) | exact fitR _ (by assumption) | exact fitS _ (by assumption) | exact fit_zero | exact fitP _); (first | exact fitV _ | assumption | exact fitQ _ (by assumption) | exact fitR _ (by assumption) | exact fitS _ (by assumption) | exact fit_zero | exact fitP _); exact HR.out.rd (by repeat (first | exact List.Mem.head _ | apply List.Mem.tail)); exact HR.out.rd (by repeat (first | exact List.Mem.head _ | apply List.Mem.tail)); rintro e w' ⟨hb, A', c', rfl, hr⟩; replace HR := Lib.hid (HR.out.push hb hr); replace HB := Lib.hid (below_on HB.out hb); clear hb hr)
                  | (go_at_call 16; refine (mulU _ _ _ _ _ _ _ ?_ ?_ ?_ ?_).mono ?_; (first | exact fitV _ | assumption | exact fitQ _ (by assumption) | exact fitR _ (by assumption) | exact fitS _ (by assumption) | exact fit_zero | exact fitP _); (first | exact fitV _ | assumption | exact fitQ _ (by assumption) | exact fitR _ (by assumption) | exact fitS _ (by assumption) | exact fit_zero | exact fitP _); exact HR.out.rd (by repeat (first | exact List.Mem.head _ | apply List.Mem.tail)); exact HR.out.rd (by repeat (first | exact List.Mem.head _ | apply List.Mem.tail)); rintro e w' ⟨hb, A', c', rfl, hr⟩; replace HR := Lib.hid (HR.out.push hb hr); replace HB := Lib.hid (below_on HB.out hb); clear hb hr)
                  | (go_at_call 15; refine (sameU _ _ _ _ _ _ _ ?_ ?_ ?_).mono ?_; (first | exact fitV _ | assumption | exact fitQ _ (by assumption) | exact fitR _ (by assumption) | exact fitS _ (by assumption) | exact fit_zero | exact fitP _); exact HR.out.rd (by repeat (first | exact List.Mem.head _ | apply List.Mem.tail)); exact HR.out.rd (by repeat (first | exact List.Mem.head _ | apply List.Mem.tail)); rintro e w' ⟨hb, rfl⟩; replace HR := Lib.hid (HR.out.on hb); replace HB := Lib.hid (below_on HB.out hb); clear hb)
                  | (go_at_call 13; refine (validN _ _ _ _ ?_ ?_).mono ?_; (first | exact fitV _ | assumption | exact fitQ _ (by assumption) | exact fitR _ (by assumption) | exact fitS _ (by assumption) | exact fit_zero | exact fitP _); exact HR.out.rd (by repeat (first | exact List.Mem.head _ | apply List.Mem.tail)); rintro e w' ⟨rfl, rfl⟩))
              go_ret
              exact ⟨rfl, HB.out⟩
        · have k2 := kE_big G
          clear G
          by_cases J : Fit (y + z)
          · have k6 := kE_fit J
            by_cases K : Fit (x * vE (y + z))
            · have k7 := kE_fit K
              have k8 : kE (x * z) = 0 := kE_fit (fit_mono (by rw [vE_fit J, Nat.mul_add]; omega) K)
              have k9 : kE (vE (x * y) + vE (x * z)) = 0 := by
                rw [v1.out, (kE_zero k8).2]
                refine kE_fit ?_
                rw [← Nat.mul_add, ← vE_fit J]
                exact K
              have s9 : decide (vE (x * vE (y + z)) = vE (vE (x * y) + vE (x * z))) = true := by
                rw [v1.out, (kE_zero k8).2, vE_fit J, Nat.mul_add]
                simp
              clear J K
              go_enter Tryz.func5, Tryz.ntmps5
              go_wp2_with (first
                  | (go_at_call 12; refine (head_any _ (HT.out.below HB.out)).mono ?_; rintro e w' ⟨rfl, hb⟩; replace HR := Lib.hid (HR.out.on hb); replace HB := Lib.hid (below_on HB.out hb); clear hb)
                  | (go_at_call 17; refine (threeN _ _ _ _ _ _ _ _ _ _ ?_ ?_ ?_ ?_ ?_ ?_).mono ?_; (first | exact fitV _ | assumption | exact fitQ _ (by assumption) | exact fitR _ (by assumption) | exact fitS _ (by assumption) | exact fit_zero | exact fitP _); (first | exact fitV _ | assumption | exact fitQ _ (by assumption) | exact fitR _ (by assumption) | exact fitS _ (by assumption) | exact fit_zero | exact fitP _); (first | exact fitV _ | assumption | exact fitQ _ (by assumption) | exact fitR _ (by assumption) | exact fitS _ (by assumption) | exact fit_zero | exact fitP _); exact HR.out.rd (by repeat (first | exact List.Mem.head _ | apply List.Mem.tail)); exact HR.out.rd (by repeat (first | exact List.Mem.head _ | apply List.Mem.tail)); exact HR.out.rd (by repeat (first | exact List.Mem.head _ | apply List.Mem.tail)); rintro e w' ⟨rfl, rfl⟩)
                  | (go_at_call 18; refine (addU _ _ _ _ _ _ _ ?_ ?_ ?_ ?_).mono ?_; (first | exact fitV _ | assumption | exact fitQ _ (by assumption) | exact fitR _ (by assumption) | exact fitS _ (by assumption) | exact fit_zero | exact fitP _); (first | exact fitV _ | assumption | exact fitQ _ (by assumption) | exact fitR _ (by assumption) | exact fitS _ (by assumption) | exact fit_zero | exact fitP _); exact HR.out.rd (by repeat (first | exact List.Mem.head _ | apply List.Mem.tail)); exact HR.out.rd (by repeat (first | exact List.Mem.head _ | apply List.Mem.tail)); rintro e w' ⟨hb, A', c', rfl, hr⟩; replace HR := Lib.hid (HR.out.push hb hr); replace HB := Lib.hid (below_on HB.out hb); clear hb hr)
                  | (go_at_call 16; refine (mulU _ _ _ _ _ _ _ ?_ ?_ ?_ ?_).mono ?_; (first | exact fitV _ | assumption | exact fitQ _ (by assumption) | exact fitR _ (by assumption) | exact fitS _ (by assumption) | exact fit_zero | exact fitP _); (first | exact fitV _ | assumption | exact fitQ _ (by assumption) | exact fitR _ (by assumption) | exact fitS _ (by assumption) | exact fit_zero | exact fitP _); exact HR.out.rd (by repeat (first | exact List.Mem.head _ | apply List.Mem.tail)); exact HR.out.rd (by repeat (first | exact List.Mem.head _ | apply List.Mem.tail)); rintro e w' ⟨hb, A', c', rfl, hr⟩; replace HR := Lib.hid (HR.out.push hb hr); replace HB := Lib.hid (below_on HB.out hb); clear hb hr)
                  | (go_at_call 15; refine (sameU _ _ _ _ _ _ _ ?_ ?_ ?_).mono ?_; (first | exact fitV _ | assumption | exact fitQ _ (by assumption) | exact fitR _ (by assumption) | exact fitS _ (by assumption) | exact fit_zero | exact fitP _); exact HR.out.rd (by repeat (first | exact List.Mem.head _ | apply List.Mem.tail)); exact HR.out.rd (by repeat (first | exact List.Mem.head _ | apply List.Mem.tail)); rintro e w' ⟨hb, rfl⟩; replace HR := Lib.hid (HR.out.on hb); replace HB := Lib.hid (below_on HB.out hb); clear hb)
                  | (go_at_call 13; refine (validN _ _ _ _ ?_ ?_).mono ?_; (first | exact fitV _ | assumption | exact fitQ _ (by assumption) | exact fitR _ (by assumption) | exact fitS _ (by assumption) | exact fit_zero | exact fitP _); exact HR.out.rd (by repeat (first | exact List.Mem.head _ | apply List.Mem.tail)); rintro e w' ⟨rfl, rfl⟩))
              go_ret
              exact ⟨rfl, HB.out⟩
            · have k7 := kE_big K
              clear J K
              go_enter Tryz.func5, Tryz.ntmps5
              go_wp2_with (first
                  | (go_at_call 12; refine (head_any _ (HT.out.below HB.out)).mono ?_; rintro e w' ⟨rfl, hb⟩; replace HR := Lib.hid (HR.out.on hb); replace HB := Lib.hid (below_on HB.out hb); clear hb)
                  | (go_at_call 17; refine (threeN _ _ _ _ _ _ _ _ _ _ ?_ ?_ ?_ ?_ ?_ ?_).mono ?_; (first | exact fitV _ | assumption | exact fitQ _ (by assumption) | exact fitR _ (by assumption) | exact fitS _ (by assumption) | exact fit_zero | exact fitP _); (first | exact fitV _ | assumption | exact fitQ _ (by assumption) | exact fitR _ (by assumption) | exact fitS _ (by assumption) | exact fit_zero | exact fitP _); (first | exact fitV _ | assumption | exact fitQ _ (by assumption) | exact fitR _ (by assumption) | exact fitS _ (by assumption) | exact fit_zero | exact fitP _); exact HR.out.rd (by repeat (first | exact List.Mem.head _ | apply List.Mem.tail)); exact HR.out.rd (by repeat (first | exact List.Mem.head _ | apply List.Mem.tail)); exact HR.out.rd (by repeat (first | exact List.Mem.head _ | apply List.Mem.tail)); rintro e w' ⟨rfl, rfl⟩)
                  | (go_at_call 18; refine (addU _ _ _ _ _ _ _ ?_ ?_ ?_ ?_).mono ?_; (first | exact fitV _ | assumption | exact fitQ _ (by assumption) | exact fitR _ (by assumption) | exact fitS _ (by assumption) | exact fit_zero | exact fitP _); (first | exact fitV _ | assumption | exact fitQ _ (by assumption) | exact fitR _ (by assumption) | exact fitS _ (by assumption) | exact fit_zero | exact fitP _); exact HR.out.rd (by repeat (first | exact List.Mem.head _ | apply List.Mem.tail)); exact HR.out.rd (by repeat (first | exact List.Mem.head _ | apply List.Mem.tail)); rintro e w' ⟨hb, A', c', rfl, hr⟩; replace HR := Lib.hid (HR.out.push hb hr); replace HB := Lib.hid (below_on HB.out hb); clear hb hr)
                  | (go_at_call 16; refine (mulU _ _ _ _ _ _ _ ?_ ?_ ?_ ?_).mono ?_; (first | exact fitV _ | assumption | exact fitQ _ (by assumption) | exact fitR _ (by assumption) | exact fitS _ (by assumption) | exact fit_zero | exact fitP _); (first | exact fitV _ | assumption | exact fitQ _ (by assumption) | exact fitR _ (by assumption) | exact fitS _ (by assumption) | exact fit_zero | exact fitP _); exact HR.out.rd (by repeat (first | exact List.Mem.head _ | apply List.Mem.tail)); exact HR.out.rd (by repeat (first | exact List.Mem.head _ | apply List.Mem.tail)); rintro e w' ⟨hb, A', c', rfl, hr⟩; replace HR := Lib.hid (HR.out.push hb hr); replace HB := Lib.hid (below_on HB.out hb); clear hb hr)
                  | (go_at_call 15; refine (sameU _ _ _ _ _ _ _ ?_ ?_ ?_).mono ?_; (first | exact fitV _ | assumption | exact fitQ _ (by assumption) | exact fitR _ (by assumption) | exact fitS _ (by assumption) | exact fit_zero | exact fitP _); exact HR.out.rd (by repeat (first | exact List.Mem.head _ | apply List.Mem.tail)); exact HR.out.rd (by repeat (first | exact List.Mem.head _ | apply List.Mem.tail)); rintro e w' ⟨hb, rfl⟩; replace HR := Lib.hid (HR.out.on hb); replace HB := Lib.hid (below_on HB.out hb); clear hb)
                  | (go_at_call 13; refine (validN _ _ _ _ ?_ ?_).mono ?_; (first | exact fitV _ | assumption | exact fitQ _ (by assumption) | exact fitR _ (by assumption) | exact fitS _ (by assumption) | exact fit_zero | exact fitP _); exact HR.out.rd (by repeat (first | exact List.Mem.head _ | apply List.Mem.tail)); rintro e w' ⟨rfl, rfl⟩))
              go_ret
              exact ⟨rfl, HB.out⟩
          · have k6 := kE_big J
            clear J
            go_enter Tryz.func5, Tryz.ntmps5
            go_wp2_with (first
                | (go_at_call 12; refine (head_any _ (HT.out.below HB.out)).mono ?_; rintro e w' ⟨rfl, hb⟩; replace HR := Lib.hid (HR.out.on hb); replace HB := Lib.hid (below_on HB.out hb); clear hb)
                | (go_at_call 17; refine (threeN _ _ _ _ _ _ _ _ _ _ ?_ ?_ ?_ ?_ ?_ ?_).mono ?_; (first | exact fitV _ | assumption | exact fitQ _ (by assumption) | exact fitR _ (by assumption) | exact fitS _ (by assumption) | exact fit_zero | exact fitP _); (first | exact fitV _ | assumption | exact fitQ _ (by assumption) | exact fitR _ (by assumption) | exact fitS _ (by assumption) | exact fit_zero | exact fitP _); (first | exact fitV _ | assumption | exact fitQ _ (by assumption) | exact fitR _ (by assumption) | exact fitS _ (by assumption) | exact fit_zero | exact fitP _); exact HR.out.rd (by repeat (first | exact List.Mem.head _ | apply List.Mem.tail)); exact HR.out.rd (by repeat (first | exact List.Mem.head _ | apply List.Mem.tail)); exact HR.out.rd (by repeat (first | exact List.Mem.head _ | apply List.Mem.tail)); rintro e w' ⟨rfl, rfl⟩)
                | (go_at_call 18; refine (addU _ _ _ _ _ _ _ ?_ ?_ ?_ ?_).mono ?_; (first | exact fitV _ | assumption | exact fitQ _ (by assumption) | exact fitR _ (by assumption) | exact fitS _ (by assumption) | exact fit_zero | exact fitP _); (first | exact fitV _ | assumption | exact fitQ _ (by assumption) | exact fitR _ (by assumption) | exact fitS _ (by assumption) | exact fit_zero | exact fitP _); exact HR.out.rd (by repeat (first | exact List.Mem.head _ | apply List.Mem.tail)); exact HR.out.rd (by repeat (first | exact List.Mem.head _ | apply List.Mem.tail)); rintro e w' ⟨hb, A', c', rfl, hr⟩; replace HR := Lib.hid (HR.out.push hb hr); replace HB := Lib.hid (below_on HB.out hb); clear hb hr)
                | (go_at_call 16; refine (mulU _ _ _ _ _ _ _ ?_ ?_ ?_ ?_).mono ?_; (first | exact fitV _ | assumption | exact fitQ _ (by assumption) | exact fitR _ (by assumption) | exact fitS _ (by assumption) | exact fit_zero | exact fitP _); (first | exact fitV _ | assumption | exact fitQ _ (by assumption) | exact fitR _ (by assumption) | exact fitS _ (by assumption) | exact fit_zero | exact fitP _); exact HR.out.rd (by repeat (first | exact List.Mem.head _ | apply List.Mem.tail)); exact HR.out.rd (by repeat (first | exact List.Mem.head _ | apply List.Mem.tail)); rintro e w' ⟨hb, A', c', rfl, hr⟩; replace HR := Lib.hid (HR.out.push hb hr); replace HB := Lib.hid (below_on HB.out hb); clear hb hr)
                | (go_at_call 15; refine (sameU _ _ _ _ _ _ _ ?_ ?_ ?_).mono ?_; (first | exact fitV _ | assumption | exact fitQ _ (by assumption) | exact fitR _ (by assumption) | exact fitS _ (by assumption) | exact fit_zero | exact fitP _); exact HR.out.rd (by repeat (first | exact List.Mem.head _ | apply List.Mem.tail)); exact HR.out.rd (by repeat (first | exact List.Mem.head _ | apply List.Mem.tail)); rintro e w' ⟨hb, rfl⟩; replace HR := Lib.hid (HR.out.on hb); replace HB := Lib.hid (below_on HB.out hb); clear hb)
                | (go_at_call 13; refine (validN _ _ _ _ ?_ ?_).mono ?_; (first | exact fitV _ | assumption | exact fitQ _ (by assumption) | exact fitR _ (by assumption) | exact fitS _ (by assumption) | exact fit_zero | exact fitP _); exact HR.out.rd (by repeat (first | exact List.Mem.head _ | apply List.Mem.tail)); rintro e w' ⟨rfl, rfl⟩))
            go_ret
            exact ⟨rfl, HB.out⟩
      · have q2 : (((limbs y).length : Int) == 0) = false := by rw [len_zero]; exact decide_eq_false Y
        rw [q2] at hq
        clear Y
        by_cases G : Fit (y * z)
        · have k2 := kE_fit G
          have k4 : kE (x * vE (y * z)) = kE (vE (x * y) * z) := by rw [vE_fit G, v1.out, Nat.mul_assoc]
          by_cases H : Fit (vE (x * y) * z)
          · have k3 := kE_fit H
            rw [k3] at k4
            have s1 : decide (vE (vE (x * y) * z) = vE (x * vE (y * z))) = true := by
              rw [v1.out, vE_fit G, Nat.mul_assoc]
              simp
            clear G H
            by_cases J : Fit (y + z)
            · have k6 := kE_fit J
              by_cases K : Fit (x * vE (y + z))
              · have k7 := kE_fit K
                have k8 : kE (x * z) = 0 := kE_fit (fit_mono (by rw [vE_fit J, Nat.mul_add]; omega) K)
                have k9 : kE (vE (x * y) + vE (x * z)) = 0 := by
                  rw [v1.out, (kE_zero k8).2]
                  refine kE_fit ?_
                  rw [← Nat.mul_add, ← vE_fit J]
                  exact K
                have s9 : decide (vE (x * vE (y + z)) = vE (vE (x * y) + vE (x * z))) = true := by
                  rw [v1.out, (kE_zero k8).2, vE_fit J, Nat.mul_add]
                  simp
                clear J K
                go_enter Tryz.func5, Tryz.ntmps5
                go_wp2_with (first
                    | (go_at_call 12; refine (head_any _ (HT.out.below HB.out)).mono ?_; rintro e w' ⟨rfl, hb⟩; replace HR := Lib.hid (HR.out.on hb); replace HB := Lib.hid (below_on HB.out hb); clear hb)
                    | (go_at_call 17; refine (threeN _ _ _ _ _ _ _ _ _ _ ?_ ?_ ?_ ?_ ?_ ?_).mono ?_; (first | exact fitV _ | assumption | exact fitQ _ (by assumption) | exact fitR _ (by assumption) | exact fitS _ (by assumption) | exact fit_zero | exact fitP _); (first | exact fitV _ | assumption | exact fitQ _ (by assumption) | exact fitR _ (by assumption) | exact fitS _ (by assumption) | exact fit_zero | exact fitP _); (first | exact fitV _ | assumption | exact fitQ _ (by assumption) | exact fitR _ (by assumption) | exact fitS _ (by assumption) | exact fit_zero | exact fitP _); exact HR.out.rd (by repeat (first | exact List.Mem.head _ | apply List.Mem.tail)); exact HR.out.rd (by repeat (first | exact List.Mem.head _ | apply List.Mem.tail)); exact HR.out.rd (by repeat (first | exact List.Mem.head _ | apply List.Mem.tail)); rintro e w' ⟨rfl, rfl⟩)
                    | (go_at_call 18; refine (addU _ _ _ _ _ _ _ ?_ ?_ ?_ ?_).mono ?_; (first | exact fitV _ | assumption | exact fitQ _ (by assumption) | exact fitR _ (by assumption) | exact fitS _ (by assumption) | exact fit_zero | exact fitP _); (first | exact fitV _ | assumption | exact fitQ _ (by assumption) | exact fitR _ (by assumption) | exact fitS _ (by assumption) | exact fit_zero | exact fitP _); exact HR.out.rd (by repeat (first | exact List.Mem.head _ | apply List.Mem.tail)); exact HR.out.rd (by repeat (first | exact List.Mem.head _ | apply List.Mem.tail)); rintro e w' ⟨hb, A', c', rfl, hr⟩; replace HR := Lib.hid (HR.out.push hb hr); replace HB := Lib.hid (below_on HB.out hb); clear hb hr)
                    | (go_at_call 16; refine (mulU _ _ _ _ _ _ _ ?_ ?_ ?_ ?_).mono ?_; (first | exact fitV _ | assumption | exact fitQ _ (by assumption) | exact fitR _ (by assumption) | exact fitS _ (by assumption) | exact fit_zero | exact fitP _); (first | exact fitV _ | assumption | exact fitQ _ (by assumption) | exact fitR _ (by assumption) | exact fitS _ (by assumption) | exact fit_zero | exact fitP _); exact HR.out.rd (by repeat (first | exact List.Mem.head _ | apply List.Mem.tail)); exact HR.out.rd (by repeat (first | exact List.Mem.head _ | apply List.Mem.tail)); rintro e w' ⟨hb, A', c', rfl, hr⟩; replace HR := Lib.hid (HR.out.push hb hr); replace HB := Lib.hid (below_on HB.out hb); clear hb hr)
                    | (go_at_call 15; refine (sameU _ _ _ _ _ _ _ ?_ ?_ ?_).mono ?_; (first | exact fitV _ | assumption | exact fitQ _ (by assumption) | exact fitR _ (by assumption) | exact fitS _ (by assumption) | exact fit_zero | exact fitP _); exact HR.out.rd (by repeat (first | exact List.Mem.head _ | apply List.Mem.tail)); exact HR.out.rd (by repeat (first | exact List.Mem.head _ | apply List.Mem.tail)); rintro e w' ⟨hb, rfl⟩; replace HR := Lib.hid (HR.out.on hb); replace HB := Lib.hid (below_on HB.out hb); clear hb)
                    | (go_at_call 13; refine (validN _ _ _ _ ?_ ?_).mono ?_; (first | exact fitV _ | assumption | exact fitQ _ (by assumption) | exact fitR _ (by assumption) | exact fitS _ (by assumption) | exact fit_zero | exact fitP _); exact HR.out.rd (by repeat (first | exact List.Mem.head _ | apply List.Mem.tail)); rintro e w' ⟨rfl, rfl⟩))
                go_ret
                exact ⟨rfl, HB.out⟩
              · have k7 := kE_big K
                clear J K
                go_enter Tryz.func5, Tryz.ntmps5
                go_wp2_with (first
                    | (go_at_call 12; refine (head_any _ (HT.out.below HB.out)).mono ?_; rintro e w' ⟨rfl, hb⟩; replace HR := Lib.hid (HR.out.on hb); replace HB := Lib.hid (below_on HB.out hb); clear hb)
                    | (go_at_call 17; refine (threeN _ _ _ _ _ _ _ _ _ _ ?_ ?_ ?_ ?_ ?_ ?_).mono ?_; (first | exact fitV _ | assumption | exact fitQ _ (by assumption) | exact fitR _ (by assumption) | exact fitS _ (by assumption) | exact fit_zero | exact fitP _); (first | exact fitV _ | assumption | exact fitQ _ (by assumption) | exact fitR _ (by assumption) | exact fitS _ (by assumption) | exact fit_zero | exact fitP _); (first | exact fitV _ | assumption | exact fitQ _ (by assumption) | exact fitR _ (by assumption) | exact fitS _ (by assumption) | exact fit_zero | exact fitP _); exact HR.out.rd (by repeat (first | exact List.Mem.head _ | apply List.Mem.tail)); exact HR.out.rd (by repeat (first | exact List.Mem.head _ | apply List.Mem.tail)); exact HR.out.rd (by repeat (first | exact List.Mem.head _ | apply List.Mem.tail)); rintro e w' ⟨rfl, rfl⟩)
                    | (go_at_call 18; refine (addU _ _ _ _ _ _ _ ?_ ?_ ?_ ?_).mono ?_; (first | exact fitV _ | assumption | exact fitQ _ (by assumption) | exact fitR _ (by assumption) | exact fitS _ (by assumption) | exact fit_zero | exact fitP _); (first | exact fitV _ | assumption | exact fitQ _ (by assumption) | exact fitR _ (by assumption) | exact fitS _ (by assumption) | exact fit_zero | exact fitP _); exact HR.out.rd (by repeat (first | exact List.Mem.head _ | apply List.Mem.tail)); exact HR.out.rd (by repeat (first | exact List.Mem.head _ | apply List.Mem.tail)); rintro e w' ⟨hb, A', c', rfl, hr⟩; replace HR := Lib.hid (HR.out.push hb hr); replace HB := Lib.hid (below_on HB.out hb); clear hb hr)
                    | (go_at_call 16; refine (mulU _ _ _ _ _ _ _ ?_ ?_ ?_ ?_).mono ?_; (first | exact fitV _ | assumption | exact fitQ _ (by assumption) | exact fitR _ (by assumption) | exact fitS _ (by assumption) | exact fit_zero | exact fitP _); (first | exact fitV _ | assumption | exact fitQ _ (by assumption) | exact fitR _ (by assumption) | exact fitS _ (by assumption) | exact fit_zero | exact fitP _); exact HR.out.rd (by repeat (first | exact List.Mem.head _ | apply List.Mem.tail)); exact HR.out.rd (by repeat (first | exact List.Mem.head _ | apply List.Mem.tail)); rintro e w' ⟨hb, A', c', rfl, hr⟩; replace HR := Lib.hid (HR.out.push hb hr); replace HB := Lib.hid (below_on HB.out hb); clear hb hr)
                    | (go_at_call 15; refine (sameU _ _ _ _ _ _ _ ?_ ?_ ?_).mono ?_; (first | exact fitV _ | assumption | exact fitQ _ (by assumption) | exact fitR _ (by assumption) | exact fitS _ (by assumption) | exact fit_zero | exact fitP _); exact HR.out.rd (by repeat (first | exact List.Mem.head _ | apply List.Mem.tail)); exact HR.out.rd (by repeat (first | exact List.Mem.head _ | apply List.Mem.tail)); rintro e w' ⟨hb, rfl⟩; replace HR := Lib.hid (HR.out.on hb); replace HB := Lib.hid (below_on HB.out hb); clear hb)
                    | (go_at_call 13; refine (validN _ _ _ _ ?_ ?_).mono ?_; (first | exact fitV _ | assumption | exact fitQ _ (by assumption) | exact fitR _ (by assumption) | exact fitS _ (by assumption) | exact fit_zero | exact fitP _); exact HR.out.rd (by repeat (first | exact List.Mem.head _ | apply List.Mem.tail)); rintro e w' ⟨rfl, rfl⟩))
                go_ret
                exact ⟨rfl, HB.out⟩
            · have k6 := kE_big J
              clear J
              go_enter Tryz.func5, Tryz.ntmps5
              go_wp2_with (first
                  | (go_at_call 12; refine (head_any _ (HT.out.below HB.out)).mono ?_; rintro e w' ⟨rfl, hb⟩; replace HR := Lib.hid (HR.out.on hb); replace HB := Lib.hid (below_on HB.out hb); clear hb)
                  | (go_at_call 17; refine (threeN _ _ _ _ _ _ _ _ _ _ ?_ ?_ ?_ ?_ ?_ ?_).mono ?_; (first | exact fitV _ | assumption | exact fitQ _ (by assumption) | exact fitR _ (by assumption) | exact fitS _ (by assumption) | exact fit_zero | exact fitP _); (first | exact fitV _ | assumption | exact fitQ _ (by assumption) | exact fitR _ (by assumption) | exact fitS _ (by assumption) | exact fit_zero | exact fitP _); (first | exact fitV _ | assumption | exact fitQ _ (by assumption) | exact fitR _ (by assumption) | exact fitS _ (by assumption) | exact fit_zero | exact fitP _); exact HR.out.rd (by repeat (first | exact List.Mem.head _ | apply List.Mem.tail)); exact HR.out.rd (by repeat (first | exact List.Mem.head _ | apply List.Mem.tail)); exact HR.out.rd (by repeat (first | exact List.Mem.head _ | apply List.Mem.tail)); rintro e w' ⟨rfl, rfl⟩)
                  | (go_at_call 18; refine (addU _ _ _ _ _ _ _ ?_ ?_ ?_ ?_).mono ?_; (first | exact fitV _ | assumption | exact fitQ _ (by assumption) | exact fitR _ (by assumption) | exact fitS _ (by assumption) | exact fit_zero | exact fitP _); (first | exact fitV _ | assumption | exact fitQ _ (by assumption) | exact fitR _ (by assumption) | exact fitS _ (by assumption) | exact fit_zero | exact fitP _); exact HR.out.rd (by repeat (first | exact List.Mem.head _ | apply List.Mem.tail)); exact HR.out.rd (by repeat (first | exact List.Mem.head _ | apply List.Mem.tail)); rintro e w' ⟨hb, A', c', rfl, hr⟩; replace HR := Lib.hid (HR.out.push hb hr); replace HB := Lib.hid (below_on HB.out hb); clear hb hr)
                  | (go_at_call 16; refine (mulU _ _ _ _ _ _ _ ?_ ?_ ?_ ?_).mono ?_; (first | exact fitV _ | assumption | exact fitQ _ (by assumption) | exact fitR _ (by assumption) | exact fitS _ (by assumption) | exact fit_zero | exact fitP _); (first | exact fitV _ | assumption | exact fitQ _ (by assumption) | exact fitR _ (by assumption) | exact fitS _ (by assumption) | exact fit_zero | exact fitP _); exact HR.out.rd (by repeat (first | exact List.Mem.head _ | apply List.Mem.tail)); exact HR.out.rd (by repeat (first | exact List.Mem.head _ | apply List.Mem.tail)); rintro e w' ⟨hb, A', c', rfl, hr⟩; replace HR := Lib.hid (HR.out.push hb hr); replace HB := Lib.hid (below_on HB.out hb); clear hb hr)
                  | (go_at_call 15; refine (sameU _ _ _ _ _ _ _ ?_ ?_ ?_).mono ?_; (first | exact fitV _ | assumption | exact fitQ _ (by assumption) | exact fitR _ (by assumption) | exact fitS _ (by assumption) | exact fit_zero | exact fitP _); exact HR.out.rd (by repeat (first | exact List.Mem.head _ | apply List.Mem.tail)); exact HR.out.rd (by repeat (first | exact List.Mem.head _ | apply List.Mem.tail)); rintro e w' ⟨hb, rfl⟩; replace HR := Lib.hid (HR.out.on hb); replace HB := Lib.hid (below_on HB.out hb); clear hb)
                  | (go_at_call 13; refine (validN _ _ _ _ ?_ ?_).mono ?_; (first | exact fitV _ | assumption | exact fitQ _ (by assumption) | exact fitR _ (by assumption) | exact fitS _ (by assumption) | exact fit_zero | exact fitP _); exact HR.out.rd (by repeat (first | exact List.Mem.head _ | apply List.Mem.tail)); rintro e w' ⟨rfl, rfl⟩))
              go_ret
              exact ⟨rfl, HB.out⟩
          · have k3 := kE_big H
            rw [k3] at k4
            clear G H
            by_cases J : Fit (y + z)
            · have k6 := kE_fit J
              by_cases K : Fit (x * vE (y + z))
              · have k7 := kE_fit K
                have k8 : kE (x * z) = 0 := kE_fit (fit_mono (by rw [vE_fit J, Nat.mul_add]; omega) K)
                have k9 : kE (vE (x * y) + vE (x * z)) = 0 := by
                  rw [v1.out, (kE_zero k8).2]
                  refine kE_fit ?_
                  rw [← Nat.mul_add, ← vE_fit J]
                  exact K
                have s9 : decide (vE (x * vE (y + z)) = vE (vE (x * y) + vE (x * z))) = true := by
                  rw [v1.out, (kE_zero k8).2, vE_fit J, Nat.mul_add]
                  simp
                clear J K
                go_enter Tryz.func5, Tryz.ntmps5
                go_wp2_with (first
                    | (go_at_call 12; refine (head_any _ (HT.out.below HB.out)).mono ?_; rintro e w' ⟨rfl, hb⟩; replace HR := Lib.hid (HR.out.on hb); replace HB := Lib.hid (below_on HB.out hb); clear hb)
                    | (go_at_call 17; refine (threeN _ _ _ _ _ _ _ _ _ _ ?_ ?_ ?_ ?_ ?_ ?_).mono ?_; (first | exact fitV _ | assumption | exact fitQ _ (by assumption) | exact fitR _ (by assumption) | exact fitS _ (by assumption) | exact fit_zero | exact fitP _); (first | exact fitV _ | assumption | exact fitQ _ (by assumption) | exact fitR _ (by assumption) | exact fitS _ (by assumption) | exact fit_zero | exact fitP _); (first | exact fitV _ | assumption | exact fitQ _ (by assumption) | exact fitR _ (by assumption) | exact fitS _ (by assumption) | exact fit_zero | exact fitP _); exact HR.out.rd (by repeat (first | exact List.Mem.head _ | apply List.Mem.tail)); exact HR.out.rd (by repeat (first | exact List.Mem.head _ | apply List.Mem.tail)); exact HR.out.rd (by repeat (first | exact List.Mem.head _ | apply List.Mem.tail)); rintro e w' ⟨rfl, rfl⟩)
                    | (go_at_call 18; refine (addU _ _ _ _ _ _ _ ?_ ?_ ?_ ?_).mono ?_; (first | exact fitV _ | assumption | exact fitQ _ (by assumption) | exact fitR _ (by assumption) | exact fitS _ (by assumption) | exact fit_zero | exact fitP _); (first | exact fitV _ | assumption | exact fitQ _ (by assumption) | exact fitR _ (by assumption) | exact fitS _ (by assumption) | exact fit_zero | exact fitP _); exact HR.out.rd (by repeat (first | exact List.Mem.head _ | apply List.Mem.tail)); exact HR.out.rd (by repeat (first | exact List.Mem.head _ | apply List.Mem.tail)); rintro e w' ⟨hb, A', c', rfl, hr⟩; replace HR := Lib.hid (HR.out.push hb hr); replace HB := Lib.hid (below_on HB.out hb); clear hb hr)
                    | (go_at_call 16; refine (mulU _ _ _ _ _ _ _ ?_ ?_ ?_ ?_).mono ?_; (first | exact fitV _ | assumption | exact fitQ _ (by assumption) | exact fitR _ (by assumption) | exact fitS _ (by assumption) | exact fit_zero | exact fitP _); (first | exact fitV _ | assumption | exact fitQ _ (by assumption) | exact fitR _ (by assumption) | exact fitS _ (by assumption) | exact fit_zero | exact fitP _); exact HR.out.rd (by repeat (first | exact List.Mem.head _ | apply List.Mem.tail)); exact HR.out.rd (by repeat (first | exact List.Mem.head _ | apply List.Mem.tail)); rintro e w' ⟨hb, A', c', rfl, hr⟩; replace HR := Lib.hid (HR.out.push hb hr); replace HB := Lib.hid (below_on HB.out hb); clear hb hr)
                    | (go_at_call 15; refine (sameU _ _ _ _ _ _ _ ?_ ?_ ?_).mono ?_; (first | exact fitV _ | assumption | exact fitQ _ (by assumption) | exact fitR _ (by assumption) | exact fitS _ (by assumption) | exact fit_zero | exact fitP _); exact HR.out.rd (by repeat (first | exact List.Mem.head _ | apply List.Mem.tail)); exact HR.out.rd (by repeat (first | exact List.Mem.head _ | apply List.Mem.tail)); rintro e w' ⟨hb, rfl⟩; replace HR := Lib.hid (HR.out.on hb); replace HB := Lib.hid (below_on HB.out hb); clear hb)
                    | (go_at_call 13; refine (validN _ _ _ _ ?_ ?_).mono ?_; (first | exact fitV _ | assumption | exact fitQ _ (by assumption) | exact fitR _ (by assumption) | exact fitS _ (by assumption) | exact fit_zero | exact fitP _); exact HR.out.rd (by repeat (first | exact List.Mem.head _ | apply List.Mem.tail)); rintro e w' ⟨rfl, rfl⟩))
                go_ret
                exact ⟨rfl, HB.out⟩
              · have k7 := kE_big K
                clear J K
                go_enter Tryz.func5, Tryz.ntmps5
                go_wp2_with (first
                    | (go_at_call 12; refine (head_any _ (HT.out.below HB.out)).mono ?_; rintro e w' ⟨rfl, hb⟩; replace HR := Lib.hid (HR.out.on hb); replace HB := Lib.hid (below_on HB.out hb); clear hb)
                    | (go_at_call 17; refine (threeN _ _ _ _ _ _ _ _ _ _ ?_ ?_ ?_ ?_ ?_ ?_).mono ?_; (first | exact fitV _ | assumption | exact fitQ _ (by assumption) | exact fitR _ (by assumption) | exact fitS _ (by assumption) | exact fit_zero | exact fitP _); (first | exact fitV _ | assumption | exact fitQ _ (by assumption) | exact fitR _ (by assumption) | exact fitS _ (by assumption) | exact fit_zero | exact fitP _); (first | exact fitV _ | assumption | exact fitQ _ (by assumption) | exact fitR _ (by assumption) | exact fitS _ (by assumption) | exact fit_zero | exact fitP _); exact HR.out.rd (by repeat (first | exact List.Mem.head _ | apply List.Mem.tail)); exact HR.out.rd (by repeat (first | exact List.Mem.head _ | apply List.Mem.tail)); exact HR.out.rd (by repeat (first | exact List.Mem.head _ | apply List.Mem.tail)); rintro e w' ⟨rfl, rfl⟩)
                    | (go_at_call 18; refine (addU _ _ _ _ _ _ _ ?_ ?_ ?_ ?_).mono ?_; (first | exact fitV _ | assumption | exact fitQ _ (by assumption) | exact fitR _ (by assumption) | exact fitS _ (by assumption) | exact fit_zero | exact fitP _); (first | exact fitV _ | assumption | exact fitQ _ (by assumption) | exact fitR _ (by assumption) | exact fitS _ (by assumption) | exact fit_zero | exact fitP _); exact HR.out.rd (by repeat (first | exact List.Mem.head _ | apply List.Mem.tail)); exact HR.out.rd (by repeat (first | exact List.Mem.head _ | apply List.Mem.tail)); rintro e w' ⟨hb, A', c', rfl, hr⟩; replace HR := Lib.hid (HR.out.push hb hr); replace HB := Lib.hid (below_on HB.out hb); clear hb hr)
                    | (go_at_call 16; refine (mulU _ _ _ _ _ _ _ ?_ ?_ ?_ ?_).mono ?_; (first | exact fitV _ | assumption | exact fitQ _ (by assumption) | exact fitR _ (by assumption) | exact fitS _ (by assumption) | exact fit_zero | exact fitP _); (first | exact fitV _ | assumption | exact fitQ _ (by assumption) | exact fitR _ (by assumption) | exact fitS _ (by assumption) | exact fit_zero | exact fitP _); exact HR.out.rd (by repeat (first | exact List.Mem.head _ | apply List.Mem.tail)); exact HR.out.rd (by repeat (first | exact List.Mem.head _ | apply List.Mem.tail)); rintro e w' ⟨hb, A', c', rfl, hr⟩; replace HR := Lib.hid (HR.out.push hb hr); replace HB := Lib.hid (below_on HB.out hb); clear hb hr)
                    | (go_at_call 15; refine (sameU _ _ _ _ _ _ _ ?_ ?_ ?_).mono ?_; (first | exact fitV _ | assumption | exact fitQ _ (by assumption) | exact fitR _ (by assumption) | exact fitS _ (by assumption) | exact fit_zero | exact fitP _); exact HR.out.rd (by repeat (first | exact List.Mem.head _ | apply List.Mem.tail)); exact HR.out.rd (by repeat (first | exact List.Mem.head _ | apply List.Mem.tail)); rintro e w' ⟨hb, rfl⟩; replace HR := Lib.hid (HR.out.on hb); replace HB := Lib.hid (below_on HB.out hb); clear hb)
                    | (go_at_call 13; refine (validN _ _ _ _ ?_ ?_).mono ?_; (first | exact fitV _ | assumption | exact fitQ _ (by assumption) | exact fitR _ (by assumption) | exact fitS _ (by assumption) | exact fit_zero | exact fitP _); exact HR.out.rd (by repeat (first | exact List.Mem.head _ | apply List.Mem.tail)); rintro e w' ⟨rfl, rfl⟩))
                go_ret
                exact ⟨rfl, HB.out⟩
            · have k6 := kE_big J
              clear J
              go_enter Tryz.func5, Tryz.ntmps5
              go_wp2_with (first
                  | (go_at_call 12; refine (head_any _ (HT.out.below HB.out)).mono ?_; rintro e w' ⟨rfl, hb⟩; replace HR := Lib.hid (HR.out.on hb); replace HB := Lib.hid (below_on HB.out hb); clear hb)
                  | (go_at_call 17; refine (threeN _ _ _ _ _ _ _ _ _ _ ?_ ?_ ?_ ?_ ?_ ?_).mono ?_; (first | exact fitV _ | assumption | exact fitQ _ (by assumption) | exact fitR _ (by assumption) | exact fitS _ (by assumption) | exact fit_zero | exact fitP _); (first | exact fitV _ | assumption | exact fitQ _ (by assumption) | exact fitR _ (by assumption) | exact fitS _ (by assumption) | exact fit_zero | exact fitP _); (first | exact fitV _ | assumption | exact fitQ _ (by assumption) | exact fitR _ (by assumption) | exact fitS _ (by assumption) | exact fit_zero | exact fitP _); exact HR.out.rd (by repeat (first | exact List.Mem.head _ | apply List.Mem.tail)); exact HR.out.rd (by repeat (first | exact List.Mem.head _ | apply List.Mem.tail)); exact HR.out.rd (by repeat (first | exact List.Mem.head _ | apply List.Mem.tail)); rintro e w' ⟨rfl, rfl⟩)
                  | (go_at_call 18; refine (addU _ _ _ _ _ _ _ ?_ ?_ ?_ ?_).mono ?_; (first | exact fitV _ | assumption | exact fitQ _ (by assumption) | exact fitR _ (by assumption) | exact fitS _ (by assumption) | exact fit_zero | exact fitP _); (first | exact fitV _ | assumption | exact fitQ _ (by assumption) | exact fitR _ (by assumption) | exact fitS _ (by assumption) | exact fit_zero | exact fitP _); exact HR.out.rd (by repeat (first | exact List.Mem.head _ | apply List.Mem.tail)); exact HR.out.rd (by repeat (first | exact List.Mem.head _ | apply List.Mem.tail)); rintro e w' ⟨hb, A', c', rfl, hr⟩; replace HR := Lib.hid (HR.out.push hb hr); replace HB := Lib.hid (below_on HB.out hb); clear hb hr)
                  | (go_at_call 16; refine (mulU _ _ _ _ _ _ _ ?_ ?_ ?_ ?_).mono ?_; (first | exact fitV _ | assumption | exact fitQ _ (by assumption) | exact fitR _ (by assumption) | exact fitS _ (by assumption) | exact fit_zero | exact fitP _); (first | exact fitV _ | assumption | exact fitQ _ (by assumption) | exact fitR _ (by assumption) | exact fitS _ (by assumption) | exact fit_zero | exact fitP _); exact HR.out.rd (by repeat (first | exact List.Mem.head _ | apply List.Mem.tail)); exact HR.out.rd (by repeat (first | exact List.Mem.head _ | apply List.Mem.tail)); rintro e w' ⟨hb, A', c', rfl, hr⟩; replace HR := Lib.hid (HR.out.push hb hr); replace HB := Lib.hid (below_on HB.out hb); clear hb hr)
                  | (go_at_call 15; refine (sameU _ _ _ _ _ _ _ ?_ ?_ ?_).mono ?_; (first | exact fitV _ | assumption | exact fitQ _ (by assumption) | exact fitR _ (by assumption) | exact fitS _ (by assumption) | exact fit_zero | exact fitP _); exact HR.out.rd (by repeat (first | exact List.Mem.head _ | apply List.Mem.tail)); exact HR.out.rd (by repeat (first | exact List.Mem.head _ | apply List.Mem.tail)); rintro e w' ⟨hb, rfl⟩; replace HR := Lib.hid (HR.out.on hb); replace HB := Lib.hid (below_on HB.out hb); clear hb)
                  | (go_at_call 13; refine (validN _ _ _ _ ?_ ?_).mono ?_; (first | exact fitV _ | assumption | exact fitQ _ (by assumption) | exact fitR _ (by assumption) | exact fitS _ (by assumption) | exact fit_zero | exact fitP _); exact HR.out.rd (by repeat (first | exact List.Mem.head _ | apply List.Mem.tail)); rintro e w' ⟨rfl, rfl⟩))
              go_ret
              exact ⟨rfl, HB.out⟩
        · have k2 := kE_big G
          clear G
          by_cases J : Fit (y + z)
          · have k6 := kE_fit J
            by_cases K : Fit (x * vE (y + z))
            · have k7 := kE_fit K
              have k8 : kE (x * z) = 0 := kE_fit (fit_mono (by rw [vE_fit J, Nat.mul_add]; omega) K)
              have k9 : kE (vE (x * y) + vE (x * z)) = 0 := by
                rw [v1.out, (kE_zero k8).2]
                refine kE_fit ?_
                rw [← Nat.mul_add, ← vE_fit J]
                exact K
              have s9 : decide (vE (x * vE (y + z)) = vE (vE (x * y) + vE (x * z))) = true := by
                rw [v1.out, (kE_zero k8).2, vE_fit J, Nat.mul_add]
                simp
              clear J K
              go_enter Tryz.func5, Tryz.ntmps5
              go_wp2_with (first
                  | (go_at_call 12; refine (head_any _ (HT.out.below HB.out)).mono ?_; rintro e w' ⟨rfl, hb⟩; replace HR := Lib.hid (HR.out.on hb); replace HB := Lib.hid (below_on HB.out hb); clear hb)
                  | (go_at_call 17; refine (threeN _ _ _ _ _ _ _ _ _ _ ?_ ?_ ?_ ?_ ?_ ?_).mono ?_; (first | exact fitV _ | assumption | exact fitQ _ (by assumption) | exact fitR _ (by assumption) | exact fitS _ (by assumption) | exact fit_zero | exact fitP _); (first | exact fitV _ | assumption | exact fitQ _ (by assumption) | exact fitR _ (by assumption) | exact fitS _ (by assumption) | exact fit_zero | exact fitP _); (first | exact fitV _ | assumption | exact fitQ _ (by assumption) | exact fitR _ (by assumption) | exact fitS _ (by assumption) | exact fit_zero | exact fitP _); exact HR.out.rd (by repeat (first | exact List.Mem.head _ | apply List.Mem.tail)); exact HR.out.rd (by repeat (first | exact List.Mem.head _ | apply List.Mem.tail)); exact HR.out.rd (by repeat (first | exact List.Mem.head _ | apply List.Mem.tail)); rintro e w' ⟨rfl, rfl⟩)
                  | (go_at_call 18; refine (addU _ _ _ _ _ _ _ ?_ ?_ ?_ ?_).mono ?_; (first | exact fitV _ | assumption | exact fitQ _ (by assumption) | exact fitR _ (by assumption) | exact fitS _ (by assumption) | exact fit_zero | exact fitP _); (first | exact fitV _ | assumption | exact fitQ _ (by assumption) | exact fitR _ (by assumption) | exact fitS _ (by assumption) | exact fit_zero | exact fitP _); exact HR.out.rd (by repeat (first | exact List.Mem.head _ | apply List.Mem.tail)); exact HR.out.rd (by repeat (first | exact List.Mem.head _ | apply List.Mem.tail)); rintro e w' ⟨hb, A', c', rfl, hr⟩; replace HR := Lib.hid (HR.out.push hb hr); replace HB := Lib.hid (below_on HB.out hb); clear hb hr)
                  | (go_at_call 16; refine (mulU _ _ _ _ _ _ _ ?_ ?_ ?_ ?_).mono ?_; (first | exact fitV _ | assumption | exact fitQ _ (by assumption) | exact fitR _ (by assumption) | exact fitS _ (by assumption) | exact fit_zero | exact fitP _); (first | exact fitV _ | assumption | exact fitQ _ (by assumption) | exact fitR _ (by assumption) | exact fitS _ (by assumption) | exact fit_zero | exact fitP _); exact HR.out.rd (by repeat (first | exact List.Mem.head _ | apply List.Mem.tail)); exact HR.out.rd (by repeat (first | exact List.Mem.head _ | apply List.Mem.tail)); rintro e w' ⟨hb, A', c', rfl, hr⟩; replace HR := Lib.hid (HR.out.push hb hr); replace HB := Lib.hid (below_on HB.out hb); clear hb hr)
                  | (go_at_call 15; refine (sameU _ _ _ _ _ _ _ ?_ ?_ ?_).mono ?_; (first | exact fitV _ | assumption | exact fitQ _ (by assumption) | exact fitR _ (by assumption) | exact fitS _ (by assumption) | exact fit_zero | exact fitP _); exact HR.out.rd (by repeat (first | exact List.Mem.head _ | apply List.Mem.tail)); exact HR.out.rd (by repeat (first | exact List.Mem.head _ | apply List.Mem.tail)); rintro e w' ⟨hb, rfl⟩; replace HR := Lib.hid (HR.out.on hb); replace HB := Lib.hid (below_on HB.out hb); clear hb)
                  | (go_at_call 13; refine (validN _ _ _ _ ?_ ?_).mono ?_; (first | exact fitV _ | assumption | exact fitQ _ (by assumption) | exact fitR _ (by assumption) | exact fitS _ (by assumption) | exact fit_zero | exact fitP _); exact HR.out.rd (by repeat (first | exact List.Mem.head _ | apply List.Mem.tail)); rintro e w' ⟨rfl, rfl⟩))
              go_ret
              exact ⟨rfl, HB.out⟩
            · have k7 := kE_big K
              clear J K
              go_enter Tryz.func5, Tryz.ntmps5
              go_wp2_with (first
                  | (go_at_call 12; refine (head_any _ (HT.out.below HB.out)).mono ?_; rintro e w' ⟨rfl, hb⟩; replace HR := Lib.hid (HR.out.on hb); replace HB := Lib.hid (below_on HB.out hb); clear hb)
                  | (go_at_call 17; refine (threeN _ _ _ _ _ _ _ _ _ _ ?_ ?_ ?_ ?_ ?_ ?_).mono ?_; (first | exact fitV _ | assumption | exact fitQ _ (by assumption) | exact fitR _ (by assumption) | exact fitS _ (by assumption) | exact fit_zero | exact fitP _); (first | exact fitV _ | assumption | exact fitQ _ (by assumption) | exact fitR _ (by assumption) | exact fitS _ (by assumption) | exact fit_zero | exact fitP _); (first | exact fitV _ | assumption | exact fitQ _ (by assumption) | exact fitR _ (by assumption) | exact fitS _ (by assumption) | exact fit_zero | exact fitP _); exact HR.out.rd (by repeat (first | exact List.Mem.head _ | apply List.Mem.tail)); exact HR.out.rd (by repeat (first | exact List.Mem.head _ | apply List.Mem.tail)); exact HR.out.rd (by repeat (first | exact List.Mem.head _ | apply List.Mem.tail)); rintro e w' ⟨rfl, rfl⟩)
                  | (go_at_call 18; refine (addU _ _ _ _ _ _ _ ?_ ?_ ?_ ?_).mono ?_; (first | exact fitV _ | assumption | exact fitQ _ (by assumption) | exact fitR _ (by assumption) | exact fitS _ (by assumption) | exact fit_zero | exact fitP _); (first | exact fitV _ | assumption | exact fitQ _ (by assumption) | exact fitR _ (by assumption) | exact fitS _ (by assumption) | exact fit_zero | exact fitP _); exact HR.out.rd (by repeat (first | exact List.Mem.head _ | apply List.Mem.tail)); exact HR.out.rd (by repeat (first | exact List.Mem.head _ | apply List.Mem.tail)); rintro e w' ⟨hb, A', c', rfl, hr⟩; replace HR := Lib.hid (HR.out.push hb hr); replace HB := Lib.hid (below_on HB.out hb); clear hb hr)
                  | (go_at_call 16; refine (mulU _ _ _ _ _ _ _ ?_ ?_ ?_ ?_).mono ?_; (first | exact fitV _ | assumption | exact fitQ _ (by assumption) | exact fitR _ (by assumption) | exact fitS _ (by assumption) | exact fit_zero | exact fitP _); (first | exact fitV _ | assumption | exact fitQ _ (by assumption) | exact fitR _ (by assumption) | exact fitS _ (by assumption) | exact fit_zero | exact fitP _); exact HR.out.rd (by repeat (first | exact List.Mem.head _ | apply List.Mem.tail)); exact HR.out.rd (by repeat (first | exact List.Mem.head _ | apply List.Mem.tail)); rintro e w' ⟨hb, A', c', rfl, hr⟩; replace HR := Lib.hid (HR.out.push hb hr); replace HB := Lib.hid (below_on HB.out hb); clear hb hr)
                  | (go_at_call 15; refine (sameU _ _ _ _ _ _ _ ?_ ?_ ?_).mono ?_; (first | exact fitV _ | assumption | exact fitQ _ (by assumption) | exact fitR _ (by assumption) | exact fitS _ (by assumption) | exact fit_zero | exact fitP _); exact HR.out.rd (by repeat (first | exact List.Mem.head _ | apply List.Mem.tail)); exact HR.out.rd (by repeat (first | exact List.Mem.head _ | apply List.Mem.tail)); rintro e w' ⟨hb, rfl⟩; replace HR := Lib.hid (HR.out.on hb); replace HB := Lib.hid (below_on HB.out hb); clear hb)
                  | (go_at_call 13; refine (validN _ _ _ _ ?_ ?_).mono ?_; (first | exact fitV _ | assumption | exact fitQ _ (by assumption) | exact fitR _ (by assumption) | exact fitS _ (by assumption) | exact fit_zero | exact fitP _); exact HR.out.rd (by repeat (first | exact List.Mem.head _ | apply List.Mem.tail)); rintro e w' ⟨rfl, rfl⟩))
              go_ret
              exact ⟨rfl, HB.out⟩
          · have k6 := kE_big J
            clear J
            go_enter Tryz.func5, Tryz.ntmps5
            go_wp2_with (first
                | (go_at_call 12; refine (head_any _ (HT.out.below HB.out)).mono ?_; rintro e w' ⟨rfl, hb⟩; replace HR := Lib.hid (HR.out.on hb); replace HB := Lib.hid (below_on HB.out hb); clear hb)
                | (go_at_call 17; refine (threeN _ _ _ _ _ _ _ _ _ _ ?_ ?_ ?_ ?_ ?_ ?_).mono ?_; (first | exact fitV _ | assumption | exact fitQ _ (by assumption) | exact fitR _ (by assumption) | exact fitS _ (by assumption) | exact fit_zero | exact fitP _); (first | exact fitV _ | assumption | exact fitQ _ (by assumption) | exact fitR _ (by assumption) | exact fitS _ (by assumption) | exact fit_zero | exact fitP _); (first | exact fitV _ | assumption | exact fitQ _ (by assumption) | exact fitR _ (by assumption) | exact fitS _ (by assumption) | exact fit_zero | exact fitP _); exact HR.out.rd (by repeat (first | exact List.Mem.head _ | apply List.Mem.tail)); exact HR.out.rd (by repeat (first | exact List.Mem.head _ | apply List.Mem.tail)); exact HR.out.rd (by repeat (first | exact List.Mem.head _ | apply List.Mem.tail)); rintro e w' ⟨rfl, rfl⟩)
                | (go_at_call 18; refine (addU _ _ _ _ _ _ _ ?_ ?_ ?_ ?_).mono ?_; (first | exact fitV _ | assumption | exact fitQ _ (by assumption) | exact fitR _ (by assumption) | exact fitS _ (by assumption) | exact fit_zero | exact fitP _); (first | exact fitV _ | assumption | exact fitQ _ (by assumption) | exact fitR _ (by assumption) | exact fitS _ (by assumption) | exact fit_zero | exact fitP _); exact HR.out.rd (by repeat (first | exact List.Mem.head _ | apply List.Mem.tail)); exact HR.out.rd (by repeat (first | exact List.Mem.head _ | apply List.Mem.tail)); rintro e w' ⟨hb, A', c', rfl, hr⟩; replace HR := Lib.hid (HR.out.push hb hr); replace HB := Lib.hid (below_on HB.out hb); clear hb hr)
                | (go_at_call 16; refine (mulU _ _ _ _ _ _ _ ?_ ?_ ?_ ?_).mono ?_; (first | exact fitV _ | assumption | exact fitQ _ (by assumption) | exact fitR _ (by assumption) | exact fitS _ (by assumption) | exact fit_zero | exact fitP _); (first | exact fitV _ | assumption | exact fitQ _ (by assumption) | exact fitR _ (by assumption) | exact fitS _ (by assumption) | exact fit_zero | exact fitP _); exact HR.out.rd (by repeat (first | exact List.Mem.head _ | apply List.Mem.tail)); exact HR.out.rd (by repeat (first | exact List.Mem.head _ | apply List.Mem.tail)); rintro e w' ⟨hb, A', c', rfl, hr⟩; replace HR := Lib.hid (HR.out.push hb hr); replace HB := Lib.hid (below_on HB.out hb); clear hb hr)
                | (go_at_call 15; refine (sameU _ _ _ _ _ _ _ ?_ ?_ ?_).mono ?_; (first | exact fitV _ | assumption | exact fitQ _ (by assumption) | exact fitR _ (by assumption) | exact fitS _ (by assumption) | exact fit_zero | exact fitP _); exact HR.out.rd (by repeat (first | exact List.Mem.head _ | apply List.Mem.tail)); exact HR.out.rd (by repeat (first | exact List.Mem.head _ | apply List.Mem.tail)); rintro e w' ⟨hb, rfl⟩; replace HR := Lib.hid (HR.out.on hb); replace HB := Lib.hid (below_on HB.out hb); clear hb)
                | (go_at_call 13; refine (validN _ _ _ _ ?_ ?_).mono ?_; (first | exact fitV _ | assumption | exact fitQ _ (by assumption) | exact fitR _ (by assumption) | exact fitS _ (by assumption) | exact fit_zero | exact fitP _); exact HR.out.rd (by repeat (first | exact List.Mem.head _ | apply List.Mem.tail)); rintro e w' ⟨rfl, rfl⟩))
            go_ret
            exact ⟨rfl, HB.out⟩
  · have k1 := kE_big F1
    rw [k1] at k0
    have hx0 : 0 < (limbs x).length := len_pos (fun e => F1 (by rw [e, Nat.zero_mul]; exact fit_zero))
    have hy0 : 0 < (limbs y).length := len_pos (fun e => F1 (by rw [e, Nat.mul_zero]; exact fit_zero))
    clear F1
    go_enter Tryz.func5, Tryz.ntmps5
    go_wp2_with (first
        | (go_at_call 12; refine (head_any _ (HT.out.below HB.out)).mono ?_; rintro e w' ⟨rfl, hb⟩; replace HR := Lib.hid (HR.out.on hb); replace HB := Lib.hid (below_on HB.out hb); clear hb)
        | (go_at_call 17; refine (threeN _ _ _ _ _ _ _ _ _ _ ?_ ?_ ?_ ?_ ?_ ?_).mono ?_; (first | exact fitV _ | assumption | exact fitQ _ (by assumption) | exact fitR _ (by assumption) | exact fitS _ (by assumption) | exact fit_zero | exact fitP _); (first | exact fitV _ | assumption | exact fitQ _ (by assumption) | exact fitR _ (by assumption) | exact fitS _ (by assumption) | exact fit_zero | exact fitP _); (first | exact fitV _ | assumption | exact fitQ _ (by assumption) | exact fitR _ (by assumption) | exact fitS _ (by assumption) | exact fit_zero | exact fitP _); exact HR.out.rd (by repeat (first | exact List.Mem.head _ | apply List.Mem.tail)); exact HR.out.rd (by repeat (first | exact List.Mem.head _ | apply List.Mem.tail)); exact HR.out.rd (by repeat (first | exact List.Mem.head _ | apply List.Mem.tail)); rintro e w' ⟨rfl, rfl⟩)
        | (go_at_call 18; refine (addU _ _ _ _ _ _ _ ?_ ?_ ?_ ?_).mono ?_; (first | exact fitV _ | assumption | exact fitQ _ (by assumption) | exact fitR _ (by assumption) | exact fitS _ (by assumption) | exact fit_zero | exact fitP _); (first | exact fitV _ | assumption | exact fitQ _ (by assumption) | exact fitR _ (by assumption) | exact fitS _ (by assumption) | exact fit_zero | exact fitP _); exact HR.out.rd (by repeat (first | exact List.Mem.head _ | apply List.Mem.tail)); exact HR.out.rd (by repeat (first | exact List.Mem.head _ | apply List.Mem.tail)); rintro e w' ⟨hb, A', c', rfl, hr⟩; replace HR := Lib.hid (HR.out.push hb hr); replace HB := Lib.hid (below_on HB.out hb); clear hb hr)
        | (go_at_call 16; refine (mulU _ _ _ _ _ _ _ ?_ ?_ ?_ ?_).mono ?_; (first | exact fitV _ | assumption | exact fitQ _ (by assumption) | exact fitR _ (by assumption) | exact fitS _ (by assumption) | exact fit_zero | exact fitP _); (first | exact fitV _ | assumption | exact fitQ _ (by assumption) | exact fitR _ (by assumption) | exact fitS _ (by assumption) | exact fit_zero | exact fitP _); exact HR.out.rd (by repeat (first | exact List.Mem.head _ | apply List.Mem.tail)); exact HR.out.rd (by repeat (first | exact List.Mem.head _ | apply List.Mem.tail)); rintro e w' ⟨hb, A', c', rfl, hr⟩; replace HR := Lib.hid (HR.out.push hb hr); replace HB := Lib.hid (below_on HB.out hb); clear hb hr)
        | (go_at_call 15; refine (sameU _ _ _ _ _ _ _ ?_ ?_ ?_).mono ?_; (first | exact fitV _ | assumption | exact fitQ _ (by assumption) | exact fitR _ (by assumption) | exact fitS _ (by assumption) | exact fit_zero | exact fitP _); exact HR.out.rd (by repeat (first | exact List.Mem.head _ | apply List.Mem.tail)); exact HR.out.rd (by repeat (first | exact List.Mem.head _ | apply List.Mem.tail)); rintro e w' ⟨hb, rfl⟩; replace HR := Lib.hid (HR.out.on hb); replace HB := Lib.hid (below_on HB.out hb); clear hb)
        | (go_at_call 13; refine (validN _ _ _ _ ?_ ?_).mono ?_; (first | exact fitV _ | assumption | exact fitQ _ (by assumption) | exact fitR _ (by assumption) | exact fitS _ (by assumption) | exact fit_zero | exact fitP _); exact HR.out.rd (by repeat (first | exact List.Mem.head _ | apply List.Mem.tail)); rintro e w' ⟨rfl, rfl⟩))
    go_ret
    exact ⟨rfl, HB.out⟩



set_option maxRecDepth 100000 in
set_option maxHeartbeats 1000000 in
theorem products_bad (w : World) (A1 A2 A3 : Option Addr) (c1 c2 c3 : Nat) (a b c : List Nat) (r1 : RdW w w.heap.size A1 a) (r2 : RdW w w.heap.size A2 b) (r3 : RdW w w.heap.size A3 c) (na : a.length ≤ 9223372036854775807) (nb : b.length ≤ 9223372036854775807) (nc : c.length ≤ 9223372036854775807) (hT : Tab w) (hbad : (isNat a && isNat b && isNat c) = false) :
    Calls Tryz.prog 5 #[.slice A1 a.length c1, .slice A2 b.length c2, .slice A3 c.length c3] w fun e w' => e = .returned (.bool true) ∧ Below w.heap.size w w' := by
  have H3 := Lib.hid fun (w1 : World) (hb : Below w.heap.size w w1) => three_any w1 A1 A2 A3 c1 c2 c3 a b c ((r1.below hb (Nat.le_refl _)).mono hb.size) ((r2.below hb (Nat.le_refl _)).mono hb.size) ((r3.below hb (Nat.le_refl _)).mono hb.size) na nb nc
  rw [hbad] at H3
  have HT := Lib.hid hT; clear hT hbad r1 r2 r3
  go_enter Tryz.func5, Tryz.ntmps5
  go_wp2_with (first
    | (go_at_call 12; refine (head_any _ HT.out).mono ?_; rintro e w1 ⟨rfl, hb⟩; replace hb := Lib.hid hb)
    | (go_at_call 17; refine (H3.out _ hb.out).mono ?_; rintro e w' ⟨rfl, rfl⟩))
  go_ret
  exact ⟨rfl, hb.out⟩

theorem products_any (w : World) (A1 A2 A3 : Option Addr) (c1 c2 c3 : Nat) (a b c : List Nat) (r1 : RdW w w.heap.size A1 a) (r2 : RdW w w.heap.size A2 b) (r3 : RdW w w.heap.size A3 c) (la : Lim a) (lb : Lim b) (lc : Lim c) (na : a.length ≤ 9223372036854775807) (nb : b.length ≤ 9223372036854775807) (nc : c.length ≤ 9223372036854775807) (hT : Tab w) :
    Calls Tryz.prog 5 #[.slice A1 a.length c1, .slice A2 b.length c2, .slice A3 c.length c3] w fun e w' => e = .returned (.bool true) ∧ Below w.heap.size w w' := by
  rcases h : (isNat a && isNat b && isNat c) with _ | _
  · exact products_bad w A1 A2 A3 c1 c2 c3 a b c r1 r2 r3 na nb nc hT h
  · rw [Bool.and_eq_true, Bool.and_eq_true] at h
    obtain ⟨⟨ha, hb⟩, hc⟩ := h
    have e1 := isNat_eq la ha
    have e2 := isNat_eq lb hb
    have e3 := isNat_eq lc hc
    have f1 : Fit (val a) := by unfold Fit; rw [← e1]; exact (isNat_norm ha).1
    have f2 : Fit (val b) := by unfold Fit; rw [← e2]; exact (isNat_norm hb).1
    have f3 : Fit (val c) := by unfold Fit; rw [← e3]; exact (isNat_norm hc).1
    have := products_good w A1 A2 A3 c1 c2 c3 (val a) (val b) (val c) f1 f2 f3 (by rw [← e1]; exact r1) (by rw [← e2]; exact r2) (by rw [← e3]; exact r3) hT
    rw [← e1, ← e2, ← e3] at this
    exact this

end Go.Proofs.YtgcobhlplffpjaaGreatDoor
