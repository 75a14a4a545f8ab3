/- Walk: the law NaturalDivision answers true. -/
import Derived.Test.YtgcobhlplffpjaaGreatDoorQ0
namespace Go.Proofs.YtgcobhlplffpjaaGreatDoor
open Go.RowKit Go.Deep

set_option maxRecDepth 100000 in
set_option maxHeartbeats 8000000 in
theorem division_good (w : World) (A1 A2 A3 : Option Addr) (c1 c2 c3 : Nat) (x y z : Nat) (hx : Fit x) (hy : Fit y) (hz : Fit z) (r1 : RdW w w.heap.size A1 (limbs x)) (r2 : RdW w w.heap.size A2 (limbs y)) (r3 : RdW w w.heap.size A3 (limbs z)) (hT : Tab w) :
    Calls Tryz.prog 9 #[.slice A1 (limbs x).length c1, .slice A2 (limbs y).length c2, .slice A3 (limbs z).length c3] w fun e w' => e = .returned (.bool true) ∧ Below w.heap.size w w' := by
  have HT := Lib.hid hT; clear hT
  have HB := Lib.hid (Below.refl w.heap.size w)
  have HR := Lib.hid (store3 r1 r2 r3); clear r1 r2 r3
  by_cases Y : y = 0
  · have q2 : (((limbs y).length : Int) == 0) = true := by rw [len_zero]; exact decide_eq_true Y
    have k1 : kD y = 7 := if_pos Y
    have q3 : (((limbs (x / y)).length : Int) == 0) = true := by rw [len_zero, Y, Nat.div_zero]; rfl
    have q4 : (((limbs (vR x y)).length : Int) == 0) = true := by rw [len_zero, Y]; rfl
    clear Y
    go_enter Tryz.func9, Tryz.ntmps9
    go_wp2_with (first
        | (go_at_call 12; refine (head_any _ (HT.out.below HB.out)).mono ?_; rintro e w' ⟨rfl, hb⟩; replace HR := Lib.hid (HR.out.on hb); replace HB := Lib.hid (below_on HB.out hb); clear hb)
        | (go_at_call 17; refine (threeN _ _ _ _ _ _ _ _ _ _ ?_ ?_ ?_ ?_ ?_ ?_).mono ?_; (first | exact fitV _ | assumption | exact fitQ _ (by assumption) | exact fitR _ (by assumption) | exact fitS _ (by assumption) | exact fit_zero | exact fitP _); (first | exact fitV _ | assumption | exact fitQ _ (by assumption) | exact fitR _ (by assumption) | exact fitS _ (by assumption) | exact fit_zero | exact fitP _); (first | exact fitV _ | assumption | exact fitQ _ (by assumption) | exact fitR _ (by assumption) | exact fitS _ (by assumption) | exact fit_zero | exact fitP _); exact HR.out.rd (by repeat (first | exact List.Mem.head _ | apply List.Mem.tail)); exact HR.out.rd (by repeat (first | exact List.Mem.head _ | apply List.Mem.tail)); exact HR.out.rd (by repeat (first | exact List.Mem.head _ | apply List.Mem.tail)); rintro e w' ⟨rfl, rfl⟩)
        | (go_at_call 18; refine (addU _ _ _ _ _ _ _ ?_ ?_ ?_ ?_).mono ?_; (first | exact fitV _ | assumption | exact fitQ _ (by assumption) | exact fitR _ (by assumption) | exact fitS _ (by assumption) | exact fit_zero | exact fitP _); (first | exact fitV _ | assumption | exact fitQ _ (by assumption) | exact fitR _ (by assumption) | exact fitS _ (by assumption) | exact fit_zero | exact fitP _); exact HR.out.rd (by repeat (first | exact List.Mem.head _ | apply List.Mem.tail)); exact HR.out.rd (by repeat (first | exact List.Mem.head _ | apply List.Mem.tail)); rintro e w' ⟨hb, A', c', rfl, hr⟩; replace HR := Lib.hid (HR.out.push hb hr); replace HB := Lib.hid (below_on HB.out hb); clear hb hr)
        | (go_at_call 16; refine (mulU _ _ _ _ _ _ _ ?_ ?_ ?_ ?_).mono ?_; (first | exact fitV _ | assumption | exact fitQ _ (by assumption) | exact fitR _ (by assumption) | exact fitS _ (by assumption) | exact fit_zero | exact fitP _); (first | exact fitV _ | assumption | exact fitQ _ (by assumption) | exact fitR _ (by assumption) | exact fitS _ (by assumption) | exact fit_zero | exact fitP _); exact HR.out.rd (by repeat (first | exact List.Mem.head _ | apply List.Mem.tail)); exact HR.out.rd (by repeat (first | exact List.Mem.head _ | apply List.Mem.tail)); rintro e w' ⟨hb, A', c', rfl, hr⟩; replace HR := Lib.hid (HR.out.push hb hr); replace HB := Lib.hid (below_on HB.out hb); clear hb hr)
        | (go_at_call 15; refine (sameU _ _ _ _ _ _ _ ?_ ?_ ?_).mono ?_; (first | exact fitV _ | assumption | exact fitQ _ (by assumption) | exact fitR _ (by assumption) | exact fitS _ (by assumption) | exact fit_zero | exact fitP _); exact HR.out.rd (by repeat (first | exact List.Mem.head _ | apply List.Mem.tail)); exact HR.out.rd (by repeat (first | exact List.Mem.head _ | apply List.Mem.tail)); rintro e w' ⟨hb, rfl⟩; replace HR := Lib.hid (HR.out.on hb); replace HB := Lib.hid (below_on HB.out hb); clear hb)
        | (go_at_call 23; refine (cmpU _ _ _ _ _ _ _ ?_ ?_ ?_ ?_).mono ?_; (first | exact fitV _ | assumption | exact fitQ _ (by assumption) | exact fitR _ (by assumption) | exact fitS _ (by assumption) | exact fit_zero | exact fitP _); (first | exact fitV _ | assumption | exact fitQ _ (by assumption) | exact fitR _ (by assumption) | exact fitS _ (by assumption) | exact fit_zero | exact fitP _); exact HR.out.rd (by repeat (first | exact List.Mem.head _ | apply List.Mem.tail)); exact HR.out.rd (by repeat (first | exact List.Mem.head _ | apply List.Mem.tail)); rintro e w' ⟨hb, rfl⟩; replace HR := Lib.hid (HR.out.on hb); replace HB := Lib.hid (below_on HB.out hb); clear hb)
        | (go_at_call 29; refine (divU _ _ _ _ _ _ _ ?_ ?_ ?_ ?_).mono ?_; (first | exact fitV _ | assumption | exact fitQ _ (by assumption) | exact fitR _ (by assumption) | exact fitS _ (by assumption) | exact fit_zero | exact fitP _); (first | exact fitV _ | assumption | exact fitQ _ (by assumption) | exact fitR _ (by assumption) | exact fitS _ (by assumption) | exact fit_zero | exact fitP _); exact HR.out.rd (by repeat (first | exact List.Mem.head _ | apply List.Mem.tail)); exact HR.out.rd (by repeat (first | exact List.Mem.head _ | apply List.Mem.tail)); rintro e w' ⟨hb, A', B', c', d', rfl, hr, hr2⟩; replace HR := Lib.hid ((HR.out.push hb hr).push (Below.refl _ _) hr2); replace HB := Lib.hid (below_on HB.out hb); clear hb hr hr2))
    go_ret
    exact ⟨rfl, HB.out⟩
  · have q2 : (((limbs y).length : Int) == 0) = false := by rw [len_zero]; exact decide_eq_false Y
    have k1 := kD_pos Y
    have f1 : Fit (x / y) := fitQ _ hx
    have f2 : Fit (vR x y) := fitR _ hx
    have g1 : Fit (x / y * y) := fit_mono (Nat.div_mul_le_self x y) hx
    have k2 := kE_fit g1
    have e1 : vE (x / y * y) + vR x y = x := by rw [vE_fit g1, vR_pos Y, Nat.mul_comm]; exact Nat.div_add_mod x y
    have k3 : kE (vE (x / y * y) + vR x y) = 0 := by rw [e1]; exact kE_fit hx
    have s1 : decide (vE (vE (x / y * y) + vR x y) = x) = true := by rw [e1, vE_fit hx]; simp
    have c1 : cmpI (vR x y) y = -1 := by rw [vR_pos Y]; exact if_pos (Nat.mod_lt _ (by omega))
    clear g1 e1
    by_cases Z : z < y
    · have c2 : cmpI z y = -1 := if_pos Z
      by_cases F : Fit (x * y)
      · have k4 := kE_fit F
        have v4 := Lib.hid (vE_fit F)
        by_cases G : Fit (vE (x * y) + z)
        · have k5 := kE_fit G
          have hdm := div_of (a := vE (vE (x * y) + z)) (b := y) (q := x) (r := z) (by rw [vE_fit G, v4.out]) Z
          have s2 : decide (vE (vE (x * y) + z) / y = x) = true := decide_eq_true hdm.1
          have s3 : decide (vR (vE (vE (x * y) + z)) y = z) = true := by rw [vR_pos Y]; exact decide_eq_true hdm.2
          have f6 : Fit (vE (vE (x * y) + z) / y) := fitQ _ (fitV _)
          have f7 : Fit (vR (vE (vE (x * y) + z)) y) := fitR _ (fitV _)
          clear F G hdm Y Z
          go_enter Tryz.func9, Tryz.ntmps9
          go_wp2_with (first
              | (go_at_call 12; refine (head_any _ (HT.out.below HB.out)).mono ?_; rintro e w' ⟨rfl, hb⟩; replace HR := Lib.hid (HR.out.on hb); replace HB := Lib.hid (below_on HB.out hb); clear hb)
              | (go_at_call 17; refine (threeN _ _ _ _ _ _ _ _ _ _ ?_ ?_ ?_ ?_ ?_ ?_).mono ?_; (first | exact fitV _ | assumption | exact fitQ _ (by assumption) | exact fitR _ (by assumption) | exact fitS _ (by assumption) | exact fit_zero | exact fitP _); (first | exact fitV _ | assumption | exact fitQ _ (by assumption) | exact fitR _ (by assumption) | exact fitS _ (by assumption) | exact fit_zero | exact fitP _); (first | exact fitV _ | assumption | exact fitQ _ (by assumption) | exact fitR _ (by assumption) | exact fitS _ (by assumption) | exact fit_zero | exact fitP _); exact HR.out.rd (by repeat (first | exact List.Mem.head _ | apply List.Mem.tail)); exact HR.out.rd (by repeat (first | exact List.Mem.head _ | apply List.Mem.tail)); exact HR.out.rd (by repeat (first | exact List.Mem.head _ | apply List.Mem.tail)); rintro e w' ⟨rfl, rfl⟩)
              | (go_at_call 18; refine (addU _ _ _ _ _ _ _ ?_ ?_ ?_ ?_).mono ?_; (first | exact fitV _ | assumption | exact fitQ _ (by assumption) | exact fitR _ (by assumption) | exact fitS _ (by assumption) | exact fit_zero | exact fitP _); (first | exact fitV _ | assumption | exact fitQ _ (by assumption) | exact fitR _ (by assumption) | exact fitS _ (by assumption) | exact fit_zero | exact fitP _); exact HR.out.rd (by repeat (first | exact List.Mem.head _ | apply List.Mem.tail)); exact HR.out.rd (by repeat (first | exact List.Mem.head _ | apply List.Mem.tail)); rintro e w' ⟨hb, A', c', rfl, hr⟩; replace HR := Lib.hid (HR.out.push hb hr); replace HB := Lib.hid (below_on HB.out hb); clear hb hr)
              | (go_at_call 16; refine (mulU _ _ _ _ _ _ _ ?_ ?_ ?_ ?_).mono ?_; (first | exact fitV _ | assumption | exact fitQ _ (by assumption) | exact fitR _ (by assumption) | exact fitS _ (by assumption) | exact fit_zero | exact fitP _); (first | exact fitV _ | assumption | exact fitQ _ (by assumption) | exact fitR _ (by assumption) | exact fitS _ (by assumption) | exact fit_zero | exact fitP _); exact HR.out.rd (by repeat (first | exact List.Mem.head _ | apply List.Mem.tail)); exact HR.out.rd (by repeat (first | exact List.Mem.head _ | apply List.Mem.tail)); rintro e w' ⟨hb, A', c', rfl, hr⟩; replace HR := Lib.hid (HR.out.push hb hr); replace HB := Lib.hid (below_on HB.out hb); clear hb hr)
              | (go_at_call 15; refine (sameU _ _ _ _ _ _ _ ?_ ?_ ?_).mono ?_; (first | exact fitV _ | assumption | exact fitQ _ (by assumption) | exact fitR _ (by assumption) | exact fitS _ (by assumption) | exact fit_zero | exact fitP _); exact HR.out.rd (by repeat (first | exact List.Mem.head _ | apply List.Mem.tail)); exact HR.out.rd (by repeat (first | exact List.Mem.head _ | apply List.Mem.tail)); rintro e w' ⟨hb, rfl⟩; replace HR := Lib.hid (HR.out.on hb); replace HB := Lib.hid (below_on HB.out hb); clear hb)
              | (go_at_call 23; refine (cmpU _ _ _ _ _ _ _ ?_ ?_ ?_ ?_).mono ?_; (first | exact fitV _ | assumption | exact fitQ _ (by assumption) | exact fitR _ (by assumption) | exact fitS _ (by assumption) | exact fit_zero | exact fitP _); (first | exact fitV _ | assumption | exact fitQ _ (by assumption) | exact fitR _ (by assumption) | exact fitS _ (by assumption) | exact fit_zero | exact fitP _); exact HR.out.rd (by repeat (first | exact List.Mem.head _ | apply List.Mem.tail)); exact HR.out.rd (by repeat (first | exact List.Mem.head _ | apply List.Mem.tail)); rintro e w' ⟨hb, rfl⟩; replace HR := Lib.hid (HR.out.on hb); replace HB := Lib.hid (below_on HB.out hb); clear hb)
              | (go_at_call 29; refine (divU _ _ _ _ _ _ _ ?_ ?_ ?_ ?_).mono ?_; (first | exact fitV _ | assumption | exact fitQ _ (by assumption) | exact fitR _ (by assumption) | exact fitS _ (by assumption) | exact fit_zero | exact fitP _); (first | exact fitV _ | assumption | exact fitQ _ (by assumption) | exact fitR _ (by assumption) | exact fitS _ (by assumption) | exact fit_zero | exact fitP _); exact HR.out.rd (by repeat (first | exact List.Mem.head _ | apply List.Mem.tail)); exact HR.out.rd (by repeat (first | exact List.Mem.head _ | apply List.Mem.tail)); rintro e w' ⟨hb, A', B', c', d', rfl, hr, hr2⟩; replace HR := Lib.hid ((HR.out.push hb hr).push (Below.refl _ _) hr2); replace HB := Lib.hid (below_on HB.out hb); clear hb hr hr2))
          go_ret
          exact ⟨rfl, HB.out⟩
        · have k5 := kE_big G
          clear F G Y Z
          go_enter Tryz.func9, Tryz.ntmps9
          go_wp2_with (first
              | (go_at_call 12; refine (head_any _ (HT.out.below HB.out)).mono ?_; rintro e w' ⟨rfl, hb⟩; replace HR := Lib.hid (HR.out.on hb); replace HB := Lib.hid (below_on HB.out hb); clear hb)
              | (go_at_call 17; refine (threeN _ _ _ _ _ _ _ _ _ _ ?_ ?_ ?_ ?_ ?_ ?_).mono ?_; (first | exact fitV _ | assumption | exact fitQ _ (by assumption) | exact fitR _ (by assumption) | exact fitS _ (by assumption) | exact fit_zero | exact fitP _); (first | exact fitV _ | assumption | exact fitQ _ (by assumption) | exact fitR _ (by assumption) | exact fitS _ (by assumption) | exact fit_zero | exact fitP _); (first | exact fitV _ | assumption | exact fitQ _ (by assumption) | exact fitR _ (by assumption) | exact fitS _ (by assumption) | exact fit_zero | exact fitP _); exact HR.out.rd (by repeat (first | exact List.Mem.head _ | apply List.Mem.tail)); exact HR.out.rd (by repeat (first | exact List.Mem.head _ | apply List.Mem.tail)); exact HR.out.rd (by repeat (first | exact List.Mem.head _ | apply List.Mem.tail)); rintro e w' ⟨rfl, rfl⟩)
              | (go_at_call 18; refine (addU _ _ _ _ _ _ _ ?_ ?_ ?_ ?_).mono ?_; (first | exact fitV _ | assumption | exact fitQ _ (by assumption) | exact fitR _ (by assumption) | exact fitS _ (by assumption) | exact fit_zero | exact fitP _); (first | exact fitV _ | assumption | exact fitQ _ (by assumption) | exact fitR _ (by assumption) | exact fitS _ (by assumption) | exact fit_zero | exact fitP _); exact HR.out.rd (by repeat (first | exact List.Mem.head _ | apply List.Mem.tail)); exact HR.out.rd (by repeat (first | exact List.Mem.head _ | apply List.Mem.tail)); rintro e w' ⟨hb, A', c', rfl, hr⟩; replace HR := Lib.hid (HR.out.push hb hr); replace HB := Lib.hid (below_on HB.out hb); clear hb hr)
              | (go_at_call 16; refine (mulU _ _ _ _ _ _ _ ?_ ?_ ?_ ?_).mono ?_; (first | exact fitV _ | assumption | exact fitQ _ (by assumption) | exact fitR _ (by assumption) | exact fitS _ (by assumption) | exact fit_zero | exact fitP _); (first | exact fitV _ | assumption | exact fitQ _ (by assumption) | exact fitR _ (by assumption) | exact fitS _ (by assumption) | exact fit_zero | exact fitP _); exact HR.out.rd (by repeat (first | exact List.Mem.head _ | apply List.Mem.tail)); exact HR.out.rd (by repeat (first | exact List.Mem.head _ | apply List.Mem.tail)); rintro e w' ⟨hb, A', c', rfl, hr⟩; replace HR := Lib.hid (HR.out.push hb hr); replace HB := Lib.hid (below_on HB.out hb); clear hb hr)
              | (go_at_call 15; refine (sameU _ _ _ _ _ _ _ ?_ ?_ ?_).mono ?_; (first | exact fitV _ | assumption | exact fitQ _ (by assumption) | exact fitR _ (by assumption) | exact fitS _ (by assumption) | exact fit_zero | exact fitP _); exact HR.out.rd (by repeat (first | exact List.Mem.head _ | apply List.Mem.tail)); exact HR.out.rd (by repeat (first | exact List.Mem.head _ | apply List.Mem.tail)); rintro e w' ⟨hb, rfl⟩; replace HR := Lib.hid (HR.out.on hb); replace HB := Lib.hid (below_on HB.out hb); clear hb)
              | (go_at_call 23; refine (cmpU _ _ _ _ _ _ _ ?_ ?_ ?_ ?_).mono ?_; (first | exact fitV _ | assumption | exact fitQ _ (by assumption) | exact fitR _ (by assumption) | exact fitS _ (by assumption) | exact fit_zero | exact fitP _); (first | exact fitV _ | assumption | exact fitQ _ (by assumption) | exact fitR _ (by assumption) | exact fitS _ (by assumption) | exact fit_zero | exact fitP _); exact HR.out.rd (by repeat (first | exact List.Mem.head _ | apply List.Mem.tail)); exact HR.out.rd (by repeat (first | exact List.Mem.head _ | apply List.Mem.tail)); rintro e w' ⟨hb, rfl⟩; replace HR := Lib.hid (HR.out.on hb); replace HB := Lib.hid (below_on HB.out hb); clear hb)
              | (go_at_call 29; refine (divU _ _ _ _ _ _ _ ?_ ?_ ?_ ?_).mono ?_; (first | exact fitV _ | assumption | exact fitQ _ (by assumption) | exact fitR _ (by assumption) | exact fitS _ (by assumption) | exact fit_zero | exact fitP _); (first | exact fitV _ | assumption | exact fitQ _ (by assumption) | exact fitR _ (by assumption) | exact fitS _ (by assumption) | exact fit_zero | exact fitP _); exact HR.out.rd (by repeat (first | exact List.Mem.head _ | apply List.Mem.tail)); exact HR.out.rd (by repeat (first | exact List.Mem.head _ | apply List.Mem.tail)); rintro e w' ⟨hb, A', B', c', d', rfl, hr, hr2⟩; replace HR := Lib.hid ((HR.out.push hb hr).push (Below.refl _ _) hr2); replace HB := Lib.hid (below_on HB.out hb); clear hb hr hr2))
          go_ret
          exact ⟨rfl, HB.out⟩
      · have k4 := kE_big F
        clear F Y Z
        go_enter Tryz.func9, Tryz.ntmps9
        go_wp2_with (first
            | (go_at_call 12; refine (head_any _ (HT.out.below HB.out)).mono ?_; rintro e w' ⟨rfl, hb⟩; replace HR := Lib.hid (HR.out.on hb); replace HB := Lib.hid (below_on HB.out hb); clear hb)
            | (go_at_call 17; refine (threeN _ _ _ _ _ _ _ _ _ _ ?_ ?_ ?_ ?_ ?_ ?_).mono ?_; (first | exact fitV _ | assumption | exact fitQ _ (by assumption) | exact fitR _ (by assumption) | exact fitS _ (by assumption) | exact fit_zero | exact fitP _); (first | exact fitV _ | assumption | exact fitQ _ (by assumption) | exact fitR _ (by assumption) | exact fitS _ (by assumption) | exact fit_zero | exact fitP _); (first | exact fitV _ | assumption | exact fitQ _ (by assumption) | exact fitR _ (by assumption) | exact fitS _ (by assumption) | exact fit_zero | exact fitP _); exact HR.out.rd (by repeat (first | exact List.Mem.head _ | apply List.Mem.tail)); exact HR.out.rd (by repeat (first | exact List.Mem.head _ | apply List.Mem.tail)); exact HR.out.rd (by repeat (first | exact List.Mem.head _ | apply List.Mem.tail)); rintro e w' ⟨rfl, rfl⟩)
            | (go_at_call 18; refine (addU _ _ _ _ _ _ _ ?_ ?_ ?_ ?_).mono ?_; (first | exact fitV _ | assumption | exact fitQ _ (by assumption) | exact fitR _ (by assumption) | exact fitS _ (by assumption) | exact fit_zero | exact fitP _); (first | exact fitV _ | assumption | exact fitQ _ (by assumption) | exact fitR _ (by assumption) | exact fitS _ (by assumption) | exact fit_zero | exact fitP _); exact HR.out.rd (by repeat (first | exact List.Mem.head _ | apply List.Mem.tail)); exact HR.out.rd (by repeat (first | exact List.Mem.head _ | apply List.Mem.tail)); rintro e w' ⟨hb, A', c', rfl, hr⟩; replace HR := Lib.hid (HR.out.push hb hr); replace HB := Lib.hid (below_on HB.out hb); clear hb hr)
            | (go_at_call 16; refine (mulU _ _ _ _ _ _ _ ?_ ?_ ?_ ?_).mono ?_; (first | exact fitV _ | assumption | exact fitQ _ (by assumption) | exact fitR _ (by assumption) | exact fitS _ (by assumption) | exact fit_zero | exact fitP _); (first | exact fitV _ | assumption | exact fitQ _ (by assumption) | exact fitR _ (by assumption) | exact fitS _ (by assumption) | exact fit_zero | exact fitP _); exact HR.out.rd (by repeat (first | exact List.Mem.head _ | apply List.Mem.tail)); exact HR.out.rd (by repeat (first | exact List.Mem.head _ | apply List.Mem.tail)); rintro e w' ⟨hb, A', c', rfl, hr⟩; replace HR := Lib.hid (HR.out.push hb hr); replace HB := Lib.hid (below_on HB.out hb); clear hb hr)
            | (go_at_call 15; refine (sameU _ _ _ _ _ _ _ ?_ ?_ ?_).mono ?_; (first | exact fitV _ | assumption | exact fitQ _ (by assumption) | exact fitR _ (by assumption) | exact fitS _ (by assumption) | exact fit_zero | exact fitP _); exact HR.out.rd (by repeat (first | exact List.Mem.head _ | apply List.Mem.tail)); exact HR.out.rd (by repeat (first | exact List.Mem.head _ | apply List.Mem.tail)); rintro e w' ⟨hb, rfl⟩; replace HR := Lib.hid (HR.out.on hb); replace HB := Lib.hid (below_on HB.out hb); clear hb)
            | (go_at_call 23; refine (cmpU _ _ _ _ _ _ _ ?_ ?_ ?_ ?_).mono ?_; (first | exact fitV _ | assumption | exact fitQ _ (by assumption) | exact fitR _ (by assumption) | exact fitS _ (by assumption) | exact fit_zero | exact fitP _); (first | exact fitV _ | assumption | exact fitQ _ (by assumption) | exact fitR _ (by assumption) | exact fitS _ (by assumption) | exact fit_zero | exact fitP _); exact HR.out.rd (by repeat (first | exact List.Mem.head _ | apply List.Mem.tail)); exact HR.out.rd (by repeat (first | exact List.Mem.head _ | apply List.Mem.tail)); rintro e w' ⟨hb, rfl⟩; replace HR := Lib.hid (HR.out.on hb); replace HB := Lib.hid (below_on HB.out hb); clear hb)
            | (go_at_call 29; refine (divU _ _ _ _ _ _ _ ?_ ?_ ?_ ?_).mono ?_; (first | exact fitV _ | assumption | exact fitQ _ (by assumption) | exact fitR _ (by assumption) | exact fitS _ (by assumption) | exact fit_zero | exact fitP _); (first | exact fitV _ | assumption | exact fitQ _ (by assumption) | exact fitR _ (by assumption) | exact fitS _ (by assumption) | exact fit_zero | exact fitP _); exact HR.out.rd (by repeat (first | exact List.Mem.head _ | apply List.Mem.tail)); exact HR.out.rd (by repeat (first | exact List.Mem.head _ | apply List.Mem.tail)); rintro e w' ⟨hb, A', B', c', d', rfl, hr, hr2⟩; replace HR := Lib.hid ((HR.out.push hb hr).push (Below.refl _ _) hr2); replace HB := Lib.hid (below_on HB.out hb); clear hb hr hr2))
        go_ret
        exact ⟨rfl, HB.out⟩
    · have c2 : (cmpI z y != -1) = true := by
        rw [bne_iff_ne]
        unfold cmpI
        rw [if_neg Z]
        split <;> omega
      clear Y Z
      go_enter Tryz.func9, Tryz.ntmps9
      go_wp2_with (first
          | (go_at_call 12; refine (head_any _ (HT.out.below HB.out)).mono ?_; rintro e w' ⟨rfl, hb⟩; replace HR := Lib.hid (HR.out.on hb); replace HB := Lib.hid (below_on HB.out hb); clear hb)
          | (go_at_call 17; refine (threeN _ _ _ _ _ _ _ _ _ _ ?_ ?_ ?_ ?_ ?_ ?_).mono ?_; (first | exact fitV _ | assumption | exact fitQ _ (by assumption) | exact fitR _ (by assumption) | exact fitS _ (by assumption) | exact fit_zero | exact fitP _); (first | exact fitV _ | assumption | exact fitQ _ (by assumption) | exact fitR _ (by assumption) | exact fitS _ (by assumption) | exact fit_zero | exact fitP _); (first | exact fitV _ | assumption | exact fitQ _ (by assumption) | exact fitR _ (by assumption) | exact fitS _ (by assumption) | exact fit_zero | exact fitP _); exact HR.out.rd (by repeat (first | exact List.Mem.head _ | apply List.Mem.tail)); exact HR.out.rd (by repeat (first | exact List.Mem.head _ | apply List.Mem.tail)); exact HR.out.rd (by repeat (first | exact List.Mem.head _ | apply List.Mem.tail)); rintro e w' ⟨rfl, rfl⟩)
          | (go_at_call 18; refine (addU _ _ _ _ _ _ _ ?_ ?_ ?_ ?_).mono ?_; (first | exact fitV _ | assumption | exact fitQ _ (by assumption) | exact fitR _ (by assumption) | exact fitS _ (by assumption) | exact fit_zero | exact fitP _); (first | exact fitV _ | assumption | exact fitQ _ (by assumption) | exact fitR _ (by assumption) | exact fitS _ (by assumption) | exact fit_zero | exact fitP _); exact HR.out.rd (by repeat (first | exact List.Mem.head _ | apply List.Mem.tail)); exact HR.out.rd (by repeat (first | exact List.Mem.head _ | apply List.Mem.tail)); rintro e w' ⟨hb, A', c', rfl, hr⟩; replace HR := Lib.hid (HR.out.push hb hr); replace HB := Lib.hid (below_on HB.out hb); clear hb hr)
          | (go_at_call 16; refine (mulU _ _ _ _ _ _ _ ?_ ?_ ?_ ?_).mono ?_; (first | exact fitV _ | assumption | exact fitQ _ (by assumption) | exact fitR _ (by assumption) | exact fitS _ (by assumption) | exact fit_zero | exact fitP _); (first | exact fitV _ | assumption | exact fitQ _ (by assumption) | exact fitR _ (by assumption) | exact fitS _ (by assumption) | exact fit_zero | exact fitP _); exact HR.out.rd (by repeat (first | exact List.Mem.head _ | apply List.Mem.tail)); exact HR.out.rd (by repeat (first | exact List.Mem.head _ | apply List.Mem.tail)); rintro e w' ⟨hb, A', c', rfl, hr⟩; replace HR := Lib.hid (HR.out.push hb hr); replace HB := Lib.hid (below_on HB.out hb); clear hb hr)
          | (go_at_call 15; refine (sameU _ _ _ _ _ _ _ ?_ ?_ ?_).mono ?_; (first | exact fitV _ | assumption | exact fitQ _ (by assumption) | exact fitR _ (by assumption) | exact fitS _ (by assumption) | exact fit_zero | exact fitP _); exact HR.out.rd (by repeat (first | exact List.Mem.head _ | apply List.Mem.tail)); exact HR.out.rd (by repeat (first | exact List.Mem.head _ | apply List.Mem.tail)); rintro e w' ⟨hb, rfl⟩; replace HR := Lib.hid (HR.out.on hb); replace HB := Lib.hid (below_on HB.out hb); clear hb)
          | (go_at_call 23; refine (cmpU _ _ _ _ _ _ _ ?_ ?_ ?_ ?_).mono ?_; (first | exact fitV _ | assumption | exact fitQ _ (by assumption) | exact fitR _ (by assumption) | exact fitS _ (by assumption) | exact fit_zero | exact fitP _); (first | exact fitV _ | assumption | exact fitQ _ (by assumption) | exact fitR _ (by assumption) | exact fitS _ (by assumption) | exact fit_zero | exact fitP _); exact HR.out.rd (by repeat (first | exact List.Mem.head _ | apply List.Mem.tail)); exact HR.out.rd (by repeat (first | exact List.Mem.head _ | apply List.Mem.tail)); rintro e w' ⟨hb, rfl⟩; replace HR := Lib.hid (HR.out.on hb); replace HB := Lib.hid (below_on HB.out hb); clear hb)
          | (go_at_call 29; refine (divU _ _ _ _ _ _ _ ?_ ?_ ?_ ?_).mono ?_; (first | exact fitV _ | assumption | exact fitQ _ (by assumption) | exact fitR _ (by assumption) | exact fitS _ (by assumption) | exact fit_zero | exact fitP _); (first | exact fitV _ | assumption | exact fitQ _ (by assumption) | exact fitR _ (by assumption) | exact fitS _ (by assumption) | exact fit_zero | exact fitP _); exact HR.out.rd (by repeat (first | exact List.Mem.head _ | apply List.Mem.tail)); exact HR.out.rd (by repeat (first | exact List.Mem.head _ | apply List.Mem.tail)); rintro e w' ⟨hb, A', B', c', d', rfl, hr, hr2⟩; replace HR := Lib.hid ((HR.out.push hb hr).push (Below.refl _ _) hr2); replace HB := Lib.hid (below_on HB.out hb); clear hb hr hr2))
      go_ret
      exact ⟨rfl, HB.out⟩



set_option maxRecDepth 100000 in
set_option maxHeartbeats 1000000 in
theorem division_bad (w : World) (A1 A2 A3 : Option Addr) (c1 c2 c3 : Nat) (a b c : List Nat) (r1 : RdW w w.heap.size A1 a) (r2 : RdW w w.heap.size A2 b) (r3 : RdW w w.heap.size A3 c) (na : a.length ≤ 9223372036854775807) (nb : b.length ≤ 9223372036854775807) (nc : c.length ≤ 9223372036854775807) (hT : Tab w) (hbad : (isNat a && isNat b && isNat c) = false) :
    Calls Tryz.prog 9 #[.slice A1 a.length c1, .slice A2 b.length c2, .slice A3 c.length c3] w fun e w' => e = .returned (.bool true) ∧ Below w.heap.size w w' := by
  have H3 := Lib.hid fun (w1 : World) (hb : Below w.heap.size w w1) => three_any w1 A1 A2 A3 c1 c2 c3 a b c ((r1.below hb (Nat.le_refl _)).mono hb.size) ((r2.below hb (Nat.le_refl _)).mono hb.size) ((r3.below hb (Nat.le_refl _)).mono hb.size) na nb nc
  rw [hbad] at H3
  have HT := Lib.hid hT; clear hT hbad r1 r2 r3
  go_enter Tryz.func9, Tryz.ntmps9
  go_wp2_with (first
    | (go_at_call 12; refine (head_any _ HT.out).mono ?_; rintro e w1 ⟨rfl, hb⟩; replace hb := Lib.hid hb)
    | (go_at_call 17; refine (H3.out _ hb.out).mono ?_; rintro e w' ⟨rfl, rfl⟩))
  go_ret
  exact ⟨rfl, hb.out⟩

theorem division_any (w : World) (A1 A2 A3 : Option Addr) (c1 c2 c3 : Nat) (a b c : List Nat) (r1 : RdW w w.heap.size A1 a) (r2 : RdW w w.heap.size A2 b) (r3 : RdW w w.heap.size A3 c) (la : Lim a) (lb : Lim b) (lc : Lim c) (na : a.length ≤ 9223372036854775807) (nb : b.length ≤ 9223372036854775807) (nc : c.length ≤ 9223372036854775807) (hT : Tab w) :
    Calls Tryz.prog 9 #[.slice A1 a.length c1, .slice A2 b.length c2, .slice A3 c.length c3] w fun e w' => e = .returned (.bool true) ∧ Below w.heap.size w w' := by
  rcases h : (isNat a && isNat b && isNat c) with _ | _
  · exact division_bad w A1 A2 A3 c1 c2 c3 a b c r1 r2 r3 na nb nc hT h
  · rw [Bool.and_eq_true, Bool.and_eq_true] at h
    obtain ⟨⟨ha, hb⟩, hc⟩ := h
    have e1 := isNat_eq la ha
    have e2 := isNat_eq lb hb
    have e3 := isNat_eq lc hc
    have f1 : Fit (val a) := by unfold Fit; rw [← e1]; exact (isNat_norm ha).1
    have f2 : Fit (val b) := by unfold Fit; rw [← e2]; exact (isNat_norm hb).1
    have f3 : Fit (val c) := by unfold Fit; rw [← e3]; exact (isNat_norm hc).1
    have := division_good w A1 A2 A3 c1 c2 c3 (val a) (val b) (val c) f1 f2 f3 (by rw [← e1]; exact r1) (by rw [← e2]; exact r2) (by rw [← e3]; exact r3) hT
    rw [← e1, ← e2, ← e3] at this
    exact this

end Go.Proofs.YtgcobhlplffpjaaGreatDoor
