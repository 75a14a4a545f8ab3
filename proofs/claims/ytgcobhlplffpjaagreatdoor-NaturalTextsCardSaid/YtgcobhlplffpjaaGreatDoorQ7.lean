/- Walk: the law NaturalTexts answers true. -/
import Derived.Test.YtgcobhlplffpjaaGreatDoorQB
namespace Go.Proofs.YtgcobhlplffpjaaGreatDoor
open Go.RowKit Go.Deep

set_option maxRecDepth 100000 in
set_option maxHeartbeats 4000000 in
theorem texts_bad (w : World) (A1 A2 : Option Addr) (c1 c2 : Nat) (a b : List Nat) (s : List UInt8) (r1 : RdW w w.heap.size A1 a) (r2 : RdW w w.heap.size A2 b) (na : a.length ≤ 9223372036854775807) (nb : b.length ≤ 9223372036854775807) (hs : s.length ≤ 9223372036854775807) (hT : Tab w) (p q : Bool) (hp : isNat a = p) (hq : isNat b = q) (hpq : (p && q) = false) :
    Calls Tryz.prog 7 #[.slice A1 a.length c1, .slice A2 b.length c2, str s] w fun e w' => e = .returned (.bool true) ∧ Below w.heap.size w w' := by
  have H1 := Lib.hid fun (w1 : World) (hb : Below w.heap.size w w1) => valid_q w1 A1 c1 a p ((r1.below hb (Nat.le_refl _)).mono hb.size) na hp
  have H2 := Lib.hid fun (w1 : World) (hb : Below w.heap.size w w1) => valid_q w1 A2 c2 b q ((r2.below hb (Nat.le_refl _)).mono hb.size) nb hq
  clear r1 r2 hp hq na nb
  have HT := Lib.hid hT; clear hT
  have HB := Lib.hid (Below.refl w.heap.size w)
  have HR : Hid (Store w []) := fun p hp => by cases hp
  have n1 := Lib.hid hs
  have n2 := n1
  clear hs
  have f1 := fitP s
  by_cases K : kP s = 0
  · have ds := dec_parsed K
    cases p
    · clear hpq
      go_enter Tryz.func7, Tryz.ntmps7
      go_wp2_with (first
    | (go_at_call 22; refine (parseU _ _ ?_).mono ?_; (first | exact n1.out | exact n2.out); rintro e w' ⟨hb, A', c', rfl, hr⟩; replace HR := Lib.hid (HR.out.push hb hr); replace HB := Lib.hid (below_on HB.out hb); clear hb hr)
    | (go_at_call 13; (with_reducible refine (H1.out _ HB.out).mono ?_); rintro e w' ⟨rfl, rfl⟩)
    | (go_at_call 13; (with_reducible refine (H2.out _ HB.out).mono ?_); rintro e w' ⟨rfl, rfl⟩)
          | (go_at_call 12; refine (head_any _ (HT.out.below HB.out)).mono ?_; rintro e w' ⟨rfl, hb⟩; replace HR := Lib.hid (HR.out.on hb); replace HB := Lib.hid (below_on HB.out hb); clear hb)
          | (go_at_call 13; refine (validN _ _ _ _ ?_ ?_).mono ?_; (first | exact fitV _ | assumption | exact fitQ _ (by assumption) | exact fitR _ (by assumption) | exact fitS _ (by assumption) | exact fit_zero | exact fitP _); exact HR.out.rd (by repeat (first | exact List.Mem.head _ | apply List.Mem.tail)); rintro e w' ⟨rfl, rfl⟩)
          | (go_at_call 21; refine (textN _ _ _ _ ?_ ?_ ?_).mono ?_; (first | exact fitV _ | assumption | exact fitQ _ (by assumption) | exact fitR _ (by assumption) | exact fitS _ (by assumption) | exact fit_zero | exact fitP _); exact HR.out.rd (by repeat (first | exact List.Mem.head _ | apply List.Mem.tail)); exact HT.out.below HB.out; rintro e w' ⟨rfl, hb⟩; replace HR := Lib.hid (HR.out.on hb); replace HB := Lib.hid (below_on HB.out hb); clear hb))
      go_ret
      exact ⟨rfl, HB.out⟩
    · cases q
      · clear hpq
        go_enter Tryz.func7, Tryz.ntmps7
        go_wp2_with (first
    | (go_at_call 22; refine (parseU _ _ ?_).mono ?_; (first | exact n1.out | exact n2.out); rintro e w' ⟨hb, A', c', rfl, hr⟩; replace HR := Lib.hid (HR.out.push hb hr); replace HB := Lib.hid (below_on HB.out hb); clear hb hr)
    | (go_at_call 13; (with_reducible refine (H1.out _ HB.out).mono ?_); rintro e w' ⟨rfl, rfl⟩)
    | (go_at_call 13; (with_reducible refine (H2.out _ HB.out).mono ?_); rintro e w' ⟨rfl, rfl⟩)
            | (go_at_call 12; refine (head_any _ (HT.out.below HB.out)).mono ?_; rintro e w' ⟨rfl, hb⟩; replace HR := Lib.hid (HR.out.on hb); replace HB := Lib.hid (below_on HB.out hb); clear hb)
            | (go_at_call 13; refine (validN _ _ _ _ ?_ ?_).mono ?_; (first | exact fitV _ | assumption | exact fitQ _ (by assumption) | exact fitR _ (by assumption) | exact fitS _ (by assumption) | exact fit_zero | exact fitP _); exact HR.out.rd (by repeat (first | exact List.Mem.head _ | apply List.Mem.tail)); rintro e w' ⟨rfl, rfl⟩)
            | (go_at_call 21; refine (textN _ _ _ _ ?_ ?_ ?_).mono ?_; (first | exact fitV _ | assumption | exact fitQ _ (by assumption) | exact fitR _ (by assumption) | exact fitS _ (by assumption) | exact fit_zero | exact fitP _); exact HR.out.rd (by repeat (first | exact List.Mem.head _ | apply List.Mem.tail)); exact HT.out.below HB.out; rintro e w' ⟨rfl, hb⟩; replace HR := Lib.hid (HR.out.on hb); replace HB := Lib.hid (below_on HB.out hb); clear hb))
        go_ret
        exact ⟨rfl, HB.out⟩
      · cases hpq
  · have k0 : (kP s == 0) = false := by rw [beq_eq_false_iff_ne]; exact K
    cases p
    · clear hpq
      go_enter Tryz.func7, Tryz.ntmps7
      go_wp2_with (first
    | (go_at_call 22; refine (parseU _ _ ?_).mono ?_; (first | exact n1.out | exact n2.out); rintro e w' ⟨hb, A', c', rfl, hr⟩; replace HR := Lib.hid (HR.out.push hb hr); replace HB := Lib.hid (below_on HB.out hb); clear hb hr)
    | (go_at_call 13; (with_reducible refine (H1.out _ HB.out).mono ?_); rintro e w' ⟨rfl, rfl⟩)
    | (go_at_call 13; (with_reducible refine (H2.out _ HB.out).mono ?_); rintro e w' ⟨rfl, rfl⟩)
          | (go_at_call 12; refine (head_any _ (HT.out.below HB.out)).mono ?_; rintro e w' ⟨rfl, hb⟩; replace HR := Lib.hid (HR.out.on hb); replace HB := Lib.hid (below_on HB.out hb); clear hb)
          | (go_at_call 13; refine (validN _ _ _ _ ?_ ?_).mono ?_; (first | exact fitV _ | assumption | exact fitQ _ (by assumption) | exact fitR _ (by assumption) | exact fitS _ (by assumption) | exact fit_zero | exact fitP _); exact HR.out.rd (by repeat (first | exact List.Mem.head _ | apply List.Mem.tail)); rintro e w' ⟨rfl, rfl⟩)
          | (go_at_call 21; refine (textN _ _ _ _ ?_ ?_ ?_).mono ?_; (first | exact fitV _ | assumption | exact fitQ _ (by assumption) | exact fitR _ (by assumption) | exact fitS _ (by assumption) | exact fit_zero | exact fitP _); exact HR.out.rd (by repeat (first | exact List.Mem.head _ | apply List.Mem.tail)); exact HT.out.below HB.out; rintro e w' ⟨rfl, hb⟩; replace HR := Lib.hid (HR.out.on hb); replace HB := Lib.hid (below_on HB.out hb); clear hb))
      go_ret
      exact ⟨rfl, HB.out⟩
    · cases q
      · clear hpq
        go_enter Tryz.func7, Tryz.ntmps7
        go_wp2_with (first
    | (go_at_call 22; refine (parseU _ _ ?_).mono ?_; (first | exact n1.out | exact n2.out); rintro e w' ⟨hb, A', c', rfl, hr⟩; replace HR := Lib.hid (HR.out.push hb hr); replace HB := Lib.hid (below_on HB.out hb); clear hb hr)
    | (go_at_call 13; (with_reducible refine (H1.out _ HB.out).mono ?_); rintro e w' ⟨rfl, rfl⟩)
    | (go_at_call 13; (with_reducible refine (H2.out _ HB.out).mono ?_); rintro e w' ⟨rfl, rfl⟩)
            | (go_at_call 12; refine (head_any _ (HT.out.below HB.out)).mono ?_; rintro e w' ⟨rfl, hb⟩; replace HR := Lib.hid (HR.out.on hb); replace HB := Lib.hid (below_on HB.out hb); clear hb)
            | (go_at_call 13; refine (validN _ _ _ _ ?_ ?_).mono ?_; (first | exact fitV _ | assumption | exact fitQ _ (by assumption) | exact fitR _ (by assumption) | exact fitS _ (by assumption) | exact fit_zero | exact fitP _); exact HR.out.rd (by repeat (first | exact List.Mem.head _ | apply List.Mem.tail)); rintro e w' ⟨rfl, rfl⟩)
            | (go_at_call 21; refine (textN _ _ _ _ ?_ ?_ ?_).mono ?_; (first | exact fitV _ | assumption | exact fitQ _ (by assumption) | exact fitR _ (by assumption) | exact fitS _ (by assumption) | exact fit_zero | exact fitP _); exact HR.out.rd (by repeat (first | exact List.Mem.head _ | apply List.Mem.tail)); exact HT.out.below HB.out; rintro e w' ⟨rfl, hb⟩; replace HR := Lib.hid (HR.out.on hb); replace HB := Lib.hid (below_on HB.out hb); clear hb))
        go_ret
        exact ⟨rfl, HB.out⟩
      · cases hpq

set_option maxRecDepth 100000 in
set_option maxHeartbeats 8000000 in
theorem texts_ok (w : World) (A1 A2 : Option Addr) (c1 c2 : Nat) (x y : Nat) (s : List UInt8) (hx : Fit x) (hy : Fit y) (r1 : RdW w w.heap.size A1 (limbs x)) (r2 : RdW w w.heap.size A2 (limbs y)) (hs : s.length ≤ 9223372036854775807) (hT : Tab w) (K : kP s = 0) :
    Calls Tryz.prog 7 #[.slice A1 (limbs x).length c1, .slice A2 (limbs y).length c2, str s] w fun e w' => e = .returned (.bool true) ∧ Below w.heap.size w w' := by
  have HT := Lib.hid hT; clear hT
  have HB := Lib.hid (Below.refl w.heap.size w)
  have HR : Hid (Store w [(A1, limbs x), (A2, limbs y)]) := fun p hp => by
    simp at hp
    rcases hp with rfl | rfl
    · exact r1
    · exact r2
  clear r1 r2
  have n1 := Lib.hid hs
  have n2 := Lib.hid (show (Lib.decDigits x).length ≤ 9223372036854775807 by have := dec_fit hx; omega)
  clear hs
  have f1 := fitP s
  have f2 := fitP (Lib.decDigits x)
  have ds := dec_parsed K
  have k1 := kP_dec hx
  have s1 : decide (vP (Lib.decDigits x) = x) = true := decide_eq_true (vP_dec hx)
  rcases Nat.lt_trichotomy (Lib.decDigits x).length (Lib.decDigits y).length with G | G | G
  · have d1 : decide ((Lib.decDigits x).length < (Lib.decDigits y).length) = true := decide_eq_true G
    have o : x < y := by
      rcases Nat.lt_or_ge x y with o | o
      · exact o
      · have := dec_len_mono o; omega
    have c4 : cmpI x y = -1 := by rw [cmpI, if_pos o]
    clear o
    go_enter Tryz.func7, Tryz.ntmps7
    go_wp2_with (first
    | (go_at_call 22; refine (parseU _ _ ?_).mono ?_; (first | exact n1.out | exact n2.out); rintro e w' ⟨hb, A', c', rfl, hr⟩; replace HR := Lib.hid (HR.out.push hb hr); replace HB := Lib.hid (below_on HB.out hb); clear hb hr)
        | (go_at_call 12; refine (head_any _ (HT.out.below HB.out)).mono ?_; rintro e w' ⟨rfl, hb⟩; replace HR := Lib.hid (HR.out.on hb); replace HB := Lib.hid (below_on HB.out hb); clear hb)
        | (go_at_call 13; refine (validN _ _ _ _ ?_ ?_).mono ?_; (first | exact fitV _ | assumption | exact fitQ _ (by assumption) | exact fitR _ (by assumption) | exact fitS _ (by assumption) | exact fit_zero | exact fitP _); exact HR.out.rd (by repeat (first | exact List.Mem.head _ | apply List.Mem.tail)); rintro e w' ⟨rfl, rfl⟩)
        | (go_at_call 21; refine (textN _ _ _ _ ?_ ?_ ?_).mono ?_; (first | exact fitV _ | assumption | exact fitQ _ (by assumption) | exact fitR _ (by assumption) | exact fitS _ (by assumption) | exact fit_zero | exact fitP _); exact HR.out.rd (by repeat (first | exact List.Mem.head _ | apply List.Mem.tail)); exact HT.out.below HB.out; rintro e w' ⟨rfl, hb⟩; replace HR := Lib.hid (HR.out.on hb); replace HB := Lib.hid (below_on HB.out hb); clear hb)
        | (go_at_call 23; refine (cmpU _ _ _ _ _ _ _ ?_ ?_ ?_ ?_).mono ?_; (first | exact fitV _ | assumption | exact fitQ _ (by assumption) | exact fitR _ (by assumption) | exact fitS _ (by assumption) | exact fit_zero | exact fitP _); (first | exact fitV _ | assumption | exact fitQ _ (by assumption) | exact fitR _ (by assumption) | exact fitS _ (by assumption) | exact fit_zero | exact fitP _); exact HR.out.rd (by repeat (first | exact List.Mem.head _ | apply List.Mem.tail)); exact HR.out.rd (by repeat (first | exact List.Mem.head _ | apply List.Mem.tail)); rintro e w' ⟨hb, rfl⟩; replace HR := Lib.hid (HR.out.on hb); replace HB := Lib.hid (below_on HB.out hb); clear hb)
        | (go_at_call 15; refine (sameU _ _ _ _ _ _ _ ?_ ?_ ?_).mono ?_; (first | exact fitV _ | assumption | exact fitQ _ (by assumption) | exact fitR _ (by assumption) | exact fitS _ (by assumption) | exact fit_zero | exact fitP _); exact HR.out.rd (by repeat (first | exact List.Mem.head _ | apply List.Mem.tail)); exact HR.out.rd (by repeat (first | exact List.Mem.head _ | apply List.Mem.tail)); rintro e w' ⟨hb, rfl⟩; replace HR := Lib.hid (HR.out.on hb); replace HB := Lib.hid (below_on HB.out hb); clear hb))
    go_ret
    exact ⟨rfl, HB.out⟩
  · have d1 : decide ((Lib.decDigits x).length < (Lib.decDigits y).length) = false := decide_eq_false (by omega)
    have d2 : (((Lib.decDigits x).length : Int) == ((Lib.decDigits y).length : Int)) = true := by rw [G]; exact beq_self_eq_true _
    have d3 := dec_less G
    by_cases O : x < y
    · have c4 : cmpI x y = -1 := by rw [cmpI, if_pos O]
      rw [decide_eq_true O] at d3
      clear O
      go_enter Tryz.func7, Tryz.ntmps7
      go_wp2_with (first
    | (go_at_call 22; refine (parseU _ _ ?_).mono ?_; (first | exact n1.out | exact n2.out); rintro e w' ⟨hb, A', c', rfl, hr⟩; replace HR := Lib.hid (HR.out.push hb hr); replace HB := Lib.hid (below_on HB.out hb); clear hb hr)
          | (go_at_call 12; refine (head_any _ (HT.out.below HB.out)).mono ?_; rintro e w' ⟨rfl, hb⟩; replace HR := Lib.hid (HR.out.on hb); replace HB := Lib.hid (below_on HB.out hb); clear hb)
          | (go_at_call 13; refine (validN _ _ _ _ ?_ ?_).mono ?_; (first | exact fitV _ | assumption | exact fitQ _ (by assumption) | exact fitR _ (by assumption) | exact fitS _ (by assumption) | exact fit_zero | exact fitP _); exact HR.out.rd (by repeat (first | exact List.Mem.head _ | apply List.Mem.tail)); rintro e w' ⟨rfl, rfl⟩)
          | (go_at_call 21; refine (textN _ _ _ _ ?_ ?_ ?_).mono ?_; (first | exact fitV _ | assumption | exact fitQ _ (by assumption) | exact fitR _ (by assumption) | exact fitS _ (by assumption) | exact fit_zero | exact fitP _); exact HR.out.rd (by repeat (first | exact List.Mem.head _ | apply List.Mem.tail)); exact HT.out.below HB.out; rintro e w' ⟨rfl, hb⟩; replace HR := Lib.hid (HR.out.on hb); replace HB := Lib.hid (below_on HB.out hb); clear hb)
          | (go_at_call 23; refine (cmpU _ _ _ _ _ _ _ ?_ ?_ ?_ ?_).mono ?_; (first | exact fitV _ | assumption | exact fitQ _ (by assumption) | exact fitR _ (by assumption) | exact fitS _ (by assumption) | exact fit_zero | exact fitP _); (first | exact fitV _ | assumption | exact fitQ _ (by assumption) | exact fitR _ (by assumption) | exact fitS _ (by assumption) | exact fit_zero | exact fitP _); exact HR.out.rd (by repeat (first | exact List.Mem.head _ | apply List.Mem.tail)); exact HR.out.rd (by repeat (first | exact List.Mem.head _ | apply List.Mem.tail)); rintro e w' ⟨hb, rfl⟩; replace HR := Lib.hid (HR.out.on hb); replace HB := Lib.hid (below_on HB.out hb); clear hb)
          | (go_at_call 15; refine (sameU _ _ _ _ _ _ _ ?_ ?_ ?_).mono ?_; (first | exact fitV _ | assumption | exact fitQ _ (by assumption) | exact fitR _ (by assumption) | exact fitS _ (by assumption) | exact fit_zero | exact fitP _); exact HR.out.rd (by repeat (first | exact List.Mem.head _ | apply List.Mem.tail)); exact HR.out.rd (by repeat (first | exact List.Mem.head _ | apply List.Mem.tail)); rintro e w' ⟨hb, rfl⟩; replace HR := Lib.hid (HR.out.on hb); replace HB := Lib.hid (below_on HB.out hb); clear hb))
      go_ret
      exact ⟨rfl, HB.out⟩
    · rw [decide_eq_false O] at d3
      by_cases O2 : y < x
      · have c4 : cmpI x y = 1 := by rw [cmpI, if_neg O, if_pos O2]
        clear O O2
        go_enter Tryz.func7, Tryz.ntmps7
        go_wp2_with (first
    | (go_at_call 22; refine (parseU _ _ ?_).mono ?_; (first | exact n1.out | exact n2.out); rintro e w' ⟨hb, A', c', rfl, hr⟩; replace HR := Lib.hid (HR.out.push hb hr); replace HB := Lib.hid (below_on HB.out hb); clear hb hr)
            | (go_at_call 12; refine (head_any _ (HT.out.below HB.out)).mono ?_; rintro e w' ⟨rfl, hb⟩; replace HR := Lib.hid (HR.out.on hb); replace HB := Lib.hid (below_on HB.out hb); clear hb)
            | (go_at_call 13; refine (validN _ _ _ _ ?_ ?_).mono ?_; (first | exact fitV _ | assumption | exact fitQ _ (by assumption) | exact fitR _ (by assumption) | exact fitS _ (by assumption) | exact fit_zero | exact fitP _); exact HR.out.rd (by repeat (first | exact List.Mem.head _ | apply List.Mem.tail)); rintro e w' ⟨rfl, rfl⟩)
            | (go_at_call 21; refine (textN _ _ _ _ ?_ ?_ ?_).mono ?_; (first | exact fitV _ | assumption | exact fitQ _ (by assumption) | exact fitR _ (by assumption) | exact fitS _ (by assumption) | exact fit_zero | exact fitP _); exact HR.out.rd (by repeat (first | exact List.Mem.head _ | apply List.Mem.tail)); exact HT.out.below HB.out; rintro e w' ⟨rfl, hb⟩; replace HR := Lib.hid (HR.out.on hb); replace HB := Lib.hid (below_on HB.out hb); clear hb)
            | (go_at_call 23; refine (cmpU _ _ _ _ _ _ _ ?_ ?_ ?_ ?_).mono ?_; (first | exact fitV _ | assumption | exact fitQ _ (by assumption) | exact fitR _ (by assumption) | exact fitS _ (by assumption) | exact fit_zero | exact fitP _); (first | exact fitV _ | assumption | exact fitQ _ (by assumption) | exact fitR _ (by assumption) | exact fitS _ (by assumption) | exact fit_zero | exact fitP _); exact HR.out.rd (by repeat (first | exact List.Mem.head _ | apply List.Mem.tail)); exact HR.out.rd (by repeat (first | exact List.Mem.head _ | apply List.Mem.tail)); rintro e w' ⟨hb, rfl⟩; replace HR := Lib.hid (HR.out.on hb); replace HB := Lib.hid (below_on HB.out hb); clear hb)
            | (go_at_call 15; refine (sameU _ _ _ _ _ _ _ ?_ ?_ ?_).mono ?_; (first | exact fitV _ | assumption | exact fitQ _ (by assumption) | exact fitR _ (by assumption) | exact fitS _ (by assumption) | exact fit_zero | exact fitP _); exact HR.out.rd (by repeat (first | exact List.Mem.head _ | apply List.Mem.tail)); exact HR.out.rd (by repeat (first | exact List.Mem.head _ | apply List.Mem.tail)); rintro e w' ⟨hb, rfl⟩; replace HR := Lib.hid (HR.out.on hb); replace HB := Lib.hid (below_on HB.out hb); clear hb))
        go_ret
        exact ⟨rfl, HB.out⟩
      · have c4 : cmpI x y = 0 := by rw [cmpI, if_neg O, if_neg O2]
        clear O O2
        go_enter Tryz.func7, Tryz.ntmps7
        go_wp2_with (first
    | (go_at_call 22; refine (parseU _ _ ?_).mono ?_; (first | exact n1.out | exact n2.out); rintro e w' ⟨hb, A', c', rfl, hr⟩; replace HR := Lib.hid (HR.out.push hb hr); replace HB := Lib.hid (below_on HB.out hb); clear hb hr)
            | (go_at_call 12; refine (head_any _ (HT.out.below HB.out)).mono ?_; rintro e w' ⟨rfl, hb⟩; replace HR := Lib.hid (HR.out.on hb); replace HB := Lib.hid (below_on HB.out hb); clear hb)
            | (go_at_call 13; refine (validN _ _ _ _ ?_ ?_).mono ?_; (first | exact fitV _ | assumption | exact fitQ _ (by assumption) | exact fitR _ (by assumption) | exact fitS _ (by assumption) | exact fit_zero | exact fitP _); exact HR.out.rd (by repeat (first | exact List.Mem.head _ | apply List.Mem.tail)); rintro e w' ⟨rfl, rfl⟩)
            | (go_at_call 21; refine (textN _ _ _ _ ?_ ?_ ?_).mono ?_; (first | exact fitV _ | assumption | exact fitQ _ (by assumption) | exact fitR _ (by assumption) | exact fitS _ (by assumption) | exact fit_zero | exact fitP _); exact HR.out.rd (by repeat (first | exact List.Mem.head _ | apply List.Mem.tail)); exact HT.out.below HB.out; rintro e w' ⟨rfl, hb⟩; replace HR := Lib.hid (HR.out.on hb); replace HB := Lib.hid (below_on HB.out hb); clear hb)
            | (go_at_call 23; refine (cmpU _ _ _ _ _ _ _ ?_ ?_ ?_ ?_).mono ?_; (first | exact fitV _ | assumption | exact fitQ _ (by assumption) | exact fitR _ (by assumption) | exact fitS _ (by assumption) | exact fit_zero | exact fitP _); (first | exact fitV _ | assumption | exact fitQ _ (by assumption) | exact fitR _ (by assumption) | exact fitS _ (by assumption) | exact fit_zero | exact fitP _); exact HR.out.rd (by repeat (first | exact List.Mem.head _ | apply List.Mem.tail)); exact HR.out.rd (by repeat (first | exact List.Mem.head _ | apply List.Mem.tail)); rintro e w' ⟨hb, rfl⟩; replace HR := Lib.hid (HR.out.on hb); replace HB := Lib.hid (below_on HB.out hb); clear hb)
            | (go_at_call 15; refine (sameU _ _ _ _ _ _ _ ?_ ?_ ?_).mono ?_; (first | exact fitV _ | assumption | exact fitQ _ (by assumption) | exact fitR _ (by assumption) | exact fitS _ (by assumption) | exact fit_zero | exact fitP _); exact HR.out.rd (by repeat (first | exact List.Mem.head _ | apply List.Mem.tail)); exact HR.out.rd (by repeat (first | exact List.Mem.head _ | apply List.Mem.tail)); rintro e w' ⟨hb, rfl⟩; replace HR := Lib.hid (HR.out.on hb); replace HB := Lib.hid (below_on HB.out hb); clear hb))
        go_ret
        exact ⟨rfl, HB.out⟩
  · have d1 : decide ((Lib.decDigits x).length < (Lib.decDigits y).length) = false := decide_eq_false (by omega)
    have d2 : (((Lib.decDigits x).length : Int) == ((Lib.decDigits y).length : Int)) = false := by rw [beq_eq_false_iff_ne]; omega
    have o : y < x := by
      rcases Nat.lt_or_ge y x with o | o
      · exact o
      · have := dec_len_mono o; omega
    have c4 : cmpI x y = 1 := by rw [cmpI, if_neg (by omega), if_pos o]
    clear o
    go_enter Tryz.func7, Tryz.ntmps7
    go_wp2_with (first
    | (go_at_call 22; refine (parseU _ _ ?_).mono ?_; (first | exact n1.out | exact n2.out); rintro e w' ⟨hb, A', c', rfl, hr⟩; replace HR := Lib.hid (HR.out.push hb hr); replace HB := Lib.hid (below_on HB.out hb); clear hb hr)
        | (go_at_call 12; refine (head_any _ (HT.out.below HB.out)).mono ?_; rintro e w' ⟨rfl, hb⟩; replace HR := Lib.hid (HR.out.on hb); replace HB := Lib.hid (below_on HB.out hb); clear hb)
        | (go_at_call 13; refine (validN _ _ _ _ ?_ ?_).mono ?_; (first | exact fitV _ | assumption | exact fitQ _ (by assumption) | exact fitR _ (by assumption) | exact fitS _ (by assumption) | exact fit_zero | exact fitP _); exact HR.out.rd (by repeat (first | exact List.Mem.head _ | apply List.Mem.tail)); rintro e w' ⟨rfl, rfl⟩)
        | (go_at_call 21; refine (textN _ _ _ _ ?_ ?_ ?_).mono ?_; (first | exact fitV _ | assumption | exact fitQ _ (by assumption) | exact fitR _ (by assumption) | exact fitS _ (by assumption) | exact fit_zero | exact fitP _); exact HR.out.rd (by repeat (first | exact List.Mem.head _ | apply List.Mem.tail)); exact HT.out.below HB.out; rintro e w' ⟨rfl, hb⟩; replace HR := Lib.hid (HR.out.on hb); replace HB := Lib.hid (below_on HB.out hb); clear hb)
        | (go_at_call 23; refine (cmpU _ _ _ _ _ _ _ ?_ ?_ ?_ ?_).mono ?_; (first | exact fitV _ | assumption | exact fitQ _ (by assumption) | exact fitR _ (by assumption) | exact fitS _ (by assumption) | exact fit_zero | exact fitP _); (first | exact fitV _ | assumption | exact fitQ _ (by assumption) | exact fitR _ (by assumption) | exact fitS _ (by assumption) | exact fit_zero | exact fitP _); exact HR.out.rd (by repeat (first | exact List.Mem.head _ | apply List.Mem.tail)); exact HR.out.rd (by repeat (first | exact List.Mem.head _ | apply List.Mem.tail)); rintro e w' ⟨hb, rfl⟩; replace HR := Lib.hid (HR.out.on hb); replace HB := Lib.hid (below_on HB.out hb); clear hb)
        | (go_at_call 15; refine (sameU _ _ _ _ _ _ _ ?_ ?_ ?_).mono ?_; (first | exact fitV _ | assumption | exact fitQ _ (by assumption) | exact fitR _ (by assumption) | exact fitS _ (by assumption) | exact fit_zero | exact fitP _); exact HR.out.rd (by repeat (first | exact List.Mem.head _ | apply List.Mem.tail)); exact HR.out.rd (by repeat (first | exact List.Mem.head _ | apply List.Mem.tail)); rintro e w' ⟨hb, rfl⟩; replace HR := Lib.hid (HR.out.on hb); replace HB := Lib.hid (below_on HB.out hb); clear hb))
    go_ret
    exact ⟨rfl, HB.out⟩

set_option maxRecDepth 100000 in
set_option maxHeartbeats 8000000 in
theorem texts_no (w : World) (A1 A2 : Option Addr) (c1 c2 : Nat) (x y : Nat) (s : List UInt8) (hx : Fit x) (hy : Fit y) (r1 : RdW w w.heap.size A1 (limbs x)) (r2 : RdW w w.heap.size A2 (limbs y)) (hs : s.length ≤ 9223372036854775807) (hT : Tab w) (K : ¬ kP s = 0) :
    Calls Tryz.prog 7 #[.slice A1 (limbs x).length c1, .slice A2 (limbs y).length c2, str s] w fun e w' => e = .returned (.bool true) ∧ Below w.heap.size w w' := by
  have HT := Lib.hid hT; clear hT
  have HB := Lib.hid (Below.refl w.heap.size w)
  have HR : Hid (Store w [(A1, limbs x), (A2, limbs y)]) := fun p hp => by
    simp at hp
    rcases hp with rfl | rfl
    · exact r1
    · exact r2
  clear r1 r2
  have n1 := Lib.hid hs
  have n2 := Lib.hid (show (Lib.decDigits x).length ≤ 9223372036854775807 by have := dec_fit hx; omega)
  clear hs
  have f1 := fitP s
  have f2 := fitP (Lib.decDigits x)
  have k0 : (kP s == 0) = false := by rw [beq_eq_false_iff_ne]; exact K
  have k1 := kP_dec hx
  have s1 : decide (vP (Lib.decDigits x) = x) = true := decide_eq_true (vP_dec hx)
  rcases Nat.lt_trichotomy (Lib.decDigits x).length (Lib.decDigits y).length with G | G | G
  · have d1 : decide ((Lib.decDigits x).length < (Lib.decDigits y).length) = true := decide_eq_true G
    have o : x < y := by
      rcases Nat.lt_or_ge x y with o | o
      · exact o
      · have := dec_len_mono o; omega
    have c4 : cmpI x y = -1 := by rw [cmpI, if_pos o]
    clear o
    go_enter Tryz.func7, Tryz.ntmps7
    go_wp2_with (first
    | (go_at_call 22; refine (parseU _ _ ?_).mono ?_; (first | exact n1.out | exact n2.out); rintro e w' ⟨hb, A', c', rfl, hr⟩; replace HR := Lib.hid (HR.out.push hb hr); replace HB := Lib.hid (below_on HB.out hb); clear hb hr)
        | (go_at_call 12; refine (head_any _ (HT.out.below HB.out)).mono ?_; rintro e w' ⟨rfl, hb⟩; replace HR := Lib.hid (HR.out.on hb); replace HB := Lib.hid (below_on HB.out hb); clear hb)
        | (go_at_call 13; refine (validN _ _ _ _ ?_ ?_).mono ?_; (first | exact fitV _ | assumption | exact fitQ _ (by assumption) | exact fitR _ (by assumption) | exact fitS _ (by assumption) | exact fit_zero | exact fitP _); exact HR.out.rd (by repeat (first | exact List.Mem.head _ | apply List.Mem.tail)); rintro e w' ⟨rfl, rfl⟩)
        | (go_at_call 21; refine (textN _ _ _ _ ?_ ?_ ?_).mono ?_; (first | exact fitV _ | assumption | exact fitQ _ (by assumption) | exact fitR _ (by assumption) | exact fitS _ (by assumption) | exact fit_zero | exact fitP _); exact HR.out.rd (by repeat (first | exact List.Mem.head _ | apply List.Mem.tail)); exact HT.out.below HB.out; rintro e w' ⟨rfl, hb⟩; replace HR := Lib.hid (HR.out.on hb); replace HB := Lib.hid (below_on HB.out hb); clear hb)
        | (go_at_call 23; refine (cmpU _ _ _ _ _ _ _ ?_ ?_ ?_ ?_).mono ?_; (first | exact fitV _ | assumption | exact fitQ _ (by assumption) | exact fitR _ (by assumption) | exact fitS _ (by assumption) | exact fit_zero | exact fitP _); (first | exact fitV _ | assumption | exact fitQ _ (by assumption) | exact fitR _ (by assumption) | exact fitS _ (by assumption) | exact fit_zero | exact fitP _); exact HR.out.rd (by repeat (first | exact List.Mem.head _ | apply List.Mem.tail)); exact HR.out.rd (by repeat (first | exact List.Mem.head _ | apply List.Mem.tail)); rintro e w' ⟨hb, rfl⟩; replace HR := Lib.hid (HR.out.on hb); replace HB := Lib.hid (below_on HB.out hb); clear hb)
        | (go_at_call 15; refine (sameU _ _ _ _ _ _ _ ?_ ?_ ?_).mono ?_; (first | exact fitV _ | assumption | exact fitQ _ (by assumption) | exact fitR _ (by assumption) | exact fitS _ (by assumption) | exact fit_zero | exact fitP _); exact HR.out.rd (by repeat (first | exact List.Mem.head _ | apply List.Mem.tail)); exact HR.out.rd (by repeat (first | exact List.Mem.head _ | apply List.Mem.tail)); rintro e w' ⟨hb, rfl⟩; replace HR := Lib.hid (HR.out.on hb); replace HB := Lib.hid (below_on HB.out hb); clear hb))
    go_ret
    exact ⟨rfl, HB.out⟩
  · have d1 : decide ((Lib.decDigits x).length < (Lib.decDigits y).length) = false := decide_eq_false (by omega)
    have d2 : (((Lib.decDigits x).length : Int) == ((Lib.decDigits y).length : Int)) = true := by rw [G]; exact beq_self_eq_true _
    have d3 := dec_less G
    by_cases O : x < y
    · have c4 : cmpI x y = -1 := by rw [cmpI, if_pos O]
      rw [decide_eq_true O] at d3
      clear O
      go_enter Tryz.func7, Tryz.ntmps7
      go_wp2_with (first
    | (go_at_call 22; refine (parseU _ _ ?_).mono ?_; (first | exact n1.out | exact n2.out); rintro e w' ⟨hb, A', c', rfl, hr⟩; replace HR := Lib.hid (HR.out.push hb hr); replace HB := Lib.hid (below_on HB.out hb); clear hb hr)
          | (go_at_call 12; refine (head_any _ (HT.out.below HB.out)).mono ?_; rintro e w' ⟨rfl, hb⟩; replace HR := Lib.hid (HR.out.on hb); replace HB := Lib.hid (below_on HB.out hb); clear hb)
          | (go_at_call 13; refine (validN _ _ _ _ ?_ ?_).mono ?_; (first | exact fitV _ | assumption | exact fitQ _ (by assumption) | exact fitR _ (by assumption) | exact fitS _ (by assumption) | exact fit_zero | exact fitP _); exact HR.out.rd (by repeat (first | exact List.Mem.head _ | apply List.Mem.tail)); rintro e w' ⟨rfl, rfl⟩)
          | (go_at_call 21; refine (textN _ _ _ _ ?_ ?_ ?_).mono ?_; (first | exact fitV _ | assumption | exact fitQ _ (by assumption) | exact fitR _ (by assumption) | exact fitS _ (by assumption) | exact fit_zero | exact fitP _); exact HR.out.rd (by repeat (first | exact List.Mem.head _ | apply List.Mem.tail)); exact HT.out.below HB.out; rintro e w' ⟨rfl, hb⟩; replace HR := Lib.hid (HR.out.on hb); replace HB := Lib.hid (below_on HB.out hb); clear hb)
          | (go_at_call 23; refine (cmpU _ _ _ _ _ _ _ ?_ ?_ ?_ ?_).mono ?_; (first | exact fitV _ | assumption | exact fitQ _ (by assumption) | exact fitR _ (by assumption) | exact fitS _ (by assumption) | exact fit_zero | exact fitP _); (first | exact fitV _ | assumption | exact fitQ _ (by assumption) | exact fitR _ (by assumption) | exact fitS _ (by assumption) | exact fit_zero | exact fitP _); exact HR.out.rd (by repeat (first | exact List.Mem.head _ | apply List.Mem.tail)); exact HR.out.rd (by repeat (first | exact List.Mem.head _ | apply List.Mem.tail)); rintro e w' ⟨hb, rfl⟩; replace HR := Lib.hid (HR.out.on hb); replace HB := Lib.hid (below_on HB.out hb); clear hb)
          | (go_at_call 15; refine (sameU _ _ _ _ _ _ _ ?_ ?_ ?_).mono ?_; (first | exact fitV _ | assumption | exact fitQ _ (by assumption) | exact fitR _ (by assumption) | exact fitS _ (by assumption) | exact fit_zero | exact fitP _); exact HR.out.rd (by repeat (first | exact List.Mem.head _ | apply List.Mem.tail)); exact HR.out.rd (by repeat (first | exact List.Mem.head _ | apply List.Mem.tail)); rintro e w' ⟨hb, rfl⟩; replace HR := Lib.hid (HR.out.on hb); replace HB := Lib.hid (below_on HB.out hb); clear hb))
      go_ret
      exact ⟨rfl, HB.out⟩
    · rw [decide_eq_false O] at d3
      by_cases O2 : y < x
      · have c4 : cmpI x y = 1 := by rw [cmpI, if_neg O, if_pos O2]
        clear O O2
        go_enter Tryz.func7, Tryz.ntmps7
        go_wp2_with (first
    | (go_at_call 22; refine (parseU _ _ ?_).mono ?_; (first | exact n1.out | exact n2.out); rintro e w' ⟨hb, A', c', rfl, hr⟩; replace HR := Lib.hid (HR.out.push hb hr); replace HB := Lib.hid (below_on HB.out hb); clear hb hr)
            | (go_at_call 12; refine (head_any _ (HT.out.below HB.out)).mono ?_; rintro e w' ⟨rfl, hb⟩; replace HR := Lib.hid (HR.out.on hb); replace HB := Lib.hid (below_on HB.out hb); clear hb)
            | (go_at_call 13; refine (validN _ _ _ _ ?_ ?_).mono ?_; (first | exact fitV _ | assumption | exact fitQ _ (by assumption) | exact fitR _ (by assumption) | exact fitS _ (by assumption) | exact fit_zero | exact fitP _); exact HR.out.rd (by repeat (first | exact List.Mem.head _ | apply List.Mem.tail)); rintro e w' ⟨rfl, rfl⟩)
            | (go_at_call 21; refine (textN _ _ _ _ ?_ ?_ ?_).mono ?_; (first | exact fitV _ | assumption | exact fitQ _ (by assumption) | exact fitR _ (by assumption) | exact fitS _ (by assumption) | exact fit_zero | exact fitP _); exact HR.out.rd (by repeat (first | exact List.Mem.head _ | apply List.Mem.tail)); exact HT.out.below HB.out; rintro e w' ⟨rfl, hb⟩; replace HR := Lib.hid (HR.out.on hb); replace HB := Lib.hid (below_on HB.out hb); clear hb)
            | (go_at_call 23; refine (cmpU _ _ _ _ _ _ _ ?_ ?_ ?_ ?_).mono ?_; (first | exact fitV _ | assumption | exact fitQ _ (by assumption) | exact fitR _ (by assumption) | exact fitS _ (by assumption) | exact fit_zero | exact fitP _); (first | exact fitV _ | assumption | exact fitQ _ (by assumption) | exact fitR _ (by assumption) | exact fitS _ (by assumption) | exact fit_zero | exact fitP _); exact HR.out.rd (by repeat (first | exact List.Mem.head _ | apply List.Mem.tail)); exact HR.out.rd (by repeat (first | exact List.Mem.head _ | apply List.Mem.tail)); rintro e w' ⟨hb, rfl⟩; replace HR := Lib.hid (HR.out.on hb); replace HB := Lib.hid (below_on HB.out hb); clear hb)
            | (go_at_call 15; refine (sameU _ _ _ _ _ _ _ ?_ ?_ ?_).mono ?_; (first | exact fitV _ | assumption | exact fitQ _ (by assumption) | exact fitR _ (by assumption) | exact fitS _ (by assumption) | exact fit_zero | exact fitP _); exact HR.out.rd (by repeat (first | exact List.Mem.head _ | apply List.Mem.tail)); exact HR.out.rd (by repeat (first | exact List.Mem.head _ | apply List.Mem.tail)); rintro e w' ⟨hb, rfl⟩; replace HR := Lib.hid (HR.out.on hb); replace HB := Lib.hid (below_on HB.out hb); clear hb))
        go_ret
        exact ⟨rfl, HB.out⟩
      · have c4 : cmpI x y = 0 := by rw [cmpI, if_neg O, if_neg O2]
        clear O O2
        go_enter Tryz.func7, Tryz.ntmps7
        go_wp2_with (first
    | (go_at_call 22; refine (parseU _ _ ?_).mono ?_; (first | exact n1.out | exact n2.out); rintro e w' ⟨hb, A', c', rfl, hr⟩; replace HR := Lib.hid (HR.out.push hb hr); replace HB := Lib.hid (below_on HB.out hb); clear hb hr)
            | (go_at_call 12; refine (head_any _ (HT.out.below HB.out)).mono ?_; rintro e w' ⟨rfl, hb⟩; replace HR := Lib.hid (HR.out.on hb); replace HB := Lib.hid (below_on HB.out hb); clear hb)
            | (go_at_call 13; refine (validN _ _ _ _ ?_ ?_).mono ?_; (first | exact fitV _ | assumption | exact fitQ _ (by assumption) | exact fitR _ (by assumption) | exact fitS _ (by assumption) | exact fit_zero | exact fitP _); exact HR.out.rd (by repeat (first | exact List.Mem.head _ | apply List.Mem.tail)); rintro e w' ⟨rfl, rfl⟩)
            | (go_at_call 21; refine (textN _ _ _ _ ?_ ?_ ?_).mono ?_; (first | exact fitV _ | assumption | exact fitQ _ (by assumption) | exact fitR _ (by assumption) | exact fitS _ (by assumption) | exact fit_zero | exact fitP _); exact HR.out.rd (by repeat (first | exact List.Mem.head _ | apply List.Mem.tail)); exact HT.out.below HB.out; rintro e w' ⟨rfl, hb⟩; replace HR := Lib.hid (HR.out.on hb); replace HB := Lib.hid (below_on HB.out hb); clear hb)
            | (go_at_call 23; refine (cmpU _ _ _ _ _ _ _ ?_ ?_ ?_ ?_).mono ?_; (first | exact fitV _ | assumption | exact fitQ _ (by assumption) | exact fitR _ (by assumption) | exact fitS _ (by assumption) | exact fit_zero | exact fitP _); (first | exact fitV _ | assumption | exact fitQ _ (by assumption) | exact fitR _ (by assumption) | exact fitS _ (by assumption) | exact fit_zero | exact fitP _); exact HR.out.rd (by repeat (first | exact List.Mem.head _ | apply List.Mem.tail)); exact HR.out.rd (by repeat (first | exact List.Mem.head _ | apply List.Mem.tail)); rintro e w' ⟨hb, rfl⟩; replace HR := Lib.hid (HR.out.on hb); replace HB := Lib.hid (below_on HB.out hb); clear hb)
            | (go_at_call 15; refine (sameU _ _ _ _ _ _ _ ?_ ?_ ?_).mono ?_; (first | exact fitV _ | assumption | exact fitQ _ (by assumption) | exact fitR _ (by assumption) | exact fitS _ (by assumption) | exact fit_zero | exact fitP _); exact HR.out.rd (by repeat (first | exact List.Mem.head _ | apply List.Mem.tail)); exact HR.out.rd (by repeat (first | exact List.Mem.head _ | apply List.Mem.tail)); rintro e w' ⟨hb, rfl⟩; replace HR := Lib.hid (HR.out.on hb); replace HB := Lib.hid (below_on HB.out hb); clear hb))
        go_ret
        exact ⟨rfl, HB.out⟩
  · have d1 : decide ((Lib.decDigits x).length < (Lib.decDigits y).length) = false := decide_eq_false (by omega)
    have d2 : (((Lib.decDigits x).length : Int) == ((Lib.decDigits y).length : Int)) = false := by rw [beq_eq_false_iff_ne]; omega
    have o : y < x := by
      rcases Nat.lt_or_ge y x with o | o
      · exact o
      · have := dec_len_mono o; omega
    have c4 : cmpI x y = 1 := by rw [cmpI, if_neg (by omega), if_pos o]
    clear o
    go_enter Tryz.func7, Tryz.ntmps7
    go_wp2_with (first
    | (go_at_call 22; refine (parseU _ _ ?_).mono ?_; (first | exact n1.out | exact n2.out); rintro e w' ⟨hb, A', c', rfl, hr⟩; replace HR := Lib.hid (HR.out.push hb hr); replace HB := Lib.hid (below_on HB.out hb); clear hb hr)
        | (go_at_call 12; refine (head_any _ (HT.out.below HB.out)).mono ?_; rintro e w' ⟨rfl, hb⟩; replace HR := Lib.hid (HR.out.on hb); replace HB := Lib.hid (below_on HB.out hb); clear hb)
        | (go_at_call 13; refine (validN _ _ _ _ ?_ ?_).mono ?_; (first | exact fitV _ | assumption | exact fitQ _ (by assumption) | exact fitR _ (by assumption) | exact fitS _ (by assumption) | exact fit_zero | exact fitP _); exact HR.out.rd (by repeat (first | exact List.Mem.head _ | apply List.Mem.tail)); rintro e w' ⟨rfl, rfl⟩)
        | (go_at_call 21; refine (textN _ _ _ _ ?_ ?_ ?_).mono ?_; (first | exact fitV _ | assumption | exact fitQ _ (by assumption) | exact fitR _ (by assumption) | exact fitS _ (by assumption) | exact fit_zero | exact fitP _); exact HR.out.rd (by repeat (first | exact List.Mem.head _ | apply List.Mem.tail)); exact HT.out.below HB.out; rintro e w' ⟨rfl, hb⟩; replace HR := Lib.hid (HR.out.on hb); replace HB := Lib.hid (below_on HB.out hb); clear hb)
        | (go_at_call 23; refine (cmpU _ _ _ _ _ _ _ ?_ ?_ ?_ ?_).mono ?_; (first | exact fitV _ | assumption | exact fitQ _ (by assumption) | exact fitR _ (by assumption) | exact fitS _ (by assumption) | exact fit_zero | exact fitP _); (first | exact fitV _ | assumption | exact fitQ _ (by assumption) | exact fitR _ (by assumption) | exact fitS _ (by assumption) | exact fit_zero | exact fitP _); exact HR.out.rd (by repeat (first | exact List.Mem.head _ | apply List.Mem.tail)); exact HR.out.rd (by repeat (first | exact List.Mem.head _ | apply List.Mem.tail)); rintro e w' ⟨hb, rfl⟩; replace HR := Lib.hid (HR.out.on hb); replace HB := Lib.hid (below_on HB.out hb); clear hb)
        | (go_at_call 15; refine (sameU _ _ _ _ _ _ _ ?_ ?_ ?_).mono ?_; (first | exact fitV _ | assumption | exact fitQ _ (by assumption) | exact fitR _ (by assumption) | exact fitS _ (by assumption) | exact fit_zero | exact fitP _); exact HR.out.rd (by repeat (first | exact List.Mem.head _ | apply List.Mem.tail)); exact HR.out.rd (by repeat (first | exact List.Mem.head _ | apply List.Mem.tail)); rintro e w' ⟨hb, rfl⟩; replace HR := Lib.hid (HR.out.on hb); replace HB := Lib.hid (below_on HB.out hb); clear hb))
    go_ret
    exact ⟨rfl, HB.out⟩

theorem texts_any (w : World) (A1 A2 : Option Addr) (c1 c2 : Nat) (a b : List Nat) (s : List UInt8) (r1 : RdW w w.heap.size A1 a) (r2 : RdW w w.heap.size A2 b) (la : Lim a) (lb : Lim b) (na : a.length ≤ 9223372036854775807) (nb : b.length ≤ 9223372036854775807) (hs : s.length ≤ 9223372036854775807) (hT : Tab w) :
    Calls Tryz.prog 7 #[.slice A1 a.length c1, .slice A2 b.length c2, str s] w fun e w' => e = .returned (.bool true) ∧ Below w.heap.size w w' := by
  rcases ha : isNat a with _ | _
  · exact texts_bad w A1 A2 c1 c2 a b s r1 r2 na nb hs hT false (isNat b) ha rfl rfl
  · rcases hb : isNat b with _ | _
    · exact texts_bad w A1 A2 c1 c2 a b s r1 r2 na nb hs hT true false ha hb rfl
    · have e1 := isNat_eq la ha
      have e2 := isNat_eq lb hb
      have f1 : Fit (val a) := by unfold Fit; rw [← e1]; exact (isNat_norm ha).1
      have f2 : Fit (val b) := by unfold Fit; rw [← e2]; exact (isNat_norm hb).1
      by_cases K : kP s = 0
      · have := texts_ok w A1 A2 c1 c2 (val a) (val b) s f1 f2 (by rw [← e1]; exact r1) (by rw [← e2]; exact r2) hs hT K
        rw [← e1, ← e2] at this
        exact this
      · have := texts_no w A1 A2 c1 c2 (val a) (val b) s f1 f2 (by rw [← e1]; exact r1) (by rw [← e2]; exact r2) hs hT K
        rw [← e1, ← e2] at this
        exact this

end Go.Proofs.YtgcobhlplffpjaaGreatDoor
