/- Walk: the law NaturalPowers answers true. -/
import Derived.Test.YtgcobhlplffpjaaGreatDoorQA
namespace Go.Proofs.YtgcobhlplffpjaaGreatDoor
open Go.RowKit Go.Deep

theorem i64_wrap_small {v : Int} (h0 : 0 ≤ v) (h1 : v < 9223372036854775808) : IntKind.i64.wrap v = v := by
  unfold IntKind.wrap
  simp only [IntKind.signed, IntKind.bits, Bool.true_and]
  split
  · rename_i h
    have := of_decide_eq_true h
    omega
  · omega
theorem pow0 (w : World) (A1 : Option Addr) (c1 : Nat) (x : Nat) (hx : Fit x) (r1 : RdW w w.heap.size A1 (limbs x)) : Calls Tryz.prog 14 #[.slice A1 (limbs x).length c1, .int .i64 0] w fun e w' => Below w.heap.size w w' ∧ ∃ A c, e = .returned (.tuple #[.slice A 1 c, .int .i64 0]) ∧ RdW w' w'.heap.size A [1] := by
  have h := powU w A1 c1 x 0 hx r1 (by omega)
  have f1 : Fit 1 := fit_small (by omega)
  rw [Nat.pow_zero, vE_fit f1, kE_fit f1] at h
  unfold UEnd at h
  rw [l_one] at h
  exact h
theorem same1 (w : World) (A : Option Addr) (c : Nat) (r1 : RdW w w.heap.size A [1]) : Calls Tryz.prog 15 #[.slice A 1 c, .slice (some ⟨w.heap.size, 0, none⟩) 1 1] (w.alloc (.cells #[.int .u32 1] 30)) fun e w' => Below w.heap.size w w' ∧ e = .returned (.bool true) := by
  have HR : Store w [(A, [1])] := fun p hp => by simp at hp; subst hp; exact r1
  have H2 := HR.alloc #[.int .u32 1] [1] rfl
  have h := sameU (w.alloc (.cells #[.int .u32 1] 30)) A (some ⟨w.heap.size, 0, none⟩) c 1 1 1 (fit_small (by omega)) (by rw [l_one]; exact H2.rd (by simp)) (by rw [l_one]; exact H2.rd (by simp))
  rw [l_one] at h
  exact h.mono fun e w' ⟨hb, he⟩ => ⟨((Below.refl _ _).alloc (Nat.le_refl _) _).trans (hb.mono (by simp)), by rw [he]; rfl⟩

set_option maxRecDepth 100000 in
set_option maxHeartbeats 4000000 in
theorem powers_bad (w : World) (A1 A2 : Option Addr) (c1 c2 : Nat) (a b : List Nat) (m n : Int) (r1 : RdW w w.heap.size A1 a) (r2 : RdW w w.heap.size A2 b) (na : a.length ≤ 9223372036854775807) (nb : b.length ≤ 9223372036854775807) (hT : Tab w) (p q : Bool) (hp : isNat a = p) (hq : isNat b = q) (hpq : (p && q) = false) :
    Calls Tryz.prog 3 #[.slice A1 a.length c1, .slice A2 b.length c2, .int .i64 m, .int .i64 n] w fun e w' => e = .returned (.bool true) ∧ Below w.heap.size w w' := by
  have H1 := Lib.hid fun (w1 : World) (hb : Below w.heap.size w w1) => valid_q w1 A1 c1 a p ((r1.below hb (Nat.le_refl _)).mono hb.size) na hp
  have H2 := Lib.hid fun (w1 : World) (hb : Below w.heap.size w w1) => valid_q w1 A2 c2 b q ((r2.below hb (Nat.le_refl _)).mono hb.size) nb hq
  clear r1 r2 hp hq na nb
  have HT := Lib.hid hT; clear hT
  have HB := Lib.hid (Below.refl w.heap.size w)
  have HR : Hid (Store w []) := fun p hp => by cases hp
  cases p
  · clear hpq
    go_enter Tryz.func3, Tryz.ntmps3
    go_wp2_with (first
    | (go_at_call 13; (with_reducible refine (H1.out _ HB.out).mono ?_); rintro e w' ⟨rfl, rfl⟩)
    | (go_at_call 13; (with_reducible refine (H2.out _ HB.out).mono ?_); rintro e w' ⟨rfl, rfl⟩)
        | (go_at_call 12; refine (head_any _ (HT.out.below HB.out)).mono ?_; rintro e w' ⟨rfl, hb⟩; replace HR := Lib.hid (HR.out.on hb); replace HB := Lib.hid (below_on HB.out hb); clear hb))
    go_ret
    exact ⟨rfl, HB.out⟩
  · cases q
    · clear hpq
      go_enter Tryz.func3, Tryz.ntmps3
      go_wp2_with (first
    | (go_at_call 13; (with_reducible refine (H1.out _ HB.out).mono ?_); rintro e w' ⟨rfl, rfl⟩)
    | (go_at_call 13; (with_reducible refine (H2.out _ HB.out).mono ?_); rintro e w' ⟨rfl, rfl⟩)
          | (go_at_call 12; refine (head_any _ (HT.out.below HB.out)).mono ?_; rintro e w' ⟨rfl, hb⟩; replace HR := Lib.hid (HR.out.on hb); replace HB := Lib.hid (below_on HB.out hb); clear hb))
      go_ret
      exact ⟨rfl, HB.out⟩
    · cases hpq

set_option maxRecDepth 100000 in
set_option maxHeartbeats 4000000 in
theorem powers_out (w : World) (A1 A2 : Option Addr) (c1 c2 : Nat) (x y : Nat) (m n : Int) (hx : Fit x) (hy : Fit y) (r1 : RdW w w.heap.size A1 (limbs x)) (r2 : RdW w w.heap.size A2 (limbs y)) (hT : Tab w) (h : ¬ (0 ≤ m ∧ m ≤ 1000 ∧ 0 ≤ n ∧ n ≤ 1000)) :
    Calls Tryz.prog 3 #[.slice A1 (limbs x).length c1, .slice A2 (limbs y).length c2, .int .i64 m, .int .i64 n] w fun e w' => e = .returned (.bool true) ∧ Below w.heap.size w w' := by
  have HT := Lib.hid hT; clear hT
  have HB := Lib.hid (Below.refl w.heap.size w)
  have HR : Hid (Store w [(A1, limbs x), (A2, limbs y)]) := fun p hp => by
    simp at hp
    rcases hp with rfl | rfl
    · exact r1
    · exact r2
  clear r1 r2
  by_cases D1 : m < 0
  · clear h
    go_enter Tryz.func3, Tryz.ntmps3
    go_wp2_with (first
    | (go_at_call 14; (with_reducible refine (pow0 _ _ _ _ ?_ ?_).mono ?_); (first | exact fitV _ | assumption | exact fitQ _ (by assumption) | exact fitR _ (by assumption) | exact fitS _ (by assumption) | exact fit_zero | exact fitP _); exact HR.out.rd (by repeat (first | exact List.Mem.head _ | apply List.Mem.tail)); rintro e w' ⟨hb, A', c', rfl, hr⟩; replace HR := Lib.hid (HR.out.push hb hr); replace HB := Lib.hid (below_on HB.out hb); clear hb hr)
    | (go_at_call 15; (with_reducible refine (same1 _ _ _ ?_).mono ?_); exact HR.out.rd (by repeat (first | exact List.Mem.head _ | apply List.Mem.tail)); rintro e w' ⟨hb, rfl⟩; replace HR := Lib.hid (HR.out.on hb); replace HB := Lib.hid (below_on HB.out hb); clear hb)
        | (go_at_call 12; refine (head_any _ (HT.out.below HB.out)).mono ?_; rintro e w' ⟨rfl, hb⟩; replace HR := Lib.hid (HR.out.on hb); replace HB := Lib.hid (below_on HB.out hb); clear hb)
        | (go_at_call 13; refine (validN _ _ _ _ ?_ ?_).mono ?_; (first | exact fitV _ | assumption | exact fitQ _ (by assumption) | exact fitR _ (by assumption) | exact fitS _ (by assumption) | exact fit_zero | exact fitP _); exact HR.out.rd (by repeat (first | exact List.Mem.head _ | apply List.Mem.tail)); rintro e w' ⟨rfl, rfl⟩)
        | (go_at_call 14; refine (powU _ _ _ _ _ ?_ ?_ ?_).mono ?_; (first | exact fitV _ | assumption | exact fitQ _ (by assumption) | exact fitR _ (by assumption) | exact fitS _ (by assumption) | exact fit_zero | exact fitP _); exact HR.out.rd (by repeat (first | exact List.Mem.head _ | apply List.Mem.tail)); omega; rintro e w' ⟨hb, A', c', rfl, hr⟩; replace HR := Lib.hid (HR.out.push hb hr); replace HB := Lib.hid (below_on HB.out hb); clear hb hr)
        | (go_at_call 16; refine (mulU _ _ _ _ _ _ _ ?_ ?_ ?_ ?_).mono ?_; (first | exact fitV _ | assumption | exact fitQ _ (by assumption) | exact fitR _ (by assumption) | exact fitS _ (by assumption) | exact fit_zero | exact fitP _); (first | exact fitV _ | assumption | exact fitQ _ (by assumption) | exact fitR _ (by assumption) | exact fitS _ (by assumption) | exact fit_zero | exact fitP _); exact HR.out.rd (by repeat (first | exact List.Mem.head _ | apply List.Mem.tail)); exact HR.out.rd (by repeat (first | exact List.Mem.head _ | apply List.Mem.tail)); rintro e w' ⟨hb, A', c', rfl, hr⟩; replace HR := Lib.hid (HR.out.push hb hr); replace HB := Lib.hid (below_on HB.out hb); clear hb hr)
        | (go_at_call 15; refine (sameU _ _ _ _ _ _ _ ?_ ?_ ?_).mono ?_; (first | exact fitV _ | assumption | exact fitQ _ (by assumption) | exact fitR _ (by assumption) | exact fitS _ (by assumption) | exact fit_zero | exact fitP _); exact HR.out.rd (by repeat (first | exact List.Mem.head _ | apply List.Mem.tail)); exact HR.out.rd (by repeat (first | exact List.Mem.head _ | apply List.Mem.tail)); rintro e w' ⟨hb, rfl⟩; replace HR := Lib.hid (HR.out.on hb); replace HB := Lib.hid (below_on HB.out hb); clear hb))
    go_ret
    exact ⟨rfl, HB.out⟩
  · by_cases D2 : 1000 < m
    · clear h
      go_enter Tryz.func3, Tryz.ntmps3
      go_wp2_with (first
    | (go_at_call 14; (with_reducible refine (pow0 _ _ _ _ ?_ ?_).mono ?_); (first | exact fitV _ | assumption | exact fitQ _ (by assumption) | exact fitR _ (by assumption) | exact fitS _ (by assumption) | exact fit_zero | exact fitP _); exact HR.out.rd (by repeat (first | exact List.Mem.head _ | apply List.Mem.tail)); rintro e w' ⟨hb, A', c', rfl, hr⟩; replace HR := Lib.hid (HR.out.push hb hr); replace HB := Lib.hid (below_on HB.out hb); clear hb hr)
    | (go_at_call 15; (with_reducible refine (same1 _ _ _ ?_).mono ?_); exact HR.out.rd (by repeat (first | exact List.Mem.head _ | apply List.Mem.tail)); rintro e w' ⟨hb, rfl⟩; replace HR := Lib.hid (HR.out.on hb); replace HB := Lib.hid (below_on HB.out hb); clear hb)
          | (go_at_call 12; refine (head_any _ (HT.out.below HB.out)).mono ?_; rintro e w' ⟨rfl, hb⟩; replace HR := Lib.hid (HR.out.on hb); replace HB := Lib.hid (below_on HB.out hb); clear hb)
          | (go_at_call 13; refine (validN _ _ _ _ ?_ ?_).mono ?_; (first | exact fitV _ | assumption | exact fitQ _ (by assumption) | exact fitR _ (by assumption) | exact fitS _ (by assumption) | exact fit_zero | exact fitP _); exact HR.out.rd (by repeat (first | exact List.Mem.head _ | apply List.Mem.tail)); rintro e w' ⟨rfl, rfl⟩)
          | (go_at_call 14; refine (powU _ _ _ _ _ ?_ ?_ ?_).mono ?_; (first | exact fitV _ | assumption | exact fitQ _ (by assumption) | exact fitR _ (by assumption) | exact fitS _ (by assumption) | exact fit_zero | exact fitP _); exact HR.out.rd (by repeat (first | exact List.Mem.head _ | apply List.Mem.tail)); omega; rintro e w' ⟨hb, A', c', rfl, hr⟩; replace HR := Lib.hid (HR.out.push hb hr); replace HB := Lib.hid (below_on HB.out hb); clear hb hr)
          | (go_at_call 16; refine (mulU _ _ _ _ _ _ _ ?_ ?_ ?_ ?_).mono ?_; (first | exact fitV _ | assumption | exact fitQ _ (by assumption) | exact fitR _ (by assumption) | exact fitS _ (by assumption) | exact fit_zero | exact fitP _); (first | exact fitV _ | assumption | exact fitQ _ (by assumption) | exact fitR _ (by assumption) | exact fitS _ (by assumption) | exact fit_zero | exact fitP _); exact HR.out.rd (by repeat (first | exact List.Mem.head _ | apply List.Mem.tail)); exact HR.out.rd (by repeat (first | exact List.Mem.head _ | apply List.Mem.tail)); rintro e w' ⟨hb, A', c', rfl, hr⟩; replace HR := Lib.hid (HR.out.push hb hr); replace HB := Lib.hid (below_on HB.out hb); clear hb hr)
          | (go_at_call 15; refine (sameU _ _ _ _ _ _ _ ?_ ?_ ?_).mono ?_; (first | exact fitV _ | assumption | exact fitQ _ (by assumption) | exact fitR _ (by assumption) | exact fitS _ (by assumption) | exact fit_zero | exact fitP _); exact HR.out.rd (by repeat (first | exact List.Mem.head _ | apply List.Mem.tail)); exact HR.out.rd (by repeat (first | exact List.Mem.head _ | apply List.Mem.tail)); rintro e w' ⟨hb, rfl⟩; replace HR := Lib.hid (HR.out.on hb); replace HB := Lib.hid (below_on HB.out hb); clear hb))
      go_ret
      exact ⟨rfl, HB.out⟩
    · by_cases D3 : n < 0
      · clear h
        go_enter Tryz.func3, Tryz.ntmps3
        go_wp2_with (first
    | (go_at_call 14; (with_reducible refine (pow0 _ _ _ _ ?_ ?_).mono ?_); (first | exact fitV _ | assumption | exact fitQ _ (by assumption) | exact fitR _ (by assumption) | exact fitS _ (by assumption) | exact fit_zero | exact fitP _); exact HR.out.rd (by repeat (first | exact List.Mem.head _ | apply List.Mem.tail)); rintro e w' ⟨hb, A', c', rfl, hr⟩; replace HR := Lib.hid (HR.out.push hb hr); replace HB := Lib.hid (below_on HB.out hb); clear hb hr)
    | (go_at_call 15; (with_reducible refine (same1 _ _ _ ?_).mono ?_); exact HR.out.rd (by repeat (first | exact List.Mem.head _ | apply List.Mem.tail)); rintro e w' ⟨hb, rfl⟩; replace HR := Lib.hid (HR.out.on hb); replace HB := Lib.hid (below_on HB.out hb); clear hb)
            | (go_at_call 12; refine (head_any _ (HT.out.below HB.out)).mono ?_; rintro e w' ⟨rfl, hb⟩; replace HR := Lib.hid (HR.out.on hb); replace HB := Lib.hid (below_on HB.out hb); clear hb)
            | (go_at_call 13; refine (validN _ _ _ _ ?_ ?_).mono ?_; (first | exact fitV _ | assumption | exact fitQ _ (by assumption) | exact fitR _ (by assumption) | exact fitS _ (by assumption) | exact fit_zero | exact fitP _); exact HR.out.rd (by repeat (first | exact List.Mem.head _ | apply List.Mem.tail)); rintro e w' ⟨rfl, rfl⟩)
            | (go_at_call 14; refine (powU _ _ _ _ _ ?_ ?_ ?_).mono ?_; (first | exact fitV _ | assumption | exact fitQ _ (by assumption) | exact fitR _ (by assumption) | exact fitS _ (by assumption) | exact fit_zero | exact fitP _); exact HR.out.rd (by repeat (first | exact List.Mem.head _ | apply List.Mem.tail)); omega; rintro e w' ⟨hb, A', c', rfl, hr⟩; replace HR := Lib.hid (HR.out.push hb hr); replace HB := Lib.hid (below_on HB.out hb); clear hb hr)
            | (go_at_call 16; refine (mulU _ _ _ _ _ _ _ ?_ ?_ ?_ ?_).mono ?_; (first | exact fitV _ | assumption | exact fitQ _ (by assumption) | exact fitR _ (by assumption) | exact fitS _ (by assumption) | exact fit_zero | exact fitP _); (first | exact fitV _ | assumption | exact fitQ _ (by assumption) | exact fitR _ (by assumption) | exact fitS _ (by assumption) | exact fit_zero | exact fitP _); exact HR.out.rd (by repeat (first | exact List.Mem.head _ | apply List.Mem.tail)); exact HR.out.rd (by repeat (first | exact List.Mem.head _ | apply List.Mem.tail)); rintro e w' ⟨hb, A', c', rfl, hr⟩; replace HR := Lib.hid (HR.out.push hb hr); replace HB := Lib.hid (below_on HB.out hb); clear hb hr)
            | (go_at_call 15; refine (sameU _ _ _ _ _ _ _ ?_ ?_ ?_).mono ?_; (first | exact fitV _ | assumption | exact fitQ _ (by assumption) | exact fitR _ (by assumption) | exact fitS _ (by assumption) | exact fit_zero | exact fitP _); exact HR.out.rd (by repeat (first | exact List.Mem.head _ | apply List.Mem.tail)); exact HR.out.rd (by repeat (first | exact List.Mem.head _ | apply List.Mem.tail)); rintro e w' ⟨hb, rfl⟩; replace HR := Lib.hid (HR.out.on hb); replace HB := Lib.hid (below_on HB.out hb); clear hb))
        go_ret
        exact ⟨rfl, HB.out⟩
      · have D4 : 1000 < n := by omega
        clear h
        go_enter Tryz.func3, Tryz.ntmps3
        go_wp2_with (first
    | (go_at_call 14; (with_reducible refine (pow0 _ _ _ _ ?_ ?_).mono ?_); (first | exact fitV _ | assumption | exact fitQ _ (by assumption) | exact fitR _ (by assumption) | exact fitS _ (by assumption) | exact fit_zero | exact fitP _); exact HR.out.rd (by repeat (first | exact List.Mem.head _ | apply List.Mem.tail)); rintro e w' ⟨hb, A', c', rfl, hr⟩; replace HR := Lib.hid (HR.out.push hb hr); replace HB := Lib.hid (below_on HB.out hb); clear hb hr)
    | (go_at_call 15; (with_reducible refine (same1 _ _ _ ?_).mono ?_); exact HR.out.rd (by repeat (first | exact List.Mem.head _ | apply List.Mem.tail)); rintro e w' ⟨hb, rfl⟩; replace HR := Lib.hid (HR.out.on hb); replace HB := Lib.hid (below_on HB.out hb); clear hb)
            | (go_at_call 12; refine (head_any _ (HT.out.below HB.out)).mono ?_; rintro e w' ⟨rfl, hb⟩; replace HR := Lib.hid (HR.out.on hb); replace HB := Lib.hid (below_on HB.out hb); clear hb)
            | (go_at_call 13; refine (validN _ _ _ _ ?_ ?_).mono ?_; (first | exact fitV _ | assumption | exact fitQ _ (by assumption) | exact fitR _ (by assumption) | exact fitS _ (by assumption) | exact fit_zero | exact fitP _); exact HR.out.rd (by repeat (first | exact List.Mem.head _ | apply List.Mem.tail)); rintro e w' ⟨rfl, rfl⟩)
            | (go_at_call 14; refine (powU _ _ _ _ _ ?_ ?_ ?_).mono ?_; (first | exact fitV _ | assumption | exact fitQ _ (by assumption) | exact fitR _ (by assumption) | exact fitS _ (by assumption) | exact fit_zero | exact fitP _); exact HR.out.rd (by repeat (first | exact List.Mem.head _ | apply List.Mem.tail)); omega; rintro e w' ⟨hb, A', c', rfl, hr⟩; replace HR := Lib.hid (HR.out.push hb hr); replace HB := Lib.hid (below_on HB.out hb); clear hb hr)
            | (go_at_call 16; refine (mulU _ _ _ _ _ _ _ ?_ ?_ ?_ ?_).mono ?_; (first | exact fitV _ | assumption | exact fitQ _ (by assumption) | exact fitR _ (by assumption) | exact fitS _ (by assumption) | exact fit_zero | exact fitP _); (first | exact fitV _ | assumption | exact fitQ _ (by assumption) | exact fitR _ (by assumption) | exact fitS _ (by assumption) | exact fit_zero | exact fitP _); exact HR.out.rd (by repeat (first | exact List.Mem.head _ | apply List.Mem.tail)); exact HR.out.rd (by repeat (first | exact List.Mem.head _ | apply List.Mem.tail)); rintro e w' ⟨hb, A', c', rfl, hr⟩; replace HR := Lib.hid (HR.out.push hb hr); replace HB := Lib.hid (below_on HB.out hb); clear hb hr)
            | (go_at_call 15; refine (sameU _ _ _ _ _ _ _ ?_ ?_ ?_).mono ?_; (first | exact fitV _ | assumption | exact fitQ _ (by assumption) | exact fitR _ (by assumption) | exact fitS _ (by assumption) | exact fit_zero | exact fitP _); exact HR.out.rd (by repeat (first | exact List.Mem.head _ | apply List.Mem.tail)); exact HR.out.rd (by repeat (first | exact List.Mem.head _ | apply List.Mem.tail)); rintro e w' ⟨hb, rfl⟩; replace HR := Lib.hid (HR.out.on hb); replace HB := Lib.hid (below_on HB.out hb); clear hb))
        go_ret
        exact ⟨rfl, HB.out⟩

set_option maxRecDepth 100000 in
set_option maxHeartbeats 8000000 in
theorem powers_a (w : World) (A1 A2 : Option Addr) (c1 c2 : Nat) (x y : Nat) (m n : Nat) (hm : m ≤ 1000) (hn : n ≤ 1000) (hx : Fit x) (hy : Fit y) (r1 : RdW w w.heap.size A1 (limbs x)) (r2 : RdW w w.heap.size A2 (limbs y)) (hT : Tab w) (E1 : Fit (x ^ m)) (E2 : Fit (x ^ n)) (E3 : Fit (x ^ (m + n))) :
    Calls Tryz.prog 3 #[.slice A1 (limbs x).length c1, .slice A2 (limbs y).length c2, .int .i64 m, .int .i64 n] w fun e w' => e = .returned (.bool true) ∧ Below w.heap.size w w' := by
  have HT := Lib.hid hT; clear hT
  have HB := Lib.hid (Below.refl w.heap.size w)
  have HR : Hid (Store w [(A1, limbs x), (A2, limbs y)]) := fun p hp => by
    simp at hp
    rcases hp with rfl | rfl
    · exact r1
    · exact r2
  clear r1 r2
  obtain ⟨t, ht⟩ : ∃ t, t = m + n := ⟨_, rfl⟩
  have t3 : t ≤ 2000 := by omega
  have W1 : IntKind.i64.wrap ((m : Int) + (n : Int)) = (t : Int) := by rw [ht, ← Int.natCast_add]; exact i64_wrap_small (by omega) (by omega)
  have W2 : ((m : Int) + (n : Int)) = (t : Int) := by rw [ht, Int.natCast_add]
  have D1 : decide ((m : Int) < 0) = false := decide_eq_false (by omega)
  have D2 : decide (1000 < (m : Int)) = false := decide_eq_false (by omega)
  have D3 : decide ((n : Int) < 0) = false := decide_eq_false (by omega)
  have D4 : decide (1000 < (n : Int)) = false := decide_eq_false (by omega)
  have k1 := kE_fit E1
  have k2 := kE_fit E2
  have kt : vE (x ^ m) * vE (x ^ n) = x ^ t := by rw [ht, vE_fit E1, vE_fit E2, Nat.pow_add]
  have s3 : decide (vE (x ^ t) = vE (vE (x ^ m) * vE (x ^ n))) = true := by rw [kt]; exact decide_eq_true rfl
  have k3 : kE (x ^ t) = 0 := by rw [ht]; exact kE_fit E3
  have k8 : kE (vE (x ^ m) * vE (x ^ n)) = 0 := by rw [kt]; exact k3
  clear kt E3
  have F2 := Lib.hid E2
  clear ht E1 E2
  by_cases G1 : Fit (x * y)
  · have k4 := kE_fit G1
    by_cases G2 : Fit (y ^ n)
    · have k5 := kE_fit G2
      have ke : vE (x * y) ^ n = vE (x ^ n) * vE (y ^ n) := by rw [vE_fit G1, vE_fit G2, vE_fit F2.out, Nat.mul_pow]
      have k7 : kE (vE (x * y) ^ n) = kE (vE (x ^ n) * vE (y ^ n)) := by rw [ke]
      have s7 : decide (vE (vE (x * y) ^ n) = vE (vE (x ^ n) * vE (y ^ n))) = true := by rw [ke]; exact decide_eq_true rfl
      by_cases G3 : Fit (vE (x ^ n) * vE (y ^ n))
      · have k6 := kE_fit G3
        rw [k6] at k7
        clear G1 G2 G3 ke
        go_enter Tryz.func3, Tryz.ntmps3
        go_wp2_with (first
    | (go_at_call 14; (with_reducible refine (pow0 _ _ _ _ ?_ ?_).mono ?_); (first | exact fitV _ | assumption | exact fitQ _ (by assumption) | exact fitR _ (by assumption) | exact fitS _ (by assumption) | exact fit_zero | exact fitP _); exact HR.out.rd (by repeat (first | exact List.Mem.head _ | apply List.Mem.tail)); rintro e w' ⟨hb, A', c', rfl, hr⟩; replace HR := Lib.hid (HR.out.push hb hr); replace HB := Lib.hid (below_on HB.out hb); clear hb hr)
    | (go_at_call 15; (with_reducible refine (same1 _ _ _ ?_).mono ?_); exact HR.out.rd (by repeat (first | exact List.Mem.head _ | apply List.Mem.tail)); rintro e w' ⟨hb, rfl⟩; replace HR := Lib.hid (HR.out.on hb); replace HB := Lib.hid (below_on HB.out hb); clear hb)
            | (go_at_call 12; refine (head_any _ (HT.out.below HB.out)).mono ?_; rintro e w' ⟨rfl, hb⟩; replace HR := Lib.hid (HR.out.on hb); replace HB := Lib.hid (below_on HB.out hb); clear hb)
            | (go_at_call 13; refine (validN _ _ _ _ ?_ ?_).mono ?_; (first | exact fitV _ | assumption | exact fitQ _ (by assumption) | exact fitR _ (by assumption) | exact fitS _ (by assumption) | exact fit_zero | exact fitP _); exact HR.out.rd (by repeat (first | exact List.Mem.head _ | apply List.Mem.tail)); rintro e w' ⟨rfl, rfl⟩)
            | (go_at_call 14; refine (powU _ _ _ _ _ ?_ ?_ ?_).mono ?_; (first | exact fitV _ | assumption | exact fitQ _ (by assumption) | exact fitR _ (by assumption) | exact fitS _ (by assumption) | exact fit_zero | exact fitP _); exact HR.out.rd (by repeat (first | exact List.Mem.head _ | apply List.Mem.tail)); omega; rintro e w' ⟨hb, A', c', rfl, hr⟩; replace HR := Lib.hid (HR.out.push hb hr); replace HB := Lib.hid (below_on HB.out hb); clear hb hr)
            | (go_at_call 16; refine (mulU _ _ _ _ _ _ _ ?_ ?_ ?_ ?_).mono ?_; (first | exact fitV _ | assumption | exact fitQ _ (by assumption) | exact fitR _ (by assumption) | exact fitS _ (by assumption) | exact fit_zero | exact fitP _); (first | exact fitV _ | assumption | exact fitQ _ (by assumption) | exact fitR _ (by assumption) | exact fitS _ (by assumption) | exact fit_zero | exact fitP _); exact HR.out.rd (by repeat (first | exact List.Mem.head _ | apply List.Mem.tail)); exact HR.out.rd (by repeat (first | exact List.Mem.head _ | apply List.Mem.tail)); rintro e w' ⟨hb, A', c', rfl, hr⟩; replace HR := Lib.hid (HR.out.push hb hr); replace HB := Lib.hid (below_on HB.out hb); clear hb hr)
            | (go_at_call 15; refine (sameU _ _ _ _ _ _ _ ?_ ?_ ?_).mono ?_; (first | exact fitV _ | assumption | exact fitQ _ (by assumption) | exact fitR _ (by assumption) | exact fitS _ (by assumption) | exact fit_zero | exact fitP _); exact HR.out.rd (by repeat (first | exact List.Mem.head _ | apply List.Mem.tail)); exact HR.out.rd (by repeat (first | exact List.Mem.head _ | apply List.Mem.tail)); rintro e w' ⟨hb, rfl⟩; replace HR := Lib.hid (HR.out.on hb); replace HB := Lib.hid (below_on HB.out hb); clear hb))
        go_ret
        exact ⟨rfl, HB.out⟩
      · have k6 := kE_big G3
        rw [k6] at k7
        clear G1 G2 G3 ke
        go_enter Tryz.func3, Tryz.ntmps3
        go_wp2_with (first
    | (go_at_call 14; (with_reducible refine (pow0 _ _ _ _ ?_ ?_).mono ?_); (first | exact fitV _ | assumption | exact fitQ _ (by assumption) | exact fitR _ (by assumption) | exact fitS _ (by assumption) | exact fit_zero | exact fitP _); exact HR.out.rd (by repeat (first | exact List.Mem.head _ | apply List.Mem.tail)); rintro e w' ⟨hb, A', c', rfl, hr⟩; replace HR := Lib.hid (HR.out.push hb hr); replace HB := Lib.hid (below_on HB.out hb); clear hb hr)
    | (go_at_call 15; (with_reducible refine (same1 _ _ _ ?_).mono ?_); exact HR.out.rd (by repeat (first | exact List.Mem.head _ | apply List.Mem.tail)); rintro e w' ⟨hb, rfl⟩; replace HR := Lib.hid (HR.out.on hb); replace HB := Lib.hid (below_on HB.out hb); clear hb)
            | (go_at_call 12; refine (head_any _ (HT.out.below HB.out)).mono ?_; rintro e w' ⟨rfl, hb⟩; replace HR := Lib.hid (HR.out.on hb); replace HB := Lib.hid (below_on HB.out hb); clear hb)
            | (go_at_call 13; refine (validN _ _ _ _ ?_ ?_).mono ?_; (first | exact fitV _ | assumption | exact fitQ _ (by assumption) | exact fitR _ (by assumption) | exact fitS _ (by assumption) | exact fit_zero | exact fitP _); exact HR.out.rd (by repeat (first | exact List.Mem.head _ | apply List.Mem.tail)); rintro e w' ⟨rfl, rfl⟩)
            | (go_at_call 14; refine (powU _ _ _ _ _ ?_ ?_ ?_).mono ?_; (first | exact fitV _ | assumption | exact fitQ _ (by assumption) | exact fitR _ (by assumption) | exact fitS _ (by assumption) | exact fit_zero | exact fitP _); exact HR.out.rd (by repeat (first | exact List.Mem.head _ | apply List.Mem.tail)); omega; rintro e w' ⟨hb, A', c', rfl, hr⟩; replace HR := Lib.hid (HR.out.push hb hr); replace HB := Lib.hid (below_on HB.out hb); clear hb hr)
            | (go_at_call 16; refine (mulU _ _ _ _ _ _ _ ?_ ?_ ?_ ?_).mono ?_; (first | exact fitV _ | assumption | exact fitQ _ (by assumption) | exact fitR _ (by assumption) | exact fitS _ (by assumption) | exact fit_zero | exact fitP _); (first | exact fitV _ | assumption | exact fitQ _ (by assumption) | exact fitR _ (by assumption) | exact fitS _ (by assumption) | exact fit_zero | exact fitP _); exact HR.out.rd (by repeat (first | exact List.Mem.head _ | apply List.Mem.tail)); exact HR.out.rd (by repeat (first | exact List.Mem.head _ | apply List.Mem.tail)); rintro e w' ⟨hb, A', c', rfl, hr⟩; replace HR := Lib.hid (HR.out.push hb hr); replace HB := Lib.hid (below_on HB.out hb); clear hb hr)
            | (go_at_call 15; refine (sameU _ _ _ _ _ _ _ ?_ ?_ ?_).mono ?_; (first | exact fitV _ | assumption | exact fitQ _ (by assumption) | exact fitR _ (by assumption) | exact fitS _ (by assumption) | exact fit_zero | exact fitP _); exact HR.out.rd (by repeat (first | exact List.Mem.head _ | apply List.Mem.tail)); exact HR.out.rd (by repeat (first | exact List.Mem.head _ | apply List.Mem.tail)); rintro e w' ⟨hb, rfl⟩; replace HR := Lib.hid (HR.out.on hb); replace HB := Lib.hid (below_on HB.out hb); clear hb))
        go_ret
        exact ⟨rfl, HB.out⟩
    · have k5 := kE_big G2
      clear G1 G2
      go_enter Tryz.func3, Tryz.ntmps3
      go_wp2_with (first
    | (go_at_call 14; (with_reducible refine (pow0 _ _ _ _ ?_ ?_).mono ?_); (first | exact fitV _ | assumption | exact fitQ _ (by assumption) | exact fitR _ (by assumption) | exact fitS _ (by assumption) | exact fit_zero | exact fitP _); exact HR.out.rd (by repeat (first | exact List.Mem.head _ | apply List.Mem.tail)); rintro e w' ⟨hb, A', c', rfl, hr⟩; replace HR := Lib.hid (HR.out.push hb hr); replace HB := Lib.hid (below_on HB.out hb); clear hb hr)
    | (go_at_call 15; (with_reducible refine (same1 _ _ _ ?_).mono ?_); exact HR.out.rd (by repeat (first | exact List.Mem.head _ | apply List.Mem.tail)); rintro e w' ⟨hb, rfl⟩; replace HR := Lib.hid (HR.out.on hb); replace HB := Lib.hid (below_on HB.out hb); clear hb)
          | (go_at_call 12; refine (head_any _ (HT.out.below HB.out)).mono ?_; rintro e w' ⟨rfl, hb⟩; replace HR := Lib.hid (HR.out.on hb); replace HB := Lib.hid (below_on HB.out hb); clear hb)
          | (go_at_call 13; refine (validN _ _ _ _ ?_ ?_).mono ?_; (first | exact fitV _ | assumption | exact fitQ _ (by assumption) | exact fitR _ (by assumption) | exact fitS _ (by assumption) | exact fit_zero | exact fitP _); exact HR.out.rd (by repeat (first | exact List.Mem.head _ | apply List.Mem.tail)); rintro e w' ⟨rfl, rfl⟩)
          | (go_at_call 14; refine (powU _ _ _ _ _ ?_ ?_ ?_).mono ?_; (first | exact fitV _ | assumption | exact fitQ _ (by assumption) | exact fitR _ (by assumption) | exact fitS _ (by assumption) | exact fit_zero | exact fitP _); exact HR.out.rd (by repeat (first | exact List.Mem.head _ | apply List.Mem.tail)); omega; rintro e w' ⟨hb, A', c', rfl, hr⟩; replace HR := Lib.hid (HR.out.push hb hr); replace HB := Lib.hid (below_on HB.out hb); clear hb hr)
          | (go_at_call 16; refine (mulU _ _ _ _ _ _ _ ?_ ?_ ?_ ?_).mono ?_; (first | exact fitV _ | assumption | exact fitQ _ (by assumption) | exact fitR _ (by assumption) | exact fitS _ (by assumption) | exact fit_zero | exact fitP _); (first | exact fitV _ | assumption | exact fitQ _ (by assumption) | exact fitR _ (by assumption) | exact fitS _ (by assumption) | exact fit_zero | exact fitP _); exact HR.out.rd (by repeat (first | exact List.Mem.head _ | apply List.Mem.tail)); exact HR.out.rd (by repeat (first | exact List.Mem.head _ | apply List.Mem.tail)); rintro e w' ⟨hb, A', c', rfl, hr⟩; replace HR := Lib.hid (HR.out.push hb hr); replace HB := Lib.hid (below_on HB.out hb); clear hb hr)
          | (go_at_call 15; refine (sameU _ _ _ _ _ _ _ ?_ ?_ ?_).mono ?_; (first | exact fitV _ | assumption | exact fitQ _ (by assumption) | exact fitR _ (by assumption) | exact fitS _ (by assumption) | exact fit_zero | exact fitP _); exact HR.out.rd (by repeat (first | exact List.Mem.head _ | apply List.Mem.tail)); exact HR.out.rd (by repeat (first | exact List.Mem.head _ | apply List.Mem.tail)); rintro e w' ⟨hb, rfl⟩; replace HR := Lib.hid (HR.out.on hb); replace HB := Lib.hid (below_on HB.out hb); clear hb))
      go_ret
      exact ⟨rfl, HB.out⟩
  · have k4 := kE_big G1
    clear G1
    go_enter Tryz.func3, Tryz.ntmps3
    go_wp2_with (first
    | (go_at_call 14; (with_reducible refine (pow0 _ _ _ _ ?_ ?_).mono ?_); (first | exact fitV _ | assumption | exact fitQ _ (by assumption) | exact fitR _ (by assumption) | exact fitS _ (by assumption) | exact fit_zero | exact fitP _); exact HR.out.rd (by repeat (first | exact List.Mem.head _ | apply List.Mem.tail)); rintro e w' ⟨hb, A', c', rfl, hr⟩; replace HR := Lib.hid (HR.out.push hb hr); replace HB := Lib.hid (below_on HB.out hb); clear hb hr)
    | (go_at_call 15; (with_reducible refine (same1 _ _ _ ?_).mono ?_); exact HR.out.rd (by repeat (first | exact List.Mem.head _ | apply List.Mem.tail)); rintro e w' ⟨hb, rfl⟩; replace HR := Lib.hid (HR.out.on hb); replace HB := Lib.hid (below_on HB.out hb); clear hb)
        | (go_at_call 12; refine (head_any _ (HT.out.below HB.out)).mono ?_; rintro e w' ⟨rfl, hb⟩; replace HR := Lib.hid (HR.out.on hb); replace HB := Lib.hid (below_on HB.out hb); clear hb)
        | (go_at_call 13; refine (validN _ _ _ _ ?_ ?_).mono ?_; (first | exact fitV _ | assumption | exact fitQ _ (by assumption) | exact fitR _ (by assumption) | exact fitS _ (by assumption) | exact fit_zero | exact fitP _); exact HR.out.rd (by repeat (first | exact List.Mem.head _ | apply List.Mem.tail)); rintro e w' ⟨rfl, rfl⟩)
        | (go_at_call 14; refine (powU _ _ _ _ _ ?_ ?_ ?_).mono ?_; (first | exact fitV _ | assumption | exact fitQ _ (by assumption) | exact fitR _ (by assumption) | exact fitS _ (by assumption) | exact fit_zero | exact fitP _); exact HR.out.rd (by repeat (first | exact List.Mem.head _ | apply List.Mem.tail)); omega; rintro e w' ⟨hb, A', c', rfl, hr⟩; replace HR := Lib.hid (HR.out.push hb hr); replace HB := Lib.hid (below_on HB.out hb); clear hb hr)
        | (go_at_call 16; refine (mulU _ _ _ _ _ _ _ ?_ ?_ ?_ ?_).mono ?_; (first | exact fitV _ | assumption | exact fitQ _ (by assumption) | exact fitR _ (by assumption) | exact fitS _ (by assumption) | exact fit_zero | exact fitP _); (first | exact fitV _ | assumption | exact fitQ _ (by assumption) | exact fitR _ (by assumption) | exact fitS _ (by assumption) | exact fit_zero | exact fitP _); exact HR.out.rd (by repeat (first | exact List.Mem.head _ | apply List.Mem.tail)); exact HR.out.rd (by repeat (first | exact List.Mem.head _ | apply List.Mem.tail)); rintro e w' ⟨hb, A', c', rfl, hr⟩; replace HR := Lib.hid (HR.out.push hb hr); replace HB := Lib.hid (below_on HB.out hb); clear hb hr)
        | (go_at_call 15; refine (sameU _ _ _ _ _ _ _ ?_ ?_ ?_).mono ?_; (first | exact fitV _ | assumption | exact fitQ _ (by assumption) | exact fitR _ (by assumption) | exact fitS _ (by assumption) | exact fit_zero | exact fitP _); exact HR.out.rd (by repeat (first | exact List.Mem.head _ | apply List.Mem.tail)); exact HR.out.rd (by repeat (first | exact List.Mem.head _ | apply List.Mem.tail)); rintro e w' ⟨hb, rfl⟩; replace HR := Lib.hid (HR.out.on hb); replace HB := Lib.hid (below_on HB.out hb); clear hb))
    go_ret
    exact ⟨rfl, HB.out⟩

set_option maxRecDepth 100000 in
set_option maxHeartbeats 8000000 in
theorem powers_b (w : World) (A1 A2 : Option Addr) (c1 c2 : Nat) (x y : Nat) (m n : Nat) (hm : m ≤ 1000) (hn : n ≤ 1000) (hx : Fit x) (hy : Fit y) (r1 : RdW w w.heap.size A1 (limbs x)) (r2 : RdW w w.heap.size A2 (limbs y)) (hT : Tab w) (E1 : Fit (x ^ m)) (E2 : Fit (x ^ n)) (E3 : ¬ Fit (x ^ (m + n))) :
    Calls Tryz.prog 3 #[.slice A1 (limbs x).length c1, .slice A2 (limbs y).length c2, .int .i64 m, .int .i64 n] w fun e w' => e = .returned (.bool true) ∧ Below w.heap.size w w' := by
  have HT := Lib.hid hT; clear hT
  have HB := Lib.hid (Below.refl w.heap.size w)
  have HR : Hid (Store w [(A1, limbs x), (A2, limbs y)]) := fun p hp => by
    simp at hp
    rcases hp with rfl | rfl
    · exact r1
    · exact r2
  clear r1 r2
  obtain ⟨t, ht⟩ : ∃ t, t = m + n := ⟨_, rfl⟩
  have t3 : t ≤ 2000 := by omega
  have W1 : IntKind.i64.wrap ((m : Int) + (n : Int)) = (t : Int) := by rw [ht, ← Int.natCast_add]; exact i64_wrap_small (by omega) (by omega)
  have W2 : ((m : Int) + (n : Int)) = (t : Int) := by rw [ht, Int.natCast_add]
  have D1 : decide ((m : Int) < 0) = false := decide_eq_false (by omega)
  have D2 : decide (1000 < (m : Int)) = false := decide_eq_false (by omega)
  have D3 : decide ((n : Int) < 0) = false := decide_eq_false (by omega)
  have D4 : decide (1000 < (n : Int)) = false := decide_eq_false (by omega)
  have k1 := kE_fit E1
  have k2 := kE_fit E2
  have kt : vE (x ^ m) * vE (x ^ n) = x ^ t := by rw [ht, vE_fit E1, vE_fit E2, Nat.pow_add]
  have s3 : decide (vE (x ^ t) = vE (vE (x ^ m) * vE (x ^ n))) = true := by rw [kt]; exact decide_eq_true rfl
  have k3 : kE (x ^ t) = 2 := by rw [ht]; exact kE_big E3
  have k8 : kE (vE (x ^ m) * vE (x ^ n)) = 2 := by rw [kt]; exact k3
  clear kt E3
  have F2 := Lib.hid E2
  clear ht E1 E2
  by_cases G1 : Fit (x * y)
  · have k4 := kE_fit G1
    by_cases G2 : Fit (y ^ n)
    · have k5 := kE_fit G2
      have ke : vE (x * y) ^ n = vE (x ^ n) * vE (y ^ n) := by rw [vE_fit G1, vE_fit G2, vE_fit F2.out, Nat.mul_pow]
      have k7 : kE (vE (x * y) ^ n) = kE (vE (x ^ n) * vE (y ^ n)) := by rw [ke]
      have s7 : decide (vE (vE (x * y) ^ n) = vE (vE (x ^ n) * vE (y ^ n))) = true := by rw [ke]; exact decide_eq_true rfl
      by_cases G3 : Fit (vE (x ^ n) * vE (y ^ n))
      · have k6 := kE_fit G3
        rw [k6] at k7
        clear G1 G2 G3 ke
        go_enter Tryz.func3, Tryz.ntmps3
        go_wp2_with (first
    | (go_at_call 14; (with_reducible refine (pow0 _ _ _ _ ?_ ?_).mono ?_); (first | exact fitV _ | assumption | exact fitQ _ (by assumption) | exact fitR _ (by assumption) | exact fitS _ (by assumption) | exact fit_zero | exact fitP _); exact HR.out.rd (by repeat (first | exact List.Mem.head _ | apply List.Mem.tail)); rintro e w' ⟨hb, A', c', rfl, hr⟩; replace HR := Lib.hid (HR.out.push hb hr); replace HB := Lib.hid (below_on HB.out hb); clear hb hr)
    | (go_at_call 15; (with_reducible refine (same1 _ _ _ ?_).mono ?_); exact HR.out.rd (by repeat (first | exact List.Mem.head _ | apply List.Mem.tail)); rintro e w' ⟨hb, rfl⟩; replace HR := Lib.hid (HR.out.on hb); replace HB := Lib.hid (below_on HB.out hb); clear hb)
            | (go_at_call 12; refine (head_any _ (HT.out.below HB.out)).mono ?_; rintro e w' ⟨rfl, hb⟩; replace HR := Lib.hid (HR.out.on hb); replace HB := Lib.hid (below_on HB.out hb); clear hb)
            | (go_at_call 13; refine (validN _ _ _ _ ?_ ?_).mono ?_; (first | exact fitV _ | assumption | exact fitQ _ (by assumption) | exact fitR _ (by assumption) | exact fitS _ (by assumption) | exact fit_zero | exact fitP _); exact HR.out.rd (by repeat (first | exact List.Mem.head _ | apply List.Mem.tail)); rintro e w' ⟨rfl, rfl⟩)
            | (go_at_call 14; refine (powU _ _ _ _ _ ?_ ?_ ?_).mono ?_; (first | exact fitV _ | assumption | exact fitQ _ (by assumption) | exact fitR _ (by assumption) | exact fitS _ (by assumption) | exact fit_zero | exact fitP _); exact HR.out.rd (by repeat (first | exact List.Mem.head _ | apply List.Mem.tail)); omega; rintro e w' ⟨hb, A', c', rfl, hr⟩; replace HR := Lib.hid (HR.out.push hb hr); replace HB := Lib.hid (below_on HB.out hb); clear hb hr)
            | (go_at_call 16; refine (mulU _ _ _ _ _ _ _ ?_ ?_ ?_ ?_).mono ?_; (first | exact fitV _ | assumption | exact fitQ _ (by assumption) | exact fitR _ (by assumption) | exact fitS _ (by assumption) | exact fit_zero | exact fitP _); (first | exact fitV _ | assumption | exact fitQ _ (by assumption) | exact fitR _ (by assumption) | exact fitS _ (by assumption) | exact fit_zero | exact fitP _); exact HR.out.rd (by repeat (first | exact List.Mem.head _ | apply List.Mem.tail)); exact HR.out.rd (by repeat (first | exact List.Mem.head _ | apply List.Mem.tail)); rintro e w' ⟨hb, A', c', rfl, hr⟩; replace HR := Lib.hid (HR.out.push hb hr); replace HB := Lib.hid (below_on HB.out hb); clear hb hr)
            | (go_at_call 15; refine (sameU _ _ _ _ _ _ _ ?_ ?_ ?_).mono ?_; (first | exact fitV _ | assumption | exact fitQ _ (by assumption) | exact fitR _ (by assumption) | exact fitS _ (by assumption) | exact fit_zero | exact fitP _); exact HR.out.rd (by repeat (first | exact List.Mem.head _ | apply List.Mem.tail)); exact HR.out.rd (by repeat (first | exact List.Mem.head _ | apply List.Mem.tail)); rintro e w' ⟨hb, rfl⟩; replace HR := Lib.hid (HR.out.on hb); replace HB := Lib.hid (below_on HB.out hb); clear hb))
        go_ret
        exact ⟨rfl, HB.out⟩
      · have k6 := kE_big G3
        rw [k6] at k7
        clear G1 G2 G3 ke
        go_enter Tryz.func3, Tryz.ntmps3
        go_wp2_with (first
    | (go_at_call 14; (with_reducible refine (pow0 _ _ _ _ ?_ ?_).mono ?_); (first | exact fitV _ | assumption | exact fitQ _ (by assumption) | exact fitR _ (by assumption) | exact fitS _ (by assumption) | exact fit_zero | exact fitP _); exact HR.out.rd (by repeat (first | exact List.Mem.head _ | apply List.Mem.tail)); rintro e w' ⟨hb, A', c', rfl, hr⟩; replace HR := Lib.hid (HR.out.push hb hr); replace HB := Lib.hid (below_on HB.out hb); clear hb hr)
    | (go_at_call 15; (with_reducible refine (same1 _ _ _ ?_).mono ?_); exact HR.out.rd (by repeat (first | exact List.Mem.head _ | apply List.Mem.tail)); rintro e w' ⟨hb, rfl⟩; replace HR := Lib.hid (HR.out.on hb); replace HB := Lib.hid (below_on HB.out hb); clear hb)
            | (go_at_call 12; refine (head_any _ (HT.out.below HB.out)).mono ?_; rintro e w' ⟨rfl, hb⟩; replace HR := Lib.hid (HR.out.on hb); replace HB := Lib.hid (below_on HB.out hb); clear hb)
            | (go_at_call 13; refine (validN _ _ _ _ ?_ ?_).mono ?_; (first | exact fitV _ | assumption | exact fitQ _ (by assumption) | exact fitR _ (by assumption) | exact fitS _ (by assumption) | exact fit_zero | exact fitP _); exact HR.out.rd (by repeat (first | exact List.Mem.head _ | apply List.Mem.tail)); rintro e w' ⟨rfl, rfl⟩)
            | (go_at_call 14; refine (powU _ _ _ _ _ ?_ ?_ ?_).mono ?_; (first | exact fitV _ | assumption | exact fitQ _ (by assumption) | exact fitR _ (by assumption) | exact fitS _ (by assumption) | exact fit_zero | exact fitP _); exact HR.out.rd (by repeat (first | exact List.Mem.head _ | apply List.Mem.tail)); omega; rintro e w' ⟨hb, A', c', rfl, hr⟩; replace HR := Lib.hid (HR.out.push hb hr); replace HB := Lib.hid (below_on HB.out hb); clear hb hr)
            | (go_at_call 16; refine (mulU _ _ _ _ _ _ _ ?_ ?_ ?_ ?_).mono ?_; (first | exact fitV _ | assumption | exact fitQ _ (by assumption) | exact fitR _ (by assumption) | exact fitS _ (by assumption) | exact fit_zero | exact fitP _); (first | exact fitV _ | assumption | exact fitQ _ (by assumption) | exact fitR _ (by assumption) | exact fitS _ (by assumption) | exact fit_zero | exact fitP _); exact HR.out.rd (by repeat (first | exact List.Mem.head _ | apply List.Mem.tail)); exact HR.out.rd (by repeat (first | exact List.Mem.head _ | apply List.Mem.tail)); rintro e w' ⟨hb, A', c', rfl, hr⟩; replace HR := Lib.hid (HR.out.push hb hr); replace HB := Lib.hid (below_on HB.out hb); clear hb hr)
            | (go_at_call 15; refine (sameU _ _ _ _ _ _ _ ?_ ?_ ?_).mono ?_; (first | exact fitV _ | assumption | exact fitQ _ (by assumption) | exact fitR _ (by assumption) | exact fitS _ (by assumption) | exact fit_zero | exact fitP _); exact HR.out.rd (by repeat (first | exact List.Mem.head _ | apply List.Mem.tail)); exact HR.out.rd (by repeat (first | exact List.Mem.head _ | apply List.Mem.tail)); rintro e w' ⟨hb, rfl⟩; replace HR := Lib.hid (HR.out.on hb); replace HB := Lib.hid (below_on HB.out hb); clear hb))
        go_ret
        exact ⟨rfl, HB.out⟩
    · have k5 := kE_big G2
      clear G1 G2
      go_enter Tryz.func3, Tryz.ntmps3
      go_wp2_with (first
    | (go_at_call 14; (with_reducible refine (pow0 _ _ _ _ ?_ ?_).mono ?_); (first | exact fitV _ | assumption | exact fitQ _ (by assumption) | exact fitR _ (by assumption) | exact fitS _ (by assumption) | exact fit_zero | exact fitP _); exact HR.out.rd (by repeat (first | exact List.Mem.head _ | apply List.Mem.tail)); rintro e w' ⟨hb, A', c', rfl, hr⟩; replace HR := Lib.hid (HR.out.push hb hr); replace HB := Lib.hid (below_on HB.out hb); clear hb hr)
    | (go_at_call 15; (with_reducible refine (same1 _ _ _ ?_).mono ?_); exact HR.out.rd (by repeat (first | exact List.Mem.head _ | apply List.Mem.tail)); rintro e w' ⟨hb, rfl⟩; replace HR := Lib.hid (HR.out.on hb); replace HB := Lib.hid (below_on HB.out hb); clear hb)
          | (go_at_call 12; refine (head_any _ (HT.out.below HB.out)).mono ?_; rintro e w' ⟨rfl, hb⟩; replace HR := Lib.hid (HR.out.on hb); replace HB := Lib.hid (below_on HB.out hb); clear hb)
          | (go_at_call 13; refine (validN _ _ _ _ ?_ ?_).mono ?_; (first | exact fitV _ | assumption | exact fitQ _ (by assumption) | exact fitR _ (by assumption) | exact fitS _ (by assumption) | exact fit_zero | exact fitP _); exact HR.out.rd (by repeat (first | exact List.Mem.head _ | apply List.Mem.tail)); rintro e w' ⟨rfl, rfl⟩)
          | (go_at_call 14; refine (powU _ _ _ _ _ ?_ ?_ ?_).mono ?_; (first | exact fitV _ | assumption | exact fitQ _ (by assumption) | exact fitR _ (by assumption) | exact fitS _ (by assumption) | exact fit_zero | exact fitP _); exact HR.out.rd (by repeat (first | exact List.Mem.head _ | apply List.Mem.tail)); omega; rintro e w' ⟨hb, A', c', rfl, hr⟩; replace HR := Lib.hid (HR.out.push hb hr); replace HB := Lib.hid (below_on HB.out hb); clear hb hr)
          | (go_at_call 16; refine (mulU _ _ _ _ _ _ _ ?_ ?_ ?_ ?_).mono ?_; (first | exact fitV _ | assumption | exact fitQ _ (by assumption) | exact fitR _ (by assumption) | exact fitS _ (by assumption) | exact fit_zero | exact fitP _); (first | exact fitV _ | assumption | exact fitQ _ (by assumption) | exact fitR _ (by assumption) | exact fitS _ (by assumption) | exact fit_zero | exact fitP _); exact HR.out.rd (by repeat (first | exact List.Mem.head _ | apply List.Mem.tail)); exact HR.out.rd (by repeat (first | exact List.Mem.head _ | apply List.Mem.tail)); rintro e w' ⟨hb, A', c', rfl, hr⟩; replace HR := Lib.hid (HR.out.push hb hr); replace HB := Lib.hid (below_on HB.out hb); clear hb hr)
          | (go_at_call 15; refine (sameU _ _ _ _ _ _ _ ?_ ?_ ?_).mono ?_; (first | exact fitV _ | assumption | exact fitQ _ (by assumption) | exact fitR _ (by assumption) | exact fitS _ (by assumption) | exact fit_zero | exact fitP _); exact HR.out.rd (by repeat (first | exact List.Mem.head _ | apply List.Mem.tail)); exact HR.out.rd (by repeat (first | exact List.Mem.head _ | apply List.Mem.tail)); rintro e w' ⟨hb, rfl⟩; replace HR := Lib.hid (HR.out.on hb); replace HB := Lib.hid (below_on HB.out hb); clear hb))
      go_ret
      exact ⟨rfl, HB.out⟩
  · have k4 := kE_big G1
    clear G1
    go_enter Tryz.func3, Tryz.ntmps3
    go_wp2_with (first
    | (go_at_call 14; (with_reducible refine (pow0 _ _ _ _ ?_ ?_).mono ?_); (first | exact fitV _ | assumption | exact fitQ _ (by assumption) | exact fitR _ (by assumption) | exact fitS _ (by assumption) | exact fit_zero | exact fitP _); exact HR.out.rd (by repeat (first | exact List.Mem.head _ | apply List.Mem.tail)); rintro e w' ⟨hb, A', c', rfl, hr⟩; replace HR := Lib.hid (HR.out.push hb hr); replace HB := Lib.hid (below_on HB.out hb); clear hb hr)
    | (go_at_call 15; (with_reducible refine (same1 _ _ _ ?_).mono ?_); exact HR.out.rd (by repeat (first | exact List.Mem.head _ | apply List.Mem.tail)); rintro e w' ⟨hb, rfl⟩; replace HR := Lib.hid (HR.out.on hb); replace HB := Lib.hid (below_on HB.out hb); clear hb)
        | (go_at_call 12; refine (head_any _ (HT.out.below HB.out)).mono ?_; rintro e w' ⟨rfl, hb⟩; replace HR := Lib.hid (HR.out.on hb); replace HB := Lib.hid (below_on HB.out hb); clear hb)
        | (go_at_call 13; refine (validN _ _ _ _ ?_ ?_).mono ?_; (first | exact fitV _ | assumption | exact fitQ _ (by assumption) | exact fitR _ (by assumption) | exact fitS _ (by assumption) | exact fit_zero | exact fitP _); exact HR.out.rd (by repeat (first | exact List.Mem.head _ | apply List.Mem.tail)); rintro e w' ⟨rfl, rfl⟩)
        | (go_at_call 14; refine (powU _ _ _ _ _ ?_ ?_ ?_).mono ?_; (first | exact fitV _ | assumption | exact fitQ _ (by assumption) | exact fitR _ (by assumption) | exact fitS _ (by assumption) | exact fit_zero | exact fitP _); exact HR.out.rd (by repeat (first | exact List.Mem.head _ | apply List.Mem.tail)); omega; rintro e w' ⟨hb, A', c', rfl, hr⟩; replace HR := Lib.hid (HR.out.push hb hr); replace HB := Lib.hid (below_on HB.out hb); clear hb hr)
        | (go_at_call 16; refine (mulU _ _ _ _ _ _ _ ?_ ?_ ?_ ?_).mono ?_; (first | exact fitV _ | assumption | exact fitQ _ (by assumption) | exact fitR _ (by assumption) | exact fitS _ (by assumption) | exact fit_zero | exact fitP _); (first | exact fitV _ | assumption | exact fitQ _ (by assumption) | exact fitR _ (by assumption) | exact fitS _ (by assumption) | exact fit_zero | exact fitP _); exact HR.out.rd (by repeat (first | exact List.Mem.head _ | apply List.Mem.tail)); exact HR.out.rd (by repeat (first | exact List.Mem.head _ | apply List.Mem.tail)); rintro e w' ⟨hb, A', c', rfl, hr⟩; replace HR := Lib.hid (HR.out.push hb hr); replace HB := Lib.hid (below_on HB.out hb); clear hb hr)
        | (go_at_call 15; refine (sameU _ _ _ _ _ _ _ ?_ ?_ ?_).mono ?_; (first | exact fitV _ | assumption | exact fitQ _ (by assumption) | exact fitR _ (by assumption) | exact fitS _ (by assumption) | exact fit_zero | exact fitP _); exact HR.out.rd (by repeat (first | exact List.Mem.head _ | apply List.Mem.tail)); exact HR.out.rd (by repeat (first | exact List.Mem.head _ | apply List.Mem.tail)); rintro e w' ⟨hb, rfl⟩; replace HR := Lib.hid (HR.out.on hb); replace HB := Lib.hid (below_on HB.out hb); clear hb))
    go_ret
    exact ⟨rfl, HB.out⟩

set_option maxRecDepth 100000 in
set_option maxHeartbeats 8000000 in
theorem powers_c (w : World) (A1 A2 : Option Addr) (c1 c2 : Nat) (x y : Nat) (m n : Nat) (hm : m ≤ 1000) (hn : n ≤ 1000) (hx : Fit x) (hy : Fit y) (r1 : RdW w w.heap.size A1 (limbs x)) (r2 : RdW w w.heap.size A2 (limbs y)) (hT : Tab w) (E1 : Fit (x ^ m)) (E2 : ¬ Fit (x ^ n)) :
    Calls Tryz.prog 3 #[.slice A1 (limbs x).length c1, .slice A2 (limbs y).length c2, .int .i64 m, .int .i64 n] w fun e w' => e = .returned (.bool true) ∧ Below w.heap.size w w' := by
  have HT := Lib.hid hT; clear hT
  have HB := Lib.hid (Below.refl w.heap.size w)
  have HR : Hid (Store w [(A1, limbs x), (A2, limbs y)]) := fun p hp => by
    simp at hp
    rcases hp with rfl | rfl
    · exact r1
    · exact r2
  clear r1 r2
  obtain ⟨t, ht⟩ : ∃ t, t = m + n := ⟨_, rfl⟩
  have t3 : t ≤ 2000 := by omega
  have W1 : IntKind.i64.wrap ((m : Int) + (n : Int)) = (t : Int) := by rw [ht, ← Int.natCast_add]; exact i64_wrap_small (by omega) (by omega)
  have W2 : ((m : Int) + (n : Int)) = (t : Int) := by rw [ht, Int.natCast_add]
  have D1 : decide ((m : Int) < 0) = false := decide_eq_false (by omega)
  have D2 : decide (1000 < (m : Int)) = false := decide_eq_false (by omega)
  have D3 : decide ((n : Int) < 0) = false := decide_eq_false (by omega)
  have D4 : decide (1000 < (n : Int)) = false := decide_eq_false (by omega)
  have k1 := kE_fit E1
  have k2 := kE_big E2
  have F2 := Lib.hid E2
  clear ht E1 E2
  by_cases G1 : Fit (x * y)
  · have k4 := kE_fit G1
    clear G1
    go_enter Tryz.func3, Tryz.ntmps3
    go_wp2_with (first
    | (go_at_call 14; (with_reducible refine (pow0 _ _ _ _ ?_ ?_).mono ?_); (first | exact fitV _ | assumption | exact fitQ _ (by assumption) | exact fitR _ (by assumption) | exact fitS _ (by assumption) | exact fit_zero | exact fitP _); exact HR.out.rd (by repeat (first | exact List.Mem.head _ | apply List.Mem.tail)); rintro e w' ⟨hb, A', c', rfl, hr⟩; replace HR := Lib.hid (HR.out.push hb hr); replace HB := Lib.hid (below_on HB.out hb); clear hb hr)
    | (go_at_call 15; (with_reducible refine (same1 _ _ _ ?_).mono ?_); exact HR.out.rd (by repeat (first | exact List.Mem.head _ | apply List.Mem.tail)); rintro e w' ⟨hb, rfl⟩; replace HR := Lib.hid (HR.out.on hb); replace HB := Lib.hid (below_on HB.out hb); clear hb)
        | (go_at_call 12; refine (head_any _ (HT.out.below HB.out)).mono ?_; rintro e w' ⟨rfl, hb⟩; replace HR := Lib.hid (HR.out.on hb); replace HB := Lib.hid (below_on HB.out hb); clear hb)
        | (go_at_call 13; refine (validN _ _ _ _ ?_ ?_).mono ?_; (first | exact fitV _ | assumption | exact fitQ _ (by assumption) | exact fitR _ (by assumption) | exact fitS _ (by assumption) | exact fit_zero | exact fitP _); exact HR.out.rd (by repeat (first | exact List.Mem.head _ | apply List.Mem.tail)); rintro e w' ⟨rfl, rfl⟩)
        | (go_at_call 14; refine (powU _ _ _ _ _ ?_ ?_ ?_).mono ?_; (first | exact fitV _ | assumption | exact fitQ _ (by assumption) | exact fitR _ (by assumption) | exact fitS _ (by assumption) | exact fit_zero | exact fitP _); exact HR.out.rd (by repeat (first | exact List.Mem.head _ | apply List.Mem.tail)); omega; rintro e w' ⟨hb, A', c', rfl, hr⟩; replace HR := Lib.hid (HR.out.push hb hr); replace HB := Lib.hid (below_on HB.out hb); clear hb hr)
        | (go_at_call 16; refine (mulU _ _ _ _ _ _ _ ?_ ?_ ?_ ?_).mono ?_; (first | exact fitV _ | assumption | exact fitQ _ (by assumption) | exact fitR _ (by assumption) | exact fitS _ (by assumption) | exact fit_zero | exact fitP _); (first | exact fitV _ | assumption | exact fitQ _ (by assumption) | exact fitR _ (by assumption) | exact fitS _ (by assumption) | exact fit_zero | exact fitP _); exact HR.out.rd (by repeat (first | exact List.Mem.head _ | apply List.Mem.tail)); exact HR.out.rd (by repeat (first | exact List.Mem.head _ | apply List.Mem.tail)); rintro e w' ⟨hb, A', c', rfl, hr⟩; replace HR := Lib.hid (HR.out.push hb hr); replace HB := Lib.hid (below_on HB.out hb); clear hb hr)
        | (go_at_call 15; refine (sameU _ _ _ _ _ _ _ ?_ ?_ ?_).mono ?_; (first | exact fitV _ | assumption | exact fitQ _ (by assumption) | exact fitR _ (by assumption) | exact fitS _ (by assumption) | exact fit_zero | exact fitP _); exact HR.out.rd (by repeat (first | exact List.Mem.head _ | apply List.Mem.tail)); exact HR.out.rd (by repeat (first | exact List.Mem.head _ | apply List.Mem.tail)); rintro e w' ⟨hb, rfl⟩; replace HR := Lib.hid (HR.out.on hb); replace HB := Lib.hid (below_on HB.out hb); clear hb))
    go_ret
    exact ⟨rfl, HB.out⟩
  · have k4 := kE_big G1
    clear G1
    go_enter Tryz.func3, Tryz.ntmps3
    go_wp2_with (first
    | (go_at_call 14; (with_reducible refine (pow0 _ _ _ _ ?_ ?_).mono ?_); (first | exact fitV _ | assumption | exact fitQ _ (by assumption) | exact fitR _ (by assumption) | exact fitS _ (by assumption) | exact fit_zero | exact fitP _); exact HR.out.rd (by repeat (first | exact List.Mem.head _ | apply List.Mem.tail)); rintro e w' ⟨hb, A', c', rfl, hr⟩; replace HR := Lib.hid (HR.out.push hb hr); replace HB := Lib.hid (below_on HB.out hb); clear hb hr)
    | (go_at_call 15; (with_reducible refine (same1 _ _ _ ?_).mono ?_); exact HR.out.rd (by repeat (first | exact List.Mem.head _ | apply List.Mem.tail)); rintro e w' ⟨hb, rfl⟩; replace HR := Lib.hid (HR.out.on hb); replace HB := Lib.hid (below_on HB.out hb); clear hb)
        | (go_at_call 12; refine (head_any _ (HT.out.below HB.out)).mono ?_; rintro e w' ⟨rfl, hb⟩; replace HR := Lib.hid (HR.out.on hb); replace HB := Lib.hid (below_on HB.out hb); clear hb)
        | (go_at_call 13; refine (validN _ _ _ _ ?_ ?_).mono ?_; (first | exact fitV _ | assumption | exact fitQ _ (by assumption) | exact fitR _ (by assumption) | exact fitS _ (by assumption) | exact fit_zero | exact fitP _); exact HR.out.rd (by repeat (first | exact List.Mem.head _ | apply List.Mem.tail)); rintro e w' ⟨rfl, rfl⟩)
        | (go_at_call 14; refine (powU _ _ _ _ _ ?_ ?_ ?_).mono ?_; (first | exact fitV _ | assumption | exact fitQ _ (by assumption) | exact fitR _ (by assumption) | exact fitS _ (by assumption) | exact fit_zero | exact fitP _); exact HR.out.rd (by repeat (first | exact List.Mem.head _ | apply List.Mem.tail)); omega; rintro e w' ⟨hb, A', c', rfl, hr⟩; replace HR := Lib.hid (HR.out.push hb hr); replace HB := Lib.hid (below_on HB.out hb); clear hb hr)
        | (go_at_call 16; refine (mulU _ _ _ _ _ _ _ ?_ ?_ ?_ ?_).mono ?_; (first | exact fitV _ | assumption | exact fitQ _ (by assumption) | exact fitR _ (by assumption) | exact fitS _ (by assumption) | exact fit_zero | exact fitP _); (first | exact fitV _ | assumption | exact fitQ _ (by assumption) | exact fitR _ (by assumption) | exact fitS _ (by assumption) | exact fit_zero | exact fitP _); exact HR.out.rd (by repeat (first | exact List.Mem.head _ | apply List.Mem.tail)); exact HR.out.rd (by repeat (first | exact List.Mem.head _ | apply List.Mem.tail)); rintro e w' ⟨hb, A', c', rfl, hr⟩; replace HR := Lib.hid (HR.out.push hb hr); replace HB := Lib.hid (below_on HB.out hb); clear hb hr)
        | (go_at_call 15; refine (sameU _ _ _ _ _ _ _ ?_ ?_ ?_).mono ?_; (first | exact fitV _ | assumption | exact fitQ _ (by assumption) | exact fitR _ (by assumption) | exact fitS _ (by assumption) | exact fit_zero | exact fitP _); exact HR.out.rd (by repeat (first | exact List.Mem.head _ | apply List.Mem.tail)); exact HR.out.rd (by repeat (first | exact List.Mem.head _ | apply List.Mem.tail)); rintro e w' ⟨hb, rfl⟩; replace HR := Lib.hid (HR.out.on hb); replace HB := Lib.hid (below_on HB.out hb); clear hb))
    go_ret
    exact ⟨rfl, HB.out⟩

set_option maxRecDepth 100000 in
set_option maxHeartbeats 8000000 in
theorem powers_d (w : World) (A1 A2 : Option Addr) (c1 c2 : Nat) (x y : Nat) (m n : Nat) (hm : m ≤ 1000) (hn : n ≤ 1000) (hx : Fit x) (hy : Fit y) (r1 : RdW w w.heap.size A1 (limbs x)) (r2 : RdW w w.heap.size A2 (limbs y)) (hT : Tab w) (E1 : ¬ Fit (x ^ m)) (E2 : Fit (x ^ n)) :
    Calls Tryz.prog 3 #[.slice A1 (limbs x).length c1, .slice A2 (limbs y).length c2, .int .i64 m, .int .i64 n] w fun e w' => e = .returned (.bool true) ∧ Below w.heap.size w w' := by
  have HT := Lib.hid hT; clear hT
  have HB := Lib.hid (Below.refl w.heap.size w)
  have HR : Hid (Store w [(A1, limbs x), (A2, limbs y)]) := fun p hp => by
    simp at hp
    rcases hp with rfl | rfl
    · exact r1
    · exact r2
  clear r1 r2
  obtain ⟨t, ht⟩ : ∃ t, t = m + n := ⟨_, rfl⟩
  have t3 : t ≤ 2000 := by omega
  have W1 : IntKind.i64.wrap ((m : Int) + (n : Int)) = (t : Int) := by rw [ht, ← Int.natCast_add]; exact i64_wrap_small (by omega) (by omega)
  have W2 : ((m : Int) + (n : Int)) = (t : Int) := by rw [ht, Int.natCast_add]
  have D1 : decide ((m : Int) < 0) = false := decide_eq_false (by omega)
  have D2 : decide (1000 < (m : Int)) = false := decide_eq_false (by omega)
  have D3 : decide ((n : Int) < 0) = false := decide_eq_false (by omega)
  have D4 : decide (1000 < (n : Int)) = false := decide_eq_false (by omega)
  have k1 := kE_big E1
  have k2 := kE_fit E2
  have F2 := Lib.hid E2
  clear ht E1 E2
  by_cases G1 : Fit (x * y)
  · have k4 := kE_fit G1
    by_cases G2 : Fit (y ^ n)
    · have k5 := kE_fit G2
      have ke : vE (x * y) ^ n = vE (x ^ n) * vE (y ^ n) := by rw [vE_fit G1, vE_fit G2, vE_fit F2.out, Nat.mul_pow]
      have k7 : kE (vE (x * y) ^ n) = kE (vE (x ^ n) * vE (y ^ n)) := by rw [ke]
      have s7 : decide (vE (vE (x * y) ^ n) = vE (vE (x ^ n) * vE (y ^ n))) = true := by rw [ke]; exact decide_eq_true rfl
      by_cases G3 : Fit (vE (x ^ n) * vE (y ^ n))
      · have k6 := kE_fit G3
        rw [k6] at k7
        clear G1 G2 G3 ke
        go_enter Tryz.func3, Tryz.ntmps3
        go_wp2_with (first
    | (go_at_call 14; (with_reducible refine (pow0 _ _ _ _ ?_ ?_).mono ?_); (first | exact fitV _ | assumption | exact fitQ _ (by assumption) | exact fitR _ (by assumption) | exact fitS _ (by assumption) | exact fit_zero | exact fitP _); exact HR.out.rd (by repeat (first | exact List.Mem.head _ | apply List.Mem.tail)); rintro e w' ⟨hb, A', c', rfl, hr⟩; replace HR := Lib.hid (HR.out.push hb hr); replace HB := Lib.hid (below_on HB.out hb); clear hb hr)
    | (go_at_call 15; (with_reducible refine (same1 _ _ _ ?_).mono ?_); exact HR.out.rd (by repeat (first | exact List.Mem.head _ | apply List.Mem.tail)); rintro e w' ⟨hb, rfl⟩; replace HR := Lib.hid (HR.out.on hb); replace HB := Lib.hid (below_on HB.out hb); clear hb)
            | (go_at_call 12; refine (head_any _ (HT.out.below HB.out)).mono ?_; rintro e w' ⟨rfl, hb⟩; replace HR := Lib.hid (HR.out.on hb); replace HB := Lib.hid (below_on HB.out hb); clear hb)
            | (go_at_call 13; refine (validN _ _ _ _ ?_ ?_).mono ?_; (first | exact fitV _ | assumption | exact fitQ _ (by assumption) | exact fitR _ (by assumption) | exact fitS _ (by assumption) | exact fit_zero | exact fitP _); exact HR.out.rd (by repeat (first | exact List.Mem.head _ | apply List.Mem.tail)); rintro e w' ⟨rfl, rfl⟩)
            | (go_at_call 14; refine (powU _ _ _ _ _ ?_ ?_ ?_).mono ?_; (first | exact fitV _ | assumption | exact fitQ _ (by assumption) | exact fitR _ (by assumption) | exact fitS _ (by assumption) | exact fit_zero | exact fitP _); exact HR.out.rd (by repeat (first | exact List.Mem.head _ | apply List.Mem.tail)); omega; rintro e w' ⟨hb, A', c', rfl, hr⟩; replace HR := Lib.hid (HR.out.push hb hr); replace HB := Lib.hid (below_on HB.out hb); clear hb hr)
            | (go_at_call 16; refine (mulU _ _ _ _ _ _ _ ?_ ?_ ?_ ?_).mono ?_; (first | exact fitV _ | assumption | exact fitQ _ (by assumption) | exact fitR _ (by assumption) | exact fitS _ (by assumption) | exact fit_zero | exact fitP _); (first | exact fitV _ | assumption | exact fitQ _ (by assumption) | exact fitR _ (by assumption) | exact fitS _ (by assumption) | exact fit_zero | exact fitP _); exact HR.out.rd (by repeat (first | exact List.Mem.head _ | apply List.Mem.tail)); exact HR.out.rd (by repeat (first | exact List.Mem.head _ | apply List.Mem.tail)); rintro e w' ⟨hb, A', c', rfl, hr⟩; replace HR := Lib.hid (HR.out.push hb hr); replace HB := Lib.hid (below_on HB.out hb); clear hb hr)
            | (go_at_call 15; refine (sameU _ _ _ _ _ _ _ ?_ ?_ ?_).mono ?_; (first | exact fitV _ | assumption | exact fitQ _ (by assumption) | exact fitR _ (by assumption) | exact fitS _ (by assumption) | exact fit_zero | exact fitP _); exact HR.out.rd (by repeat (first | exact List.Mem.head _ | apply List.Mem.tail)); exact HR.out.rd (by repeat (first | exact List.Mem.head _ | apply List.Mem.tail)); rintro e w' ⟨hb, rfl⟩; replace HR := Lib.hid (HR.out.on hb); replace HB := Lib.hid (below_on HB.out hb); clear hb))
        go_ret
        exact ⟨rfl, HB.out⟩
      · have k6 := kE_big G3
        rw [k6] at k7
        clear G1 G2 G3 ke
        go_enter Tryz.func3, Tryz.ntmps3
        go_wp2_with (first
    | (go_at_call 14; (with_reducible refine (pow0 _ _ _ _ ?_ ?_).mono ?_); (first | exact fitV _ | assumption | exact fitQ _ (by assumption) | exact fitR _ (by assumption) | exact fitS _ (by assumption) | exact fit_zero | exact fitP _); exact HR.out.rd (by repeat (first | exact List.Mem.head _ | apply List.Mem.tail)); rintro e w' ⟨hb, A', c', rfl, hr⟩; replace HR := Lib.hid (HR.out.push hb hr); replace HB := Lib.hid (below_on HB.out hb); clear hb hr)
    | (go_at_call 15; (with_reducible refine (same1 _ _ _ ?_).mono ?_); exact HR.out.rd (by repeat (first | exact List.Mem.head _ | apply List.Mem.tail)); rintro e w' ⟨hb, rfl⟩; replace HR := Lib.hid (HR.out.on hb); replace HB := Lib.hid (below_on HB.out hb); clear hb)
            | (go_at_call 12; refine (head_any _ (HT.out.below HB.out)).mono ?_; rintro e w' ⟨rfl, hb⟩; replace HR := Lib.hid (HR.out.on hb); replace HB := Lib.hid (below_on HB.out hb); clear hb)
            | (go_at_call 13; refine (validN _ _ _ _ ?_ ?_).mono ?_; (first | exact fitV _ | assumption | exact fitQ _ (by assumption) | exact fitR _ (by assumption) | exact fitS _ (by assumption) | exact fit_zero | exact fitP _); exact HR.out.rd (by repeat (first | exact List.Mem.head _ | apply List.Mem.tail)); rintro e w' ⟨rfl, rfl⟩)
            | (go_at_call 14; refine (powU _ _ _ _ _ ?_ ?_ ?_).mono ?_; (first | exact fitV _ | assumption | exact fitQ _ (by assumption) | exact fitR _ (by assumption) | exact fitS _ (by assumption) | exact fit_zero | exact fitP _); exact HR.out.rd (by repeat (first | exact List.Mem.head _ | apply List.Mem.tail)); omega; rintro e w' ⟨hb, A', c', rfl, hr⟩; replace HR := Lib.hid (HR.out.push hb hr); replace HB := Lib.hid (below_on HB.out hb); clear hb hr)
            | (go_at_call 16; refine (mulU _ _ _ _ _ _ _ ?_ ?_ ?_ ?_).mono ?_; (first | exact fitV _ | assumption | exact fitQ _ (by assumption) | exact fitR _ (by assumption) | exact fitS _ (by assumption) | exact fit_zero | exact fitP _); (first | exact fitV _ | assumption | exact fitQ _ (by assumption) | exact fitR _ (by assumption) | exact fitS _ (by assumption) | exact fit_zero | exact fitP _); exact HR.out.rd (by repeat (first | exact List.Mem.head _ | apply List.Mem.tail)); exact HR.out.rd (by repeat (first | exact List.Mem.head _ | apply List.Mem.tail)); rintro e w' ⟨hb, A', c', rfl, hr⟩; replace HR := Lib.hid (HR.out.push hb hr); replace HB := Lib.hid (below_on HB.out hb); clear hb hr)
            | (go_at_call 15; refine (sameU _ _ _ _ _ _ _ ?_ ?_ ?_).mono ?_; (first | exact fitV _ | assumption | exact fitQ _ (by assumption) | exact fitR _ (by assumption) | exact fitS _ (by assumption) | exact fit_zero | exact fitP _); exact HR.out.rd (by repeat (first | exact List.Mem.head _ | apply List.Mem.tail)); exact HR.out.rd (by repeat (first | exact List.Mem.head _ | apply List.Mem.tail)); rintro e w' ⟨hb, rfl⟩; replace HR := Lib.hid (HR.out.on hb); replace HB := Lib.hid (below_on HB.out hb); clear hb))
        go_ret
        exact ⟨rfl, HB.out⟩
    · have k5 := kE_big G2
      clear G1 G2
      go_enter Tryz.func3, Tryz.ntmps3
      go_wp2_with (first
    | (go_at_call 14; (with_reducible refine (pow0 _ _ _ _ ?_ ?_).mono ?_); (first | exact fitV _ | assumption | exact fitQ _ (by assumption) | exact fitR _ (by assumption) | exact fitS _ (by assumption) | exact fit_zero | exact fitP _); exact HR.out.rd (by repeat (first | exact List.Mem.head _ | apply List.Mem.tail)); rintro e w' ⟨hb, A', c', rfl, hr⟩; replace HR := Lib.hid (HR.out.push hb hr); replace HB := Lib.hid (below_on HB.out hb); clear hb hr)
    | (go_at_call 15; (with_reducible refine (same1 _ _ _ ?_).mono ?_); exact HR.out.rd (by repeat (first | exact List.Mem.head _ | apply List.Mem.tail)); rintro e w' ⟨hb, rfl⟩; replace HR := Lib.hid (HR.out.on hb); replace HB := Lib.hid (below_on HB.out hb); clear hb)
          | (go_at_call 12; refine (head_any _ (HT.out.below HB.out)).mono ?_; rintro e w' ⟨rfl, hb⟩; replace HR := Lib.hid (HR.out.on hb); replace HB := Lib.hid (below_on HB.out hb); clear hb)
          | (go_at_call 13; refine (validN _ _ _ _ ?_ ?_).mono ?_; (first | exact fitV _ | assumption | exact fitQ _ (by assumption) | exact fitR _ (by assumption) | exact fitS _ (by assumption) | exact fit_zero | exact fitP _); exact HR.out.rd (by repeat (first | exact List.Mem.head _ | apply List.Mem.tail)); rintro e w' ⟨rfl, rfl⟩)
          | (go_at_call 14; refine (powU _ _ _ _ _ ?_ ?_ ?_).mono ?_; (first | exact fitV _ | assumption | exact fitQ _ (by assumption) | exact fitR _ (by assumption) | exact fitS _ (by assumption) | exact fit_zero | exact fitP _); exact HR.out.rd (by repeat (first | exact List.Mem.head _ | apply List.Mem.tail)); omega; rintro e w' ⟨hb, A', c', rfl, hr⟩; replace HR := Lib.hid (HR.out.push hb hr); replace HB := Lib.hid (below_on HB.out hb); clear hb hr)
          | (go_at_call 16; refine (mulU _ _ _ _ _ _ _ ?_ ?_ ?_ ?_).mono ?_; (first | exact fitV _ | assumption | exact fitQ _ (by assumption) | exact fitR _ (by assumption) | exact fitS _ (by assumption) | exact fit_zero | exact fitP _); (first | exact fitV _ | assumption | exact fitQ _ (by assumption) | exact fitR _ (by assumption) | exact fitS _ (by assumption) | exact fit_zero | exact fitP _); exact HR.out.rd (by repeat (first | exact List.Mem.head _ | apply List.Mem.tail)); exact HR.out.rd (by repeat (first | exact List.Mem.head _ | apply List.Mem.tail)); rintro e w' ⟨hb, A', c', rfl, hr⟩; replace HR := Lib.hid (HR.out.push hb hr); replace HB := Lib.hid (below_on HB.out hb); clear hb hr)
          | (go_at_call 15; refine (sameU _ _ _ _ _ _ _ ?_ ?_ ?_).mono ?_; (first | exact fitV _ | assumption | exact fitQ _ (by assumption) | exact fitR _ (by assumption) | exact fitS _ (by assumption) | exact fit_zero | exact fitP _); exact HR.out.rd (by repeat (first | exact List.Mem.head _ | apply List.Mem.tail)); exact HR.out.rd (by repeat (first | exact List.Mem.head _ | apply List.Mem.tail)); rintro e w' ⟨hb, rfl⟩; replace HR := Lib.hid (HR.out.on hb); replace HB := Lib.hid (below_on HB.out hb); clear hb))
      go_ret
      exact ⟨rfl, HB.out⟩
  · have k4 := kE_big G1
    clear G1
    go_enter Tryz.func3, Tryz.ntmps3
    go_wp2_with (first
    | (go_at_call 14; (with_reducible refine (pow0 _ _ _ _ ?_ ?_).mono ?_); (first | exact fitV _ | assumption | exact fitQ _ (by assumption) | exact fitR _ (by assumption) | exact fitS _ (by assumption) | exact fit_zero | exact fitP _); exact HR.out.rd (by repeat (first | exact List.Mem.head _ | apply List.Mem.tail)); rintro e w' ⟨hb, A', c', rfl, hr⟩; replace HR := Lib.hid (HR.out.push hb hr); replace HB := Lib.hid (below_on HB.out hb); clear hb hr)
    | (go_at_call 15; (with_reducible refine (same1 _ _ _ ?_).mono ?_); exact HR.out.rd (by repeat (first | exact List.Mem.head _ | apply List.Mem.tail)); rintro e w' ⟨hb, rfl⟩; replace HR := Lib.hid (HR.out.on hb); replace HB := Lib.hid (below_on HB.out hb); clear hb)
        | (go_at_call 12; refine (head_any _ (HT.out.below HB.out)).mono ?_; rintro e w' ⟨rfl, hb⟩; replace HR := Lib.hid (HR.out.on hb); replace HB := Lib.hid (below_on HB.out hb); clear hb)
        | (go_at_call 13; refine (validN _ _ _ _ ?_ ?_).mono ?_; (first | exact fitV _ | assumption | exact fitQ _ (by assumption) | exact fitR _ (by assumption) | exact fitS _ (by assumption) | exact fit_zero | exact fitP _); exact HR.out.rd (by repeat (first | exact List.Mem.head _ | apply List.Mem.tail)); rintro e w' ⟨rfl, rfl⟩)
        | (go_at_call 14; refine (powU _ _ _ _ _ ?_ ?_ ?_).mono ?_; (first | exact fitV _ | assumption | exact fitQ _ (by assumption) | exact fitR _ (by assumption) | exact fitS _ (by assumption) | exact fit_zero | exact fitP _); exact HR.out.rd (by repeat (first | exact List.Mem.head _ | apply List.Mem.tail)); omega; rintro e w' ⟨hb, A', c', rfl, hr⟩; replace HR := Lib.hid (HR.out.push hb hr); replace HB := Lib.hid (below_on HB.out hb); clear hb hr)
        | (go_at_call 16; refine (mulU _ _ _ _ _ _ _ ?_ ?_ ?_ ?_).mono ?_; (first | exact fitV _ | assumption | exact fitQ _ (by assumption) | exact fitR _ (by assumption) | exact fitS _ (by assumption) | exact fit_zero | exact fitP _); (first | exact fitV _ | assumption | exact fitQ _ (by assumption) | exact fitR _ (by assumption) | exact fitS _ (by assumption) | exact fit_zero | exact fitP _); exact HR.out.rd (by repeat (first | exact List.Mem.head _ | apply List.Mem.tail)); exact HR.out.rd (by repeat (first | exact List.Mem.head _ | apply List.Mem.tail)); rintro e w' ⟨hb, A', c', rfl, hr⟩; replace HR := Lib.hid (HR.out.push hb hr); replace HB := Lib.hid (below_on HB.out hb); clear hb hr)
        | (go_at_call 15; refine (sameU _ _ _ _ _ _ _ ?_ ?_ ?_).mono ?_; (first | exact fitV _ | assumption | exact fitQ _ (by assumption) | exact fitR _ (by assumption) | exact fitS _ (by assumption) | exact fit_zero | exact fitP _); exact HR.out.rd (by repeat (first | exact List.Mem.head _ | apply List.Mem.tail)); exact HR.out.rd (by repeat (first | exact List.Mem.head _ | apply List.Mem.tail)); rintro e w' ⟨hb, rfl⟩; replace HR := Lib.hid (HR.out.on hb); replace HB := Lib.hid (below_on HB.out hb); clear hb))
    go_ret
    exact ⟨rfl, HB.out⟩

set_option maxRecDepth 100000 in
set_option maxHeartbeats 8000000 in
theorem powers_e (w : World) (A1 A2 : Option Addr) (c1 c2 : Nat) (x y : Nat) (m n : Nat) (hm : m ≤ 1000) (hn : n ≤ 1000) (hx : Fit x) (hy : Fit y) (r1 : RdW w w.heap.size A1 (limbs x)) (r2 : RdW w w.heap.size A2 (limbs y)) (hT : Tab w) (E1 : ¬ Fit (x ^ m)) (E2 : ¬ Fit (x ^ n)) :
    Calls Tryz.prog 3 #[.slice A1 (limbs x).length c1, .slice A2 (limbs y).length c2, .int .i64 m, .int .i64 n] w fun e w' => e = .returned (.bool true) ∧ Below w.heap.size w w' := by
  have HT := Lib.hid hT; clear hT
  have HB := Lib.hid (Below.refl w.heap.size w)
  have HR : Hid (Store w [(A1, limbs x), (A2, limbs y)]) := fun p hp => by
    simp at hp
    rcases hp with rfl | rfl
    · exact r1
    · exact r2
  clear r1 r2
  obtain ⟨t, ht⟩ : ∃ t, t = m + n := ⟨_, rfl⟩
  have t3 : t ≤ 2000 := by omega
  have W1 : IntKind.i64.wrap ((m : Int) + (n : Int)) = (t : Int) := by rw [ht, ← Int.natCast_add]; exact i64_wrap_small (by omega) (by omega)
  have W2 : ((m : Int) + (n : Int)) = (t : Int) := by rw [ht, Int.natCast_add]
  have D1 : decide ((m : Int) < 0) = false := decide_eq_false (by omega)
  have D2 : decide (1000 < (m : Int)) = false := decide_eq_false (by omega)
  have D3 : decide ((n : Int) < 0) = false := decide_eq_false (by omega)
  have D4 : decide (1000 < (n : Int)) = false := decide_eq_false (by omega)
  have k1 := kE_big E1
  have k2 := kE_big E2
  have F2 := Lib.hid E2
  clear ht E1 E2
  by_cases G1 : Fit (x * y)
  · have k4 := kE_fit G1
    clear G1
    go_enter Tryz.func3, Tryz.ntmps3
    go_wp2_with (first
    | (go_at_call 14; (with_reducible refine (pow0 _ _ _ _ ?_ ?_).mono ?_); (first | exact fitV _ | assumption | exact fitQ _ (by assumption) | exact fitR _ (by assumption) | exact fitS _ (by assumption) | exact fit_zero | exact fitP _); exact HR.out.rd (by repeat (first | exact List.Mem.head _ | apply List.Mem.tail)); rintro e w' ⟨hb, A', c', rfl, hr⟩; replace HR := Lib.hid (HR.out.push hb hr); replace HB := Lib.hid (below_on HB.out hb); clear hb hr)
    | (go_at_call 15; (with_reducible refine (same1 _ _ _ ?_).mono ?_); exact HR.out.rd (by repeat (first | exact List.Mem.head _ | apply List.Mem.tail)); rintro e w' ⟨hb, rfl⟩; replace HR := Lib.hid (HR.out.on hb); replace HB := Lib.hid (below_on HB.out hb); clear hb)
        | (go_at_call 12; refine (head_any _ (HT.out.below HB.out)).mono ?_; rintro e w' ⟨rfl, hb⟩; replace HR := Lib.hid (HR.out.on hb); replace HB := Lib.hid (below_on HB.out hb); clear hb)
        | (go_at_call 13; refine (validN _ _ _ _ ?_ ?_).mono ?_; (first | exact fitV _ | assumption | exact fitQ _ (by assumption) | exact fitR _ (by assumption) | exact fitS _ (by assumption) | exact fit_zero | exact fitP _); exact HR.out.rd (by repeat (first | exact List.Mem.head _ | apply List.Mem.tail)); rintro e w' ⟨rfl, rfl⟩)
        | (go_at_call 14; refine (powU _ _ _ _ _ ?_ ?_ ?_).mono ?_; (first | exact fitV _ | assumption | exact fitQ _ (by assumption) | exact fitR _ (by assumption) | exact fitS _ (by assumption) | exact fit_zero | exact fitP _); exact HR.out.rd (by repeat (first | exact List.Mem.head _ | apply List.Mem.tail)); omega; rintro e w' ⟨hb, A', c', rfl, hr⟩; replace HR := Lib.hid (HR.out.push hb hr); replace HB := Lib.hid (below_on HB.out hb); clear hb hr)
        | (go_at_call 16; refine (mulU _ _ _ _ _ _ _ ?_ ?_ ?_ ?_).mono ?_; (first | exact fitV _ | assumption | exact fitQ _ (by assumption) | exact fitR _ (by assumption) | exact fitS _ (by assumption) | exact fit_zero | exact fitP _); (first | exact fitV _ | assumption | exact fitQ _ (by assumption) | exact fitR _ (by assumption) | exact fitS _ (by assumption) | exact fit_zero | exact fitP _); exact HR.out.rd (by repeat (first | exact List.Mem.head _ | apply List.Mem.tail)); exact HR.out.rd (by repeat (first | exact List.Mem.head _ | apply List.Mem.tail)); rintro e w' ⟨hb, A', c', rfl, hr⟩; replace HR := Lib.hid (HR.out.push hb hr); replace HB := Lib.hid (below_on HB.out hb); clear hb hr)
        | (go_at_call 15; refine (sameU _ _ _ _ _ _ _ ?_ ?_ ?_).mono ?_; (first | exact fitV _ | assumption | exact fitQ _ (by assumption) | exact fitR _ (by assumption) | exact fitS _ (by assumption) | exact fit_zero | exact fitP _); exact HR.out.rd (by repeat (first | exact List.Mem.head _ | apply List.Mem.tail)); exact HR.out.rd (by repeat (first | exact List.Mem.head _ | apply List.Mem.tail)); rintro e w' ⟨hb, rfl⟩; replace HR := Lib.hid (HR.out.on hb); replace HB := Lib.hid (below_on HB.out hb); clear hb))
    go_ret
    exact ⟨rfl, HB.out⟩
  · have k4 := kE_big G1
    clear G1
    go_enter Tryz.func3, Tryz.ntmps3
    go_wp2_with (first
    | (go_at_call 14; (with_reducible refine (pow0 _ _ _ _ ?_ ?_).mono ?_); (first | exact fitV _ | assumption | exact fitQ _ (by assumption) | exact fitR _ (by assumption) | exact fitS _ (by assumption) | exact fit_zero | exact fitP _); exact HR.out.rd (by repeat (first | exact List.Mem.head _ | apply List.Mem.tail)); rintro e w' ⟨hb, A', c', rfl, hr⟩; replace HR := Lib.hid (HR.out.push hb hr); replace HB := Lib.hid (below_on HB.out hb); clear hb hr)
    | (go_at_call 15; (with_reducible refine (same1 _ _ _ ?_).mono ?_); exact HR.out.rd (by repeat (first | exact List.Mem.head _ | apply List.Mem.tail)); rintro e w' ⟨hb, rfl⟩; replace HR := Lib.hid (HR.out.on hb); replace HB := Lib.hid (below_on HB.out hb); clear hb)
        | (go_at_call 12; refine (head_any _ (HT.out.below HB.out)).mono ?_; rintro e w' ⟨rfl, hb⟩; replace HR := Lib.hid (HR.out.on hb); replace HB := Lib.hid (below_on HB.out hb); clear hb)
        | (go_at_call 13; refine (validN _ _ _ _ ?_ ?_).mono ?_; (first | exact fitV _ | assumption | exact fitQ _ (by assumption) | exact fitR _ (by assumption) | exact fitS _ (by assumption) | exact fit_zero | exact fitP _); exact HR.out.rd (by repeat (first | exact List.Mem.head _ | apply List.Mem.tail)); rintro e w' ⟨rfl, rfl⟩)
        | (go_at_call 14; refine (powU _ _ _ _ _ ?_ ?_ ?_).mono ?_; (first | exact fitV _ | assumption | exact fitQ _ (by assumption) | exact fitR _ (by assumption) | exact fitS _ (by assumption) | exact fit_zero | exact fitP _); exact HR.out.rd (by repeat (first | exact List.Mem.head _ | apply List.Mem.tail)); omega; rintro e w' ⟨hb, A', c', rfl, hr⟩; replace HR := Lib.hid (HR.out.push hb hr); replace HB := Lib.hid (below_on HB.out hb); clear hb hr)
        | (go_at_call 16; refine (mulU _ _ _ _ _ _ _ ?_ ?_ ?_ ?_).mono ?_; (first | exact fitV _ | assumption | exact fitQ _ (by assumption) | exact fitR _ (by assumption) | exact fitS _ (by assumption) | exact fit_zero | exact fitP _); (first | exact fitV _ | assumption | exact fitQ _ (by assumption) | exact fitR _ (by assumption) | exact fitS _ (by assumption) | exact fit_zero | exact fitP _); exact HR.out.rd (by repeat (first | exact List.Mem.head _ | apply List.Mem.tail)); exact HR.out.rd (by repeat (first | exact List.Mem.head _ | apply List.Mem.tail)); rintro e w' ⟨hb, A', c', rfl, hr⟩; replace HR := Lib.hid (HR.out.push hb hr); replace HB := Lib.hid (below_on HB.out hb); clear hb hr)
        | (go_at_call 15; refine (sameU _ _ _ _ _ _ _ ?_ ?_ ?_).mono ?_; (first | exact fitV _ | assumption | exact fitQ _ (by assumption) | exact fitR _ (by assumption) | exact fitS _ (by assumption) | exact fit_zero | exact fitP _); exact HR.out.rd (by repeat (first | exact List.Mem.head _ | apply List.Mem.tail)); exact HR.out.rd (by repeat (first | exact List.Mem.head _ | apply List.Mem.tail)); rintro e w' ⟨hb, rfl⟩; replace HR := Lib.hid (HR.out.on hb); replace HB := Lib.hid (below_on HB.out hb); clear hb))
    go_ret
    exact ⟨rfl, HB.out⟩

theorem powers_any (w : World) (A1 A2 : Option Addr) (c1 c2 : Nat) (a b : List Nat) (m n : Int) (r1 : RdW w w.heap.size A1 a) (r2 : RdW w w.heap.size A2 b) (la : Lim a) (lb : Lim b) (na : a.length ≤ 9223372036854775807) (nb : b.length ≤ 9223372036854775807) (_ : -9223372036854775808 ≤ m) (_ : m ≤ 9223372036854775807) (_ : -9223372036854775808 ≤ n) (_ : n ≤ 9223372036854775807) (hT : Tab w) :
    Calls Tryz.prog 3 #[.slice A1 a.length c1, .slice A2 b.length c2, .int .i64 m, .int .i64 n] w fun e w' => e = .returned (.bool true) ∧ Below w.heap.size w w' := by
  rcases ha : isNat a with _ | _
  · exact powers_bad w A1 A2 c1 c2 a b m n r1 r2 na nb hT false (isNat b) ha rfl rfl
  · rcases hb : isNat b with _ | _
    · exact powers_bad w A1 A2 c1 c2 a b m n r1 r2 na nb hT true false ha hb rfl
    · have e1 := isNat_eq la ha
      have e2 := isNat_eq lb hb
      have f1 : Fit (val a) := by unfold Fit; rw [← e1]; exact (isNat_norm ha).1
      have f2 : Fit (val b) := by unfold Fit; rw [← e2]; exact (isNat_norm hb).1
      rw [e1] at r1
      rw [e2] at r2
      rw [e1, e2]
      generalize val a = x at *
      generalize val b = y at *
      clear e1 e2
      by_cases h : 0 ≤ m ∧ m ≤ 1000 ∧ 0 ≤ n ∧ n ≤ 1000
      · obtain ⟨i, rfl⟩ : ∃ i : Nat, m = i := ⟨m.toNat, by omega⟩
        obtain ⟨j, rfl⟩ : ∃ j : Nat, n = j := ⟨n.toNat, by omega⟩
        have hi : i ≤ 1000 := by omega
        have hj : j ≤ 1000 := by omega
        by_cases E1 : Fit (x ^ i)
        · by_cases E2 : Fit (x ^ j)
          · by_cases E3 : Fit (x ^ (i + j))
            · exact powers_a w A1 A2 c1 c2 x y i j hi hj f1 f2 r1 r2 hT E1 E2 E3
            · exact powers_b w A1 A2 c1 c2 x y i j hi hj f1 f2 r1 r2 hT E1 E2 E3
          · exact powers_c w A1 A2 c1 c2 x y i j hi hj f1 f2 r1 r2 hT E1 E2
        · by_cases E2 : Fit (x ^ j)
          · exact powers_d w A1 A2 c1 c2 x y i j hi hj f1 f2 r1 r2 hT E1 E2
          · exact powers_e w A1 A2 c1 c2 x y i j hi hj f1 f2 r1 r2 hT E1 E2
      · exact powers_out w A1 A2 c1 c2 x y m n f1 f2 r1 r2 hT h

end Go.Proofs.YtgcobhlplffpjaaGreatDoor
