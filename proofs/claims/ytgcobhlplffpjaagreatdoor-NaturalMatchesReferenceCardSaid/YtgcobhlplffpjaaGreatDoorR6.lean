/- Walks of the reference: Bounded, Make, Add, Mul, Sub, Cmp. -/
import Derived.Test.YtgcobhlplffpjaaGreatDoorR3
import Derived.Test.YtgcobhlplffpjaaGreatDoorR4
import Derived.Test.YtgcobhlplffpjaaGreatDoorR5
namespace Go.Proofs.YtgcobhlplffpjaaGreatDoor
open Go.RowKit Go.Deep

/-- A number and an error handed back; the slice may have more room. -/
def REndsO (w : World) (o : Out) (e : Ending) (w' : World) : Prop := Below w.heap.size w w' ∧ ∃ A c, e = .returned (.tuple #[.slice A o.l.length c, .int .i64 o.e]) ∧ RdW w' w'.heap.size A o.l

set_option maxRecDepth 100000 in
set_option maxHeartbeats 1000000 in
theorem rBounded_any (w : World) (A : Option Addr) (c v : Nat) (hr : RdW w w.heap.size A (limbs v)) (hn : (limbs v).length ≤ 1000000) (hc : (limbs v).length ≤ c) :
    Calls Tryz.prog 56 #[.slice A (limbs v).length c] w (REndsO w (cutO v)) := by
  have ht := rTrim_any w _ A c _ hr hn hc
  rw [trim_limbs (limbs_lim v), limbs_val] at ht
  have HT := Lib.hid ht
  have HR := Lib.hid hr
  clear ht hr hc
  by_cases h : (limbs v).length ≤ 640
  · have e : cutO v = .num v := if_pos h
    rw [e]
    clear e
    go_enter Tryz.func56, Tryz.ntmps56
    go_wp2_with (go_at_call 54; refine HT.out.mono ?_; rintro e w' ⟨rfl, rfl⟩)
    go_ret2
    exact ⟨Below.refl _ _, A, c, rfl, HR.out⟩
  · have e : cutO v = .err 2 := if_neg h
    rw [e]
    clear e
    go_enter Tryz.func56, Tryz.ntmps56
    go_wp2_with (go_at_call 54; refine HT.out.mono ?_; rintro e w' ⟨rfl, rfl⟩)
    go_ret2
    exact ⟨Below.refl _ _, none, 0, rfl, RdW.nil _ _ _⟩
theorem REndsO.on {w w1 w2 : World} {o : Out} {e : Ending} (h : REndsO w1 o e w2) (hb : Below w.heap.size w w1) : REndsO w o e w2 := ⟨below_on hb h.1, h.2⟩
theorem limbs_sum_len {x y n : Nat} (hx : x < pw n) (hy : y < pw n) : (limbs (x + y)).length ≤ n + 1 := by
  rw [limbs_len, pw_succ]
  omega
theorem limbs_mul_len {x y n m : Nat} (hx : x < pw n) (hy : y < pw m) : (limbs (x * y)).length ≤ n + m := by
  rw [limbs_len, pw_add]
  exact Nat.mul_lt_mul_of_lt_of_lt hx hy
theorem val_nat {l : List Nat} (la : Lim l) (h : isNat l = true) : val l < pw 640 := Nat.lt_of_lt_of_le (val_lt la) (pw_le (isNat_norm h).1)

set_option maxRecDepth 100000 in
set_option maxHeartbeats 1000000 in
theorem rMake_any (w : World) (n : Nat) (hn : n < 18446744073709551616) :
    Calls Tryz.prog 25 #[.int .u64 n] w fun e w' => Below w.heap.size w w' ∧ ∃ A c, e = .returned (.slice A (limbs n).length c) ∧ RdW w' w'.heap.size A (limbs n) := by
  have lm : Lim [n % 4294967296, n / 4294967296] := (Lim.nil.cons (by omega)).cons (by omega)
  have hv : val [n % 4294967296, n / 4294967296] = n := by simp only [val]; omega
  have ha := arr_two w (n % 4294967296) (n / 4294967296)
  have hr := ha.rd ha.lt
  have ht := rTrim_any (w.alloc (.cells #[.int .u32 ((n % 4294967296 : Nat) : Int), .int .u32 ((n / 4294967296 : Nat) : Int)] 30)) _ _ 2 _ hr (by simp) (by simp)
  have e2 := trim_limbs lm
  rw [hv] at e2
  have hr2 := hr.take (trim [n % 4294967296, n / 4294967296]).length
  rw [← (trim_take _).1] at hr2
  rw [e2] at ht hr2
  have HT := Lib.hid ht
  have HR := Lib.hid hr2
  have h1 : bits .and .u64 (n : Int) 4294967295 = ((n % 4294967296 : Nat) : Int) := by
    have h := u64_and_nat n 4294967295 hn (by omega)
    rw [show n &&& 4294967295 = n % 4294967296 from Nat.and_two_pow_sub_one_eq_mod n 32] at h
    exact h
  have h2 : (n : Int) / 4294967296 = ((n / 4294967296 : Nat) : Int) := by omega
  have hq1 : n % 4294967296 < 4294967296 := by omega
  have hq : n / 4294967296 < 4294967296 := by omega
  clear ht hr hr2 ha lm hv e2
  generalize n % 4294967296 = q1 at *
  generalize n / 4294967296 = q2 at *
  go_enter Tryz.func25, Tryz.ntmps25
  go_wp2_with (go_at_call 54; refine HT.out.mono ?_; rintro e w' ⟨rfl, rfl⟩)
  go_ret
  exact ⟨(Below.refl _ _).alloc (Nat.le_refl _) _, _, _, rfl, HR.out⟩

set_option maxRecDepth 100000 in
set_option maxHeartbeats 1000000 in
theorem rCmp_any (w : World) (A1 A2 : Option Addr) (c1 c2 : Nat) (a b : List Nat) (ra : RdW w w.heap.size A1 a) (rb : RdW w w.heap.size A2 b) (la : Lim a) (lb : Lim b) (na : a.length ≤ 9223372036854775807) (nb : b.length ≤ 9223372036854775807) :
    Calls Tryz.prog 32 #[.slice A1 a.length c1, .slice A2 b.length c2] w fun e w' => e = .returned (.tuple #[.int .i64 (if isNat a && isNat b then cmpI (val a) (val b) else 0), .int .i64 (if isNat a && isNat b then 0 else 1)]) ∧ Below w.heap.size w w' := by
  have HB := Lib.hid (rBoth_any w A1 A2 c1 c2 a b ra rb na nb)
  rcases h : (isNat a && isNat b) with _ | _
  · rw [h] at HB
    simp only [Bool.false_eq_true, if_false]
    clear h ra rb la lb
    go_enter Tryz.func32, Tryz.ntmps32
    go_wp2_with (go_at_call 55; refine HB.out.mono ?_; rintro e w' ⟨rfl, rfl⟩)
    go_ret2
    exact ⟨rfl, Below.refl _ _⟩
  · rw [h] at HB
    rw [Bool.and_eq_true] at h
    have HO := Lib.hid (rOrder_any w A1 A2 c1 c2 a b ra rb la lb (isNat_norm h.1).2 (isNat_norm h.2).2 (by have := (isNat_norm h.2).1; omega))
    simp only [if_true]
    clear h ra rb la lb
    generalize cmpI (val a) (val b) = r at *
    go_enter Tryz.func32, Tryz.ntmps32
    go_wp2_with (first
      | (go_at_call 55; refine HB.out.mono ?_; rintro e w' ⟨rfl, rfl⟩)
      | (go_at_call 58; refine HO.out.mono ?_; rintro e w' ⟨rfl, hb⟩))
    go_ret2
    exact ⟨rfl, hb⟩

end Go.Proofs.YtgcobhlplffpjaaGreatDoor
