/- Walks: Pow. -/
import Derived.Test.YtgcobhlplffpjaaGreatDoorNx
namespace Go.Proofs.YtgcobhlplffpjaaGreatDoor
open Go.RowKit Go.Deep

set_option maxRecDepth 100000 in
set_option maxHeartbeats 1000000 in
theorem power_neg (w : World) (A1 : Option Addr) (c1 l : Nat) (n : Int) (hn : n < 0) :
    Calls Tryz.prog 37 #[.slice A1 l c1, .int .i64 n] w (GivesO w (.err 3)) := by
  go_enter Tryz.func37, Tryz.ntmps37
  go_wp2_with fail
  exact ⟨rfl, Below.refl _ _, rfl⟩

set_option maxRecDepth 100000 in
set_option maxHeartbeats 1000000 in
theorem power_huge (w : World) (A1 : Option Addr) (c1 : Nat) (a : List Nat) (n : Nat) (ra : RdW w w.heap.size A1 a) (la : Lim a) (na : isNat a = true) (hn : 20480 ≤ n) (hx : 1 < val a) (hnb : n ≤ 9223372036854775807) :
    Calls Tryz.prog 37 #[.slice A1 a.length c1, .int .i64 n] w (GivesO w (.err 2)) := by
  have HC := Lib.hid (compare_any (w.alloc (.cells #[.int .u32 1] 30)) A1 (some ⟨w.heap.size, 0, none⟩) c1 1 a [1] ((ra.below ((Below.refl w.heap.size w).alloc (Nat.le_refl _) _) (Nat.le_refl _)).mono (by simp)) ((arr_one w 1).rd (by simp)) la (Lim.nil.cons (by omega)) (isNat_norm na).2 (by simp [Norm]) (by simp))
  have e1 : val [1] = 1 := rfl
  have hr : cmpI (val a) 1 = 1 := by rw [cmpI, if_neg (by omega), if_pos hx]
  rw [e1, hr] at HC
  clear e1 hr ra
  go_enter Tryz.func37, Tryz.ntmps37
  go_wp2_with (go_at_call 53; refine HC.out.mono ?_; rintro e w1 ⟨rfl, hB⟩)
  exact ⟨rfl, ((Below.refl w.heap.size w).alloc (Nat.le_refl _) _).trans (hB.mono (by simp)), rfl⟩

def powV (x : Nat) (n : Int) : Out := if n < 0 then .err 3 else cutO (x ^ n.toNat)
theorem pow_two_huge' (x n k c : Nat) (hx : 1 < x) (hn : k ≤ n) (hc : 32 * c = k) : ¬ (limbs (x ^ n)).length ≤ c := by
  rw [limbs_len]
  have h1 : 2 ^ n ≤ x ^ n := Nat.pow_le_pow_left hx n
  have h2 : 2 ^ k ≤ 2 ^ n := Nat.pow_le_pow_right (by omega) hn
  have h3 : pw c = 2 ^ k := by
    unfold pw
    rw [← hc, Nat.pow_mul]
  rw [h3]
  exact Nat.not_lt.2 (Nat.le_trans h2 h1)
theorem pow_two_huge (x n : Nat) (hx : 1 < x) (hn : 20480 ≤ n) : ¬ (limbs (x ^ n)).length ≤ 640 := pow_two_huge' x n 20480 640 hx hn (by omega)
theorem pow_small (x n : Nat) (hx : x ≤ 1) : x ^ (min n 1) = x ^ n := by
  rcases Nat.eq_zero_or_pos n with h | h
  · subst h; rfl
  · rw [Nat.min_eq_right h, Nat.pow_one]
    rcases (show x = 0 ∨ x = 1 by omega) with rfl | rfl
    · rw [Nat.zero_pow h]
    · rw [Nat.one_pow]

theorem power_all (w : World) (A1 : Option Addr) (c1 : Nat) (a : List Nat) (n : Int) (ra : RdW w w.heap.size A1 a) (la : Lim a) (na : isNat a = true) (hnb : n ≤ 9223372036854775807) :
    Calls Tryz.prog 37 #[.slice A1 a.length c1, .int .i64 n] w (GivesO w (powV (val a) n)) := by
  unfold powV
  split
  · rename_i h
    exact power_neg w A1 c1 _ n h
  · rename_i h
    obtain ⟨m, rfl⟩ := Int.eq_ofNat_of_zero_le (Int.not_lt.1 h)
    rw [Int.toNat_natCast]
    by_cases hx : val a ≤ 1
    · exact power_any w A1 c1 a m (min m 1) ra la na (by rw [if_pos hx]) (by omega) (by omega) (pow_small _ _ hx)
    · by_cases hm : m < 20480
      · exact power_any w A1 c1 a m m ra la na (by rw [if_neg hx]) hm (by omega) rfl
      · have := power_huge w A1 c1 a m ra la na (by omega) (by omega) (by omega)
        unfold cutO
        rw [if_neg (pow_two_huge _ _ (by omega) (by omega))]
        exact this

set_option maxRecDepth 100000 in
set_option maxHeartbeats 1000000 in
theorem pow_op (w : World) (p q : Addr) (A1 : Option Addr) (c1 : Nat) (a : List Nat) (n : Int) (hp : w.cell? p = some (.slice A1 a.length c1)) (hq : w.cell? q = some (.int .i64 n)) (ra : RdW w w.heap.size A1 a) (la : Lim a) (na : isNat a = true) (hnb : n ≤ 9223372036854775807) :
    Calls Tryz.prog 36 #[.pointer (some p), .pointer (some q)] w (GivesO w (powV (val a) n)) := by
  have HC := Lib.hid (power_all w A1 c1 a n ra la na hnb)
  clear ra la
  generalize powV (val a) n = o at *
  cases o with
  | num v =>
    go_enter Tryz.func36, Tryz.ntmps36
    go_wp2_with (go_at_call 37; refine HC.out.mono ?_; rintro e w' ⟨hb, A', rfl, hr⟩)
    go_ret
    exact ⟨hb, A', rfl, hr⟩
  | err k =>
    go_enter Tryz.func36, Tryz.ntmps36
    go_wp2_with (go_at_call 37; refine HC.out.mono ?_; rintro e w' ⟨hb, rfl⟩; unfold failed)
    exact ⟨rfl, hb, rfl⟩

def powO (a : List Nat) (n : Int) : Out := if isNat a then powV (val a) n else .err 1

set_option maxRecDepth 100000 in
set_option maxHeartbeats 1000000 in
theorem pow_api (w : World) (A1 : Option Addr) (c1 : Nat) (a : List Nat) (n : Int) (ra : RdW w w.heap.size A1 a) (la : Lim a) (na : a.length ≤ 9223372036854775807) (hnb : n ≤ 9223372036854775807) :
    Calls Tryz.prog 14 #[.slice A1 a.length c1, .int .i64 n] w (EndsO w (powO a n)) := by
  have hmf : ∀ (fn : Fn) (first cap : Array Value) (w : World), (Instr.makeFunc fn first cap).run Tryz.prog w = .ok (.func fn first cap) w := fun _ _ _ _ => rfl
  have B : Below w.heap.size w (((w.alloc (.cells #[.slice A1 a.length c1] 23)).alloc (.cells #[.int .i64 n] 3)).alloc (.cells #[.slice A1 a.length c1] 23)) :=
    (((Below.refl _ _).alloc (Nat.le_refl _) _).alloc (by simp) _).alloc (by simp; omega) _
  have hz : (((w.alloc (.cells #[.slice A1 a.length c1] 23)).alloc (.cells #[.int .i64 n] 3)).alloc (.cells #[.slice A1 a.length c1] 23)).heap.size = w.heap.size + 3 := by simp
  have hA : Args (((w.alloc (.cells #[.slice A1 a.length c1] 23)).alloc (.cells #[.int .i64 n] 3)).alloc (.cells #[.slice A1 a.length c1] 23)) (some ⟨w.heap.size + 1 + 1, 0, none⟩) 1 (fun _ => (A1, a, c1)) := fun i hi => by
    obtain rfl : i = 0 := by omega
    exact ⟨_, rfl, by rw [hz]; show w.heap.size + 1 + 1 < _; omega, by simp [go_sem, Addr.add], (ra.below B (Nat.le_refl _)).mono B.size, na⟩
  have HG : Hid (Calls Tryz.prog 35 #[.func (.func 36) #[] #[.pointer (some ⟨w.heap.size, 0, none⟩), .pointer (some ⟨w.heap.size + 1, 0, none⟩)], .slice (some ⟨w.heap.size + 1 + 1, 0, none⟩) 1 1]
      (((w.alloc (.cells #[.slice A1 a.length c1] 23)).alloc (.cells #[.int .i64 n] 3)).alloc (.cells #[.slice A1 a.length c1] 23)) (EndsO w (powO a n))) := by
    unfold powO
    rcases ha : isNat a with _ | _
    · exact (guarded_bad _ _ _ (fun _ => (A1, a, c1)) 1 1 _ (by omega) hA 0 (by omega) (fun i hi => absurd hi (Nat.not_lt_zero _)) ha).mono fun e w' h => EndsO.on (o := .err 1) h B
    · refine (guarded_ok _ _ _ (fun _ => (A1, a, c1)) 1 1 _ (by omega) hA (fun i _ => ha) (powV (val a) n) (fun w1 => by go_simp) ?_).mono fun e w' h => EndsO.on (o := powV (val a) n) h B
      intro w1 b1
      have b2 := below_on B b1
      refine pow_op w1 _ _ A1 c1 a n ?_ ?_ ((ra.below b2 (Nat.le_refl _)).mono b2.size) la ha hnb
      · rw [b1.cell (p := ⟨w.heap.size, 0, none⟩) (by rw [hz]; show w.heap.size < _; omega)]; simp [go_sem]
      · rw [b1.cell (p := ⟨w.heap.size + 1, 0, none⟩) (by rw [hz]; show w.heap.size + 1 < _; omega)]; simp [go_sem]
  clear ra la hA B hz
  go_enter Tryz.func14, Tryz.ntmps14
  go_wp2_with (go_at_call 35; refine HG.out.mono ?_; rintro e w' ⟨hB, A', rfl, hr⟩)
  go_ret2
  exact ⟨hB, A', rfl, hr⟩

end Go.Proofs.YtgcobhlplffpjaaGreatDoor
