/- Walks: power, Pow. -/
import Derived.Test.YtgcobhlplffpjaaGreatDoorNw
import Derived.Test.YtgcobhlplffpjaaGreatDoorNs
import Derived.Lib.BitFns
import Derived.Lib.RabinKarpLaws
import Derived.Lib.ItoaNum
import Derived.Deep.DeepCutAuto
namespace Go.Proofs.YtgcobhlplffpjaaGreatDoor
open Go.RowKit Go.Deep

theorem arr_one (w : World) (x : Nat) : Arr (w.alloc (.cells #[.int .u32 (x : Int)] 30)) w.heap.size [x] := by
  refine World.rowIs_alloc w #[.int .u32 (x : Int)] 30 _ (fun i hi => ?_)
  have hi : i < 1 := hi
  obtain rfl : i = 0 := by omega
  rfl

theorem bitLen_small (m : Nat) (h : m < 18446744073709551616) : Lib.bitLen m ≤ 64 ∧ m / 2 ^ Lib.bitLen m = 0 := by
  refine ⟨Lib.bitLen_le m 64 (Nat.le_refl _) h, ?_⟩
  by_cases h0 : m = 0
  · subst h0; exact Nat.zero_div _
  · exact Nat.div_eq_of_lt (Lib.bitLenAux_bounds 64 m h h0).2.2
theorem pow_step (x m j : Nat) : x ^ (m / 2 ^ (j + 1)) * x ^ (m / 2 ^ (j + 1)) = x ^ (2 * (m / 2 ^ (j + 1))) ∧ (m / 2 ^ j % 2 = 0 → x ^ (m / 2 ^ (j + 1)) * x ^ (m / 2 ^ (j + 1)) = x ^ (m / 2 ^ j)) ∧ (m / 2 ^ j % 2 = 1 → x ^ (m / 2 ^ (j + 1)) * x ^ (m / 2 ^ (j + 1)) * x = x ^ (m / 2 ^ j)) := by
  have e : m / 2 ^ (j + 1) = m / 2 ^ j / 2 := by rw [Nat.pow_succ, Nat.div_div_eq_div_mul]
  rw [e]
  generalize m / 2 ^ j = q
  refine ⟨?_, ?_, ?_⟩
  · rw [← Nat.pow_add]; congr 1; omega
  · intro h
    rw [← Nat.pow_add]; congr 1; omega
  · intro h
    rw [← Nat.pow_add, ← Nat.pow_succ]; congr 1; omega
theorem pow_le2 (m j : Nat) : 2 * (m / 2 ^ (j + 1)) ≤ m := by
  have e : m / 2 ^ (j + 1) = m / 2 ^ j / 2 := by rw [Nat.pow_succ, Nat.div_div_eq_div_mul]
  have := Nat.div_le_self m (2 ^ j)
  rw [e]
  omega
theorem pow_big (x p q : Nat) (hpq : p ≤ q) (h : ¬ (limbs (x ^ p)).length ≤ 640) : ¬ (limbs (x ^ q)).length ≤ 640 := by
  rcases Nat.lt_or_ge 1 x with h1 | h1
  · have := limbs_mono (Nat.pow_le_pow_right (n := x) (by omega) hpq)
    omega
  · exfalso
    have : x ^ p ≤ 1 := by
      have := Nat.pow_le_pow_left h1 p
      rwa [Nat.one_pow] at this
    have := limbs_mono this
    have e : (limbs 1).length = 1 := by decide
    omega
theorem power_fail (w w' : World) (x m : Nat) (e : Ending) (p : Nat) (hB : Below w.heap.size w w') (hp : p ≤ m) (h : ¬ (limbs (x ^ p)).length ≤ 640) (he : e = failed 2) : GivesO w (cutO (x ^ m)) e w' := by
  unfold cutO
  rw [if_neg (pow_big x p m hp h)]
  exact ⟨hB, he⟩
def PowCut (w : World) (m : Nat) (v : Value) (wx : World) : Prop := v = .int .i64 m ∧ Below w.heap.size w wx ∧ RdW wx wx.heap.size (some ⟨w.heap.size, 0, none⟩) [1]
def PowRel (w : World) (x m : Nat) (c i : Value) (wx : World) : Prop :=
  ∃ (k : Nat) (z : Int) (A : Option Addr), k ≤ 64 ∧ i = .int .i64 z ∧ z = (k : Int) - 1 ∧ c = .slice A (limbs (x ^ (m / 2 ^ k))).length (limbs (x ^ (m / 2 ^ k))).length ∧ Below w.heap.size w wx ∧ Hid (RdW wx wx.heap.size A (limbs (x ^ (m / 2 ^ k))) ∧ (limbs (x ^ (m / 2 ^ k))).length ≤ 640)

set_option maxRecDepth 100000 in
set_option maxHeartbeats 1000000 in
theorem power_any (w : World) (A1 : Option Addr) (c1 : Nat) (a : List Nat) (n m : Nat) (ra : RdW w w.heap.size A1 a) (la : Lim a) (na : isNat a = true) (hm : m = if val a ≤ 1 then min n 1 else n) (hm2 : m < 20480) (hnb : n ≤ 9223372036854775807) (hv : val a ^ m = val a ^ n) :
    Calls Tryz.prog 37 #[.slice A1 a.length c1, .int .i64 n] w (GivesO w (cutO (val a ^ n))) := by
  have HC := Lib.hid (compare_any (w.alloc (.cells #[.int .u32 1] 30)) A1 (some ⟨w.heap.size, 0, none⟩) c1 1 a [1] ((ra.below ((Below.refl w.heap.size w).alloc (Nat.le_refl _) _) (Nat.le_refl _)).mono (by simp)) ((arr_one w 1).rd (by simp)) la (Lim.nil.cons (by omega)) (isNat_norm na).2 (by simp [Norm]) (by simp))
  have r1 : RdW (w.alloc (.cells #[.int .u32 1] 30)) (w.alloc (.cells #[.int .u32 1] 30)).heap.size (some ⟨w.heap.size, 0, none⟩) [1] := (arr_one w 1).rd (by simp)
  have R1 := Lib.hid r1; clear r1
  rw [← hv]
  have e1 : val [1] = 1 := rfl
  rw [e1] at HC
  have RA := Lib.hid ra; clear ra
  have hs : (cmpI (val a) 1 ≤ 0 ∧ m = min n 1) ∨ (0 < cmpI (val a) 1 ∧ m = n) := by
    rw [hm]
    unfold cmpI
    rcases Nat.lt_trichotomy (val a) 1 with h | h | h
    · left; rw [if_pos h, if_pos (by omega)]; exact ⟨by omega, rfl⟩
    · left; rw [if_neg (by omega), if_neg (by omega), if_pos (by omega)]; exact ⟨by omega, rfl⟩
    · right; rw [if_neg (by omega), if_pos h, if_neg (by omega)]; exact ⟨by omega, rfl⟩
  clear hm e1 hv
  generalize cmpI (val a) 1 = r at *
  obtain ⟨x, hx⟩ : ∃ x, val a = x := ⟨_, rfl⟩
  have HA := Lib.hid (And.intro (And.intro la (isNat_norm na).1) hx)
  rw [hx]
  clear hx la na
  go_enter Tryz.func37, Tryz.ntmps37
  go_upto_if 15 with (go_at_call 53; refine HC.out.mono ?_; rintro e w1 ⟨rfl, hB⟩)
  have HS := Lib.hid hs; clear hs
  go_cut [1] (fun s1 wx => PowCut w m s1 wx)
  case first =>
    have HB := Lib.hid (show Below w.heap.size w w1 ∧ RdW w1 w1.heap.size (some ⟨w.heap.size, 0, none⟩) [1] from ⟨((Below.refl w.heap.size w).alloc (Nat.le_refl _) _).trans (hB.mono (by simp)), (R1.out.below hB (Nat.le_refl _)).mono hB.size⟩)
    clear hB
    rcases HS.out with ⟨h1, h2⟩ | ⟨h1, h2⟩
    · by_cases h3 : n = 0
      · subst h3
        obtain rfl : m = 0 := by omega
        clear h2
        go_wp2_with fail
        go_meet
        case rel => exact ⟨rfl, HB.out.1, HB.out.2⟩
      · obtain rfl : m = 1 := by omega
        clear h2
        go_wp2_with fail
        all_goals
          go_meet
          case rel => exact ⟨by first | rfl | go_num, HB.out.1, HB.out.2⟩
    · subst h2
      go_wp2_with fail
      go_meet
      case rel => exact ⟨rfl, HB.out.1, HB.out.2⟩
  clear hB HC R1 HS
  obtain ⟨rfl, hB, R1⟩ := hcut
  have r1 := Lib.hid R1; clear R1
  have hLb := bitLen_small m (by omega)
  have HL := Lib.hid (len_any wc m (by omega))
  generalize Lib.bitLen m = L at *
  have HLB := Lib.hid hLb.2
  go_wp2_with (go_at_call 64; refine HL.out.mono ?_; rintro e w' ⟨rfl, rfl⟩)
  go_loopw [5, 6] (fun c i wx => PowRel w x m c i wx) (fun _ i _ => (intOf i + 1).toNat)
  case atStart => exact ⟨L, _, _, hLb.1, rfl, rfl, by rw [HLB.out]; rfl, hB, by rw [HLB.out]; exact ⟨r1.out, by rw [Nat.pow_zero]; decide⟩⟩
  case round =>
    clear hB r1 HL hLb HLB
    obtain ⟨k, z, A, hk, rfl, hz, rfl, hB, HR⟩ := hrel
    by_cases hk0 : k = 0
    · obtain rfl : z = -1 := by omega
      subst hk0
      rw [show m / 2 ^ 0 = m by simp] at HR ⊢
      generalize hy : x ^ m = y at *
      clear hz hy
      go_wp2
      go_ret
      unfold cutO
      rw [if_pos HR.out.2]
      exact ⟨hB, A, rfl, HR.out.1⟩
    · obtain ⟨j, rfl⟩ : ∃ j, k = j + 1 := ⟨k - 1, by omega⟩
      obtain rfl : z = (j : Int) := by omega
      clear hz hk0
      have hd := pow_step x m j
      obtain ⟨P, hP⟩ : ∃ P, x ^ (m / 2 ^ (j + 1)) = P := ⟨_, rfl⟩
      rw [hP] at HR hd ⊢
      have HP1 := product_any wr A A (limbs P).length (limbs P).length (limbs P) (limbs P) HR.out.1 HR.out.1 (limbs_lim _) (limbs_lim _) (Nat.le_trans HR.out.2 (by omega)) (Nat.le_trans HR.out.2 (by omega))
      rw [limbs_val] at HP1
      generalize (limbs P).length = lp at *
      have hb1 : ((m : Int) / 2 ^ j) = ((m / 2 ^ j : Nat) : Int) := by rw [Int.natCast_ediv, Int.natCast_pow]; rfl
      have hqm : m / 2 ^ j ≤ m := Nat.div_le_self _ _
      have hb2 := and_one (m / 2 ^ j) (by omega)
      generalize hq : m / 2 ^ j = q at *
      have HD := Lib.hid hd; clear hd
      have HQ := Lib.hid (And.intro hqm hP); clear hP
      by_cases f1 : (limbs (P * P)).length ≤ 640
      · by_cases hbit : q % 2 = 0
        · rw [hbit] at hb2
          have HF := Lib.hid f1; clear f1
          go_wp2_with fail
          refine HP1.mono ?_
          rintro e w1 ⟨hb, he⟩
          rw [if_pos HF.out] at he
          obtain ⟨A', rfl, r'⟩ := he
          have HR' := Lib.hid r'
          clear r'
          have HE := Lib.hid (HD.out.2.1 hbit)
          clear hbit
          go_wp2_with fail
          refine ⟨?_, by simp [intOf]⟩
          rw [HE.out]
          exact ⟨j, _, A', by omega, rfl, rfl, by rw [hq], below_on hB hb, by rw [hq, ← HE.out]; exact ⟨HR'.out, HF.out⟩⟩
        · have hbit1 : q % 2 = 1 := by omega
          rw [hbit1] at hb2
          have HF := Lib.hid f1; clear f1
          go_wp2_with fail
          refine HP1.mono ?_
          rintro e w1 ⟨hb, he⟩
          rw [if_pos HF.out] at he
          obtain ⟨A', rfl, r'⟩ := he
          have HP2 := product_any w1 A' A1 (limbs (P * P)).length c1 (limbs (P * P)) a r' ((RA.out.below (below_on hB hb) (Nat.le_refl _)).mono (below_on hB hb).size) (limbs_lim _) HA.out.1.1 (Nat.le_trans HF.out (by omega)) (Nat.le_trans HA.out.1.2 (by omega))
          rw [limbs_val, HA.out.2] at HP2
          have HE := Lib.hid (HD.out.2.2 hbit1)
          clear r' hbit hbit1
          generalize (limbs (P * P)).length = l2 at *
          go_wp2_with fail
          refine HP2.mono ?_
          rintro e w2 ⟨hb3, he⟩
          by_cases f2 : (limbs (P * P * x)).length ≤ 640
          · rw [if_pos f2] at he
            obtain ⟨A3, rfl, r3⟩ := he
            have HR' := Lib.hid (And.intro r3 f2)
            clear r3 f2
            go_wp2_with fail
            refine ⟨?_, by simp [intOf]⟩
            rw [HE.out]
            exact ⟨j, _, A3, by omega, rfl, rfl, by rw [hq], below_on (below_on hB hb) hb3, by rw [hq, ← HE.out]; exact HR'.out⟩
          · rw [if_neg f2] at he
            subst he
            have HR' := Lib.hid f2
            clear f2
            unfold failed
            go_wp2_with fail
            exact ⟨rfl, power_fail _ _ _ _ _ q (below_on (below_on hB hb) hb3) HQ.out.1 (by rw [← HE.out]; exact HR'.out) rfl⟩
      · have HF := Lib.hid f1; clear f1
        go_wp2_with fail
        refine HP1.mono ?_
        rintro e w1 ⟨hb, he⟩
        rw [if_neg HF.out] at he
        subst he
        unfold failed
        go_wp2_with fail
        exact ⟨rfl, power_fail _ _ _ _ _ (2 * (m / 2 ^ (j + 1))) (below_on hB hb) (pow_le2 m j) (by rw [← HD.out.1]; exact HF.out) rfl⟩

end Go.Proofs.YtgcobhlplffpjaaGreatDoor
