/- Walks: guess. -/
import Derived.Test.YtgcobhlplffpjaaGreatDoorNj
import Derived.BigQuiet
namespace Go.Proofs.YtgcobhlplffpjaaGreatDoor
open Go.RowKit Go.Deep

/-- What the guess is measured by. -/
structure GuessLaw (x top v2 u2 q : Nat) : Prop where
  topb : 0 < top ∧ top < 4294967296
  xb : x < top * 4294967298
  start : q ≤ x / top
  small : q < 4294967296
  down : ∀ d r, d * top + r = x → r * 4294967296 + u2 < d * v2 → q < d
  stop : ∀ d r, d * top + r = x → d < 4294967296 → d * v2 ≤ r * 4294967296 + u2 → d ≤ q + 1
  brk : ∀ d r, d * top + r = x → d ≤ 4294967296 → 4294967296 ≤ r → d ≤ q
def GuessRel (w : World) (x top q : Nat) (d r : Value) (wx : World) : Prop :=
  ∃ k ρ : Nat, d = .int .u64 k ∧ r = .int .u64 ρ ∧ k ≤ 4294967297 ∧ ρ < 4294967296 ∧ Below w.heap.size w wx ∧ Hid (k * top + ρ = x ∧ q ≤ k)

theorem guess_step {x top q d r : Nat} (h : d * top + r = x) (hq : q < d) : (d - 1) * top + (r + top) = x ∧ q ≤ d - 1 := by
  obtain ⟨k, rfl⟩ : ∃ k, d = k + 1 := ⟨d - 1, by omega⟩
  rw [Nat.add_mul] at h
  simp only [Nat.add_sub_cancel]
  omega

set_option maxRecDepth 100000 in
set_option maxHeartbeats 1000000 in
theorem guess_any (w : World) (gu gv o n cu cv q : Nat) (M V : List Nat) (hM : Arr w gu M) (hV : Arr w gv V) (lM : Lim M) (lV : Lim V) (hn2 : 2 ≤ n) (hn : n ≤ V.length) (ho : o + n < M.length) (hb : M.length ≤ 100000)
    (hG : GuessLaw (M.getD (o + n) 0 * 4294967296 + M.getD (o + (n - 1)) 0) (V.getD (n - 1) 0) (V.getD (n - 2) 0) (M.getD (o + (n - 2)) 0) q) :
    Calls Tryz.prog 89 #[.slice (some ⟨gu, o, none⟩) (n + 1) cu, .slice (some ⟨gv, 0, none⟩) n cv] w fun e w' => ∃ d : Nat, e = .returned (.int .u64 d) ∧ q ≤ d ∧ d ≤ q + 1 ∧ Below w.heap.size w w' := by
  have u0 := hM.cell (i := o + n) (by omega)
  have u1 := hM.cell (i := o + (n - 1)) (by omega)
  have u2 := hM.cell (i := o + (n - 2)) (by omega)
  have v1 := hV.cell (i := n - 1) (by omega)
  have v2 := hV.cell (i := n - 2) (by omega)
  have fu := hM.lt
  have fv := hV.lt
  have l0 := lM.getD (o + n)
  have l1 := lM.getD (o + (n - 1))
  have l2 := lM.getD (o + (n - 2))
  have m2 := lV.getD (n - 2)
  have HG := Lib.hid hG
  clear hG hM hV lM lV
  generalize M.getD (o + n) 0 = a0 at *
  generalize M.getD (o + (n - 1)) 0 = a1 at *
  generalize M.getD (o + (n - 2)) 0 = a2 at *
  generalize V.getD (n - 1) 0 = top at *
  generalize V.getD (n - 2) 0 = b2 at *
  obtain ⟨x, hx⟩ : ∃ x, a0 * 4294967296 + a1 = x := ⟨_, rfl⟩
  have hor := u64_or_nat (a0 * 4294967296) a1 (by omega) (by omega)
  rw [or_join a0 a1 l1, hx] at hor
  have hor : bits .or .u64 ((a0 : Int) * 4294967296) (a1 : Int) = (x : Int) := hor
  have hxb : x < 18446744073709551616 := by omega
  rw [hx] at HG
  clear hx
  obtain ⟨ht0, ht1⟩ := HG.out.topb
  have ht0' : ((top : Int) == 0) = false := by simp only [beq_eq_false_iff_ne, ne_eq]; omega
  have t1 : (x : Int).tdiv (top : Int) = ((x / top : Nat) : Int) := rfl
  have t2 : (x : Int).tmod (top : Int) = ((x % top : Nat) : Int) := rfl
  have hd1 : x / top ≤ 4294967297 := by
    have := (Nat.div_lt_iff_lt_mul ht0 (x := x) (y := 4294967298)).2 (by rw [Nat.mul_comm]; exact HG.out.xb)
    omega
  have hr1 : x % top < 4294967296 := Nat.lt_trans (Nat.mod_lt _ ht0) ht1
  have HX := Lib.hid (show x / top * top + x % top = x ∧ q ≤ x / top from ⟨by rw [Nat.mul_comm]; exact Nat.div_add_mod x top, HG.out.start⟩)
  generalize x / top = d0 at *
  generalize x % top = r0 at *
  go_enter Tryz.func89, Tryz.ntmps89
  go_wp2
  go_region
  go_wp2
  go_region
  go_wp2
  go_loopw [8, 9] (fun d r wx => GuessRel w x top q d r wx) (fun d _ _ => (intOf d).toNat)
  case atStart => exact ⟨d0, r0, rfl, rfl, hd1, hr1, ((Below.refl _ _).drew).drew, HX⟩
  case round =>
    clear HX u0 u1
    obtain ⟨d, r, rfl, rfl, hd, hr, hB, HX⟩ := hrel
    have c2 := (hB.cell (p := ⟨gu, o + (n - 2), none⟩) fu).trans u2
    have e2 := (hB.cell (p := ⟨gv, n - 2, none⟩) fv).trans v2
    have hor2 := u64_or_nat (r * 4294967296) a2 (by omega) (by omega)
    rw [or_join r a2 l2] at hor2
    obtain ⟨z, hz⟩ : ∃ z, r * 4294967296 + a2 = z := ⟨_, rfl⟩
    rw [hz] at hor2
    have hor2 : bits .or .u64 ((r : Int) * 4294967296) (a2 : Int) = (z : Int) := hor2
    have HZ := Lib.hid hz
    clear hz u2 v2
    by_cases hbig : 4294967296 ≤ d
    · have hq : (d : Int) / 4294967296 = 1 := by omega
      have hqd : q < d := by have := HG.out.small; omega
      have hd0 : 1 ≤ d := by omega
      have HK := Lib.hid (guess_step HX.out.1 hqd)
      have hda : (d : Int) - 1 = ((d - 1 : Nat) : Int) := by omega
      clear hqd
      by_cases hbr : 4294967296 ≤ r + top
      · have hbq : ((r : Int) + (top : Int)) / 4294967296 = 1 := by omega
        have HB := Lib.hid (HG.out.brk (d - 1) (r + top) HK.out.1 (by omega) hbr)
        go_wp2
        go_quiet (fail)
        go_wp2
        go_ret
        exact ⟨d - 1, rfl, HK.out.2, Nat.le_succ_of_le HB.out, below_dN hB _⟩
      · have hbq : ((r : Int) + (top : Int)) / 4294967296 = 0 := by omega
        go_wp2
        go_quiet (fail)
        go_wp2
        refine ⟨⟨d - 1, r + top, rfl, by go_num, by omega, by omega, below_dN hB _, HK⟩, by simp [intOf]; omega⟩
    · have hq : (d : Int) / 4294967296 = 0 := by omega
      obtain ⟨p, hp⟩ : ∃ p, d * b2 = p := ⟨_, rfl⟩
      have hpb := mul_bound (show d < 4294967296 by omega) m2
      have hp' : (d : Int) * (b2 : Int) = (p : Int) := by rw [← hp, Int.natCast_mul]
      rw [hp] at hpb
      have HP := Lib.hid hp
      clear hp
      by_cases hzp : z < p
      · have hqd : q < d := HG.out.down d r HX.out.1 (by rw [HZ.out, HP.out]; exact hzp)
        have hd0 : 1 ≤ d := by omega
        have HK := Lib.hid (guess_step HX.out.1 hqd)
        have hda : (d : Int) - 1 = ((d - 1 : Nat) : Int) := by omega
        clear hqd
        by_cases hbr : 4294967296 ≤ r + top
        · have hbq : ((r : Int) + (top : Int)) / 4294967296 = 1 := by omega
          have HB := Lib.hid (HG.out.brk (d - 1) (r + top) HK.out.1 (by omega) hbr)
          go_wp2
          go_quiet (fail)
          go_wp2
          go_ret
          exact ⟨d - 1, rfl, HK.out.2, Nat.le_succ_of_le HB.out, below_dN hB _⟩
        · have hbq : ((r : Int) + (top : Int)) / 4294967296 = 0 := by omega
          go_wp2
          go_quiet (fail)
          go_wp2
          refine ⟨⟨d - 1, r + top, rfl, by go_num, by omega, by omega, below_dN hB _, HK⟩, by simp [intOf]; omega⟩
      · have HS := Lib.hid (HG.out.stop d r HX.out.1 (by omega) (by rw [HZ.out, HP.out]; omega))
        go_wp2
        go_quiet (fail)
        go_wp2
        go_ret
        exact ⟨d, rfl, HX.out.2, HS.out, below_dN hB _⟩

end Go.Proofs.YtgcobhlplffpjaaGreatDoor
