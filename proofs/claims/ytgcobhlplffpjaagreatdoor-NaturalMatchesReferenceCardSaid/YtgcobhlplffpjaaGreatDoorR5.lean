/- Walks of the reference: Product. -/
import Derived.Test.YtgcobhlplffpjaaGreatDoorR1
namespace Go.Proofs.YtgcobhlplffpjaaGreatDoor
open Go.RowKit Go.Deep

theorem MulIn.drew {g n : Nat} {a b : List Nat} {i x j c : Nat} {wx : World} {m : List Nat} (h : MulIn g n a b i x j c wx m) : MulIn g n a b i x j c wx.drew m := ⟨h.len, h.lim, h.arr, h.eqn, h.zer⟩

set_option maxRecDepth 100000 in
set_option maxHeartbeats 1000000 in
theorem rProduct_any (w : World) (A1 A2 : Option Addr) (c1 c2 : Nat) (a b : List Nat) (ra : RdW w w.heap.size A1 a) (rb : RdW w w.heap.size A2 b) (la : Lim a) (lb : Lim b) (na : a.length ≤ 100000) (nb : b.length ≤ 100000) :
    Calls Tryz.prog 60 #[.slice A1 a.length c1, .slice A2 b.length c2] w fun e w' => Below w.heap.size w w' ∧ ∃ A c, e = .returned (.slice A (limbs (val a * val b)).length c) ∧ (limbs (val a * val b)).length ≤ c ∧ RdW w' w'.heap.size A (limbs (val a * val b)) := by
  have RA := Lib.hid ra; clear ra
  have RB := Lib.hid rb; clear rb
  have LA := Lib.hid la; clear la
  have LB := Lib.hid lb; clear lb
  have hmk := make_limbs' ((a.length : Int) + (b.length : Int)) (a.length + b.length) (by omega) (by omega)
  obtain ⟨n, hn⟩ : ∃ n, a.length + b.length = n := ⟨_, rfl⟩
  have HST := Lib.hid (MulAt.start w a b)
  rw [hn] at hmk HST
  go_enter Tryz.func60, Tryz.ntmps60
  go_wp2
  go_loopw [6] (fun i wx => MulRel w n a b i wx) (fun i _ => a.length - (intOf i).toNat)
  case atStart => exact ⟨0, Nat.zero_le _, rfl, (Below.refl _ _).alloc (Nat.le_refl _) _, _, HST⟩
  case round =>
    obtain ⟨i, hi, rfl, hB, m, HS⟩ := hrel
    by_cases hlt : i < a.length
    · obtain ⟨ad, rfl, had, hcell⟩ := RA.out (by omega)
      have hx0 := hcell i hlt
      have xl := LA.out.getD i
      have HLV := Lib.hid fun (j c : Nat) (wx : World) (m : List Nat) (h : MulIn w.heap.size n a b i (a.getD i 0) j c wx m) (hj : j = b.length) hc => h.leave hj (by omega) hc
      have HS2 := Lib.hid (HS.out.enter (a.getD i 0))
      clear hcell HS
      generalize a.getD i 0 = x at *
      go_wp2
      go_loopw [7, 8] (fun c j wx => MulRelIn w n a b i x c j wx) (fun _ j _ => b.length - (intOf j).toNat)
      case atStart => exact ⟨0, 0, Nat.zero_le _, rfl, rfl, by omega, hB, _, HS2⟩
      case round =>
        clear hB HS2
        obtain ⟨j, cy, hj, rfl, rfl, hcy, hB, m, HS⟩ := hrel
        have hx := (hB.cell (p := ad.add i) (by rw [add_block]; exact had)).trans hx0
        by_cases hjt : j < b.length
        · obtain ⟨bd, rfl, hbd, hcell⟩ := RB.out (by omega)
          have hy := (hB.cell (p := bd.add j) (by rw [add_block]; exact hbd)).trans (hcell j hjt)
          have yl := LB.out.getD j
          have cl := HS.out.lim.getD (i + j)
          have hfz := HS.out.arr.frozen (i + j)
          have hcl := HS.out.old (i + j) (by omega)
          obtain ⟨p, hp⟩ : ∃ p, x * b.getD j 0 = p := ⟨_, rfl⟩
          obtain ⟨t, ht⟩ : ∃ t, p + m.getD (i + j) 0 + cy = t := ⟨_, rfl⟩
          have HN := Lib.hid (HS.out.next hjt (by omega) (t := t) (by rw [hp, ht]))
          have hpb := mul_bound xl yl
          rw [hp] at hpb
          have hp' : (x : Int) * ((b.getD j 0 : Nat) : Int) = (p : Int) := by rw [← hp, Int.natCast_mul]
          clear hcell hp
          generalize b.getD j 0 = y at *
          generalize m.getD (i + j) 0 = c at *
          obtain ⟨s, hs⟩ : ∃ s, p + c = s := ⟨_, rfl⟩
          have hs' : (p : Int) + (c : Int) = (s : Int) := by omega
          have ht' : (s : Int) + (cy : Int) = (t : Int) := by omega
          have hsb : s ≤ 18446744073709551615 := by omega
          have htb : t ≤ 18446744073709551615 := by omega
          have h1 : bits .and .u64 (t : Int) 4294967295 = ((t % 4294967296 : Nat) : Int) := by
            have h := u64_and_nat t 4294967295 (by omega) (by omega)
            rw [show t &&& 4294967295 = t % 4294967296 from Nat.and_two_pow_sub_one_eq_mod t 32] at h
            exact h
          have hq1 : t % 4294967296 < 4294967296 := by omega
          have h2 : (t : Int) / 4294967296 = ((t / 4294967296 : Nat) : Int) := by omega
          have hq2 : t / 4294967296 < 4294967296 := by omega
          generalize t % 4294967296 = q1 at *
          generalize t / 4294967296 = q2 at *
          clear ht hs
          go_wp2
          go_region
          go_wp2
          refine ⟨⟨j + 1, q2, by omega, by go_num, rfl, hq2, (hB.setCell (Nat.le_refl _) _).drew, _, HN.out.drew⟩, by simp [intOf]; omega⟩
        · have hjl : j = b.length := by omega
          have hfz := HS.out.arr.frozen (i + b.length)
          have hcl := HS.out.old (i + b.length) (by omega)
          rw [HS.out.zer _ (Nat.le_refl _)] at hcl
          have HN := Lib.hid (HLV.out j cy wr m HS.out hjl hcy)
          clear HS HLV
          subst hjl
          go_wp2
          go_roundw
          case rel => exact ⟨i + 1, by omega, by go_num, hB.setCell (Nat.le_refl _) _, _, HN⟩
          case measure => simp [intOf]; omega
    · have hil : i = a.length := by omega
      have hv : val m = val a * val b := by rw [HS.out.eqn, hil, List.take_length]
      have hr := HS.out.arr.rd HS.out.arr.lt
      have ht := rTrim_any wr _ _ n m hr (by rw [HS.out.len]; omega) (by rw [HS.out.len]; exact Nat.le_refl _)
      have e2 := trim_limbs HS.out.lim
      rw [hv] at e2
      have hr2 := hr.take (trim m).length
      rw [← (trim_take m).1] at hr2
      have hcc := (trim_take m).2
      rw [e2, HS.out.len] at hcc
      rw [e2] at ht hr2
      rw [HS.out.len] at ht
      have HG := Lib.hid ht
      have HR2 := Lib.hid hr2
      clear ht hr2 hr e2 hv HS hil
      go_wp2_with (go_at_call 54; refine HG.out.mono ?_; rintro e w' ⟨rfl, rfl⟩)
      go_ret
      exact ⟨hB, _, n, rfl, hcc, HR2.out⟩

end Go.Proofs.YtgcobhlplffpjaaGreatDoor
