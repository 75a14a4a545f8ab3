/- Walks of the reference: Order. -/
import Derived.Test.YtgcobhlplffpjaaGreatDoorR1
namespace Go.Proofs.YtgcobhlplffpjaaGreatDoor
open Go.RowKit Go.Deep

def OrderRel (w : World) (a b : List Nat) (i : Value) (wx : World) : Prop :=
  ∃ (k : Nat) (z : Int), k ≤ a.length ∧ i = .int .i64 z ∧ z = (k : Int) - 1 ∧ Below w.heap.size w wx ∧ Hid (a.drop k = b.drop k)

set_option maxRecDepth 100000 in
set_option maxHeartbeats 2000000 in
theorem rOrder_any (w : World) (A1 A2 : Option Addr) (c1 c2 : Nat) (a b : List Nat) (ra : RdW w w.heap.size A1 a) (rb : RdW w w.heap.size A2 b) (la : Lim a) (lb : Lim b) (ua : Norm a) (ub : Norm b) (nb : b.length ≤ 100000) :
    Calls Tryz.prog 58 #[.slice A1 a.length c1, .slice A2 b.length c2] w fun e w' => e = .returned (.int .i64 (cmpI (val a) (val b))) ∧ Below w.heap.size w w' := by
  have RA := Lib.hid ra; clear ra
  have RB := Lib.hid rb; clear rb
  have LA := Lib.hid la; clear la
  have LB := Lib.hid lb; clear lb
  by_cases hl : a.length = b.length
  case neg =>
    rw [← cmpI_len a b LA.out LB.out ua ub hl]
    clear ua ub
    by_cases h : a.length < b.length
    · rw [cmpI, if_pos h]
      clear hl
      go_enter Tryz.func58, Tryz.ntmps58
      go_wp2
      go_ret
      exact ⟨rfl, Below.refl _ _⟩
    · have h2 : b.length < a.length := by omega
      rw [cmpI, if_neg h, if_pos h2]
      clear hl
      go_enter Tryz.func58, Tryz.ntmps58
      go_wp2
      go_ret
      exact ⟨rfl, Below.refl _ _⟩
  have HL := Lib.hid hl
  obtain ⟨n, hn⟩ : ∃ n, a.length = n := ⟨_, rfl⟩
  have hn' : b.length = n := by omega
  rw [hn]
  rw [hn'] at nb ⊢
  clear hl ua ub
  have HN := Lib.hid (And.intro hn hn')
  clear hn hn'
  go_enter Tryz.func58, Tryz.ntmps58
  go_wp2
  go_loopw [5] (fun i wx => OrderRel w a b i wx) (fun i _ => (intOf i + 1).toNat)
  case atStart => exact ⟨n, _, by rw [HN.out.1]; exact Nat.le_refl _, rfl, rfl, Below.refl _ _, by rw [List.drop_of_length_le (by rw [HN.out.1]; exact Nat.le_refl _), List.drop_of_length_le (by rw [HN.out.2]; exact Nat.le_refl _)]; rfl⟩
  case round =>
    obtain ⟨k, z, hk, rfl, hz, hB, HE⟩ := hrel
    rw [HN.out.1] at hk
    by_cases hk0 : k = 0
    · obtain rfl : z = -1 := by omega
      have e : cmpI (val a) (val b) = 0 := by
        have := HE.out
        rw [hk0] at this
        simp only [List.drop_zero] at this
        rw [this]
        exact cmpI_self _
      have HC := Lib.hid e
      clear e HE hz
      go_wp2
      go_ret
      exact ⟨by rw [HC.out]; rfl, hB⟩
    · obtain ⟨j, rfl⟩ : ∃ j, k = j + 1 := ⟨k - 1, by omega⟩
      obtain rfl : z = (j : Int) := by omega
      clear hz
      obtain ⟨ad, rfl, had, hcell⟩ := RA.out (by rw [HN.out.1]; omega)
      have hx := (hB.cell (p := ad.add j) (by rw [add_block]; exact had)).trans (hcell j (by rw [HN.out.1]; omega))
      clear hcell
      obtain ⟨bd, rfl, hbd, hcell⟩ := RB.out (by rw [HN.out.2]; omega)
      have hy := (hB.cell (p := bd.add j) (by rw [add_block]; exact hbd)).trans (hcell j (by rw [HN.out.2]; omega))
      clear hcell
      by_cases hne : a.getD j 0 = b.getD j 0
      · have HE' : Hid (a.drop j = b.drop j) := by
          show _ = _
          rw [drop_cons a j (by rw [HN.out.1]; omega), drop_cons b j (by rw [HN.out.2]; omega), hne, HE.out]
        rw [hne] at hx
        clear hne HE
        generalize b.getD j 0 = y at *
        go_wp2
        go_region
        go_wp2
        go_region
        go_wp2
        go_roundw
        case rel => exact ⟨j, _, by rw [HN.out.1]; omega, rfl, by go_num, hB.drew.drew, HE'⟩
        case measure => simp [intOf]
      · have e := cmpI_at a b LA.out LB.out HL.out j (by rw [HN.out.1]; omega) HE.out hne
        have HC := Lib.hid e
        clear e HE
        generalize a.getD j 0 = x at *
        generalize b.getD j 0 = y at *
        by_cases hxy : x < y
        · have hq : cmpI x y = -1 := by rw [cmpI, if_pos hxy]
          rw [hq] at HC
          clear hne hq
          go_wp2
          go_region
          go_wp2
          go_ret
          exact ⟨by rw [HC.out]; rfl, hB.drew⟩
        · have hyx : y < x := by omega
          have hq : cmpI x y = 1 := by rw [cmpI, if_neg hxy, if_pos hyx]
          rw [hq] at HC
          clear hne hq
          go_wp2
          go_region
          go_wp2
          go_region
          go_wp2
          go_ret
          exact ⟨by rw [HC.out]; rfl, hB.drew.drew⟩

end Go.Proofs.YtgcobhlplffpjaaGreatDoor
