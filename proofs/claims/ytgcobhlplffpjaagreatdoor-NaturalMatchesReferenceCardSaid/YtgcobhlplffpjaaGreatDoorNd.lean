/- Walks: cmp.Compare, compare. -/
import Derived.Test.YtgcobhlplffpjaaGreatDoorNc
import Derived.Deep.Quiet
namespace Go.Proofs.YtgcobhlplffpjaaGreatDoor
open Go.RowKit

def cmpI (x y : Nat) : Int := if x < y then -1 else if y < x then 1 else 0

theorem isnan_i64 (w : World) (x : Int) : Calls Tryz.prog 110 #[.int .i64 x] w fun e w' => e = .returned (.bool false) ∧ w = w' := by
  go_enter Tryz.func110, Tryz.ntmps110
  go_wp2
  go_ret
  exact ⟨rfl, rfl⟩
theorem isnan_u32 (w : World) (x : Int) : Calls Tryz.prog 111 #[.int .u32 x] w fun e w' => e = .returned (.bool false) ∧ w = w' := by
  go_enter Tryz.func111, Tryz.ntmps111
  go_wp2
  go_ret
  exact ⟨rfl, rfl⟩
set_option maxHeartbeats 400000 in
theorem cmp_int (w : World) (x y : Nat) : Calls Tryz.prog 84 #[.int .i64 x, .int .i64 y] w fun e w' => e = .returned (.int .i64 (cmpI x y)) ∧ w = w' := by
  go_enter Tryz.func84, Tryz.ntmps84
  by_cases h1 : x < y
  · have e : cmpI x y = -1 := by rw [cmpI, if_pos h1]
    rw [e]
    go_wp2_with (first | (go_at_call 110; refine (isnan_i64 _ _).mono ?_; rintro e w' ⟨rfl, rfl⟩))
    go_ret
    exact ⟨rfl, rfl⟩
  · by_cases h2 : y < x
    · have e : cmpI x y = 1 := by rw [cmpI, if_neg h1, if_pos h2]
      rw [e]
      go_wp2_with (first | (go_at_call 110; refine (isnan_i64 _ _).mono ?_; rintro e w' ⟨rfl, rfl⟩))
      go_ret
      exact ⟨rfl, rfl⟩
    · have e : cmpI x y = 0 := by rw [cmpI, if_neg h1, if_neg h2]
      rw [e]
      go_wp2_with (first | (go_at_call 110; refine (isnan_i64 _ _).mono ?_; rintro e w' ⟨rfl, rfl⟩))
      go_ret
      exact ⟨rfl, rfl⟩
set_option maxHeartbeats 400000 in
theorem cmp_u32 (w : World) (x y : Nat) : Calls Tryz.prog 85 #[.int .u32 x, .int .u32 y] w fun e w' => e = .returned (.int .i64 (cmpI x y)) ∧ w = w' := by
  go_enter Tryz.func85, Tryz.ntmps85
  by_cases h1 : x < y
  · have e : cmpI x y = -1 := by rw [cmpI, if_pos h1]
    rw [e]
    go_wp2_with (first | (go_at_call 111; refine (isnan_u32 _ _).mono ?_; rintro e w' ⟨rfl, rfl⟩))
    go_ret
    exact ⟨rfl, rfl⟩
  · by_cases h2 : y < x
    · have e : cmpI x y = 1 := by rw [cmpI, if_neg h1, if_pos h2]
      rw [e]
      go_wp2_with (first | (go_at_call 111; refine (isnan_u32 _ _).mono ?_; rintro e w' ⟨rfl, rfl⟩))
      go_ret
      exact ⟨rfl, rfl⟩
    · have e : cmpI x y = 0 := by rw [cmpI, if_neg h1, if_neg h2]
      rw [e]
      go_wp2_with (first | (go_at_call 111; refine (isnan_u32 _ _).mono ?_; rintro e w' ⟨rfl, rfl⟩))
      go_ret
      exact ⟨rfl, rfl⟩

section
variable {P : Program} {ops : Array Oper} {C : World → Prop} {Q : Act → Prop} {a : Act} {o : Oper} {rest : List Oper}
theorem quiet_val (hw : Region.wanted o (yielded ops a.tmps) = true) (v : Value) (hC : ∀ w, C w → (execOp a.eval o).run P w = .ok (.value v) w) (h : wpQuiet P ops C Q rest (a.put o.dst v)) : wpQuiet P ops C Q (o :: rest) a := by
  unfold wpQuiet
  rw [if_pos hw]
  exact ⟨v, fun w hw => by unfold Oper.quietAt; rw [hC w hw]; exact ⟨rfl, rfl⟩, h⟩
theorem quiet_call (hw : Region.wanted o (yielded ops a.tmps) = true) (v : Value) (f : FuncId) (args : Array Value) (he : ∀ w, (execOp a.eval o).run P w = .ok (.enter f args) w)
    (hC : ∀ w, C w → Calls P f args w fun e w'' => e = .returned v ∧ C w'') (h : wpQuiet P ops C Q rest (a.put o.dst v)) : wpQuiet P ops C Q (o :: rest) a := by
  unfold wpQuiet
  rw [if_pos hw]
  exact ⟨v, fun w hw => by unfold Oper.quietAt; rw [he w]; exact ⟨rfl, hC w hw⟩, h⟩
end

theorem drop_cons (l : List Nat) (k : Nat) (h : k < l.length) : l.drop k = l.getD k 0 :: l.drop (k + 1) := by
  rw [List.drop_eq_getElem_cons h, List.getD_eq_getElem?_getD, List.getElem?_eq_getElem h]; rfl
theorem cmpI_self (x : Nat) : cmpI x x = 0 := by rw [cmpI, if_neg (by omega), if_neg (by omega)]
theorem cmpI_len (a b : List Nat) (la : Lim a) (lb : Lim b) (na : Norm a) (nb : Norm b) (h : a.length ≠ b.length) : cmpI a.length b.length = cmpI (val a) (val b) := by
  rcases Nat.lt_or_gt_of_ne h with h | h
  · have := val_len_lt a b la nb h
    rw [cmpI, if_pos h, cmpI, if_pos this]
  · have := val_len_lt b a lb na h
    rw [cmpI, if_neg (by omega), if_pos h, cmpI, if_neg (by omega), if_pos this]
theorem cmpI_at (a b : List Nat) (la : Lim a) (lb : Lim b) (hl : a.length = b.length) (k : Nat) (hk : k < a.length) (he : a.drop (k + 1) = b.drop (k + 1)) (hne : a.getD k 0 ≠ b.getD k 0) : cmpI (a.getD k 0) (b.getD k 0) = cmpI (val a) (val b) := by
  rcases Nat.lt_or_gt_of_ne hne with h | h
  · have := val_cmp a b la hl k hk he h
    rw [cmpI, if_pos h, cmpI, if_pos this]
  · have := val_cmp b a lb hl.symm k (by omega) he.symm h
    rw [cmpI, if_neg (by omega), if_pos h, cmpI, if_neg (by omega), if_pos this]
def CmpRel (w : World) (a b : List Nat) (i : Value) (wx : World) : Prop :=
  ∃ (k : Nat) (z : Int), k ≤ a.length ∧ i = .int .i64 z ∧ z = (k : Int) - 1 ∧ Below w.heap.size w wx ∧ Hid (a.drop k = b.drop k)

set_option maxRecDepth 100000 in
set_option maxHeartbeats 1000000 in
theorem compare_any (w : World) (A1 A2 : Option Addr) (c1 c2 : Nat) (a b : List Nat) (ra : RdW w w.heap.size A1 a) (rb : RdW w w.heap.size A2 b) (la : Lim a) (lb : Lim b) (ua : Norm a) (ub : Norm b) (nb : b.length ≤ 100000) :
    Calls Tryz.prog 53 #[.slice A1 a.length c1, .slice A2 b.length c2] w fun e w' => e = .returned (.int .i64 (cmpI (val a) (val b))) ∧ Below w.heap.size w w' := by
  have RA := Lib.hid ra; clear ra
  have RB := Lib.hid rb; clear rb
  have LA := Lib.hid la; clear la
  have LB := Lib.hid lb; clear lb
  by_cases hl : a.length = b.length
  case neg =>
    rw [← cmpI_len a b LA.out LB.out ua ub hl]
    have hc := cmp_int w a.length b.length
    generalize cmpI a.length b.length = r at *
    have HC := Lib.hid hc
    have hl' : ((a.length : Int) == (b.length : Int)) = false := by simp only [beq_eq_false_iff_ne, ne_eq]; omega
    clear hc ua ub
    go_enter Tryz.func53, Tryz.ntmps53
    go_wp2_with (go_at_call 84; refine HC.out.mono ?_; rintro e w' ⟨rfl, rfl⟩)
    go_ret
    exact ⟨rfl, Below.refl _ _⟩
  have HL := Lib.hid hl
  obtain ⟨n, hn⟩ : ∃ n, a.length = n := ⟨_, rfl⟩
  have hn' : b.length = n := by omega
  rw [hn]
  rw [hn'] at nb ⊢
  clear hl ua ub
  have HN := Lib.hid (And.intro hn hn')
  clear hn hn'
  go_enter Tryz.func53, Tryz.ntmps53
  go_wp2
  go_loopw [5] (fun i wx => CmpRel w a b i wx) (fun i _ => (intOf i + 1).toNat)
  case atStart => exact ⟨n, _, by rw [HN.out.1]; exact Nat.le_refl _, rfl, rfl, Below.refl _ _, by rw [List.drop_of_length_le (by rw [HN.out.1]; exact Nat.le_refl _), List.drop_of_length_le (by rw [HN.out.2]; exact Nat.le_refl _)]; rfl⟩
  case round =>
    obtain ⟨k, z, hk, rfl, hz, hB, HE⟩ := hrel
    rw [HN.out.1] at hk
    by_cases hk0 : k = 0
    · obtain rfl : z = -1 := by omega
      have e : cmpI (val a) (val b) = 0 := by
        have := HE.out
        rw [hk0] at this
        simp only [List.drop_zero] at this
        rw [this]
        exact cmpI_self _
      have HC := Lib.hid e
      clear e HE hz
      go_wp2
      go_ret
      exact ⟨by rw [HC.out]; rfl, hB⟩
    · obtain ⟨j, rfl⟩ : ∃ j, k = j + 1 := ⟨k - 1, by omega⟩
      obtain rfl : z = (j : Int) := by omega
      clear hz
      obtain ⟨ad, rfl, had, hcell⟩ := RA.out (by rw [HN.out.1]; omega)
      have hx := (hB.cell (p := ad.add j) (by rw [add_block]; exact had)).trans (hcell j (by rw [HN.out.1]; omega))
      clear hcell
      obtain ⟨bd, rfl, hbd, hcell⟩ := RB.out (by rw [HN.out.2]; omega)
      have hy := (hB.cell (p := bd.add j) (by rw [add_block]; exact hbd)).trans (hcell j (by rw [HN.out.2]; omega))
      clear hcell
      by_cases hne : a.getD j 0 = b.getD j 0
      · have HE' : Hid (a.drop j = b.drop j) := by
          show _ = _
          rw [drop_cons a j (by rw [HN.out.1]; omega), drop_cons b j (by rw [HN.out.2]; omega), hne, HE.out]
        rw [hne] at hx
        clear hne HE
        generalize b.getD j 0 = y at *
        go_wp2
        go_region
        go_wp2
        go_roundw
        case rel => exact ⟨j, _, by rw [HN.out.1]; omega, rfl, by go_num, hB.drew, HE'⟩
        case measure => simp [intOf]
      · have e := cmpI_at a b LA.out LB.out HL.out j (by rw [HN.out.1]; omega) HE.out hne
        have hne' : (((a.getD j 0 : Nat) : Int) == ((b.getD j 0 : Nat) : Int)) = false := by simp only [beq_eq_false_iff_ne, ne_eq]; omega
        have HC := Lib.hid e
        clear hne e HE
        generalize a.getD j 0 = x at *
        generalize b.getD j 0 = y at *
        have HQ := Lib.hid (fun w' => cmp_u32 w' x y)
        generalize cmpI x y = r at *
        go_wp2
        go_region
        go_wp2
        refine wp_region_quiet (C := fun w' => Below w.heap.size w w' ∧ w'.cell? (ad.add j) = some (.int .u32 (x : Int)) ∧ w'.cell? (bd.add j) = some (.int .u32 (y : Int))) (by kernel_rfl) (by kernel_rfl) ⟨hB.drew.drew, hx, hy⟩ ?_
        have hk' : j < n := by omega
        refine quiet_val (by kernel_rfl) (.slice (some ad) n c1) (fun _ _ => by go_simp) ?_
        simp only [Act.put, List.setIfInBounds_toArray, List.set_cons_zero, List.set_cons_succ]
        refine quiet_val (by kernel_rfl) (.int .i64 j) (fun _ _ => by go_simp) ?_
        simp only [Act.put, List.setIfInBounds_toArray, List.set_cons_zero, List.set_cons_succ]
        refine quiet_val (by kernel_rfl) (.pointer (some (ad.add j))) (fun _ _ => by go_simp) ?_
        simp only [Act.put, List.setIfInBounds_toArray, List.set_cons_zero, List.set_cons_succ]
        refine quiet_val (by kernel_rfl) (.int .u32 x) (fun _ h => by have hc := h.2.1; go_simp) ?_
        simp only [Act.put, List.setIfInBounds_toArray, List.set_cons_zero, List.set_cons_succ]
        refine quiet_val (by kernel_rfl) (.slice (some bd) n c2) (fun _ _ => by go_simp) ?_
        simp only [Act.put, List.setIfInBounds_toArray, List.set_cons_zero, List.set_cons_succ]
        refine quiet_val (by kernel_rfl) (.int .i64 j) (fun _ _ => by go_simp) ?_
        simp only [Act.put, List.setIfInBounds_toArray, List.set_cons_zero, List.set_cons_succ]
        refine quiet_val (by kernel_rfl) (.pointer (some (bd.add j))) (fun _ _ => by go_simp) ?_
        simp only [Act.put, List.setIfInBounds_toArray, List.set_cons_zero, List.set_cons_succ]
        refine quiet_val (by kernel_rfl) (.int .u32 y) (fun _ h => by have hc := h.2.2; go_simp) ?_
        simp only [Act.put, List.setIfInBounds_toArray, List.set_cons_zero, List.set_cons_succ]
        refine quiet_call (by kernel_rfl) (.int .i64 r) 85 #[.int .u32 x, .int .u32 y] (fun _ => by go_simp; done) (fun w' hb => (HQ.out w').mono fun e w'' h => ⟨h.1, h.2 ▸ hb⟩) ?_
        simp only [Act.put, List.setIfInBounds_toArray, List.set_cons_zero, List.set_cons_succ]
        refine quiet_val (by kernel_rfl) (.int .i64 r) (fun _ _ => by go_simp) ?_
        simp only [Act.put, List.setIfInBounds_toArray, List.set_cons_zero, List.set_cons_succ]
        refine wpQuiet_nil ?_
        intro w' hb
        go_wp2
        go_ret
        exact ⟨by rw [HC.out]; rfl, hb.1⟩

end Go.Proofs.YtgcobhlplffpjaaGreatDoor
