/- Walks: matrix.abs, matrix.Valid. -/
import Derived.Test.YtipaapplingbnaaDoorCh
namespace Go.Proofs.YtipaapplingbnaaDoor
open Go.RowKit Go.Deep

set_option maxRecDepth 100000 in
set_option maxHeartbeats 1000000 in
theorem abs_any (w : World) (n : Int) (h : n.natAbs ≤ 1000000000) : Calls Tryd.prog 53 #[.int .i64 n] w fun e w' => e = .returned (.int .i64 (n.natAbs : Nat)) ∧ w = w' := by
  by_cases h0 : n < 0
  · go_enter Tryd.func53, Tryd.ntmps53
    go_wp2_with fail
    go_ret
    exact ⟨by rw [show ((n.natAbs : Nat) : Int) = -n by omega]; rfl, rfl⟩
  · go_enter Tryd.func53, Tryd.ntmps53
    go_wp2_with fail
    go_ret
    exact ⟨by rw [show ((n.natAbs : Nat) : Int) = n by omega]; rfl, rfl⟩

/-- The sum of the sizes of the first k entries. -/
def asum (v : Vc) : Nat → Nat
  | 0 => 0
  | k + 1 => asum v k + (v.at k).natAbs
theorem asum_le {v : Vc} (h : v.ok = true) (k : Nat) (hk : k ≤ 6) : asum v k ≤ 48 * k := by
  induction k with
  | zero => simp [asum]
  | succ k ih =>
    have := (Vc.ok_iff v).1 h k (by omega)
    have := ih (by omega)
    simp only [asum]
    omega
def fac (v : Vc) : Nat := if asum v 6 = 0 then 1 else asum v 6
theorem fac_pos (v : Vc) : 1 ≤ fac v := by unfold fac; split <;> omega
def vol (rows : List Vc) : Nat := rows.foldl (fun a v => a * fac v) 1
theorem vol_snoc (rows : List Vc) (v : Vc) : vol (rows ++ [v]) = vol rows * fac v := by simp [vol, List.foldl_append]
theorem vol_fold (rows : List Vc) (a : Nat) : rows.foldl (fun a v => a * fac v) a = a * vol rows := by
  induction rows generalizing a with
  | nil => simp [vol]
  | cons v rows ih =>
    have h1 := ih (a * fac v)
    have h2 := ih (1 * fac v)
    simp only [List.foldl_cons, vol] at *
    rw [h1, h2, Nat.one_mul, Nat.mul_assoc]
theorem vol_append (l m : List Vc) : vol (l ++ m) = vol l * vol m := by
  show (l ++ m).foldl _ 1 = _
  rw [List.foldl_append, vol_fold]
  rfl
theorem vol_pos (l : List Vc) : 1 ≤ vol l := by
  induction l with
  | nil => simp [vol]
  | cons v l ih =>
    have := vol_append [v] l
    rw [List.singleton_append] at this
    rw [this]
    have h1 : vol [v] = fac v := by simp [vol]
    rw [h1]
    exact Nat.mul_pos (fac_pos v) ih
theorem vol_take (l : List Vc) (k : Nat) : vol (l.take k) ≤ vol l := by
  have := vol_append (l.take k) (l.drop k)
  rw [List.take_append_drop] at this
  rw [this]
  exact Nat.le_mul_of_pos_right _ (vol_pos _)
def volOk (rows : List Vc) : Bool := decide (vol rows ≤ 1000000000)

set_option maxRecDepth 100000 in
set_option maxHeartbeats 2000000 in
theorem mvalid_any (w : World) (Ar : Option Addr) (cr : Nat) (rows : List Vc) (rr : RdV w w.heap.size Ar rows) (hr6 : rows.length ≤ 6) (hok : ∀ v ∈ rows, v.ok = true) :
    Calls Tryd.prog 35 #[.slice Ar rows.length cr] w fun e w' => e = .returned (.bool (volOk rows)) ∧ Below w.heap.size w w' := by
  have RR := Lib.hid rr
  have HOK := Lib.hid hok
  clear rr hok
  go_enter Tryd.func35, Tryd.ntmps35
  go_wp2_with fail
  go_loopw [3, 11] (fun s i wx => ∃ k : Nat, k ≤ rows.length ∧ i = .int .i64 k ∧ s = .int .i64 (vol (rows.take k) : Nat) ∧ vol (rows.take k) ≤ 1000000000 ∧ Below w.heap.size w wx) (fun _ i _ => rows.length - (intOf i).toNat)
  case atStart => exact ⟨0, Nat.zero_le _, rfl, rfl, by simp [vol], Below.refl _ _⟩
  case round =>
    obtain ⟨k, hk, rfl, rfl, hvol, hB⟩ := hrel
    by_cases hlt : k < rows.length
    · obtain ⟨ad, rfl, had, hca, -⟩ := (RR.out.up hB).at hlt
      obtain ⟨q0, q1, q2, q3, q4, q5⟩ := hca
      have hv := Lib.hid (HOK.out _ (List.getElem_mem hlt))
      have HVN := Lib.hid (show vol (rows.take (k + 1)) = vol (rows.take k) * fac rows[k] by rw [List.take_succ_eq_append_getElem hlt, vol_snoc])
      have HVT := Lib.hid (vol_take rows (k + 1))
      generalize rows[k] = v at *
      generalize hV : vol (rows.take k) = V at *
      go_wp2_with fail
      go_loopw [6, 16] (fun s j wx => ∃ m : Nat, m ≤ 6 ∧ j = .int .i64 m ∧ s = .int .i64 (asum v m : Nat) ∧ Below w.heap.size w wx) (fun _ j _ => 6 - (intOf j).toNat)
      case atStart => exact ⟨0, by omega, rfl, rfl, hB.alloc hB.size _⟩
      case round =>
        clear hB q0 q1 q2 q3 q4 q5
        obtain ⟨m, hm, rfl, rfl, hB⟩ := hrel
        by_cases hm6 : m < 6
        · have hix := index_vec v m hm6
          have hx := (Vc.ok_iff v).1 hv.out m hm6
          have HA := Lib.hid fun w1 => abs_any w1 (v.at m) (by omega)
          have HS := Lib.hid (show asum v (m + 1) = asum v m + (v.at m).natAbs from rfl)
          have hsb := asum_le hv.out m hm
          have b1 : -48 ≤ v.at m := by omega
          have b2 : v.at m ≤ 48 := by omega
          generalize v.at m = x at *
          generalize hy : x.natAbs = y at *
          clear hy
          go_wp2_with (go_at_call 53; refine (HA.out _).mono ?_; rintro e w2 ⟨rfl, rfl⟩)
          go_roundw
          case rel => exact ⟨m + 1, by omega, by go_num, by rw [HS.out]; go_num, hB⟩
          case measure => simp [intOf]; omega
        · obtain rfl : m = 6 := by omega
          have hsb := asum_le hv.out 6 (by omega)
          have hf : fac v = if asum v 6 = 0 then 1 else asum v 6 := rfl
          have hV1 : 1 ≤ V := by rw [← hV]; exact vol_pos _
          generalize asum v 6 = s at *
          have hmx : max (s : Int) 1 = ((fac v : Nat) : Int) := by rw [hf]; split <;> omega
          have hfb : fac v ≤ 288 := by rw [hf]; split <;> omega
          have hf1 := fac_pos v
          clear hf
          generalize fac v = F at *
          obtain ⟨P, hP⟩ : ∃ P, V * F = P := ⟨_, rfl⟩
          have hPi : (V : Int) * (F : Int) = (P : Int) := by rw [← hP, Int.natCast_mul]
          have hPb : P ≤ 288000000000 := by
            rw [← hP]
            exact Nat.le_trans (Nat.mul_le_mul hvol hfb) (by decide)
          have HV2 := Lib.hid (HVN.out.trans hP)
          clear hP hm6
          by_cases hbig : P ≤ 1000000000
          · go_wp2_with fail
            go_roundw
            case rel => exact ⟨k + 1, by omega, by go_num, by rw [HV2.out], by rw [HV2.out]; exact hbig, hB⟩
            case measure => simp [intOf]; omega
          · have HR : Hid (volOk rows = false) := decide_eq_false (by have := HVT.out; rw [HV2.out] at this; omega)
            go_wp2_with fail
            go_ret
            exact ⟨by rw [HR.out]; rfl, hB⟩
    · obtain rfl : k = rows.length := by omega
      have h8 : decide ((rows.length : Int) ≤ 8) = true := decide_eq_true (by omega)
      have HR : Hid (volOk rows = true) := decide_eq_true (by rw [List.take_length] at hvol; exact hvol)
      go_wp2_with fail
      go_ret
      exact ⟨by rw [HR.out]; rfl, hB⟩

end Go.Proofs.YtipaapplingbnaaDoor
