/- Walks: comma.determinant (the call), bits. -/
import Derived.Test.YtipaapplingbnaaDoorCr
namespace Go.Proofs.YtipaapplingbnaaDoor
open Go.RowKit Go.Deep

set_option maxRecDepth 100000 in
set_option maxHeartbeats 2000000 in
theorem det_any (w : World) (Ar : Option Addr) (cr m : Nat) (rows : List Vc) (rr : RdV w w.heap.size Ar rows) (hr6 : rows.length ≤ 6) (hok : ∀ v ∈ rows, v.ok = true) (hm : m < 64) (hl : (cols m).length = rows.length) :
    Calls Tryd.prog 22 #[.slice Ar rows.length cr, .int .i64 m] w fun e w' => e = .returned (.int .i64 (Dt (rows.map Vc.at) (cols m))) ∧ Below w.heap.size w w' := by
  have hX := fun (w1 : World) (hE : EnvD w1 (w.heap.size + 2) w.heap.size (w.heap.size + 1) Ar cr rows) (hB : w.heap.size + 2 ≤ w1.heap.size) =>
    expandD_any rows.length w1 _ _ _ Ar cr rows 0 m hE hB hr6 hok hm (by omega) (by omega) (by omega)
  have e0 : rowsD rows 0 = rows.map Vc.at := by unfold rowsD; rw [List.drop_zero]
  rw [e0] at hX
  have HX := Lib.hid hX
  have HBL : Hid (Below w.heap.size w ((w.alloc (.cells #[.slice Ar rows.length cr] 38)).alloc (.cells #[.func (.func 33) #[] #[.pointer (some ⟨w.heap.size, 0, none⟩), .pointer (some ⟨w.heap.size + 1, 0, none⟩)]] 79))) := ((Below.refl w.heap.size w).alloc (Nat.le_refl _) _).alloc (by simp) _
  have HENV : Hid (EnvD ((w.alloc (.cells #[.slice Ar rows.length cr] 38)).alloc (.cells #[.func (.func 33) #[] #[.pointer (some ⟨w.heap.size, 0, none⟩), .pointer (some ⟨w.heap.size + 1, 0, none⟩)]] 79)) (w.heap.size + 2) w.heap.size (w.heap.size + 1) Ar cr rows) :=
    ⟨by go_simp, by go_simp, (rr.below HBL.out).wider (by omega), by omega, by omega⟩
  have hst := store_func
  clear hX e0 rr hok
  generalize Dt (rows.map Vc.at) (cols m) = D at *
  go_enter Tryd.func22, Tryd.ntmps22
  go_wp2_with (go_at_call 33; refine (HX.out _ HENV.out (by simp)).mono ?_; rintro e w2 ⟨rfl, b2⟩; replace b2 := Lib.hid b2)
  go_ret
  exact ⟨rfl, below_on HBL.out b2.out⟩

theorem shr_one (x : Nat) (w : World) : (binOp .shr 3 (.int .i64 (x : Int)) (.int .u64 1)).run Tryd.prog w = .ok (.int .i64 ((x / 2 : Nat) : Int)) w := by
  have hsh : (x : Int).fdiv (2 ^ min (Int.toNat 1) IntKind.i64.bits) = ((x / 2 : Nat) : Int) := by
    rw [show min (Int.toNat 1) IntKind.i64.bits = 1 from rfl, Int.fdiv_eq_ediv_of_nonneg _ (by decide)]
    omega
  show (Op.shift .shr .i64 (x : Int) .u64 1).run Tryd.prog w = _
  unfold Op.shift
  rw [if_neg (by decide)]
  show (pure (Value.int .i64 ((x : Int).fdiv (2 ^ min (Int.toNat 1) IntKind.i64.bits))) : Sem Value).run Tryd.prog w = _
  rw [hsh]
  rfl
theorem bits_facts : ∀ m : Fin 64, ∀ k : Fin 7, (m.val / 2 ^ k.val = 0 → (colsTo m.val k.val).length = (cols m.val).length) ∧ (m.val / 2 ^ k.val ≠ 0 → k.val < 6 ∧ (colsTo m.val k.val).length + m.val / 2 ^ k.val % 2 = (colsTo m.val (k.val + 1)).length ∧ bits .and .i64 ((m.val / 2 ^ k.val : Nat) : Int) 1 = ((m.val / 2 ^ k.val % 2 : Nat) : Int) ∧ m.val / 2 ^ k.val / 2 = m.val / 2 ^ (k.val + 1)) := by decide +kernel
set_option maxRecDepth 100000 in
set_option maxHeartbeats 2000000 in
theorem bits_any (w : World) (m : Nat) (hm : m < 64) : Calls Tryd.prog 21 #[.int .i64 m] w fun e w' => e = .returned (.int .i64 ((cols m).length : Nat)) ∧ w = w' := by
  go_enter Tryd.func21, Tryd.ntmps21
  go_wp2_with fail
  go_loop [0, 3] (fun x n => ∃ k : Nat, k ≤ 6 ∧ x = .int .i64 (m / 2 ^ k : Nat) ∧ n = .int .i64 ((colsTo m k).length : Nat)) (fun x _ => (intOf x).toNat)
  case atStart => exact ⟨0, by omega, by simp, rfl⟩
  case round =>
    obtain ⟨k, hk, rfl, rfl⟩ := hrel
    have hf := bits_facts ⟨m, hm⟩ ⟨k, by omega⟩
    simp only at hf
    have hl6 : (colsTo m k).length ≤ 6 := by
      have := List.length_filter_le (fun c => m.testBit c) (List.range k)
      rw [List.length_range] at this
      unfold colsTo
      omega
    by_cases h0 : m / 2 ^ k = 0
    · have HE := Lib.hid (hf.1 h0)
      rw [h0]
      clear hf h0
      go_wp2_with fail
      go_ret
      exact ⟨by rw [← HE.out]; rfl, rfl⟩
    · obtain ⟨f1, f2, f3, f4⟩ := hf.2 h0
      have HF2 := Lib.hid f2
      have hx : m / 2 ^ k ≤ m := Nat.div_le_self _ _
      have HF4 := Lib.hid f4
      clear hf f2 f4
      generalize m / 2 ^ k = x at *
      have hy2 : x % 2 < 2 := Nat.mod_lt _ (by omega)
      generalize hy : x % 2 = y at *
      clear hy
      generalize (colsTo m k).length = n at *
      have hsh := shr_one x
      go_wp2_with fail
      refine ⟨⟨k + 1, by omega, by rw [← HF4.out]; go_num, by rw [← HF2.out]; go_num⟩, by simp [intOf]; omega⟩

end Go.Proofs.YtipaapplingbnaaDoor
