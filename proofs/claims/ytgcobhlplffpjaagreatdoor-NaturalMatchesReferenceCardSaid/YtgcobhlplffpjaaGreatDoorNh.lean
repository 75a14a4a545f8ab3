/- Walks: lift, lower. -/
import Derived.Test.YtgcobhlplffpjaaGreatDoorNg
namespace Go.Proofs.YtgcobhlplffpjaaGreatDoor
open Go.RowKit

structure LiftAt (g : Nat) (a : List Nat) (K i : Nat) (wx : World) (m : List Nat) : Prop where
  len : m.length = a.length + 1
  lim : Lim m
  arr : Arr wx g m
  eqn : val m = val (a.take i) * K
  zer : ∀ j, i < j → m.getD j 0 = 0
  low : m.getD i 0 < K
def LiftRel (w : World) (a : List Nat) (K : Nat) (i : Value) (wx : World) : Prop :=
  ∃ k : Nat, k ≤ a.length ∧ i = .int .i64 k ∧ Below w.heap.size w wx ∧ ∃ m, Hid (LiftAt w.heap.size a K k wx m)
theorem zeros_get (n j : Nat) : (zeros n).getD j 0 = 0 := by
  rw [zeros, List.getD_eq_getElem?_getD, List.getElem?_replicate]
  split <;> rfl
theorem LiftAt.start (w : World) (a : List Nat) (K : Nat) (hK : 0 < K) : LiftAt w.heap.size a K 0 (w.alloc (.cells (madeCells #[.int .u32 0] (a.length + 1)) 30)) (zeros (a.length + 1)) where
  len := zeros_length _
  lim := Lim.zeros _
  arr := Arr.made w _
  eqn := by rw [zeros, val_zeros, List.take_zero, val, Nat.zero_mul]
  zer := fun j _ => zeros_get _ _
  low := by rw [zeros_get]; exact hK
theorem LiftAt.next {g : Nat} {a : List Nat} {K M i : Nat} {wx : World} {m : List Nat} (h : LiftAt g a K i wx m) (hi : i < a.length) (hK : K * M = 4294967296) (hK0 : 0 < K) (hx : a.getD i 0 < 4294967296) :
    LiftAt g a K (i + 1) ((wx.setCell ⟨g, i, none⟩ (.int .u32 ((m.getD i 0 + a.getD i 0 * K % 4294967296 : Nat) : Int))).setCell ⟨g, i + 1, none⟩ (.int .u32 ((a.getD i 0 * K / 4294967296 : Nat) : Int)))
      ((m.set i (m.getD i 0 + a.getD i 0 * K % 4294967296)).set (i + 1) (a.getD i 0 * K / 4294967296)) where
  len := by rw [List.length_set, List.length_set]; exact h.len
  lim := (h.lim.set _ _ (lift_or K M (a.getD i 0) (m.getD i 0) hK h.low).2).set _ _ (Nat.lt_of_lt_of_le (lift_carry K _ hx hK0) (by rw [← hK]; exact Nat.le_mul_of_pos_right _ (Nat.pos_of_ne_zero (fun e => by rw [e] at hK; simp at hK))))
  arr := (h.arr.set _ _ (by have := h.len; omega)).set _ _ (by have := h.len; rw [List.length_set]; omega)
  eqn := by
    have hl := h.len
    have h1 := val_set m i (m.getD i 0 + a.getD i 0 * K % 4294967296) (by omega)
    have h2 := val_set (m.set i (m.getD i 0 + a.getD i 0 * K % 4294967296)) (i + 1) (a.getD i 0 * K / 4294967296) (by rw [List.length_set]; omega)
    rw [getD_set _ _ _ _ (by omega), if_neg (by omega), h.zer (i + 1) (by omega), Nat.mul_zero, Nat.add_zero] at h2
    have hle : pw i * m.getD i 0 ≤ val m := by
      have := val_split m i (by omega)
      rw [drop_cons m i (by omega), val, Nat.mul_add] at this
      omega
    have h3 := lift_step (val (a.take i)) (val m - pw i * m.getD i 0) (pw i) (a.getD i 0) (m.getD i 0) K (by rw [← h.eqn]; omega)
    rw [h2, val_take_next, pw_succ]
    omega
  zer := fun j hj => by
    have hl := h.len
    rw [getD_set _ _ _ _ (by rw [List.length_set]; omega), if_neg (by omega), getD_set _ _ _ _ (by omega), if_neg (by omega)]
    exact h.zer j (by omega)
  low := by
    have hl := h.len
    rw [getD_set _ _ _ _ (by rw [List.length_set]; omega), if_pos rfl]
    exact lift_carry K _ hx hK0
theorem LiftAt.old {g : Nat} {a : List Nat} {K k : Nat} {wx : World} {m : List Nat} (h : LiftAt g a K k wx m) (j : Nat) (hj : j ≤ a.length) : wx.cell? ⟨g, j, none⟩ = some (.int .u32 ((m.getD j 0 : Nat) : Int)) :=
  h.arr.cell (i := j) (by have := h.len; omega)
theorem LiftAt.below {g : Nat} {a : List Nat} {K k : Nat} {wx wy : World} {m : List Nat} (h : LiftAt g a K k wx m) (hb : Below wx.heap.size wx wy) : LiftAt g a K k wy m :=
  ⟨h.len, h.lim, h.arr.below hb h.arr.lt, h.eqn, h.zer, h.low⟩

theorem lift_bits (x c s : Nat) (hs : s ≤ 31) (hx : x < 4294967296) (hc : c < 2 ^ s) :
    bits .or .u32 (c : Int) ((x : Int) * 2 ^ s % 4294967296) = ((c + x * 2 ^ s % 4294967296 : Nat) : Int) ∧ IntKind.u64.wrap ((x : Int) * 2 ^ s) / 4294967296 % 4294967296 = ((x * 2 ^ s / 4294967296 : Nat) : Int) := by
  have hK : 2 ^ s * 2 ^ (32 - s) = 4294967296 := by rw [← Nat.pow_add, show s + (32 - s) = 32 by omega]
  have hs2 : 2 ^ s ≤ 2 ^ 31 := Nat.pow_le_pow_right (by omega) hs
  have hl := lift_or (2 ^ s) (2 ^ (32 - s)) x c hK hc
  have e : (x : Int) * 2 ^ s = ((x * 2 ^ s : Nat) : Int) := by rw [Int.natCast_mul, Int.natCast_pow]; rfl
  have hb : x * 2 ^ s ≤ 4294967295 * 2 ^ 31 := Nat.mul_le_mul (by omega) hs2
  have ho : c ||| (x * 2 ^ s % 4294967296) = c + x * 2 ^ s % 4294967296 := by
    rw [hl.1, Nat.or_comm, ← Nat.two_pow_add_eq_or_of_lt hc, Nat.add_comm]
  rw [e]
  refine ⟨?_, ?_⟩
  · have := u32_or_nat c (x * 2 ^ s % 4294967296) (by omega) (Nat.mod_lt _ (by omega))
    rw [ho] at this
    rw [← this]
    rfl
  · rw [IntKind.wrap_u64]
    omega

set_option maxRecDepth 100000 in
set_option maxHeartbeats 1000000 in
theorem lift_any (w : World) (A1 : Option Addr) (c1 s : Nat) (a : List Nat) (ra : RdW w w.heap.size A1 a) (la : Lim a) (na : a.length ≤ 100000) (hs : s ≤ 31) :
    Calls Tryz.prog 88 #[.slice A1 a.length c1, .int .i64 s] w fun e w' => Below w.heap.size w w' ∧ ∃ (g : Nat) (m : List Nat), e = .returned (.slice (some ⟨g, 0, none⟩) (a.length + 1) (a.length + 1)) ∧ w.heap.size ≤ g ∧ Arr w' g m ∧ m.length = a.length + 1 ∧ Lim m ∧ val m = val a * 2 ^ s := by
  have RA := Lib.hid ra; clear ra
  have LA := Lib.hid la; clear la
  have hmk := make_limbs' ((a.length : Int) + 1) (a.length + 1) (by omega) (by omega)
  have hK0 : 0 < 2 ^ s := Nat.two_pow_pos s
  have hK : 2 ^ s * 2 ^ (32 - s) = 4294967296 := by rw [← Nat.pow_add, show s + (32 - s) = 32 by omega]
  have HK := Lib.hid (And.intro hK0 hK)
  clear hK hK0
  go_enter Tryz.func88, Tryz.ntmps88
  go_wp2
  go_loopw [14] (fun i wx => LiftRel w a (2 ^ s) i wx) (fun i _ => a.length - (intOf i).toNat)
  case atStart => exact ⟨0, Nat.zero_le _, rfl, (Below.refl _ _).alloc (Nat.le_refl _) _, _, LiftAt.start w a _ HK.out.1⟩
  case round =>
    obtain ⟨i, hi, rfl, hB, m, HS⟩ := hrel
    by_cases hlt : i < a.length
    · obtain ⟨ad, rfl, had, hcell⟩ := RA.out (by omega)
      have hx := (hB.cell (p := ad.add i) (by rw [add_block]; exact had)).trans (hcell i hlt)
      have xl := LA.out.getD i
      have hfz := HS.out.arr.frozen i
      have hfz1 := HS.out.arr.frozen (i + 1)
      have hc0 := HS.out.old i (by omega)
      have hc1 := HS.out.old (i + 1) (by omega)
      have HE := Lib.hid (lift_bits (a.getD i 0) (m.getD i 0) s hs xl HS.out.low)
      have HN := Lib.hid (HS.out.next hlt HK.out.2 HK.out.1 xl)
      clear hcell HS
      generalize a.getD i 0 = x at *
      generalize m.getD i 0 = c at *
      go_wp2
      go_region
      go_wp2
      rw [HE.out.1, HE.out.2]
      refine ⟨⟨i + 1, by omega, by go_num, ((hB.setCell (Nat.le_refl _) _).setCell (Nat.le_refl _) _).drew, _, HN.out.below (Below.refl _ _).drew⟩, by simp [intOf]; omega⟩
    · have hil : i = a.length := by omega
      have hv := HS.out.eqn
      rw [hil, List.take_length] at hv
      have HV := Lib.hid hv
      clear hv
      go_wp2
      go_ret
      exact ⟨hB, w.heap.size, m, rfl, Nat.le_refl _, HS.out.arr, HS.out.len, HS.out.lim, HV.out⟩

end Go.Proofs.YtgcobhlplffpjaaGreatDoor
