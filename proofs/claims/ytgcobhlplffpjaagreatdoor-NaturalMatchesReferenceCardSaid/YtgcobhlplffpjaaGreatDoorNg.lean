/- Walks: short division. -/
import Derived.Test.YtgcobhlplffpjaaGreatDoorNf
namespace Go.Proofs.YtgcobhlplffpjaaGreatDoor
open Go.RowKit

theorem or_join (h l : Nat) (hl : l < 4294967296) : h * 4294967296 ||| l = h * 4294967296 + l := by
  have := Nat.shiftLeft_add_eq_or_of_lt (i := 32) (b := l) (by omega) h
  rw [Nat.shiftLeft_eq] at this
  exact this.symm

set_option maxHeartbeats 400000 in
theorem div32_any (w : World) (h l d : Nat) (hh : h < d) (hl : l < 4294967296) (hd : d < 4294967296) :
    Calls Tryz.prog 67 #[.int .u32 h, .int .u32 l, .int .u32 d] w fun e w' => e = .returned (.tuple #[.int .u32 (((h * 4294967296 + l) / d : Nat) : Int), .int .u32 (((h * 4294967296 + l) % d : Nat) : Int)]) ∧ Below w.heap.size w w' := by
  have ho := u64_or_nat (h * 4294967296) l (by omega) (by omega)
  rw [or_join h l hl, Int.natCast_mul] at ho
  have hq : (h * 4294967296 + l) / d < 4294967296 := by rw [Nat.div_lt_iff_lt_mul (by omega)]; have : (h + 1) * 4294967296 ≤ d * 4294967296 := Nat.mul_le_mul_right _ hh; omega
  have hr : (h * 4294967296 + l) % d < d := Nat.mod_lt _ (by omega)
  obtain ⟨z, hz⟩ : ∃ z, h * 4294967296 + l = z := ⟨_, rfl⟩
  have hzb : z ≤ 18446744073709551615 := by omega
  rw [hz] at ho hq hr ⊢
  have ho : bits .or .u64 ((h : Int) * 4294967296) (l : Int) = (z : Int) := ho
  have hd0 : ((d : Int) == 0) = false := by simp only [beq_eq_false_iff_ne, ne_eq]; omega
  have t1 : (z : Int).tdiv (d : Int) = ((z / d : Nat) : Int) := rfl
  have t2 : (z : Int).tmod (d : Int) = ((z % d : Nat) : Int) := rfl
  generalize z / d = q at *
  generalize z % d = r at *
  clear hz
  go_enter Tryz.func67, Tryz.ntmps67
  go_wp2
  go_region
  go_wp2
  go_ret2
  exact ⟨rfl, (Below.refl _ _).drew⟩

theorem formed_fits {w1 w2 : World} {g : Nat} {l : List Nat} {e : Ending} {v : Nat} (h : Formed w1 (some ⟨g, 0, none⟩) l e w2) (ha : Arr w1 g l) (hl : Lim l) (hv : val l = v) (h6 : (limbs v).length ≤ 640) :
    e = .returned (.slice (some ⟨g, 0, none⟩) (limbs v).length (limbs v).length) ∧ RdW w1 w1.heap.size (some ⟨g, 0, none⟩) (limbs v) ∧ w1 = w2 := by
  subst hv
  unfold Formed at h
  rw [trim_limbs hl, if_pos h6] at h
  refine ⟨h.1, ?_, h.2⟩
  rw [← trim_limbs hl, (trim_take l).1]
  exact (ha.rd ha.lt).take _
/-- The quotient's limbs from k on are there. -/
structure ShortAt (g : Nat) (a : List Nat) (d k r : Nat) (wx : World) (m : List Nat) : Prop where
  len : m.length = a.length
  lim : Lim m
  arr : Arr wx g m
  eqn : m.drop k = shortQ d (a.drop k)
  rem : r = val (a.drop k) % d
def ShortRel (w : World) (a : List Nat) (d : Nat) (r i : Value) (wx : World) : Prop :=
  ∃ (k ρ : Nat) (z : Int), k ≤ a.length ∧ i = .int .i64 z ∧ z = (k : Int) - 1 ∧ r = .int .u32 ρ ∧ ρ < d ∧ Below w.heap.size w wx ∧ ∃ m, Hid (ShortAt w.heap.size a d k ρ wx m)
theorem ShortAt.start (w : World) (a : List Nat) (d : Nat) : ShortAt w.heap.size a d a.length 0 (w.alloc (.cells (madeCells #[.int .u32 0] a.length) 30)) (zeros a.length) where
  len := zeros_length _
  lim := Lim.zeros _
  arr := Arr.made w _
  eqn := by rw [List.drop_of_length_le (by rw [zeros_length]; exact Nat.le_refl _), List.drop_of_length_le (Nat.le_refl _)]; rfl
  rem := by rw [List.drop_of_length_le (Nat.le_refl _), val, Nat.zero_mod]
theorem ShortAt.next {g : Nat} {a : List Nat} {d k r : Nat} {wx : World} {m : List Nat} (h : ShortAt g a d (k + 1) r wx m) (hk : k < a.length) (hq : (r * 4294967296 + a.getD k 0) / d < 4294967296) :
    ShortAt g a d k ((r * 4294967296 + a.getD k 0) % d) (wx.setCell ⟨g, k, none⟩ (.int .u32 (((r * 4294967296 + a.getD k 0) / d : Nat) : Int))) (m.set k ((r * 4294967296 + a.getD k 0) / d)) where
  len := by rw [List.length_set]; exact h.len
  lim := h.lim.set _ _ hq
  arr := h.arr.set _ _ (by have := h.len; omega)
  eqn := by
    have hl := h.len
    rw [drop_cons _ k (by rw [List.length_set]; omega), drop_cons a k hk, getD_set _ _ _ _ (by omega), if_pos rfl, List.drop_set_of_lt (by omega), h.eqn, h.rem]
    rfl
  rem := by rw [h.rem, val_drop_mod a k d hk]
theorem ShortAt.old {g : Nat} {a : List Nat} {d k r : Nat} {wx : World} {m : List Nat} (h : ShortAt g a d k r wx m) (j : Nat) (hj : j < a.length) : wx.cell? ⟨g, j, none⟩ = some (.int .u32 ((m.getD j 0 : Nat) : Int)) :=
  h.arr.cell (i := j) (by have := h.len; omega)
theorem ShortAt.below {g : Nat} {a : List Nat} {d k r : Nat} {wx wy : World} {m : List Nat} (h : ShortAt g a d k r wx m) (hb : Below wx.heap.size wx wy) : ShortAt g a d k r wy m :=
  ⟨h.len, h.lim, h.arr.below hb h.arr.lt, h.eqn, h.rem⟩

set_option maxRecDepth 100000 in
set_option maxHeartbeats 1000000 in
theorem short_any (w : World) (A1 : Option Addr) (c1 d : Nat) (a : List Nat) (ra : RdW w w.heap.size A1 a) (la : Lim a) (na : a.length ≤ 640) (hd : d < 4294967296) (hd0 : 0 < d) :
    Calls Tryz.prog 45 #[.slice A1 a.length c1, .int .u32 d] w fun e w' => Below w.heap.size w w' ∧ ∃ A, e = .returned (.tuple #[.slice A (limbs (val a / d)).length (limbs (val a / d)).length, .int .u32 ((val a % d : Nat) : Int)]) ∧ RdW w' w'.heap.size A (limbs (val a / d)) ∧ A = some ⟨w.heap.size, 0, none⟩ := by
  have RA := Lib.hid ra; clear ra
  have LA := Lib.hid la; clear la
  have hmk := make_limbs a.length (by omega)
  go_enter Tryz.func45, Tryz.ntmps45
  go_wp2
  go_loopw [7, 8] (fun r i wx => ShortRel w a d r i wx) (fun _ i _ => (intOf i + 1).toNat)
  case atStart => exact ⟨a.length, 0, _, Nat.le_refl _, rfl, rfl, rfl, hd0, (Below.refl _ _).alloc (Nat.le_refl _) _, _, ShortAt.start w a d⟩
  case round =>
    obtain ⟨k, ρ, z, hk, rfl, hz, rfl, hρ, hB, m, HS⟩ := hrel
    by_cases hk0 : k = 0
    · obtain rfl : z = -1 := by omega
      have hm : m = shortQ d a := by
        have := HS.out.eqn
        rw [hk0] at this
        simpa only [List.drop_zero] using this
      have hr : ρ = val a % d := by
        have := HS.out.rem
        rw [hk0] at this
        simpa only [List.drop_zero] using this
      have hf := form_any _ _ _ a.length _ (HS.out.arr.rd HS.out.arr.lt) (by rw [HS.out.len]; omega) (by rw [HS.out.len]; exact Nat.le_refl _) HS.out.lim
      have hlen : (limbs (val a / d)).length ≤ 640 := by
        rw [← shortQ_val d hd0 a, ← trim_limbs (shortQ_lim d hd0 a LA.out)]
        have := (trim_take (shortQ d a)).2
        rw [shortQ_length] at this
        omega
      have HF := Lib.hid fun e w' h => formed_fits (e := e) (w2 := w') (v := val a / d) h HS.out.arr HS.out.lim (by rw [hm, shortQ_val d hd0]) hlen
      rw [HS.out.len] at hf
      have HG := Lib.hid hf
      have HR := Lib.hid (And.intro hlen hr)
      clear hf hm hr hlen HS hz hk0
      go_wp2_with (go_at_call 44; refine HG.out.mono ?_; intro e w' he; obtain ⟨rfl, hr, rfl⟩ := HF.out e w' he; clear he; replace hr := Lib.hid hr)
      go_ret2
      exact ⟨hB, _, by rw [HR.out.2]; rfl, hr.out, rfl⟩
    · obtain ⟨j, rfl⟩ : ∃ j, k = j + 1 := ⟨k - 1, by omega⟩
      obtain rfl : z = (j : Int) := by omega
      clear hz
      obtain ⟨ad, rfl, had, hcell⟩ := RA.out (by omega)
      have hx := (hB.cell (p := ad.add j) (by rw [add_block]; exact had)).trans (hcell j (by omega))
      have xl := LA.out.getD j
      have hj : j < a.length := by omega
      have hg : w.heap.size ≤ wr.heap.size := hB.size
      have HA := Lib.hid (div32_any wr ρ (a.getD j 0) d hρ xl hd)
      have hq : (ρ * 4294967296 + a.getD j 0) / d < 4294967296 := by rw [Nat.div_lt_iff_lt_mul (by omega)]; have : (ρ + 1) * 4294967296 ≤ d * 4294967296 := Nat.mul_le_mul_right _ hρ; omega
      have hr : (ρ * 4294967296 + a.getD j 0) % d < d := Nat.mod_lt _ (by omega)
      have HN := Lib.hid fun (w1 : World) (h1 : Below wr.heap.size wr w1) => (HS.out.below h1).next hj hq
      have HC := Lib.hid fun (w1 : World) (h1 : Below wr.heap.size wr w1) => And.intro ((HS.out.below h1).arr.frozen j) ((HS.out.below h1).old j hj)
      clear hcell HS
      generalize a.getD j 0 = x at *
      generalize (ρ * 4294967296 + x) / d = q1 at *
      generalize (ρ * 4294967296 + x) % d = q2 at *
      go_wp2_with (go_at_call 67; refine HA.out.mono ?_; rintro e w1 ⟨rfl, hB1⟩; replace HN := Lib.hid (HN.out w1 hB1); obtain ⟨hfz, hcl⟩ := HC.out w1 hB1; clear HC)
      go_roundw
      case rel => exact ⟨j, q2, _, by omega, rfl, by go_num, rfl, hr, (below_on hB hB1).setCell (Nat.le_refl _) _, _, HN⟩
      case measure => simp [intOf]

end Go.Proofs.YtgcobhlplffpjaaGreatDoor
