/- Walks: form, Valid, Make; the additions of one limb. -/
import Derived.Test.YtgcobhlplffpjaaGreatDoorNa
namespace Go.Proofs.YtgcobhlplffpjaaGreatDoor
open Go.RowKit

/-- The panic of the package: a failure with its error. -/
def failed (k : Int) : Ending := .panicked [{ v := .iface 72 (.agg #[.int .i64 k]), recovered := false }]

/-- Limbs that form has let pass: the same memory, fewer of them. -/
def Formed (w : World) (A : Option Addr) (l : List Nat) (e : Ending) (w' : World) : Prop :=
  if (trim l).length ≤ 640 then e = .returned (.slice A (trim l).length (trim l).length) ∧ w = w' else e = failed 2 ∧ w = w'

theorem trim_of (l : List Nat) (n : Nat) (h0 : ∀ j, n ≤ j → l.getD j 0 = 0) (h1 : 0 < n → l.getD (n - 1) 0 ≠ 0) : (trim l).length = n := by
  rcases Nat.lt_trichotomy (trim l).length n with h | h | h
  · exact absurd (trim_zero l (n - 1) (by omega)) (h1 (by omega))
  · exact h
  · have hne : trim l ≠ [] := fun e => by rw [e] at h; simp at h
    exact absurd (h0 _ (by omega)) (trim_last l hne)

set_option maxHeartbeats 400000 in
theorem form_any (w : World) (B : Nat) (A : Option Addr) (cap : Nat) (l : List Nat) (hrd : RdW w B A l) (hlen : l.length ≤ 1000000) (hcap : l.length ≤ cap) (hlim : Lim l) :
    Calls Tryz.prog 44 #[.slice A l.length cap] w (Formed w A l) := by
  have HR := Lib.hid hrd; clear hrd
  have HLm := Lib.hid hlim; clear hlim
  go_enter Tryz.func44, Tryz.ntmps44
  go_wp2
  go_loop [3] (fun n => ∃ k : Nat, k ≤ l.length ∧ n = .int .i64 k ∧ Hid (∀ j, k ≤ j → l.getD j 0 = 0)) (fun n => (intOf n).toNat)
  case atStart => exact ⟨l.length, Nat.le_refl _, rfl, fun j hj => by rw [List.getD_eq_getElem?_getD, List.getElem?_eq_none hj]; rfl⟩
  case round =>
    obtain ⟨k, hk, rfl, HZ⟩ := hrel
    by_cases hk0 : k = 0
    · subst hk0
      have HT := Lib.hid (trim_of l 0 HZ.out (by omega))
      clear HZ
      go_wp2
      go_ret
      unfold Formed
      rw [HT.out]
      exact ⟨rfl, rfl⟩
    · obtain ⟨ad, rfl, -, hcell⟩ := HR.out (by omega)
      have hx := hcell (k - 1) (by omega)
      have HX := Lib.hid (HLm.out.getD (k - 1))
      clear hcell
      by_cases hx0 : l.getD (k - 1) 0 = 0
      · rw [hx0] at hx
        have HZ' : Hid (∀ j, k - 1 ≤ j → l.getD j 0 = 0) := fun j hj => by
          rcases Nat.lt_or_ge j k with h | h
          · rw [show j = k - 1 by omega]; exact hx0
          · exact HZ.out j h
        clear hx0
        go_wp2
        refine ⟨⟨k - 1, by omega, by go_num, HZ'⟩, by simp [intOf]; omega⟩
      · have HT := Lib.hid (trim_of l k HZ.out (fun _ => hx0))
        generalize l.getD (k - 1) 0 = x at *
        have hx1 : ((x : Int) == 0) = false := by simpa using hx0
        by_cases h6 : k ≤ 640
        · go_wp2
          go_ret
          unfold Formed
          rw [HT.out, if_pos h6]
          exact ⟨rfl, rfl⟩
        · go_wp2
          refine ⟨rfl, ?_⟩
          unfold Formed
          rw [HT.out, if_neg h6]
          exact ⟨rfl, rfl⟩

set_option maxHeartbeats 400000 in
theorem valid_any (w : World) (B : Nat) (A : Option Addr) (cap : Nat) (l : List Nat) (hrd : RdW w B A l) (hlen : l.length ≤ 9223372036854775807) :
    Calls Tryz.prog 13 #[.slice A l.length cap] w fun e w' => e = .returned (.bool (isNat l)) ∧ w = w' := by
  have HR := Lib.hid hrd; clear hrd
  go_enter Tryz.func13, Tryz.ntmps13
  by_cases h6 : l.length ≤ 640
  · by_cases h0 : l.length = 0
    · have e : isNat l = true := by simp [isNat, h0]
      rw [e]
      clear HR e
      rw [h0]
      go_wp2
      go_ret
      exact ⟨rfl, rfl⟩
    · obtain ⟨ad, rfl, -, hcell⟩ := HR.out (by omega)
      have hx := hcell (l.length - 1) (by omega)
      have e : isNat l = !decide (l.getD (l.length - 1) 0 = 0) := by simp [isNat, h0, h6]
      have hl0 : ((l.length : Int) == 0) = false := by simpa using h0
      rw [e]
      clear hcell e
      generalize l.getD (l.length - 1) 0 = x at *
      by_cases hx0 : x = 0
      · subst hx0
        go_wp2
        go_ret
        exact ⟨rfl, rfl⟩
      · have hx1 : ((x : Int) == 0) = false := by simpa using hx0
        go_wp2
        go_ret
        exact ⟨by simp [hx0], rfl⟩
  · have e : isNat l = false := by simp [isNat, h6]
    rw [e]
    go_wp2
    go_ret
    exact ⟨rfl, rfl⟩

set_option maxHeartbeats 400000 in
theorem add32_any (w : World) (x y c : Nat) (hx : x < 4294967296) (hy : y < 4294967296) (hc : c ≤ 1) :
    Calls Tryz.prog 65 #[.int .u32 x, .int .u32 y, .int .u32 c] w fun e w' => e = .returned (.tuple #[.int .u32 (((x + y + c) % 4294967296 : Nat) : Int), .int .u32 (((x + y + c) / 4294967296 : Nat) : Int)]) ∧ w = w' := by
  go_enter Tryz.func65, Tryz.ntmps65
  go_wp2
  go_ret2
  exact ⟨by congr 3; all_goals (first | (congr 1; go_num; done) | skip), rfl⟩

theorem sub_bits (x y b d : Nat) (hx : x < 4294967296) (hy : y < 4294967296) (hb : b ≤ 1) (hd : d < 4294967296) (he : ((x : Int) - y - b) % 4294967296 = (d : Int)) :
    bits .or .u32 (bits .and .u32 (bits .xor .u32 IntKind.u32.max (x : Int)) (y : Int)) (bits .and .u32 (bits .xor .u32 IntKind.u32.max (bits .xor .u32 (x : Int) (y : Int))) (d : Int)) / 2147483648 = ((if x < y + b then 1 else 0 : Nat) : Int) := by
  have hm : IntKind.u32.max = ((4294967295 : Nat) : Int) := rfl
  have hxy : x ^^^ y < 4294967296 := Nat.xor_lt_two_pow (n := 32) hx hy
  have h1 : 4294967295 ^^^ x < 4294967296 := Nat.xor_lt_two_pow (n := 32) (by omega) hx
  have h2 : 4294967295 ^^^ (x ^^^ y) < 4294967296 := Nat.xor_lt_two_pow (n := 32) (by omega) hxy
  have h3 : (4294967295 ^^^ x) &&& y < 4294967296 := Nat.and_lt_two_pow (n := 32) _ hy
  have h4 : (4294967295 ^^^ (x ^^^ y)) &&& d < 4294967296 := Nat.and_lt_two_pow (n := 32) _ hd
  rw [hm, u32_xor_nat _ _ (by omega) hx, u32_xor_nat _ _ hx hy, u32_xor_nat _ _ (by omega) hxy, u32_and_nat _ _ h1 hy, u32_and_nat _ _ h2 hd, u32_or_nat _ _ h3 h4]
  have := borrow_bits x y b d hx hy hb hd (by omega)
  rw [← this]
  omega

set_option maxHeartbeats 400000 in
theorem sub32_any (w : World) (x y b : Nat) (hx : x < 4294967296) (hy : y < 4294967296) (hb : b ≤ 1) :
    Calls Tryz.prog 66 #[.int .u32 x, .int .u32 y, .int .u32 b] w fun e w' => ∃ d c : Nat, e = .returned (.tuple #[.int .u32 (d : Int), .int .u32 (c : Int)]) ∧ d < 4294967296 ∧ c ≤ 1 ∧ x + 4294967296 * c = y + b + d ∧ w = w' := by
  obtain ⟨d, he, hd⟩ : ∃ d : Nat, ((x : Int) - y - b) % 4294967296 = (d : Int) ∧ d < 4294967296 := ⟨(((x : Int) - y - b) % 4294967296).toNat, by omega, by omega⟩
  have hc := sub_bits x y b d hx hy hb hd he
  have ht : x + 4294967296 * (if x < y + b then 1 else 0) = y + b + d := by split <;> omega
  have hc1 : (if x < y + b then 1 else 0) ≤ 1 := by split <;> omega
  generalize (if x < y + b then 1 else 0) = c at *
  go_enter Tryz.func66, Tryz.ntmps66
  go_wp2
  go_ret2
  exact ⟨d, c, rfl, hd, hc1, ht, rfl⟩

end Go.Proofs.YtgcobhlplffpjaaGreatDoor
