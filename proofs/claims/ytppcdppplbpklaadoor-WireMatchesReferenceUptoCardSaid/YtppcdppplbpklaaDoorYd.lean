/- Walks: the reference's checksum. -/
import Derived.Test.YtppcdppplbpklaaDoorYa
namespace Go.Proofs.YtppcdppplbpklaaDoor
open Go.RowKit

/-- One bit of the checksum. -/
def bitStep (c : Nat) : Nat := if c % 2 = 1 then c / 2 ^^^ 3988292384 else c / 2
def bitsOf : Nat → Nat → Nat
  | 0, c => c
  | k + 1, c => bitStep (bitsOf k c)
theorem bitStep_xor (a b : Nat) : bitStep (a ^^^ b) = bitStep a ^^^ bitStep b := by
  have h1 : (a ^^^ b) / 2 = a / 2 ^^^ b / 2 := by
    have := Nat.shiftRight_xor_distrib (a := a) (b := b) (i := 1)
    simpa [Nat.shiftRight_eq_div_pow] using this
  have h2 : (a ^^^ b) % 2 = a % 2 ^^^ b % 2 := Nat.xor_mod_two_pow (n := 1)
  unfold bitStep
  rw [h1, h2]
  rcases Nat.mod_two_eq_zero_or_one a with ha | ha <;> rcases Nat.mod_two_eq_zero_or_one b with hb | hb <;> simp only [ha, hb]
  · rfl
  · show a / 2 ^^^ b / 2 ^^^ 3988292384 = a / 2 ^^^ (b / 2 ^^^ 3988292384)
    rw [Nat.xor_assoc]
  · show a / 2 ^^^ b / 2 ^^^ 3988292384 = a / 2 ^^^ 3988292384 ^^^ b / 2
    rw [Nat.xor_assoc, Nat.xor_assoc, Nat.xor_comm (b / 2)]
  · show a / 2 ^^^ b / 2 = (a / 2 ^^^ 3988292384) ^^^ (b / 2 ^^^ 3988292384)
    rw [xor_four, Nat.xor_self, Nat.xor_zero]
theorem bitsOf_xor (k a b : Nat) : bitsOf k (a ^^^ b) = bitsOf k a ^^^ bitsOf k b := by
  induction k with
  | zero => rfl
  | succ k ih => simp only [bitsOf, ih, bitStep_xor]
theorem bitStep_mul (d : Nat) : bitStep (2 * d) = d := by
  unfold bitStep
  rw [if_neg (by omega)]
  omega
theorem split16 (c : Nat) : c = 16 * (c / 16) ^^^ c % 16 := by
  have h1 := xor_div16 (16 * (c / 16)) (c % 16)
  have h2 := xor_mod16 (16 * (c / 16)) (c % 16)
  rw [show 16 * (c / 16) / 16 = c / 16 from by omega, show c % 16 / 16 = 0 from by omega, Nat.xor_zero] at h1
  rw [show 16 * (c / 16) % 16 = 0 from by omega, show c % 16 % 16 = c % 16 from by omega, Nat.zero_xor] at h2
  omega
theorem bits4_low (l : Nat) (h : l < 16) : bitsOf 4 l = nib.getD l 0 := by
  have key : ∀ l, l < 16 → bitsOf 4 l = nib.getD l 0 := by decide +kernel
  exact key l h
theorem bits4_mul (d : Nat) : bitsOf 4 (16 * d) = d := by
  show bitStep (bitStep (bitStep (bitStep (16 * d)))) = d
  rw [show 16 * d = 2 * (2 * (2 * (2 * d))) from by omega, bitStep_mul, bitStep_mul, bitStep_mul, bitStep_mul]
theorem bits4 (c : Nat) : bitsOf 4 c = nibStep c := by
  have h := congrArg (bitsOf 4) (split16 c)
  rw [h, bitsOf_xor, bits4_mul, bits4_low _ (Nat.mod_lt _ (by decide))]
  rfl
theorem bits8 (c x : Nat) : bitsOf 8 (c ^^^ x) = byteStep c x := by
  show bitsOf 4 (bitsOf 4 (c ^^^ x)) = _
  rw [bits4, bits4]
  rfl
theorem bitStep_lt {c : Nat} (h : c < 4294967296) : bitStep c < 4294967296 := by
  unfold bitStep
  split
  · exact Nat.xor_lt_two_pow (n := 32) (by omega) (by decide)
  · omega

set_option maxRecDepth 100000 in
set_option maxHeartbeats 1000000 in
theorem rsum_any (w : World) (B : Nat) (A : Option Addr) (cap : Nat) (l : List UInt8) (hrd : RdB w B A l) (hlen : l.length ≤ maxLen) :
    Calls Tryd.prog 18 #[.slice A l.length cap] w fun e w' => e = .returned (.int .u32 (crcSum l : Nat)) ∧ w = w' := by
  unfold maxLen at hlen
  have HR := Lib.hid hrd; clear hrd
  go_enter Tryd.func18, Tryd.ntmps18
  go_wp2
  go_loop [3, 4] (fun c i => ∃ k c' : Nat, k ≤ l.length ∧ i = .int .i64 k ∧ c = .int .u32 (c' : Nat) ∧ c' < 4294967296 ∧ Hid (c' = crcFrom 4294967295 (l.take k))) (fun _ i => l.length - (intOf i).toNat)
  case atStart => exact ⟨0, 4294967295, Nat.zero_le _, rfl, rfl, by omega, rfl⟩
  case round =>
    obtain ⟨k, c, hk, rfl, rfl, hc, HC⟩ := hrel
    by_cases hlt : k < l.length
    · obtain ⟨ad, rfl, -, hcell⟩ := HR.out (by omega)
      have hx := hcell k hlt
      have hxb : (l.getD k 0).toNat < 256 := (l.getD k 0).toNat_lt
      have HT : Hid (byteStep c (l.getD k 0).toNat = crcFrom 4294967295 (l.take (k + 1))) := by
        show _ = _
        rw [take_snoc l k hlt, crcFrom_snoc, HC.out]
      clear hcell HC
      generalize (l.getD k 0).toNat = x at *
      have b0 := u32_xor_nat c x hc (by omega)
      have hb0 : c ^^^ x < 4294967296 := Nat.xor_lt_two_pow (n := 32) hc (by omega)
      have HT' : Hid (bitsOf 8 (c ^^^ x) = crcFrom 4294967295 (l.take (k + 1))) := by
        show _ = _
        rw [bits8]; exact HT.out
      clear HT
      generalize c ^^^ x = c0 at *
      go_wp2
      go_loop [3, 5] (fun c i => ∃ j c' : Nat, j ≤ 8 ∧ i = .int .i64 j ∧ c = .int .u32 (c' : Nat) ∧ c' < 4294967296 ∧ Hid (c' = bitsOf j c0)) (fun _ i => 8 - (intOf i).toNat)
      case atStart => exact ⟨0, c0, Nat.zero_le _, rfl, rfl, hb0, rfl⟩
      case round =>
        obtain ⟨j, c1, hj, rfl, rfl, hc1, HJ⟩ := hrel
        have hc2 := bitStep_lt hc1
        by_cases hj8 : j < 8
        · have hj8I : (j : Int) < 8 := by omega
          by_cases hodd : c1 % 2 = 1
          · have q1 : ((c1 : Int) % 2 == 1) = true := beq_iff_eq.2 (by omega)
            have e1 : bitStep c1 = c1 / 2 ^^^ 3988292384 := by unfold bitStep; rw [if_pos hodd]
            have b1 : bits .xor .u32 ((c1 : Int) / 2) 3988292384 = ((bitStep c1 : Nat) : Int) := by
              have h := u32_xor_nat (c1 / 2) 3988292384 (by omega) (by omega)
              rw [show ((c1 / 2 : Nat) : Int) = (c1 : Int) / 2 from by omega] at h
              rw [e1]; exact h
            have HJ' : Hid (bitStep c1 = bitsOf (j + 1) c0) := by show _ = bitStep _; rw [← HJ.out]
            clear hodd e1
            generalize bitStep c1 = c2 at *
            go_wp2
            exact ⟨⟨j + 1, c2, by omega, by go_num, rfl, hc2, HJ'⟩, by simp [intOf]; omega⟩
          · have q1 : ((c1 : Int) % 2 == 1) = false := beq_eq_false_iff_ne.2 (by omega)
            have e1 : bitStep c1 = c1 / 2 := by unfold bitStep; rw [if_neg hodd]
            have HJ' : Hid (c1 / 2 = bitsOf (j + 1) c0) := by show _ = bitStep _; rw [← HJ.out, e1]
            clear hodd e1
            go_wp2
            exact ⟨⟨j + 1, c1 / 2, by omega, by go_num, by go_num, by omega, HJ'⟩, by simp [intOf]; omega⟩
        · obtain rfl : j = 8 := by omega
          have HK := Lib.hid (HJ.out.trans HT'.out)
          clear HJ hj hj8
          go_wp2
          exact ⟨⟨k + 1, c1, by omega, by go_num, rfl, hc1, HK⟩, by simp [intOf]; omega⟩
    · have hkl : k = l.length := by omega
      have HC' : Hid (c ^^^ 4294967295 = crcSum l) := by
        show _ = _
        rw [HC.out, hkl, List.take_length, Nat.xor_comm]; rfl
      have b0 : bits .xor .u32 (c : Int) 4294967295 = ((c ^^^ 4294967295 : Nat) : Int) := u32_xor_nat c 4294967295 hc (by omega)
      rw [HC'.out] at b0
      clear hkl
      go_wp2
      go_ret
      exact ⟨rfl, rfl⟩
end Go.Proofs.YtppcdppplbpklaaDoor
