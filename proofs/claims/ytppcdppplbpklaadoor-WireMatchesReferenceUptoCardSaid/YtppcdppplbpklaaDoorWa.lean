/- Walks: the checksum. -/
import Derived.Test.YtppcdppplbpklaaDoorWp
import Derived.Test.YtppcdppplbpklaaDoorRows
namespace Go.Proofs.YtppcdppplbpklaaDoor
open Go.RowKit

/-- One half of a round: what the walk needs to know of 'c>>4 ^ nibbles[c&15]'. -/
theorem nib_facts (w : World) (HN : Hid (Nibs w)) (c : Nat) (hc : c < 4294967296) : ∃ i n d : Nat, i < 16 ∧ d < 4294967296 ∧ bits .and .u32 (c : Int) 15 = (i : Int) ∧ w.cell? ⟨0, i, none⟩ = some (.int .u32 (n : Int)) ∧
    bits .xor .u32 ((c : Int) / 16) (n : Int) = (d : Int) ∧ Hid (d = nibStep c) := by
  refine ⟨c % 16, nib.getD (c % 16) 0, nibStep c, by omega, nibStep_lt hc, ?_, HN.out _ (by omega), ?_, rfl⟩
  · have h := u32_and_nat c 15 hc (by omega)
    rw [show c &&& 15 = c % 16 from Nat.and_two_pow_sub_one_eq_mod c 4] at h
    exact h
  · have h := u32_xor_nat (c / 16) (nib.getD (c % 16) 0) (by omega) (nib_lt _)
    exact h

set_option maxHeartbeats 400000 in
theorem sum_any (w : World) (B : Nat) (A : Option Addr) (cap : Nat) (l : List UInt8) (hrd : RdB w B A l) (hlen : l.length ≤ maxLen) (hn : Nibs w) :
    Calls Tryd.prog 16 #[.slice A l.length cap] w fun e w' => e = .returned (.int .u32 (crcSum l : Nat)) ∧ w = w' := by
  unfold maxLen at hlen
  have HN := Lib.hid hn; clear hn
  have HR := Lib.hid hrd; clear hrd
  go_enter Tryd.func16, Tryd.ntmps16
  go_wp2
  go_loop [3, 8] (fun c i => ∃ k c' : Nat, k ≤ l.length ∧ i = .int .i64 k ∧ c = .int .u32 (c' : Nat) ∧ c' < 4294967296 ∧ Hid (c' = crcFrom 4294967295 (l.take k))) (fun _ i => l.length - (intOf i).toNat)
  case atStart => exact ⟨0, 4294967295, Nat.zero_le _, rfl, rfl, by omega, rfl⟩
  case round =>
    obtain ⟨k, c, hk, rfl, rfl, hc, HC⟩ := hrel
    by_cases hlt : k < l.length
    · obtain ⟨ad, rfl, -, hcell⟩ := HR.out (by omega)
      have hx := hcell k hlt
      have hxb : (l.getD k 0).toNat < 256 := (l.getD k 0).toNat_lt
      have HT : Hid (byteStep (crcFrom 4294967295 (l.take k)) (l.getD k 0).toNat = crcFrom 4294967295 (l.take (k + 1))) := by
        rw [take_snoc l k hlt, crcFrom_snoc]; rfl
      rw [← HC.out] at HT
      clear hcell HC
      generalize (l.getD k 0).toNat = x at *
      have b0 := u32_xor_nat c x hc (by omega)
      have hb0 : c ^^^ x < 4294967296 := Nat.xor_lt_two_pow (n := 32) hc (by omega)
      have HT' : Hid (nibStep (nibStep (c ^^^ x)) = crcFrom 4294967295 (l.take (k + 1))) := HT
      clear HT
      generalize c ^^^ x = c0 at *
      obtain ⟨i1, n1, c1, hi1, hc1, a1, t1, b1, H1⟩ := nib_facts w HN c0 hb0
      obtain ⟨i2, n2, c2, hi2, hc2, a2, t2, b2, H2⟩ := nib_facts w HN c1 hc1
      rw [← H1.out, ← H2.out] at HT'
      go_wp2
      all_goals
        go_round
        case rel => exact ⟨k + 1, c2, by omega, by go_num, rfl, hc2, HT'⟩
        case measure => simp [intOf]; omega
    · have hkl : k = l.length := by omega
      have HC' : Hid (4294967295 ^^^ c = crcSum l) := by
        show _ = _
        rw [HC.out, hkl, List.take_length]; rfl
      have b0 : bits .xor .u32 IntKind.u32.max (c : Int) = ((4294967295 ^^^ c : Nat) : Int) := u32_xor_nat 4294967295 c (by omega) hc
      rw [HC'.out] at b0
      clear hkl
      go_wp2
      go_ret
      exact ⟨by rw [← b0]; rfl, rfl⟩
end Go.Proofs.YtppcdppplbpklaaDoor
