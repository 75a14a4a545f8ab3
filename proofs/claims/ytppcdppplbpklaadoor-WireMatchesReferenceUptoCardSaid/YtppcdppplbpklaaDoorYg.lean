/- Walks: the reference's Number. -/
import Derived.Test.YtppcdppplbpklaaDoorYf
namespace Go.Proofs.YtppcdppplbpklaaDoor
open Go.RowKit

def RnEnd (w : World) (p : Nat) : Option (Nat × Nat) → Ending → World → Prop
  | some (n, j), e, w' => e = .returned (.tuple #[.int .i64 n, .int .i64 ((p + j : Nat) : Int)]) ∧ w = w'
  | none, e, w' => e = .returned (.tuple #[.int .i64 0, .int .i64 (-1)]) ∧ w = w'
def RnInv (l : List UInt8) (p : Nat) (tgt : Option (Nat × Nat)) (n s i : Value) : Prop :=
  ∃ j acc sc : Nat, j ≤ 3 ∧ acc < 2 ^ (7 * j) ∧ n = .int .i64 acc ∧ s = .int .i64 sc ∧ Hid (sc = 2 ^ (7 * j)) ∧ i = .int .i64 ((p + j : Nat) : Int) ∧ Hid (numG (3 - j) j acc (l.drop (p + j)) = tgt)

theorem ret_two {a b a' b' : Int} (h1 : a = a') (h2 : b = b') : Ending.returned (.tuple #[.int .i64 a, .int .i64 b]) = .returned (.tuple #[.int .i64 a', .int .i64 b']) := by rw [h1, h2]

set_option maxRecDepth 100000 in
set_option maxHeartbeats 4000000 in
theorem rnumber_any (w : World) (B : Nat) (A : Option Addr) (c : Nat) (l : List UInt8) (p : Nat) (h : RdB w B A l) (hl : l.length ≤ 1000) (hp : p ≤ 1000) :
    Calls Tryd.prog 37 #[.slice A l.length c, .int .i64 (p : Int)] w fun e w' => RnEnd w p (numG 3 0 0 (l.drop p)) e w' := by
  have H0 : Hid (RnInv l p (numG 3 0 0 (l.drop p)) (.int .i64 0) (.int .i64 1) (.int .i64 (p : Int))) := ⟨0, 0, 1, by omega, by omega, rfl, rfl, rfl, rfl, rfl⟩
  have HR := Lib.hid h
  clear h
  generalize numG 3 0 0 (l.drop p) = tgt at *
  go_enter Tryd.func37, Tryd.ntmps37
  go_wp2
  go_loop [6, 7, 8] (fun n s i => RnInv l p tgt n s i) (fun _ _ i => 2000 - (intOf i).toNat)
  case atStart => exact H0.out
  case round =>
    obtain ⟨j, acc, sc, hj, hacc, rfl, rfl, HSC, rfl, HN⟩ := hrel
    by_cases hj3 : j = 3
    · subst hj3
      have HT : Hid (tgt = none) := HN.out.symm
      clear HN HSC hacc
      go_wp2
      all_goals
        go_ret2
        rw [HT.out]
        exact ⟨rfl, rfl⟩
    · by_cases hlt : p + j < l.length
      · obtain ⟨ad, rfl, -, hcell⟩ := HR.out (by omega)
        have hx := hcell (p + j) hlt
        have hxb : (l.getD (p + j) 0).toNat < 256 := (l.getD (p + j) 0).toNat_lt
        rw [drop_cons l (p + j) hlt] at HN
        clear hcell
        generalize l.getD (p + j) 0 = x8 at *
        obtain rfl | rfl | rfl : j = 0 ∨ j = 1 ∨ j = 2 := by omega
        · obtain rfl : sc = 1 := HSC.out
          obtain ⟨q, hq⟩ : ∃ q, p + 0 = q := ⟨_, rfl⟩
          rw [hq] at hx hlt ⊢
          have hqI : (q : Int) < (l.length : Int) := by omega
          have hq3 : (q : Int) < (p : Int) + 3 := by omega
          have hqp : ¬ (p : Int) < (q : Int) := by omega
          have hacc' : acc < 1 := by simpa using hacc
          clear hacc
          by_cases hlt8 : x8.toNat < 128
          · have e0 : ((x8.toNat : Int) == 0) = true ∨ ((x8.toNat : Int) == 0) = false := by cases h : ((x8.toNat : Int) == 0) <;> simp
            have HT := Lib.hid (show tgt = some (acc + x8.toNat % 128, 1) by rw [← HN.out]; simp [numG, hlt8])
            have HQ := Lib.hid hq
            have hlt8I : (x8.toNat : Int) < 128 := by omega
            clear HN hlt8 hq
            rcases e0 with e0 | e0
            all_goals
              go_wp2
              go_ret2
              rw [HT.out]
              exact ⟨ret_two (by omega) (by have := HQ.out; omega), rfl⟩
          · have HN' := Lib.hid (show numG (3 - (0 + 1)) (0 + 1) (acc + x8.toNat % 128) (List.drop (p + (0 + 1)) l) = tgt by rw [← HN.out]; simp [numG, hlt8])
            have HQ := Lib.hid hq
            have hlt8I : ¬ (x8.toNat : Int) < 128 := by omega
            clear HN hlt8 hq
            go_wp2
            exact ⟨⟨0 + 1, acc + x8.toNat % 128, 128, by omega, by omega, by go_num, by go_num, rfl, by rw [← HQ.out]; go_num, HN'⟩, by simp [intOf]; omega⟩
        · obtain rfl : sc = 128 := HSC.out
          obtain ⟨q, hq⟩ : ∃ q, p + 1 = q := ⟨_, rfl⟩
          rw [hq] at hx hlt ⊢
          have hqI : (q : Int) < (l.length : Int) := by omega
          have hq3 : (q : Int) < (p : Int) + 3 := by omega
          have hqp : (p : Int) < (q : Int) := by omega
          have hacc' : acc < 128 := by simpa using hacc
          clear hacc
          by_cases hlt8 : x8.toNat < 128
          · have hlt8I : (x8.toNat : Int) < 128 := by omega
            by_cases hx0 : x8.toNat = 0
            · have HT := Lib.hid (show tgt = none by rw [← HN.out]; simp [numG, hx0])
              have e0 : ((x8.toNat : Int) == 0) = true := beq_iff_eq.2 (by omega)
              clear HN hlt8 hx0 hq
              go_wp2
              go_ret2
              rw [HT.out]
              exact ⟨rfl, rfl⟩
            · have HT := Lib.hid (show tgt = some (acc + x8.toNat % 128 * 128, 2) by rw [← HN.out]; simp [numG, hlt8, hx0])
              have e0 : ((x8.toNat : Int) == 0) = false := beq_eq_false_iff_ne.2 (by omega)
              have HQ := Lib.hid hq
              clear HN hlt8 hx0 hq
              go_wp2
              go_ret2
              rw [HT.out]
              exact ⟨ret_two (by omega) (by have := HQ.out; omega), rfl⟩
          · have HN' := Lib.hid (show numG (3 - (1 + 1)) (1 + 1) (acc + x8.toNat % 128 * 128) (List.drop (p + (1 + 1)) l) = tgt by rw [← HN.out]; simp [numG, hlt8])
            have HQ := Lib.hid hq
            have hlt8I : ¬ (x8.toNat : Int) < 128 := by omega
            clear HN hlt8 hq
            go_wp2
            exact ⟨⟨1 + 1, acc + x8.toNat % 128 * 128, 16384, by omega, by omega, by go_num, by go_num, rfl, by rw [← HQ.out]; go_num, HN'⟩, by simp [intOf]; omega⟩
        · obtain rfl : sc = 16384 := HSC.out
          obtain ⟨q, hq⟩ : ∃ q, p + 2 = q := ⟨_, rfl⟩
          rw [hq] at hx hlt ⊢
          have hqI : (q : Int) < (l.length : Int) := by omega
          have hq3 : (q : Int) < (p : Int) + 3 := by omega
          have hqp : (p : Int) < (q : Int) := by omega
          have hacc' : acc < 16384 := by simpa using hacc
          clear hacc
          by_cases hlt8 : x8.toNat < 128
          · have hlt8I : (x8.toNat : Int) < 128 := by omega
            by_cases hx0 : x8.toNat = 0
            · have HT := Lib.hid (show tgt = none by rw [← HN.out]; simp [numG, hx0])
              have e0 : ((x8.toNat : Int) == 0) = true := beq_iff_eq.2 (by omega)
              clear HN hlt8 hx0 hq
              go_wp2
              go_ret2
              rw [HT.out]
              exact ⟨rfl, rfl⟩
            · have HT := Lib.hid (show tgt = some (acc + x8.toNat % 128 * 16384, 3) by rw [← HN.out]; simp [numG, hlt8, hx0])
              have e0 : ((x8.toNat : Int) == 0) = false := beq_eq_false_iff_ne.2 (by omega)
              have HQ := Lib.hid hq
              clear HN hlt8 hx0 hq
              go_wp2
              go_ret2
              rw [HT.out]
              exact ⟨ret_two (by omega) (by have := HQ.out; omega), rfl⟩
          · have HN' := Lib.hid (show numG (3 - (2 + 1)) (2 + 1) (acc + x8.toNat % 128 * 16384) (List.drop (p + (2 + 1)) l) = tgt by rw [← HN.out]; simp [numG, hlt8])
            have HQ := Lib.hid hq
            have hlt8I : ¬ (x8.toNat : Int) < 128 := by omega
            clear HN hlt8 hq
            go_wp2
            exact ⟨⟨2 + 1, acc + x8.toNat % 128 * 16384, 2097152, by omega, by omega, by go_num, by go_num, rfl, by rw [← HQ.out]; go_num, HN'⟩, by simp [intOf]; omega⟩
      · have HT := Lib.hid (show tgt = none by
          rw [← HN.out, List.drop_eq_nil_of_le (by omega)]
          obtain ⟨f, hf⟩ : ∃ f, 3 - j = f + 1 := ⟨2 - j, by omega⟩
          rw [hf]; rfl)
        clear HN HSC hacc
        go_wp2
        all_goals
          go_ret2
          rw [HT.out]
          exact ⟨rfl, rfl⟩
end Go.Proofs.YtppcdppplbpklaaDoor
