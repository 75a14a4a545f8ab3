/- Walks: the digits of a number appended to bytes. -/
import Derived.Test.YtppcdppplbpklaaDoorWq
import Derived.Test.YtppcdppplbpklaaDoorRows
namespace Go.Proofs.YtppcdppplbpklaaDoor
open Go.RowKit

/-- The digits of a number, to the base 128, the last one below 128 (so many rounds at most). -/
def digs : Nat → Nat → List UInt8
  | 0, n => [UInt8.ofNat n]
  | k + 1, n => if 127 < n then UInt8.ofNat (n % 128 + 128) :: digs k (n / 128) else [UInt8.ofNat n]

theorem digs_length (k n : Nat) : (digs k n).length ≤ k + 1 ∧ 0 < (digs k n).length := by
  induction k generalizing n with
  | zero => simp [digs]
  | succ k ih =>
    unfold digs
    split
    · have := ih (n / 128); simp; omega
    · simp

def DigRel (base l2 : Nat) (lt : List UInt8) (w : World) (row : Option Nat) (b i : Value) (wr : World) : Prop :=
  ∃ (k : Nat) (l' : List UInt8) (m : Nat), i = .int .i64 m ∧ m < 128 ^ (k + 1) ∧ k ≤ 2 ∧ Hid (l' ++ digs k m = lt) ∧ l'.length + k = l2 ∧
    OwnB wr base b l' ∧ w.grownBy wr row ∧ (b.ownBlock = row ∨ ∀ g, b.ownBlock = some g → w.heap.size ≤ g)

set_option maxRecDepth 100000 in
set_option maxHeartbeats 1000000 in
theorem digits_any (base : Nat) (vs : Value) (l : List UInt8) (n : Nat) (w : World) (hown : OwnB w base vs l) (hbase : base ≤ w.heap.size) (hn : n < 2097152) (hl : l.length ≤ 1000) :
    Calls Tryd.prog 24 #[vs, .int .i64 n] w fun e w' => ∃ v' , e = .returned v' ∧ OwnB w' base v' (l ++ digs 2 n) ∧ w.grownBy w' vs.ownBlock := by
  have h0 : DigRel base (l.length + 2) (l ++ digs 2 n) w vs.ownBlock vs (.int .i64 n) w :=
    ⟨2, l, n, rfl, by omega, by omega, rfl, rfl, hown, ⟨rfl, rfl, rfl, Nat.le_refl _, fun _ _ _ => rfl⟩, .inl rfl⟩
  have H0 := Lib.hid h0
  clear h0 hown
  go_enter Tryd.func24, Tryd.ntmps24
  go_wp2
  go_loopw [0, 1] (fun b i wr => DigRel base (l.length + 2) (l ++ digs 2 n) w vs.ownBlock b i wr) (fun _ i _ => (intOf i).toNat)
  case atStart => exact H0.out
  case round =>
    obtain ⟨k, l', m, rfl, hm, hk, HL, hlen, hown, hg, hr⟩ := hrel
    have hm2 : m < 2097152 := by
      match k, hm, hk with
      | 0, hm, _ => omega
      | 1, hm, _ => omega
      | 2, hm, _ => omega
    by_cases hlt : 127 < m
    · match k, hm, hk, HL, hlen with
      | 0, hm, _, _, _ => omega
      | k + 1, hm, hk, HL, hlen =>
        have e1 : bits .and .i64 (m : Int) 127 = ((m % 128 : Nat) : Int) := by
          have := i64_and_nat m 127 (by omega) (by omega); rw [show m &&& 127 = m % 128 from Nat.and_two_pow_sub_one_eq_mod m 7] at this; exact this
        have e2 : bits .or .i64 ((m % 128 : Nat) : Int) 128 = ((m % 128 + 128 : Nat) : Int) := by
          have := i64_or_nat (m % 128) 128 (by omega) (by omega); rw [show (m % 128) ||| 128 = m % 128 + 128 from or_low 7 (m % 128) 1 (by omega)] at this; exact this
        have hx : m % 128 + 128 < 256 := by omega
        have HX := Lib.hid (show Value.int .u8 ((m % 128 + 128 : Nat) : Int) = .int .u8 ((UInt8.ofNat (m % 128 + 128)).toNat : Int) from bcell_ofNat _ hx)
        have HL' := Lib.hid (show (l' ++ [UInt8.ofNat (m % 128 + 128)]) ++ digs k (m / 128) = l ++ digs 2 n by rw [← HL.out, digs, if_pos hlt]; simp)
        have hm' : m / 128 < 128 ^ (k + 1) := by rw [Nat.pow_succ] at hm; omega
        clear HL
        generalize m % 128 = r at *
        generalize hxx : r + 128 = x at *
        clear hxx
        have hsh := shows_new wr #[.int .u8 (x : Int)] 5 1 1 rfl
        have hsz := hg.size
        go_wp2_with (at_builtin; go_must (refine wpList_appb _ rfl (.tmp 9) (.tmp 14) rfl base u0 _ _ rfl (World.ownsRow.alloc hown _) _ _ 1 1 _ rfl hsh (by simp [Value.oneCell']) (by omega) (by simp; omega) ?_); intro v1 w1 hown1 hg1 hat1)
        go_roundw
        case rel =>
          rw [HX.out] at hown1
          refine ⟨k, l' ++ [UInt8.ofNat x], m / 128, by go_num, hm', by omega, HL', by simp; omega, ?_, ?_, ?_⟩
          · exact OwnB.snoc hown1 rfl rfl
          · exact grown_step hg ((World.grownBy_alloc _ _ _).trans hg1) hr
          · rcases hat1 with e | e
            · rw [e]; exact hr
            · right; intro g hgg; rw [e] at hgg; simp at hgg; omega
        case measure => simp [intOf]; omega
    · have HX := Lib.hid (show Value.int .u8 (m : Int) = .int .u8 ((UInt8.ofNat m).toNat : Int) from bcell_ofNat _ (by omega))
      have HL' : Hid (l' ++ [UInt8.ofNat m] = l ++ digs 2 n) := by
        show _ = _
        rw [← HL.out]
        cases k with
        | zero => rfl
        | succ k => rw [digs, if_neg hlt]
      clear HL
      have hsh := shows_new wr #[.int .u8 (m : Int)] 5 1 1 rfl
      have hsz := hg.size
      go_wp2_with (at_builtin; go_must (refine wpList_appb _ rfl (.tmp 16) (.tmp 19) rfl base u0 _ _ rfl (World.ownsRow.alloc hown _) _ _ 1 1 _ rfl hsh (by simp [Value.oneCell']) (by omega) (by simp; omega) ?_); intro v1 w1 hown1 hg1 hat1)
      go_ret
      rw [HX.out] at hown1
      refine ⟨v1, rfl, ?_, grown_step hg ((World.grownBy_alloc _ _ _).trans hg1) hr⟩
      rw [← HL'.out]
      exact OwnB.snoc hown1 rfl rfl
end Go.Proofs.YtppcdppplbpklaaDoor
