/- Plain definitions of the wire format's checksum and bytes in memory; no program in sight. -/
import Derived.WalkKit
import Derived.WalkSpells
import Derived.WalkLawsBesides
import Derived.Handy
import Derived.Deep.DeepMust
import Derived.Deep.DeepCutAuto
import Derived.Lib.Hide
namespace Go.Proofs.YtppcdppplbpklaaDoor
open Go.RowKit

theorem ret_bool {a b : Bool} (h : a = true ↔ b = true) : Ending.returned (.bool a) = .returned (.bool b) := by rw [Bool.eq_iff_iff.2 h]
theorem ret_int {k : IntKind} {a b : Int} (h : a = b) : Ending.returned (.int k a) = .returned (.int k b) := by rw [h]

/-- A list of bytes as cells. -/
def bcells (l : List UInt8) : List Value := l.map fun x => Value.int .u8 (x.toNat : Int)

/-- The slice at A reads as the bytes l, all below block B. -/
def RdB (w : World) (B : Nat) (A : Option Addr) (l : List UInt8) : Prop :=
  0 < l.length → ∃ ad, A = some ad ∧ ad.block < B ∧ ∀ j, j < l.length → w.cell? (ad.add j) = some (.int .u8 ((l.getD j 0).toNat : Int))

def nib : List Nat := [0x00000000, 0x1db71064, 0x3b6e20c8, 0x26d930ac, 0x76dc4190, 0x6b6b51f4, 0x4db26158, 0x5005713c,
  0xedb88320, 0xf00f9344, 0xd6d6a3e8, 0xcb61b38c, 0x9b64c2b0, 0x86d3d2d4, 0xa00ae278, 0xbdbdf21c]
def nibStep (c : Nat) : Nat := (c / 16) ^^^ nib.getD (c % 16) 0
def byteStep (c x : Nat) : Nat := nibStep (nibStep (c ^^^ x))
def crcFrom (c : Nat) (l : List UInt8) : Nat := l.foldl (fun c x => byteStep c x.toNat) c
def crcSum (l : List UInt8) : Nat := 4294967295 ^^^ crcFrom 4294967295 l

def Nibs (w : World) : Prop := ∀ i, i < 16 → w.cell? ⟨0, i, none⟩ = some (.int .u32 ((nib.getD i 0 : Nat) : Int))

theorem nib_lt (i : Nat) : nib.getD i 0 < 4294967296 := by
  by_cases h : i < 16
  · revert i; decide
  · have : nib.getD i 0 = 0 := by rw [List.getD_eq_getElem?_getD, List.getElem?_eq_none (by show 16 ≤ i; omega)]; rfl
    omega
theorem nibStep_lt {c : Nat} (h : c < 4294967296) : nibStep c < 4294967296 := by
  unfold nibStep
  exact Nat.xor_lt_two_pow (n := 32) (by omega) (nib_lt _)
theorem byteStep_lt {c x : Nat} (h : c < 4294967296) (hx : x < 256) : byteStep c x < 4294967296 :=
  nibStep_lt (nibStep_lt (Nat.xor_lt_two_pow (n := 32) h (by omega)))
theorem crcFrom_lt {c : Nat} (h : c < 4294967296) (l : List UInt8) : crcFrom c l < 4294967296 := by
  induction l generalizing c with
  | nil => exact h
  | cons x r ih => exact ih (byteStep_lt h x.toNat_lt)
theorem crcFrom_snoc (c : Nat) (l : List UInt8) (x : UInt8) : crcFrom c (l ++ [x]) = byteStep (crcFrom c l) x.toNat := by
  simp [crcFrom, List.foldl_append]
theorem crcFrom_append (c : Nat) (l m : List UInt8) : crcFrom c (l ++ m) = crcFrom (crcFrom c l) m := by
  simp [crcFrom, List.foldl_append]
theorem take_snoc (l : List UInt8) (k : Nat) (h : k < l.length) : l.take (k + 1) = l.take k ++ [l.getD k 0] := by
  rw [List.take_succ_eq_append_getElem h]
  simp [List.getD_eq_getElem?_getD, List.getElem?_eq_getElem h]

theorem ofInt64 (a : Nat) (ha : a < 9223372036854775808) : (BitVec.ofInt 64 (a : Int)).toNat = a := by
  rw [BitVec.ofInt_natCast, BitVec.toNat_ofNat]; exact Nat.mod_eq_of_lt (by omega)
theorem i64_and_nat (a b : Nat) (ha : a < 9223372036854775808) (hb : b < 9223372036854775808) : bits .and .i64 (a : Int) (b : Int) = ((a &&& b : Nat) : Int) := by
  have hx : a &&& b < 2 ^ 63 := Nat.and_lt_two_pow _ (by omega)
  show IntKind.i64.wrap ((BitVec.ofInt 64 (a : Int) &&& BitVec.ofInt 64 (b : Int)).toNat : Int) = _
  rw [BitVec.toNat_and, ofInt64 a ha, ofInt64 b hb, IntKind.wrap_i64]; omega
theorem i64_or_nat (a b : Nat) (ha : a < 9223372036854775808) (hb : b < 9223372036854775808) : bits .or .i64 (a : Int) (b : Int) = ((a ||| b : Nat) : Int) := by
  have hx : a ||| b < 2 ^ 63 := Nat.or_lt_two_pow (by omega) (by omega)
  show IntKind.i64.wrap ((BitVec.ofInt 64 (a : Int) ||| BitVec.ofInt 64 (b : Int)).toNat : Int) = _
  rw [BitVec.toNat_or, ofInt64 a ha, ofInt64 b hb, IntKind.wrap_i64]; omega
/-- a | b where a lies below the power of two of which b is a multiple. -/
theorem or_low (k a b : Nat) (ha : a < 2 ^ k) : a ||| (b * 2 ^ k) = a + b * 2 ^ k := by
  have h := Nat.shiftLeft_add_eq_or_of_lt ha b
  rw [Nat.shiftLeft_eq] at h
  rw [Nat.or_comm]; omega
end Go.Proofs.YtppcdppplbpklaaDoor
