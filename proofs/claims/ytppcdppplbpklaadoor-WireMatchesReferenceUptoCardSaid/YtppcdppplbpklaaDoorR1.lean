/- More kinds of arguments opened once: a uint, a byte, four bytes. -/
import Derived.Test.YtppcdppplbpklaaDoorR0
namespace Go.Proofs.YtppcdppplbpklaaDoor
open Go.ChangeShapes Go.WideShapes Go.ChangeAt Go.RowKit
set_option maxRecDepth 100000
section
variable {H : Type} {enc : TypeId × Value → H} {w : World} {base : Nat} {sp : Nat → Bool} {held : Bool}

theorem u64_wf {n : Int} (h : (Lit.int .u64 n).wf = true) : 0 ≤ n ∧ n < 18446744073709551616 := by
  have hmn : IntKind.u64.min = 0 := by decide
  have hmx : IntKind.u64.max = 18446744073709551615 := by decide
  have : 0 ≤ n ∧ n ≤ 18446744073709551615 := by simpa [Lit.wf, hmn, hmx] using h
  omega
theorem u8_wf {n : Int} (h : (Lit.int .u8 n).wf = true) : ∃ x : UInt8, n = (x.toNat : Int) := by
  have hmn : IntKind.u8.min = 0 := by decide
  have hmx : IntKind.u8.max = 255 := by decide
  have : 0 ≤ n ∧ n ≤ 255 := by simpa [Lit.wf, hmn, hmx] using h
  refine ⟨UInt8.ofNat n.toNat, ?_⟩
  rw [UInt8.toNat_ofNat']
  omega
theorem open_u64 {r : Reach} {b0 : Nat} {v : Value} {d : DataW H} {ps : List MemPlace} (hval : Value.okWide Tryd.prog w r b0 36 v) (hd : DataW.Trod enc Tryd.prog w base sp held 36 v d ps) :
    ∃ a : Nat, v = .int .u64 (a : Int) ∧ ps = [] ∧ a < 18446744073709551616 := by
  obtain ⟨n, rfl, _, rfl, hw⟩ := open_int Tryd.underlying36 hval hd
  have := u64_wf hw
  obtain ⟨a, rfl⟩ := Int.eq_ofNat_of_zero_le this.1
  exact ⟨a, rfl, rfl, by omega⟩
theorem open_u8 {r : Reach} {b0 : Nat} {v : Value} {d : DataW H} {ps : List MemPlace} (hval : Value.okWide Tryd.prog w r b0 5 v) (hd : DataW.Trod enc Tryd.prog w base sp held 5 v d ps) :
    ∃ x : UInt8, v = .int .u8 (x.toNat : Int) ∧ ps = [] := by
  obtain ⟨n, rfl, _, rfl, hw⟩ := open_int Tryd.underlying5 hval hd
  obtain ⟨x, rfl⟩ := u8_wf hw
  exact ⟨x, rfl, rfl⟩
end
end Go.Proofs.YtppcdppplbpklaaDoor
