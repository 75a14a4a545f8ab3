/- Words of Go's library that this seat calls, in the forms that the walks use. -/
import Derived.Test.YtgcobhlplffpjaaGreatDoorNw
import Derived.Test.YtgcobhlplffpjaaGreatDoorSh
import Derived.Lib.BitFns
namespace Go.Proofs.YtgcobhlplffpjaaGreatDoor
open Go.RowKit Go.Deep

theorem len_any (w : World) (x : Nat) (hx : x < 18446744073709551616) : Calls Tryz.prog 64 #[.int .u64 x] w fun e w' => e = .returned (.int .i64 (Lib.bitLen x)) ∧ w = w' :=
  (Tryz.bits_Len (x : Int) w (by omega) (by omega)).mono fun _ _ h => ⟨h.1, h.2.symm⟩
theorem lz_any (w : World) (x : Nat) (hx : x < 4294967296) : Calls Tryz.prog 87 #[.int .u32 x] w fun e w' => e = .returned (.int .i64 ((32 - Lib.bitLen x : Nat) : Int)) ∧ w = w' :=
  (Tryz.bits_LeadingZeros32 (x : Int) w (by omega) (by omega)).mono fun _ _ h => ⟨h.1.trans (by
    have := Lib.bitLen_le x 32 (by omega) hx
    rw [Int.toNat_natCast]
    congr 2
    omega), h.2.symm⟩

end Go.Proofs.YtgcobhlplffpjaaGreatDoor
