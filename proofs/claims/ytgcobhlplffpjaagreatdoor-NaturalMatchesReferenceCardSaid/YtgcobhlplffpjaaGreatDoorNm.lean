/- Walks: Cmp, Make. -/
import Derived.Test.YtgcobhlplffpjaaGreatDoorNl
namespace Go.Proofs.YtgcobhlplffpjaaGreatDoor
open Go.RowKit Go.Deep

theorem nat_lim_norm {l : List Nat} (h : isNat l = true) : Norm l := (isNat_norm h).2

set_option maxRecDepth 100000 in
set_option maxHeartbeats 1000000 in
theorem cmp_any (w : World) (A1 A2 : Option Addr) (c1 c2 : Nat) (a b : List Nat) (ra : RdW w w.heap.size A1 a) (rb : RdW w w.heap.size A2 b) (la : Lim a) (lb : Lim b) (na : isNat a = true) (nb : isNat b = true) :
    Calls Tryz.prog 23 #[.slice A1 a.length c1, .slice A2 b.length c2] w fun e w' => e = .returned (.tuple #[.int .i64 (cmpI (val a) (val b)), .int .i64 0]) ∧ Below w.heap.size w w' := by
  have la6 := (isNat_norm na).1
  have lb6 := (isNat_norm nb).1
  have HV := Lib.hid fun (A : Option Addr) (c : Nat) (l : List Nat) (h : Hid (RdW w w.heap.size A l ∧ l.length ≤ 640 ∧ isNat l = true)) => (valid_any w _ A c l h.out.1 (by have := h.out.2.1; omega)).mono (fun e w' (k : e = .returned (.bool (isNat l)) ∧ w = w') => (show e = .returned (.bool true) ∧ w = w' by rw [← h.out.2.2]; exact k))
  have HA : Hid (RdW w w.heap.size A1 a ∧ a.length ≤ 640 ∧ isNat a = true) := ⟨ra, la6, na⟩
  have HB : Hid (RdW w w.heap.size A2 b ∧ b.length ≤ 640 ∧ isNat b = true) := ⟨rb, lb6, nb⟩
  have HC := Lib.hid (compare_any w A1 A2 c1 c2 a b ra rb la lb (nat_lim_norm na) (nat_lim_norm nb) (by omega))
  generalize cmpI (val a) (val b) = r at *
  clear ra rb la lb na nb
  go_enter Tryz.func23, Tryz.ntmps23
  go_wp2_with (first
    | (go_at_call 13; refine (HV.out _ _ _ (by assumption)).mono ?_; rintro e w' ⟨rfl, rfl⟩)
    | (go_at_call 53; refine HC.out.mono ?_; rintro e w' ⟨rfl, hB⟩))
  go_ret2
  exact ⟨rfl, hB⟩

theorem arr_two (w : World) (x y : Nat) : Arr (w.alloc (.cells #[.int .u32 (x : Int), .int .u32 (y : Int)] 30)) w.heap.size [x, y] := by
  refine World.rowIs_alloc w #[.int .u32 (x : Int), .int .u32 (y : Int)] 30 _ (fun i hi => ?_)
  have hi : i < 2 := hi
  rcases (show i = 0 ∨ i = 1 by omega) with rfl | rfl <;> rfl

set_option maxRecDepth 100000 in
set_option maxHeartbeats 1000000 in
theorem make_any (w : World) (n : Nat) (hn : n < 18446744073709551616) :
    Calls Tryz.prog 20 #[.int .u64 n] w (Gives w n) := by
  have lm : Lim [n % 4294967296, n / 4294967296] := (Lim.nil.cons (by omega)).cons (by omega)
  have hv : val [n % 4294967296, n / 4294967296] = n := by simp only [val]; omega
  have ha := arr_two w (n % 4294967296) (n / 4294967296)
  have hf := form_any (w.alloc (.cells #[.int .u32 ((n % 4294967296 : Nat) : Int), .int .u32 ((n / 4294967296 : Nat) : Int)] 30)) _ _ 2 _ (ha.rd ha.lt) (by simp) (by simp) lm
  have HF := Lib.hid fun e w' h => formed_gives (e := e) (w2 := w') h ((Below.refl w.heap.size w).alloc (Nat.le_refl _) _) ha lm hv
  have HG := Lib.hid hf
  have h1 : (n : Int) % 4294967296 = ((n % 4294967296 : Nat) : Int) := by omega
  have h2 : (n : Int) / 4294967296 = ((n / 4294967296 : Nat) : Int) := by omega
  have hq : n / 4294967296 < 4294967296 := by omega
  clear hf ha lm hv
  generalize n % 4294967296 = q1 at *
  generalize n / 4294967296 = q2 at *
  go_enter Tryz.func20, Tryz.ntmps20
  go_wp2_with (go_at_call 44; refine HG.out.mono ?_; intro e w' he; replace he := HF.out e w' he)
  · go_ret
    exact he
  · exact ⟨rfl, he⟩
  · exact absurd he (Gives.in_time _ _ _)

end Go.Proofs.YtgcobhlplffpjaaGreatDoor
