/- Walks: the closures of the API. -/
import Derived.Test.YtgcobhlplffpjaaGreatDoorNn
namespace Go.Proofs.YtgcobhlplffpjaaGreatDoor
open Go.RowKit Go.Deep

set_option maxRecDepth 100000 in
set_option maxHeartbeats 1000000 in
theorem add_op (w : World) (p q : Addr) (A1 A2 : Option Addr) (c1 c2 : Nat) (a b : List Nat) (hp : w.cell? p = some (.slice A1 a.length c1)) (hq : w.cell? q = some (.slice A2 b.length c2)) (ra : RdW w w.heap.size A1 a) (rb : RdW w w.heap.size A2 b) (la : Lim a) (lb : Lim b) (na : a.length ≤ 100000) (nb : b.length ≤ 100000) :
    Calls Tryz.prog 40 #[.pointer (some p), .pointer (some q)] w (Gives w (val a + val b)) := by
  have HC := Lib.hid (sum_any w A1 A2 c1 c2 a b ra rb la lb na nb)
  clear ra rb la lb
  go_enter Tryz.func40, Tryz.ntmps40
  go_wp2_with (go_at_call 41; refine HC.out.mono ?_; intro e w' he)
  · go_ret
    exact he
  · exact ⟨rfl, he⟩
  · exact absurd he (Gives.in_time _ _ _)

set_option maxRecDepth 100000 in
set_option maxHeartbeats 1000000 in
theorem mul_op (w : World) (p q : Addr) (A1 A2 : Option Addr) (c1 c2 : Nat) (a b : List Nat) (hp : w.cell? p = some (.slice A1 a.length c1)) (hq : w.cell? q = some (.slice A2 b.length c2)) (ra : RdW w w.heap.size A1 a) (rb : RdW w w.heap.size A2 b) (la : Lim a) (lb : Lim b) (na : a.length ≤ 100000) (nb : b.length ≤ 100000) :
    Calls Tryz.prog 38 #[.pointer (some p), .pointer (some q)] w (Gives w (val a * val b)) := by
  have HC := Lib.hid (product_any w A1 A2 c1 c2 a b ra rb la lb na nb)
  clear ra rb la lb
  go_enter Tryz.func38, Tryz.ntmps38
  go_wp2_with (go_at_call 39; refine HC.out.mono ?_; intro e w' he)
  · go_ret
    exact he
  · exact ⟨rfl, he⟩
  · exact absurd he (Gives.in_time _ _ _)

set_option maxRecDepth 100000 in
set_option maxHeartbeats 1000000 in
theorem sub_op (w : World) (p q : Addr) (A1 A2 : Option Addr) (c1 c2 : Nat) (a b : List Nat) (hp : w.cell? p = some (.slice A1 a.length c1)) (hq : w.cell? q = some (.slice A2 b.length c2)) (ra : RdW w w.heap.size A1 a) (rb : RdW w w.heap.size A2 b) (la : Lim a) (lb : Lim b) (ua : Norm a) (ub : Norm b) (na : a.length ≤ 100000) (nb : b.length ≤ 100000) :
    Calls Tryz.prog 42 #[.pointer (some p), .pointer (some q)] w (GivesDiff w (val a) (val b)) := by
  have HC := Lib.hid (difference_any w A1 A2 c1 c2 a b ra rb la lb ua ub na nb)
  clear ra rb la lb ua ub
  go_enter Tryz.func42, Tryz.ntmps42
  go_wp2_with (go_at_call 43; refine HC.out.mono ?_; intro e w' he)
  · go_ret
    exact he
  · exact ⟨rfl, he⟩
  · unfold GivesDiff at he
    split at he
    · exact absurd he (Gives.in_time _ _ _)
    · obtain ⟨he, -⟩ := he
      cases he

end Go.Proofs.YtgcobhlplffpjaaGreatDoor
