/- Walks: the reference's takes, messages and checksum. -/
import Derived.Test.YtppcdppplbpklaaDoorWa
import Derived.Test.YtppcdppplbpklaaDoorWb
import Derived.Test.YtppcdppplbpklaaDoorWd
import Derived.Test.YtppcdppplbpklaaDoorWn
namespace Go.Proofs.YtppcdppplbpklaaDoor
open Go.RowKit

def rtakeB (s c n d : Int) : Bool := decide (1 ≤ s ∧ s ≤ 15 ∧ 0 ≤ c ∧ c ≤ 5 ∧ -1 ≤ n ∧ n ≤ 1 ∧ 0 ≤ d ∧ d ≤ 7 ∧ (n ≠ 0 ∨ c = 0))

set_option maxRecDepth 100000 in
set_option maxHeartbeats 1000000 in
theorem rtake_any (s c n d : Int) (w : World) :
    Calls Tryd.prog 28 #[.agg #[.int .i64 s, .int .i64 c, .int .i64 n, .int .i64 d]] w fun e w' => e = .returned (.bool (rtakeB s c n d)) ∧ Below w.heap.size w w' := by
  go_enter Tryd.func28, Tryd.ntmps28
  go_wp2
  all_goals go_ret
  all_goals exact ⟨ret_bool (by simp [rtakeB]; omega), by go_grown⟩

def rheadB (k f t s b : Int) : Bool := decide (1 ≤ k ∧ k ≤ 5 ∧ 0 ≤ f ∧ f ≤ 7 ∧ 0 ≤ t ∧ t ≤ 7 ∧ f ≠ t ∧ 1 ≤ s ∧ s ≤ 15 ∧ 1 ≤ b ∧ b ≤ 1000000)
def rvalidB (k f t s b v ts tc tn td : Int) : Bool := rheadB k f t s b &&
  (if k = 1 then decide (v = 0) && decide (ts = 0 ∧ tc = 0 ∧ tn = 0 ∧ td = 0)
   else if k = 2 then (decide (v = 0) && decide (ts = 0 ∧ tc = 0 ∧ tn = 0 ∧ td = 0)) || (decide (0 < v) && decide (v < b) && (rtakeB ts tc tn td && decide (ts = s)))
   else decide (v = 0) && (rtakeB ts tc tn td && decide (ts = s)))
theorem rvalid_eq (k f t s b v ts tc tn td : Int) : rvalidB k f t s b v ts tc tn td = validB k f t s b v ts tc tn td := by
  rw [Bool.eq_iff_iff]
  by_cases h1 : k = 1
  · simp [rvalidB, validB, rheadB, headB, h1]; omega
  · by_cases h2 : k = 2
    · by_cases hv : 0 < v
      · simp [rvalidB, validB, rheadB, headB, rtakeB, takeB, h2, hv]; omega
      · simp [rvalidB, validB, rheadB, headB, rtakeB, h2, hv]; omega
    · by_cases h3 : k = 3 ∨ k = 4 ∨ k = 5
      · simp [rvalidB, validB, rheadB, headB, rtakeB, takeB, h1, h2, h3]; omega
      · simp [rvalidB, validB, rheadB, headB, rtakeB, h1, h2, h3]; omega

end Go.Proofs.YtppcdppplbpklaaDoor
