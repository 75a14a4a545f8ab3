/- Walks: the reference's Valid, where the head is not valid. -/
import Derived.Test.YtppcdppplbpklaaDoorYa
namespace Go.Proofs.YtppcdppplbpklaaDoor
open Go.RowKit

set_option maxRecDepth 100000 in
set_option maxHeartbeats 2000000 in
theorem rvalid_bad (k f t s b v ts tc tn td : Int) (w : World) (hh : rheadB k f t s b = false) :
    Calls Tryd.prog 17 #[.agg #[.int .i64 k, .int .i64 f, .int .i64 t, .int .i64 s, .int .i64 b, .int .i64 v, .int .i64 ts, .int .i64 tc, .int .i64 tn, .int .i64 td]] w
      fun e w' => e = .returned (.bool (rvalidB k f t s b v ts tc tn td)) ∧ Below w.heap.size w w' := by
  have HV := Lib.hid (show rvalidB k f t s b v ts tc tn td = false by simp only [rvalidB, hh, Bool.false_and])
  have hd : ¬ (1 ≤ k ∧ k ≤ 5 ∧ 0 ≤ f ∧ f ≤ 7 ∧ 0 ≤ t ∧ t ≤ 7 ∧ f ≠ t ∧ 1 ≤ s ∧ s ≤ 15 ∧ 1 ≤ b ∧ b ≤ 1000000) := by simpa [rheadB] using hh
  clear hh
  by_cases h0 : k < 1
  · clear hd
    go_enter Tryd.func17, Tryd.ntmps17
    go_wp2_with fail
    go_ret
    exact ⟨by rw [HV.out] <;> rfl, by go_grown⟩
  by_cases h1 : 5 < k
  · clear hd
    go_enter Tryd.func17, Tryd.ntmps17
    go_wp2_with fail
    go_ret
    exact ⟨by rw [HV.out] <;> rfl, by go_grown⟩
  by_cases h2 : f < 0
  · clear hd
    go_enter Tryd.func17, Tryd.ntmps17
    go_wp2_with fail
    go_ret
    exact ⟨by rw [HV.out] <;> rfl, by go_grown⟩
  by_cases h3 : 7 < f
  · clear hd
    go_enter Tryd.func17, Tryd.ntmps17
    go_wp2_with fail
    go_ret
    exact ⟨by rw [HV.out] <;> rfl, by go_grown⟩
  by_cases h4 : t < 0
  · clear hd
    go_enter Tryd.func17, Tryd.ntmps17
    go_wp2_with fail
    go_ret
    exact ⟨by rw [HV.out] <;> rfl, by go_grown⟩
  by_cases h5 : 7 < t
  · clear hd
    go_enter Tryd.func17, Tryd.ntmps17
    go_wp2_with fail
    go_ret
    exact ⟨by rw [HV.out] <;> rfl, by go_grown⟩
  by_cases h6 : f = t
  · have e6 : (f == t) = true := beq_iff_eq.2 h6
    clear h6 hd
    go_enter Tryd.func17, Tryd.ntmps17
    go_wp2_with fail
    go_ret
    exact ⟨by rw [HV.out] <;> rfl, by go_grown⟩
  have e6 : (f == t) = false := beq_eq_false_iff_ne.2 h6
  by_cases h7 : s < 1
  · clear hd
    go_enter Tryd.func17, Tryd.ntmps17
    go_wp2_with fail
    go_ret
    exact ⟨by rw [HV.out] <;> rfl, by go_grown⟩
  by_cases h8 : 15 < s
  · clear hd
    go_enter Tryd.func17, Tryd.ntmps17
    go_wp2_with fail
    go_ret
    exact ⟨by rw [HV.out] <;> rfl, by go_grown⟩
  by_cases h9 : b < 1
  · clear hd
    go_enter Tryd.func17, Tryd.ntmps17
    go_wp2_with fail
    go_ret
    exact ⟨by rw [HV.out] <;> rfl, by go_grown⟩
  by_cases h10 : 1000000 < b
  · clear hd
    go_enter Tryd.func17, Tryd.ntmps17
    go_wp2_with fail
    go_ret
    exact ⟨by rw [HV.out] <;> rfl, by go_grown⟩
  exact absurd ⟨by omega, by omega, by omega, by omega, by omega, by omega, h6, by omega, by omega, by omega, by omega⟩ hd
end Go.Proofs.YtppcdppplbpklaaDoor
