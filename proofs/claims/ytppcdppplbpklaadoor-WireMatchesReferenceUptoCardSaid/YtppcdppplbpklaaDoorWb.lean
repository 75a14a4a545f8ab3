/- Walks: which takes and messages are valid. -/
import Derived.Test.YtppcdppplbpklaaDoorWp
import Derived.Deep.Light
import Derived.Test.YtppcdppplbpklaaDoorRows
namespace Go.Proofs.YtppcdppplbpklaaDoor
open Go.RowKit

def takeB (s c n d x : Int) : Bool := decide (s = x ∧ 0 ≤ c ∧ c < 6 ∧ -1 ≤ n ∧ n ≤ 1 ∧ 0 ≤ d ∧ d < 8 ∧ (n ≠ 0 ∨ c = 0))

set_option maxHeartbeats 400000 in
theorem take_any (s c n d x : Int) (w : World) :
    Calls Tryd.prog 25 #[.agg #[.int .i64 s, .int .i64 c, .int .i64 n, .int .i64 d], .int .i64 x] w fun e w' => e = .returned (.bool (takeB s c n d x)) ∧ Below w.heap.size w w' := by
  go_enter Tryd.func25, Tryd.ntmps25
  go_wp2
  all_goals go_ret
  all_goals exact ⟨ret_bool (by simp [takeB]; omega), by go_grown⟩

def headB (f t s b : Int) : Bool := decide (0 ≤ f ∧ 0 ≤ t ∧ f < 8 ∧ t < 8 ∧ f ≠ t ∧ 1 ≤ s ∧ s < 16 ∧ 1 ≤ b ∧ b ≤ 1000000)
def validB (k f t s b v ts tc tn td : Int) : Bool := headB f t s b &&
  (if k = 2 ∧ 0 < v then decide (v < b) && takeB ts tc tn td s
   else if k = 1 ∨ k = 2 then decide (v = 0 ∧ ts = 0 ∧ tc = 0 ∧ tn = 0 ∧ td = 0)
   else if k = 3 ∨ k = 4 ∨ k = 5 then decide (v = 0) && takeB ts tc tn td s
   else false)

theorem take_bounds {s c n d x : Int} (h : takeB s c n d x = true) : s = x ∧ 0 ≤ c ∧ c < 6 ∧ -1 ≤ n ∧ n ≤ 1 ∧ 0 ≤ d ∧ d < 8 ∧ (n ≠ 0 ∨ c = 0) := by simpa [takeB] using h
theorem valid_bounds {k f t s b v ts tc tn td : Int} (h : validB k f t s b v ts tc tn td = true) :
    1 ≤ k ∧ k ≤ 5 ∧ 0 ≤ f ∧ f < 8 ∧ 0 ≤ t ∧ t < 8 ∧ f ≠ t ∧ 1 ≤ s ∧ s < 16 ∧ 1 ≤ b ∧ b ≤ 1000000 ∧ 0 ≤ v ∧ v < b ∧ 0 ≤ tc ∧ tc < 6 ∧ -1 ≤ tn ∧ tn ≤ 1 ∧ 0 ≤ td ∧ td < 8 ∧
    ((k = 1 ∧ v = 0 ∧ ts = 0 ∧ tc = 0 ∧ tn = 0 ∧ td = 0) ∨ (k = 2 ∧ v = 0 ∧ ts = 0 ∧ tc = 0 ∧ tn = 0 ∧ td = 0) ∨ (k = 2 ∧ 0 < v ∧ ts = s ∧ (tn ≠ 0 ∨ tc = 0)) ∨ (3 ≤ k ∧ v = 0 ∧ ts = s ∧ (tn ≠ 0 ∨ tc = 0))) := by
  unfold validB at h
  rw [Bool.and_eq_true] at h
  obtain ⟨h1, h2⟩ := h
  simp only [headB, decide_eq_true_eq] at h1
  split at h2
  · rename_i hk
    rw [Bool.and_eq_true, decide_eq_true_eq] at h2
    have := take_bounds h2.2
    omega
  · split at h2
    · rw [decide_eq_true_eq] at h2
      omega
    · split at h2
      · rw [Bool.and_eq_true, decide_eq_true_eq] at h2
        have := take_bounds h2.2
        omega
      · cases h2

set_option maxRecDepth 100000 in
set_option maxHeartbeats 1000000 in
theorem valid_any (k f t s b v ts tc tn td : Int) (w : World) :
    Calls Tryd.prog 13 #[.agg #[.int .i64 k, .int .i64 f, .int .i64 t, .int .i64 s, .int .i64 b, .int .i64 v, .int .i64 ts, .int .i64 tc, .int .i64 tn, .int .i64 td]] w
      fun e w' => e = .returned (.bool (validB k f t s b v ts tc tn td)) ∧ Below w.heap.size w w' := by
  go_enter Tryd.func13, Tryd.ntmps13
  go_upto_region 1 with fail
  go_cut [43] (fun s43 wx => ∃ h : Bool, s43 = .bool h ∧ Hid (h = !headB f t s b) ∧ wx = w.alloc (.cells #[.int .i64 k, .int .i64 f, .int .i64 t, .int .i64 s, .int .i64 b, .int .i64 v, .int .i64 ts, .int .i64 tc, .int .i64 tn, .int .i64 td] 25))
  case first =>
    have HH : Hid (∀ h : Bool, (h = true ↔ ¬ (0 ≤ f ∧ 0 ≤ t ∧ f < 8 ∧ t < 8 ∧ f ≠ t ∧ 1 ≤ s ∧ s < 16 ∧ 1 ≤ b ∧ b ≤ 1000000)) → Hid (h = !headB f t s b)) := by
      intro h hh; show h = _; rw [Bool.eq_iff_iff]; rw [hh]; simp only [headB, Bool.not_eq_true', decide_eq_false_iff_not]
    rcases Int.lt_trichotomy t f with h1 | rfl | h1
    · have h2 : ¬ f < t := by omega
      go_wp2_with fail
      all_goals (go_meet; case rel => exact ⟨_, rfl, HH.out _ (by simp; omega), rfl⟩)
    · have h2 : ¬ t < t := by omega
      go_wp2_with fail
      all_goals (go_meet; case rel => exact ⟨_, rfl, HH.out _ (by simp), rfl⟩)
    · have h2 : ¬ t < f := by omega
      go_wp2_with fail
      all_goals (go_meet; case rel => exact ⟨_, rfl, HH.out _ (by simp; omega), rfl⟩)
  case rest =>
    obtain ⟨h43, rfl, H43, rfl⟩ := hcut
    cases h43
    · have hh := Lib.hid (show headB f t s b = true by have := H43.out; simpa using this.symm)
      clear H43
      go_wp2_with (go_at_call 25; refine (take_any _ _ _ _ _ _).mono ?_; rintro e w' ⟨rfl, hb⟩)
      all_goals go_ret
      all_goals refine ⟨ret_bool ?_, ?_⟩
      all_goals go_light
      all_goals replace hh := hh.out
      all_goals first | (go_grown; done) | (exact ((Below.refl _ _).alloc (Nat.le_refl _) _).trans (hb.mono (by simp))) | skip
      all_goals (try simp only [beq_iff_eq, beq_eq_false_iff_ne, ne_eq] at *)
      all_goals (simp [validB, *]; try omega)
    · have hh : headB f t s b = false := by have := H43.out; simpa using this.symm
      clear H43
      have HV := Lib.hid (show validB k f t s b v ts tc tn td = false by simp only [validB, hh, Bool.false_and])
      clear hh
      go_wp2
      go_ret
      exact ⟨ret_bool (by rw [HV.out]), by go_grown⟩
end Go.Proofs.YtppcdppplbpklaaDoor
