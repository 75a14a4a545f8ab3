/- Walks: account, Sum. -/
import Derived.Test.YtipaapplingbnaaDoorCn
namespace Go.Proofs.YtipaapplingbnaaDoor
open Go.RowKit Go.Deep

noncomputable def accB (l : List Cm) (cs : List Int) : Bool := inRange cs && (decide (cs.length = l.length) && validB l)
theorem accB_iff {l : List Cm} {cs : List Int} : accB l cs = true ↔ inRange cs = true ∧ cs.length = l.length ∧ ValidL l := by
  unfold accB
  simp [validB_iff]

set_option maxRecDepth 100000 in
set_option maxHeartbeats 2000000 in
theorem account_any (w : World) (A Ac : Option Addr) (c cc : Nat) (l : List Cm) (cs : List Int) (hr : RdN w w.heap.size A l) (hs : ∀ x ∈ l, x.nm.length ≤ 9223372036854775807) (hll : l.length ≤ 9223372036854775807) (hrc : RdI w w.heap.size Ac cs) (hcl : cs.length ≤ 9223372036854775807) :
    Calls Tryd.prog 18 #[.slice A l.length c, .slice Ac cs.length cc] w fun e w' => e = .returned (.bool (accB l cs)) ∧ Below w.heap.size w w' := by
  have HV := Lib.hid (valid_any w A c l hr hs hll)
  have HC := Lib.hid hrc
  unfold accB
  clear hr hs hrc
  generalize validB l = q at *
  go_enter Tryd.func18, Tryd.ntmps18
  go_wp2_with fail
  go_loop [9] (fun i => ∃ k : Nat, k ≤ cs.length ∧ i = .int .i64 k ∧ Hid (∀ x ∈ cs.take k, -1000 ≤ x ∧ x ≤ 1000)) (fun i => cs.length - (intOf i).toNat)
  case atStart => exact ⟨0, Nat.zero_le _, rfl, fun x hx => by simp at hx⟩
  case round =>
    obtain ⟨k, hk, rfl, HK⟩ := hrel
    by_cases hlt : k < cs.length
    · obtain ⟨ad, rfl, had, hx⟩ := HC.out.at hlt
      have HTK := Lib.hid (show cs.take (k + 1) = cs.take k ++ [cs.getD k 0] by rw [List.take_succ_eq_append_getElem hlt]; simp [List.getD_eq_getElem?_getD, hlt])
      have HME := Lib.hid (show cs.getD k 0 ∈ cs by simp [List.getD_eq_getElem?_getD, hlt])
      generalize cs.getD k 0 = x at *
      by_cases h1 : -1000 ≤ x
      · by_cases h2 : x ≤ 1000
        · have HK2 : Hid (∀ y ∈ cs.take (k + 1), -1000 ≤ y ∧ y ≤ 1000) := fun y hy => by
            rw [HTK.out] at hy
            rcases List.mem_append.1 hy with hy | hy
            · exact HK.out y hy
            · obtain rfl := List.mem_singleton.1 hy; exact ⟨h1, h2⟩
          go_wp2_with fail
          refine ⟨⟨k + 1, by omega, by go_num, HK2⟩, by simp [intOf]; omega⟩
        · have HF : Hid (inRange cs = false) := by
            show _ = _
            rw [Bool.eq_false_iff]
            intro h
            have := of_decide_eq_true (List.all_eq_true.1 h x HME.out)
            exact h2 this.2
          go_wp2_with fail
          go_ret
          exact ⟨by rw [HF.out]; rfl, Below.refl _ _⟩
      · have HF : Hid (inRange cs = false) := by
          show _ = _
          rw [Bool.eq_false_iff]
          intro h
          have := of_decide_eq_true (List.all_eq_true.1 h x HME.out)
          exact h1 this.1
        go_wp2_with fail
        go_ret
        exact ⟨by rw [HF.out]; rfl, Below.refl _ _⟩
    · obtain rfl : k = cs.length := by omega
      have HT : Hid (inRange cs = true) := List.all_eq_true.2 fun x hx => decide_eq_true (HK.out x (by rw [List.take_length]; exact hx))
      by_cases he : cs.length = l.length
      · have HE : Hid (decide (cs.length = l.length) = true) := decide_eq_true he
        have he' : ((cs.length : Int) == (l.length : Int)) = true := by rw [beq_iff_eq]; omega
        clear he
        go_wp2_with (go_at_call 12; refine HV.out.mono ?_; rintro e w1 ⟨rfl, b1⟩; replace b1 := Lib.hid b1)
        go_ret
        exact ⟨by rw [HT.out, HE.out]; rfl, b1.out⟩
      · have HE : Hid (decide (cs.length = l.length) = false) := decide_eq_false he
        have he' : ((cs.length : Int) == (l.length : Int)) = false := by rw [beq_eq_false_iff_ne]; omega
        clear he
        go_wp2_with fail
        go_ret
        exact ⟨by rw [HT.out, HE.out]; rfl, Below.refl _ _⟩

end Go.Proofs.YtipaapplingbnaaDoor
