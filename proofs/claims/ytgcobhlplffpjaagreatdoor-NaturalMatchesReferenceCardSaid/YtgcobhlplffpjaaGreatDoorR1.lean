/- Walks of the reference: Trim, Valid, Both, Limb, Bounded, Make. -/
import Derived.Test.YtgcobhlplffpjaaGreatDoorN9
namespace Go.Proofs.YtgcobhlplffpjaaGreatDoor
open Go.RowKit Go.Deep

set_option maxRecDepth 100000 in
set_option maxHeartbeats 1000000 in
theorem rTrim_any (w : World) (B : Nat) (A : Option Addr) (cap : Nat) (l : List Nat) (hrd : RdW w B A l) (hlen : l.length ≤ 1000000) (hcap : l.length ≤ cap) :
    Calls Tryz.prog 54 #[.slice A l.length cap] w fun e w' => e = .returned (.slice A (trim l).length cap) ∧ w = w' := by
  have HR := Lib.hid hrd; clear hrd
  go_enter Tryz.func54, Tryz.ntmps54
  go_wp2
  go_loop [3] (fun n => ∃ k : Nat, k ≤ l.length ∧ n = .int .i64 k ∧ Hid (∀ j, k ≤ j → l.getD j 0 = 0)) (fun n => (intOf n).toNat)
  case atStart => exact ⟨l.length, Nat.le_refl _, rfl, fun j hj => by rw [List.getD_eq_getElem?_getD, List.getElem?_eq_none hj]; rfl⟩
  case round =>
    obtain ⟨k, hk, rfl, HZ⟩ := hrel
    by_cases hk0 : k = 0
    · subst hk0
      have HT := Lib.hid (trim_of l 0 HZ.out (by omega))
      clear HZ
      go_wp2
      go_ret
      rw [HT.out]
      exact ⟨rfl, rfl⟩
    · obtain ⟨ad, rfl, -, hcell⟩ := HR.out (by omega)
      have hx := hcell (k - 1) (by omega)
      clear hcell
      by_cases hx0 : l.getD (k - 1) 0 = 0
      · rw [hx0] at hx
        have HZ' : Hid (∀ j, k - 1 ≤ j → l.getD j 0 = 0) := fun j hj => by
          rcases Nat.lt_or_ge j k with h | h
          · rw [show j = k - 1 by omega]; exact hx0
          · exact HZ.out j h
        clear hx0
        go_wp2
        refine ⟨⟨k - 1, by omega, by go_num, HZ'⟩, by simp [intOf]; omega⟩
      · have HT := Lib.hid (trim_of l k HZ.out (fun _ => hx0))
        generalize l.getD (k - 1) 0 = x at *
        have hx1 : ((x : Int) == 0) = false := by simpa using hx0
        go_wp2
        go_ret
        rw [HT.out]
        exact ⟨rfl, rfl⟩

set_option maxRecDepth 100000 in
set_option maxHeartbeats 400000 in
theorem rValid_any (w : World) (B : Nat) (A : Option Addr) (cap : Nat) (l : List Nat) (hrd : RdW w B A l) (hlen : l.length ≤ 9223372036854775807) :
    Calls Tryz.prog 24 #[.slice A l.length cap] w fun e w' => e = .returned (.bool (isNat l)) ∧ w = w' := by
  have HR := Lib.hid hrd; clear hrd
  go_enter Tryz.func24, Tryz.ntmps24
  by_cases h6 : l.length ≤ 640
  · by_cases h0 : l.length = 0
    · have e : isNat l = true := by simp [isNat, h0]
      rw [e]
      clear HR e
      rw [h0]
      go_wp2
      go_ret
      exact ⟨rfl, rfl⟩
    · obtain ⟨ad, rfl, -, hcell⟩ := HR.out (by omega)
      have hx := hcell (l.length - 1) (by omega)
      have e : isNat l = !decide (l.getD (l.length - 1) 0 = 0) := by simp [isNat, h0, h6]
      have hl0 : ((l.length : Int) == 0) = false := by simpa using h0
      rw [e]
      clear hcell e
      generalize l.getD (l.length - 1) 0 = x at *
      by_cases hx0 : x = 0
      · subst hx0
        go_wp2
        go_ret
        exact ⟨rfl, rfl⟩
      · have hx1 : ((x : Int) == 0) = false := by simpa using hx0
        go_wp2
        go_ret
        exact ⟨by simp [hx0], rfl⟩
  · have e : isNat l = false := by simp [isNat, h6]
    rw [e]
    go_wp2
    go_ret
    exact ⟨rfl, rfl⟩

theorem rValid_q (w : World) (A : Option Addr) (c : Nat) (l : List Nat) (q : Bool) (h : RdW w w.heap.size A l) (hl : l.length ≤ 9223372036854775807) (hq : isNat l = q) :
    Calls Tryz.prog 24 #[.slice A l.length c] w fun e w' => e = .returned (.bool q) ∧ w = w' := by
  subst hq
  exact rValid_any w _ A c l h hl

set_option maxRecDepth 100000 in
set_option maxHeartbeats 1000000 in
theorem rBoth_any (w : World) (A1 A2 : Option Addr) (c1 c2 : Nat) (a b : List Nat) (ra : RdW w w.heap.size A1 a) (rb : RdW w w.heap.size A2 b) (na : a.length ≤ 9223372036854775807) (nb : b.length ≤ 9223372036854775807) :
    Calls Tryz.prog 55 #[.slice A1 a.length c1, .slice A2 b.length c2] w fun e w' => e = .returned (.bool (isNat a && isNat b)) ∧ w = w' := by
  have H1 := Lib.hid (rValid_q w A1 c1 a _ ra na rfl)
  have H2 := Lib.hid (rValid_q w A2 c2 b _ rb nb rfl)
  generalize isNat a = p at *
  generalize isNat b = q at *
  have tok1 : True := trivial
  cases p
  · go_enter Tryz.func55, Tryz.ntmps55
    go_wp2_with (go_at_call 24; refine H1.out.mono ?_; rintro e w' ⟨rfl, rfl⟩)
    go_ret
    exact ⟨rfl, rfl⟩
  · cases q
    all_goals
      go_enter Tryz.func55, Tryz.ntmps55
      go_wp2_with (first
        | (go_at_call 24; have _t := tok1; refine H1.out.mono ?_; rintro e w' ⟨rfl, rfl⟩; clear tok1)
        | (go_at_call 24; refine H2.out.mono ?_; rintro e w' ⟨rfl, rfl⟩))
      go_ret
      exact ⟨rfl, rfl⟩

set_option maxRecDepth 100000 in
set_option maxHeartbeats 1000000 in
theorem rLimb_any (w : World) (B : Nat) (A : Option Addr) (cap : Nat) (l : List Nat) (i : Nat) (hrd : RdW w B A l) (hl : Lim l) (hlen : l.length ≤ 1000000) (hi : i ≤ 1000000) :
    Calls Tryz.prog 86 #[.slice A l.length cap, .int .i64 i] w fun e w' => e = .returned (.int .u64 ((l.getD i 0 : Nat) : Int)) ∧ w = w' := by
  by_cases h : i < l.length
  · obtain ⟨ad, rfl, -, hcell⟩ := hrd (by omega)
    have hx := hcell i h
    have hb := hl.getD i
    clear hcell hrd hl
    generalize l.getD i 0 = x at *
    go_enter Tryz.func86, Tryz.ntmps86
    go_wp2
    go_ret
    exact ⟨rfl, rfl⟩
  · have e : l.getD i 0 = 0 := by rw [List.getD_eq_getElem?_getD, List.getElem?_eq_none (by omega)]; rfl
    rw [e]
    clear hrd hl e
    go_enter Tryz.func86, Tryz.ntmps86
    go_wp2
    go_ret
    exact ⟨rfl, rfl⟩

end Go.Proofs.YtgcobhlplffpjaaGreatDoor
