/- Contracts in one form for both outcomes: the laws' walks split by themselves. -/
import Derived.Test.YtgcobhlplffpjaaGreatDoorN8
namespace Go.Proofs.YtgcobhlplffpjaaGreatDoor
open Go.RowKit Go.Deep

/-- The error of a number, and the number handed back. -/
def kE (v : Nat) : Int := if (limbs v).length ≤ 640 then 0 else 2
def vE (v : Nat) : Nat := if (limbs v).length ≤ 640 then v else 0
theorem kE_fit {v : Nat} (h : Fit v) : kE v = 0 := if_pos h
theorem kE_big {v : Nat} (h : ¬ Fit v) : kE v = 2 := if_neg h
theorem vE_fit {v : Nat} (h : Fit v) : vE v = v := if_pos h
theorem vE_big {v : Nat} (h : ¬ Fit v) : vE v = 0 := if_neg h
theorem fit_zero : Fit 0 := by unfold Fit; simp [limbs_zero]
theorem fitV (v : Nat) : Fit (vE v) := by
  by_cases h : Fit v
  · rw [vE_fit h]; exact h
  · rw [vE_big h]; exact fit_zero
theorem kE_zero {v : Nat} (h : kE v = 0) : Fit v ∧ vE v = v := by
  by_cases hf : Fit v
  · exact ⟨hf, vE_fit hf⟩
  · rw [kE_big hf] at h; cases h
theorem kE_01 (v : Nat) : kE v = 0 ∨ kE v = 2 := by
  by_cases hf : Fit v
  · exact .inl (kE_fit hf)
  · exact .inr (kE_big hf)
theorem cutO_l (v : Nat) : (cutO v).l = limbs (vE v) := by
  by_cases h : Fit v
  · rw [cut_fit h, vE_fit h]; rfl
  · rw [cut_big h, vE_big h]; rfl
theorem cutO_e (v : Nat) : (cutO v).e = kE v := by
  by_cases h : Fit v
  · rw [cut_fit h, kE_fit h]; rfl
  · rw [cut_big h, kE_big h]; rfl
def kS (x y : Nat) : Int := if y ≤ x then 0 else 3
theorem kS_le {x y : Nat} (h : y ≤ x) : kS x y = 0 := if_pos h
theorem kS_gt {x y : Nat} (h : ¬ y ≤ x) : kS x y = 3 := if_neg h
def kD (y : Nat) : Int := if y = 0 then 7 else 0
def vR (x y : Nat) : Nat := if y = 0 then 0 else x % y
theorem kD_pos {y : Nat} (h : y ≠ 0) : kD y = 0 := if_neg h
theorem vR_pos {x y : Nat} (h : y ≠ 0) : vR x y = x % y := if_neg h
theorem fitQ {x : Nat} (y : Nat) (h : Fit x) : Fit (x / y) := fit_mono (Nat.div_le_self _ _) h
theorem fitR {x : Nat} (y : Nat) (h : Fit x) : Fit (vR x y) := by
  unfold vR
  split
  · exact fit_zero
  · exact fit_mono (Nat.mod_le _ _) h
theorem fitS {x : Nat} (y : Nat) (h : Fit x) : Fit (x - y) := fit_mono (Nat.sub_le _ _) h
/-- A slice of a number and an error handed back. -/
def UEnd (w : World) (v : Nat) (k : Int) (e : Ending) (w' : World) : Prop := Below w.heap.size w w' ∧ ∃ A c, e = .returned (.tuple #[.slice A (limbs v).length c, .int .i64 k]) ∧ RdW w' w'.heap.size A (limbs v)
theorem uEnd_cut {w : World} {v : Nat} {e : Ending} {w' : World} (h : EndsO w (cutO v) e w') : UEnd w (vE v) (kE v) e w' := by
  obtain ⟨hb, A, he, hr⟩ := h
  rw [cutO_l, cutO_e] at he
  rw [cutO_l] at hr
  exact ⟨hb, A, _, he, hr⟩

section
variable (w : World) (A1 A2 : Option Addr) (c1 c2 : Nat) (x y : Nat) (hx : Fit x) (hy : Fit y) (r1 : RdW w w.heap.size A1 (limbs x)) (r2 : RdW w w.heap.size A2 (limbs y))
include hx hy r1 r2
theorem addU : Calls Tryz.prog 18 #[.slice A1 (limbs x).length c1, .slice A2 (limbs y).length c2] w (UEnd w (vE (x + y)) (kE (x + y))) :=
  (add_api w A1 A2 c1 c2 _ _ r1 r2 (limbs_lim _) (limbs_lim _) (fit_le hx) (fit_le hy)).mono fun _ _ h => uEnd_cut (by rw [addO, both_fit hx hy, limbs_val, limbs_val] at h; exact h)
theorem mulU : Calls Tryz.prog 16 #[.slice A1 (limbs x).length c1, .slice A2 (limbs y).length c2] w (UEnd w (vE (x * y)) (kE (x * y))) :=
  (mul_api w A1 A2 c1 c2 _ _ r1 r2 (limbs_lim _) (limbs_lim _) (fit_le hx) (fit_le hy)).mono fun _ _ h => uEnd_cut (by rw [mulO, both_fit hx hy, limbs_val, limbs_val] at h; exact h)
theorem subU : Calls Tryz.prog 19 #[.slice A1 (limbs x).length c1, .slice A2 (limbs y).length c2] w (UEnd w (x - y) (kS x y)) := by
  by_cases h : y ≤ x
  · refine (subN w A1 A2 c1 c2 x y hx hy r1 r2 h).mono fun e w' k => ?_
    obtain ⟨hb, A, he, hr⟩ := k
    rw [kS_le h]
    exact ⟨hb, A, _, he, hr⟩
  · refine (subE w A1 A2 c1 c2 x y hx hy r1 r2 h).mono fun e w' k => ?_
    obtain ⟨hb, A, he, hr⟩ := k
    rw [kS_gt h, show x - y = 0 by omega]
    exact ⟨hb, A, _, he, hr⟩
theorem divU : Calls Tryz.prog 29 #[.slice A1 (limbs x).length c1, .slice A2 (limbs y).length c2] w fun e w' => Below w.heap.size w w' ∧ ∃ A B c d, e = .returned (.tuple #[.slice A (limbs (x / y)).length c, .slice B (limbs (vR x y)).length d, .int .i64 (kD y)]) ∧ RdW w' w'.heap.size A (limbs (x / y)) ∧ RdW w' w'.heap.size B (limbs (vR x y)) := by
  by_cases h0 : y = 0
  · subst h0
    have := divZ w A1 A2 c1 c2 x hx r1
    rw [Nat.div_zero]
    exact this.mono fun e w' ⟨hb, A, B, c, d, he⟩ => ⟨hb, A, B, c, d, he, RdW.nil _ _ _, RdW.nil _ _ _⟩
  · have := divN w A1 A2 c1 c2 x y hx hy r1 r2 h0
    rw [kD_pos h0, vR_pos h0]
    exact this
theorem cmpU : Calls Tryz.prog 23 #[.slice A1 (limbs x).length c1, .slice A2 (limbs y).length c2] w fun e w' => Below w.heap.size w w' ∧ e = .returned (.tuple #[.int .i64 (cmpI x y), .int .i64 0]) :=
  (cmpN w A1 A2 c1 c2 x y hx hy r1 r2).mono fun _ _ h => ⟨h.2, h.1⟩
end
theorem sameU (w : World) (A1 A2 : Option Addr) (c1 c2 : Nat) (x y : Nat) (hy : Fit y) (r1 : RdW w w.heap.size A1 (limbs x)) (r2 : RdW w w.heap.size A2 (limbs y)) : Calls Tryz.prog 15 #[.slice A1 (limbs x).length c1, .slice A2 (limbs y).length c2] w fun e w' => Below w.heap.size w w' ∧ e = .returned (.bool (decide (x = y))) :=
  (sameN w A1 A2 c1 c2 x y hy r1 r2).mono fun _ _ h => ⟨h.2, h.1⟩
theorem powU (w : World) (A1 : Option Addr) (c1 : Nat) (x n : Nat) (hx : Fit x) (r1 : RdW w w.heap.size A1 (limbs x)) (hn : n ≤ 9223372036854775807) : Calls Tryz.prog 14 #[.slice A1 (limbs x).length c1, .int .i64 n] w (UEnd w (vE (x ^ n)) (kE (x ^ n))) :=
  (pow_api w A1 c1 _ n r1 (limbs_lim _) (fit_le hx) (by omega)).mono fun _ _ h => uEnd_cut (by rw [powO, fit_nat hx, if_pos rfl, powV, if_neg (by omega), Int.toNat_natCast, limbs_val] at h; exact h)
/-- The parsed number and its error, whatever the string. -/
def kP (s : List UInt8) : Int := if isDecB s then kE (num 0 s) else 8
def vP (s : List UInt8) : Nat := if isDecB s then vE (num 0 s) else 0
theorem fitP (s : List UInt8) : Fit (vP s) := by
  unfold vP
  split
  · exact fitV _
  · exact fit_zero
theorem parseU (w : World) (s : List UInt8) (hl : s.length ≤ 9223372036854775807) : Calls Tryz.prog 22 #[str s] w (UEnd w (vP s) (kP s)) := by
  refine (parse_api w s hl).mono fun e w' h => ?_
  unfold vP kP
  unfold parseO at h
  split
  · rename_i hd
    rw [if_pos hd] at h
    exact uEnd_cut h
  · rename_i hd
    rw [if_neg hd] at h
    obtain ⟨hb, A, he, hr⟩ := h
    exact ⟨hb, A, _, he, hr⟩

set_option maxRecDepth 100000 in
set_option maxHeartbeats 1000000 in
theorem three_any (w : World) (A1 A2 A3 : Option Addr) (c1 c2 c3 : Nat) (a b c : List Nat) (ra : RdW w w.heap.size A1 a) (rb : RdW w w.heap.size A2 b) (rc : RdW w w.heap.size A3 c) (na : a.length ≤ 9223372036854775807) (nb : b.length ≤ 9223372036854775807) (nc : c.length ≤ 9223372036854775807) :
    Calls Tryz.prog 17 #[.slice A1 a.length c1, .slice A2 b.length c2, .slice A3 c.length c3] w fun e w' => e = .returned (.bool (isNat a && isNat b && isNat c)) ∧ w = w' := by
  have H1 := Lib.hid (valid_q w A1 c1 a _ ra na rfl)
  have H2 := Lib.hid (valid_q w A2 c2 b _ rb nb rfl)
  have H3 := Lib.hid (valid_q w A3 c3 c _ rc nc rfl)
  generalize isNat a = p at *
  generalize isNat b = q at *
  generalize isNat c = r at *
  have tok1 : True := trivial
  have tok2 : True := trivial
  cases p
  · go_enter Tryz.func17, Tryz.ntmps17
    go_wp2_with (go_at_call 13; refine H1.out.mono ?_; rintro e w' ⟨rfl, rfl⟩)
    go_ret
    exact ⟨rfl, rfl⟩
  · cases q
    · go_enter Tryz.func17, Tryz.ntmps17
      go_wp2_with (first
        | (go_at_call 13; have _t := tok1; refine H1.out.mono ?_; rintro e w' ⟨rfl, rfl⟩; clear tok1)
        | (go_at_call 13; refine H2.out.mono ?_; rintro e w' ⟨rfl, rfl⟩))
      go_ret
      exact ⟨rfl, rfl⟩
    · cases r
      all_goals
        go_enter Tryz.func17, Tryz.ntmps17
        go_wp2_with (first
          | (go_at_call 13; have _t := tok1; refine H1.out.mono ?_; rintro e w' ⟨rfl, rfl⟩; clear tok1)
          | (go_at_call 13; have _t := tok2; refine H2.out.mono ?_; rintro e w' ⟨rfl, rfl⟩; clear tok2)
          | (go_at_call 13; refine H3.out.mono ?_; rintro e w' ⟨rfl, rfl⟩))
        go_ret
        exact ⟨rfl, rfl⟩
theorem threeN (w : World) (A1 A2 A3 : Option Addr) (c1 c2 c3 : Nat) (x y z : Nat) (hx : Fit x) (hy : Fit y) (hz : Fit z) (r1 : RdW w w.heap.size A1 (limbs x)) (r2 : RdW w w.heap.size A2 (limbs y)) (r3 : RdW w w.heap.size A3 (limbs z)) :
    Calls Tryz.prog 17 #[.slice A1 (limbs x).length c1, .slice A2 (limbs y).length c2, .slice A3 (limbs z).length c3] w fun e w' => e = .returned (.bool true) ∧ w = w' := by
  have := three_any w A1 A2 A3 c1 c2 c3 _ _ _ r1 r2 r3 (fit_le hx) (fit_le hy) (fit_le hz)
  rw [fit_nat hx, fit_nat hy, fit_nat hz] at this
  exact this
theorem store3 {w : World} {A1 A2 A3 : Option Addr} {a b c : List Nat} (r1 : RdW w w.heap.size A1 a) (r2 : RdW w w.heap.size A2 b) (r3 : RdW w w.heap.size A3 c) : Store w [(A1, a), (A2, b), (A3, c)] := by
  intro p hp
  simp at hp
  rcases hp with rfl | rfl | rfl
  · exact r1
  · exact r2
  · exact r3

end Go.Proofs.YtgcobhlplffpjaaGreatDoor
