/- Contracts in one form: lists that can be read, numbers that fit. -/
import Derived.Test.YtgcobhlplffpjaaGreatDoorN6
namespace Go.Proofs.YtgcobhlplffpjaaGreatDoor
open Go.RowKit Go.Deep

/-- The number fits. -/
def Fit (v : Nat) : Prop := (limbs v).length ≤ 640
/-- The slices that can be read, with their lists. -/
def Store (w : World) (L : List (Option Addr × List Nat)) : Prop := ∀ p ∈ L, RdW w w.heap.size p.1 p.2
theorem Store.rd {w : World} {L : List (Option Addr × List Nat)} (h : Store w L) {A : Option Addr} {l : List Nat} (hm : (A, l) ∈ L) : RdW w w.heap.size A l := h _ hm
theorem Store.on {w w' : World} {L : List (Option Addr × List Nat)} (h : Store w L) (hb : Below w.heap.size w w') : Store w' L := fun p hp => ((h p hp).below hb (Nat.le_refl _)).mono hb.size
theorem Store.push {w w' : World} {L : List (Option Addr × List Nat)} (h : Store w L) (hb : Below w.heap.size w w') {A : Option Addr} {l : List Nat} (hr : RdW w' w'.heap.size A l) : Store w' ((A, l) :: L) := fun p hp => by
  rcases List.mem_cons.1 hp with rfl | hp
  · exact hr
  · exact h.on hb p hp
theorem fit_le {v : Nat} (h : Fit v) : (limbs v).length ≤ 9223372036854775807 := Nat.le_trans h (by omega)
theorem fit_nat {v : Nat} (h : Fit v) : isNat (limbs v) = true := isNat_limbs h
theorem fit_mono {u v : Nat} (h : u ≤ v) (hv : Fit v) : Fit u := Nat.le_trans (limbs_mono h) hv
theorem fit_small {v : Nat} (h : v < 18446744073709551616) : Fit v := Nat.le_trans (limbs_len (k := 2) |>.2 (by simp only [pw_succ, pw_zero]; omega)) (by omega)
theorem both_fit {x y : Nat} (hx : Fit x) (hy : Fit y) (o : Out) : both (limbs x) (limbs y) o = o := by unfold both; rw [fit_nat hx, fit_nat hy]; rfl
theorem cut_fit {v : Nat} (h : Fit v) : cutO v = .num v := if_pos h
theorem cut_big {v : Nat} (h : ¬ Fit v) : cutO v = .err 2 := if_neg h

/-- A number and no error; no number and an error. -/
def NumEnd (w : World) (v : Nat) (e : Ending) (w' : World) : Prop := Below w.heap.size w w' ∧ ∃ A, e = .returned (.tuple #[.slice A (limbs v).length (limbs v).length, .int .i64 0]) ∧ RdW w' w'.heap.size A (limbs v)
def ErrEnd (w : World) (k : Int) (e : Ending) (w' : World) : Prop := Below w.heap.size w w' ∧ ∃ A, e = .returned (.tuple #[.slice A 0 0, .int .i64 k]) ∧ RdW w' w'.heap.size A []
theorem numEnd_of {w : World} {o : Out} {v : Nat} {e : Ending} {w' : World} (h : EndsO w o e w') (ho : o = .num v) : NumEnd w v e w' := by subst ho; exact h
theorem errEnd_of {w : World} {o : Out} {k : Int} {e : Ending} {w' : World} (h : EndsO w o e w') (ho : o = .err k) : ErrEnd w k e w' := by subst ho; exact h

section
variable (w : World) (A1 A2 : Option Addr) (c1 c2 : Nat) (x y : Nat) (hx : Fit x) (hy : Fit y) (r1 : RdW w w.heap.size A1 (limbs x)) (r2 : RdW w w.heap.size A2 (limbs y))
include hx hy r1 r2
theorem addN (hf : Fit (x + y)) : Calls Tryz.prog 18 #[.slice A1 (limbs x).length c1, .slice A2 (limbs y).length c2] w (NumEnd w (x + y)) :=
  (add_api w A1 A2 c1 c2 _ _ r1 r2 (limbs_lim _) (limbs_lim _) (fit_le hx) (fit_le hy)).mono fun _ _ h => numEnd_of h (by rw [addO, both_fit hx hy, limbs_val, limbs_val, cut_fit hf])
theorem addE (hf : ¬ Fit (x + y)) : Calls Tryz.prog 18 #[.slice A1 (limbs x).length c1, .slice A2 (limbs y).length c2] w (ErrEnd w 2) :=
  (add_api w A1 A2 c1 c2 _ _ r1 r2 (limbs_lim _) (limbs_lim _) (fit_le hx) (fit_le hy)).mono fun _ _ h => errEnd_of h (by rw [addO, both_fit hx hy, limbs_val, limbs_val, cut_big hf])
theorem mulN (hf : Fit (x * y)) : Calls Tryz.prog 16 #[.slice A1 (limbs x).length c1, .slice A2 (limbs y).length c2] w (NumEnd w (x * y)) :=
  (mul_api w A1 A2 c1 c2 _ _ r1 r2 (limbs_lim _) (limbs_lim _) (fit_le hx) (fit_le hy)).mono fun _ _ h => numEnd_of h (by rw [mulO, both_fit hx hy, limbs_val, limbs_val, cut_fit hf])
theorem mulE (hf : ¬ Fit (x * y)) : Calls Tryz.prog 16 #[.slice A1 (limbs x).length c1, .slice A2 (limbs y).length c2] w (ErrEnd w 2) :=
  (mul_api w A1 A2 c1 c2 _ _ r1 r2 (limbs_lim _) (limbs_lim _) (fit_le hx) (fit_le hy)).mono fun _ _ h => errEnd_of h (by rw [mulO, both_fit hx hy, limbs_val, limbs_val, cut_big hf])
theorem subN (hf : y ≤ x) : Calls Tryz.prog 19 #[.slice A1 (limbs x).length c1, .slice A2 (limbs y).length c2] w (NumEnd w (x - y)) :=
  (sub_api w A1 A2 c1 c2 _ _ r1 r2 (limbs_lim _) (limbs_lim _) (fit_le hx) (fit_le hy)).mono fun _ _ h => numEnd_of h (by rw [subO, both_fit hx hy, limbs_val, limbs_val, diffO, if_pos hf, cut_fit (fit_mono (Nat.sub_le _ _) hx)])
theorem subE (hf : ¬ y ≤ x) : Calls Tryz.prog 19 #[.slice A1 (limbs x).length c1, .slice A2 (limbs y).length c2] w (ErrEnd w 3) :=
  (sub_api w A1 A2 c1 c2 _ _ r1 r2 (limbs_lim _) (limbs_lim _) (fit_le hx) (fit_le hy)).mono fun _ _ h => errEnd_of h (by rw [subO, both_fit hx hy, limbs_val, limbs_val, diffO, if_neg hf])
theorem cmpN : Calls Tryz.prog 23 #[.slice A1 (limbs x).length c1, .slice A2 (limbs y).length c2] w fun e w' => e = .returned (.tuple #[.int .i64 (cmpI x y), .int .i64 0]) ∧ Below w.heap.size w w' := by
  have := cmp_any w A1 A2 c1 c2 _ _ r1 r2 (limbs_lim _) (limbs_lim _) (fit_nat hx) (fit_nat hy)
  rw [limbs_val, limbs_val] at this
  exact this
theorem divN (h0 : y ≠ 0) : Calls Tryz.prog 29 #[.slice A1 (limbs x).length c1, .slice A2 (limbs y).length c2] w fun e w' => Below w.heap.size w w' ∧ ∃ A B c d, e = .returned (.tuple #[.slice A (limbs (x / y)).length c, .slice B (limbs (x % y)).length d, .int .i64 0]) ∧ RdW w' w'.heap.size A (limbs (x / y)) ∧ RdW w' w'.heap.size B (limbs (x % y)) := by
  have h := div_api w A1 A2 c1 c2 _ _ r1 r2 (limbs_lim _) (limbs_lim _) (fit_le hx) (fit_le hy)
  have hl : (limbs y).length ≠ 0 := fun e => h0 (limbs_nil (List.eq_nil_of_length_eq_zero e))
  have e1 : divQ (limbs x) (limbs y) = limbs (x / y) := by unfold divQ; rw [fit_nat hx, fit_nat hy, limbs_val, limbs_val]; simp [hl]
  have e2 : divR (limbs x) (limbs y) = limbs (x % y) := by unfold divR; rw [fit_nat hx, fit_nat hy, limbs_val, limbs_val]; simp [hl]
  have e3 : divE (limbs x) (limbs y) = 0 := by unfold divE; rw [fit_nat hx, fit_nat hy]; simp [hl]
  rw [e1, e2, e3] at h
  exact h
end
theorem divZ (w : World) (A1 A2 : Option Addr) (c1 c2 : Nat) (x : Nat) (hx : Fit x) (r1 : RdW w w.heap.size A1 (limbs x)) : Calls Tryz.prog 29 #[.slice A1 (limbs x).length c1, .slice A2 0 c2] w fun e w' => Below w.heap.size w w' ∧ ∃ A B c d, e = .returned (.tuple #[.slice A 0 c, .slice B 0 d, .int .i64 7]) := by
  have h := div_api w A1 A2 c1 c2 _ [] r1 (RdW.nil _ _ _) (limbs_lim _) Lim.nil (fit_le hx) (by simp)
  have e1 : divQ (limbs x) [] = [] := by unfold divQ; simp
  have e2 : divR (limbs x) [] = [] := by unfold divR; simp
  have e3 : divE (limbs x) [] = 7 := by unfold divE; rw [fit_nat hx]; rfl
  rw [e1, e2, e3] at h
  exact h.mono fun e w' ⟨hb, A, B, c, d, he, _⟩ => ⟨hb, A, B, c, d, he⟩
theorem powN (w : World) (A1 : Option Addr) (c1 : Nat) (x n : Nat) (hx : Fit x) (r1 : RdW w w.heap.size A1 (limbs x)) (hn : n ≤ 9223372036854775807) (hf : Fit (x ^ n)) : Calls Tryz.prog 14 #[.slice A1 (limbs x).length c1, .int .i64 n] w (NumEnd w (x ^ n)) :=
  (pow_api w A1 c1 _ n r1 (limbs_lim _) (fit_le hx) (by omega)).mono fun _ _ h => numEnd_of h (by rw [powO, fit_nat hx, if_pos rfl, powV, if_neg (by omega), Int.toNat_natCast, limbs_val, cut_fit hf])
theorem powE (w : World) (A1 : Option Addr) (c1 : Nat) (x n : Nat) (hx : Fit x) (r1 : RdW w w.heap.size A1 (limbs x)) (hn : n ≤ 9223372036854775807) (hf : ¬ Fit (x ^ n)) : Calls Tryz.prog 14 #[.slice A1 (limbs x).length c1, .int .i64 n] w (ErrEnd w 2) :=
  (pow_api w A1 c1 _ n r1 (limbs_lim _) (fit_le hx) (by omega)).mono fun _ _ h => errEnd_of h (by rw [powO, fit_nat hx, if_pos rfl, powV, if_neg (by omega), Int.toNat_natCast, limbs_val, cut_big hf])
theorem makeN (w : World) (n : Nat) (hn : n < 18446744073709551616) : Calls Tryz.prog 20 #[.int .u64 n] w fun e w' => Below w.heap.size w w' ∧ ∃ A, e = .returned (.slice A (limbs n).length (limbs n).length) ∧ RdW w' w'.heap.size A (limbs n) :=
  (make_any w n hn).mono fun e w' h => by
    obtain ⟨hb, h⟩ := h
    rw [if_pos (show (limbs n).length ≤ 640 from fit_small hn)] at h
    exact ⟨hb, h⟩
theorem textN (w : World) (A1 : Option Addr) (c1 : Nat) (x : Nat) (hx : Fit x) (r1 : RdW w w.heap.size A1 (limbs x)) (hT : Tab w) : Calls Tryz.prog 21 #[.slice A1 (limbs x).length c1] w fun e w' => e = .returned (.tuple #[str (Lib.decDigits x), .int .i64 0]) ∧ Below w.heap.size w w' := by
  have := text_good w A1 c1 _ r1 (limbs_lim _) (fit_nat hx) hT
  rw [limbs_val] at this
  exact this
theorem validN (w : World) (A1 : Option Addr) (c1 : Nat) (x : Nat) (hx : Fit x) (r1 : RdW w w.heap.size A1 (limbs x)) : Calls Tryz.prog 13 #[.slice A1 (limbs x).length c1] w fun e w' => e = .returned (.bool true) ∧ w = w' :=
  valid_q w A1 c1 _ true r1 (fit_le hx) (fit_nat hx)
set_option maxRecDepth 100000 in
set_option maxHeartbeats 1000000 in
theorem text_bad (w : World) (A1 : Option Addr) (c1 : Nat) (a : List Nat) (r1 : RdW w w.heap.size A1 a) (hl : a.length ≤ 9223372036854775807) (na : isNat a = false) : Calls Tryz.prog 21 #[.slice A1 a.length c1] w fun e w' => e = .returned (.tuple #[.string ⟨#[]⟩, .int .i64 1]) ∧ Below w.heap.size w w' := by
  have H1 := Lib.hid (valid_q w A1 c1 a false r1 hl na)
  go_enter Tryz.func21, Tryz.ntmps21
  go_wp2_with (go_at_call 13; refine H1.out.mono ?_; rintro e w' ⟨rfl, rfl⟩)
  go_ret2
  exact ⟨rfl, Below.refl _ _⟩
theorem parseN (w : World) (s : List UInt8) (hl : s.length ≤ 9223372036854775807) (hd : isDecB s = true) (hf : Fit (num 0 s)) : Calls Tryz.prog 22 #[str s] w (NumEnd w (num 0 s)) :=
  (parse_api w s hl).mono fun _ _ h => numEnd_of h (by rw [parseO, hd, if_pos rfl, cut_fit hf])
theorem parseBig (w : World) (s : List UInt8) (hl : s.length ≤ 9223372036854775807) (hd : isDecB s = true) (hf : ¬ Fit (num 0 s)) : Calls Tryz.prog 22 #[str s] w (ErrEnd w 2) :=
  (parse_api w s hl).mono fun _ _ h => errEnd_of h (by rw [parseO, hd, if_pos rfl, cut_big hf])
theorem parseE (w : World) (s : List UInt8) (hl : s.length ≤ 9223372036854775807) (hd : isDecB s = false) : Calls Tryz.prog 22 #[str s] w (ErrEnd w 8) :=
  (parse_api w s hl).mono fun _ _ h => errEnd_of h (by rw [parseO, hd]; rfl)

/-- The reference's Same. -/
def SameRel (w : World) (a b : List Nat) (i : Value) (wx : World) : Prop := ∃ k : Nat, k ≤ a.length ∧ i = .int .i64 k ∧ Below w.heap.size w wx ∧ Hid (a.take k = b.take k)

set_option maxRecDepth 100000 in
set_option maxHeartbeats 1000000 in
theorem same_any (w : World) (A1 A2 : Option Addr) (c1 c2 : Nat) (a b : List Nat) (ra : RdW w w.heap.size A1 a) (rb : RdW w w.heap.size A2 b) (nb : b.length ≤ 9223372036854775807) :
    Calls Tryz.prog 15 #[.slice A1 a.length c1, .slice A2 b.length c2] w fun e w' => e = .returned (.bool (decide (a = b))) ∧ Below w.heap.size w w' := by
  have RA := Lib.hid ra; clear ra
  have RB := Lib.hid rb; clear rb
  by_cases hl : a.length = b.length
  case neg =>
    have hne : decide (a = b) = false := decide_eq_false (fun e => hl (by rw [e]))
    rw [hne]
    have hl' : ((a.length : Int) != (b.length : Int)) = true := by rw [bne_iff_ne]; omega
    clear hl hne
    go_enter Tryz.func15, Tryz.ntmps15
    go_wp2_with fail
    go_ret
    exact ⟨rfl, Below.refl _ _⟩
  have HL := Lib.hid hl
  obtain ⟨n, hn⟩ : ∃ n, a.length = n := ⟨_, rfl⟩
  have hn' : b.length = n := by omega
  rw [hn]
  rw [hn'] at nb ⊢
  have HN := Lib.hid (And.intro hn hn')
  obtain ⟨q, hq⟩ : ∃ q, decide (a = b) = q := ⟨_, rfl⟩
  rw [hq]
  have HQ := Lib.hid hq
  clear hl hn hn' hq
  go_enter Tryz.func15, Tryz.ntmps15
  go_wp2_with fail
  go_loopw [5] (fun i wx => SameRel w a b i wx) (fun i _ => n - (intOf i).toNat)
  case atStart => exact ⟨0, Nat.zero_le _, rfl, Below.refl _ _, rfl⟩
  case round =>
    obtain ⟨k, hk, rfl, hB, HE⟩ := hrel
    rw [HN.out.1] at hk
    by_cases hlt : k < n
    · obtain ⟨ad, rfl, had, hcell⟩ := RA.out (by rw [HN.out.1]; omega)
      have hx := (hB.cell (p := ad.add k) (by rw [add_block]; exact had)).trans (hcell k (by rw [HN.out.1]; omega))
      clear hcell
      obtain ⟨bd, rfl, hbd, hcell⟩ := RB.out (by rw [HN.out.2]; omega)
      have hy := (hB.cell (p := bd.add k) (by rw [add_block]; exact hbd)).trans (hcell k (by rw [HN.out.2]; omega))
      clear hcell
      by_cases hne : a.getD k 0 = b.getD k 0
      · have HE' : Hid (a.take (k + 1) = b.take (k + 1)) := by
          show _ = _
          rw [List.take_succ_eq_append_getElem (by rw [HN.out.1]; exact hlt), List.take_succ_eq_append_getElem (by rw [HN.out.2]; exact hlt), HE.out]
          rw [List.getD_eq_getElem?_getD, List.getD_eq_getElem?_getD, List.getElem?_eq_getElem (by rw [HN.out.1]; exact hlt), List.getElem?_eq_getElem (by rw [HN.out.2]; exact hlt)] at hne
          simp at hne
          rw [hne]
        rw [hne] at hx
        clear hne HE
        generalize b.getD k 0 = y at *
        go_wp2_with fail
        go_quiet (fail)
        go_wp2_with fail
        go_roundw
        case rel => exact ⟨k + 1, by rw [HN.out.1]; omega, by go_num, below_dN hB _, HE'⟩
        case measure => simp [intOf]; omega
      · have hne' : (((a.getD k 0 : Nat) : Int) != ((b.getD k 0 : Nat) : Int)) = true := by rw [bne_iff_ne]; omega
        have HF : Hid (q = false) := by
          show q = false
          rw [← HQ.out]
          exact decide_eq_false (fun e => hne (by rw [e]))
        clear hne
        generalize a.getD k 0 = x at *
        generalize b.getD k 0 = y at *
        go_wp2_with fail
        go_quiet (fail)
        go_wp2_with fail
        go_ret
        exact ⟨by rw [HF.out]; rfl, below_dN hB _⟩
    · have HF : Hid (q = true) := by
        show q = true
        rw [← HQ.out]
        have h1 := HE.out
        rw [List.take_of_length_le (by rw [HN.out.1]; omega), List.take_of_length_le (by rw [HN.out.2]; omega)] at h1
        exact decide_eq_true h1
      go_wp2_with fail
      go_ret
      exact ⟨by rw [HF.out]; rfl, hB⟩

theorem sameN (w : World) (A1 A2 : Option Addr) (c1 c2 : Nat) (x y : Nat) (hy : Fit y) (r1 : RdW w w.heap.size A1 (limbs x)) (r2 : RdW w w.heap.size A2 (limbs y)) :
    Calls Tryz.prog 15 #[.slice A1 (limbs x).length c1, .slice A2 (limbs y).length c2] w fun e w' => e = .returned (.bool (decide (x = y))) ∧ Below w.heap.size w w' := by
  have := same_any w A1 A2 c1 c2 _ _ r1 r2 (fit_le hy)
  have e : decide (limbs x = limbs y) = decide (x = y) := decide_eq_decide.2 ⟨fun h => by rw [← limbs_val x, h, limbs_val], fun h => by rw [h]⟩
  rw [e] at this
  exact this
theorem sameZ (w : World) (A1 A2 : Option Addr) (c1 c2 : Nat) : Calls Tryz.prog 15 #[.slice A1 0 c1, .slice A2 0 c2] w fun e w' => e = .returned (.bool true) ∧ Below w.heap.size w w' := by
  have := same_any w A1 A2 c1 c2 [] [] (RdW.nil _ _ _) (RdW.nil _ _ _) (by simp)
  exact this

end Go.Proofs.YtgcobhlplffpjaaGreatDoor
