/- Walks: the head of the laws: every function at fixed numbers. -/
import Derived.Test.YtgcobhlplffpjaaGreatDoorN7
namespace Go.Proofs.YtgcobhlplffpjaaGreatDoor
open Go.RowKit Go.Deep

theorem limbs_lit {l : List Nat} {v : Nat} (hv : val l = v) (hl : (l.all fun x => decide (x < 4294967296)) = true) (hn : l.getLast? ≠ some 0) : limbs v = l := by
  subst hv
  exact limbs_of (fun x hx => of_decide_eq_true (List.all_eq_true.1 hl x hx)) hn
theorem l_word : limbs 4294967296 = [0, 1] := limbs_lit rfl rfl (by decide)
theorem l_top : limbs 4294967295 = [4294967295] := limbs_lit rfl rfl (by decide)
theorem l_a : limbs 18446744065119617025 = [1, 4294967294] := limbs_lit rfl rfl (by decide)
theorem l_one : limbs 1 = [1] := limbs_lit rfl rfl (by decide)
theorem l_two : limbs 2 = [2] := limbs_lit rfl rfl (by decide)
theorem l_ten : limbs 10 = [10] := limbs_lit rfl rfl (by decide)
theorem l_x : limbs 79228162514264337593543950336 = [0, 0, 0, 1] := limbs_lit rfl rfl (by decide)
theorem l_y : limbs 4294967297 = [1, 1] := limbs_lit rfl rfl (by decide)
theorem l_q : limbs 18446744069414584320 = [0, 4294967295] := limbs_lit rfl rfl (by decide)
theorem l_p : limbs 100000000000000000000 = [1661992960, 1808227885, 5] := limbs_lit rfl rfl (by decide)
theorem dec_lit {l : List UInt8} {v : Nat} (hv : num 0 l = v) (hd : isDecB l = true) : Lib.decDigits v = l := by
  subst hv
  unfold isDecB at hd
  simp only [Bool.and_eq_true, Bool.not_eq_true', decide_eq_true_eq, List.all_eq_true] at hd
  refine dec_num l ⟨hd.1.1, fun x hx => by have := hd.2 x hx; simpa [isDig] using this, fun h => ?_⟩
  have h1 := hd.1.2
  have h2 : 0 < l.length := List.length_pos_iff.2 hd.1.1
  rw [Bool.and_eq_false_iff] at h1
  rcases h1 with h1 | h1
  · simp [h] at h1
  · simp at h1; omega
def bA : List UInt8 := [49, 56, 52, 52, 54, 55, 52, 52, 48, 54, 53, 49, 49, 57, 54, 49, 55, 48, 50, 53]
def bP : List UInt8 := [49, 48, 48, 48, 48, 48, 48, 48, 48, 48, 48, 48, 48, 48, 48, 48, 48, 48, 48, 48, 48]
theorem d_a : Lib.decDigits 18446744065119617025 = bA := dec_lit (by rfl) (by rfl)
theorem d_p : Lib.decDigits 100000000000000000000 = bP := dec_lit (by rfl) (by rfl)
theorem fit_lit {v : Nat} {l : List Nat} (h : limbs v = l) (hl : l.length ≤ 640) : Fit v := by unfold Fit; rw [h]; exact hl
theorem Store.alloc {w : World} {L : List (Option Addr × List Nat)} (h : Store w L) (cs : Array Value) (l : List Nat) (hcs : cs.toList = ucells l) : Store (w.alloc (.cells cs 30)) ((some ⟨w.heap.size, 0, none⟩, l) :: L) := by
  refine h.push ((Below.refl _ _).alloc (Nat.le_refl _) _) ?_
  have h1 := shows_new w cs 30 l.length 1 (by rw [← Array.length_toList, hcs, ucells_length, Nat.mul_one])
  rw [hcs] at h1
  exact (rdw_of h1).mono (by simp)

/-- What the head's calls give, each at its fixed numbers. -/
theorem h_mul (w : World) (A : Option Addr) (c : Nat) (r : RdW w w.heap.size A [4294967295]) : Calls Tryz.prog 16 #[.slice A 1 c, .slice A 1 c] w fun e w' => Below w.heap.size w w' ∧ ∃ A, e = .returned (.tuple #[.slice A 2 2, .int .i64 0]) ∧ RdW w' w'.heap.size A [1, 4294967294] := by
  have e : 4294967295 * 4294967295 = 18446744065119617025 := rfl
  have h := mulN w A A c c 4294967295 4294967295 (fit_lit l_top (by decide)) (fit_lit l_top (by decide)) (by rw [l_top]; exact r) (by rw [l_top]; exact r) (by rw [e]; exact fit_lit l_a (by decide))
  rw [e] at h
  unfold NumEnd at h
  rw [l_top, l_a] at h
  exact h
theorem h_text (w : World) (A : Option Addr) (c : Nat) (r : RdW w w.heap.size A [1, 4294967294]) (hT : Tab w) : Calls Tryz.prog 21 #[.slice A 2 c] w fun e w' => e = .returned (.tuple #[str bA, .int .i64 0]) ∧ Below w.heap.size w w' := by
  have h := textN w A c 18446744065119617025 (fit_lit l_a (by decide)) (by rw [l_a]; exact r) hT
  rw [l_a, d_a] at h
  exact h
theorem h_make (w : World) : Calls Tryz.prog 20 #[.int .u64 4294967296] w fun e w' => Below w.heap.size w w' ∧ ∃ A, e = .returned (.slice A 2 2) ∧ RdW w' w'.heap.size A [0, 1] := by
  have h := makeN w 4294967296 (by omega)
  rw [l_word] at h
  exact h
theorem h_sub (w : World) (A B : Option Addr) (c d : Nat) (r1 : RdW w w.heap.size A [0, 1]) (r2 : RdW w w.heap.size B [1]) : Calls Tryz.prog 19 #[.slice A 2 c, .slice B 1 d] w fun e w' => Below w.heap.size w w' ∧ ∃ A, e = .returned (.tuple #[.slice A 1 1, .int .i64 0]) ∧ RdW w' w'.heap.size A [4294967295] := by
  have e : 4294967296 - 1 = 4294967295 := rfl
  have h := subN w A B c d 4294967296 1 (fit_lit l_word (by decide)) (fit_lit l_one (by decide)) (by rw [l_word]; exact r1) (by rw [l_one]; exact r2) (by omega)
  rw [e] at h
  unfold NumEnd at h
  rw [l_word, l_one, l_top] at h
  exact h
theorem h_div (w : World) (A B : Option Addr) (c d : Nat) (r1 : RdW w w.heap.size A [0, 0, 0, 1]) (r2 : RdW w w.heap.size B [1, 1]) : Calls Tryz.prog 29 #[.slice A 4 c, .slice B 2 d] w fun e w' => Below w.heap.size w w' ∧ ∃ A B c d, e = .returned (.tuple #[.slice A 2 c, .slice B 2 d, .int .i64 0]) ∧ RdW w' w'.heap.size A [0, 4294967295] ∧ RdW w' w'.heap.size B [0, 1] := by
  have e1 : 79228162514264337593543950336 / 4294967297 = 18446744069414584320 := rfl
  have e2 : 79228162514264337593543950336 % 4294967297 = 4294967296 := rfl
  have h := divN w A B c d 79228162514264337593543950336 4294967297 (fit_lit l_x (by decide)) (fit_lit l_y (by decide)) (by rw [l_x]; exact r1) (by rw [l_y]; exact r2) (by omega)
  rw [e1, e2, l_x, l_y, l_q, l_word] at h
  exact h
theorem h_pow (w : World) (A : Option Addr) (c : Nat) (r : RdW w w.heap.size A [10]) : Calls Tryz.prog 14 #[.slice A 1 c, .int .i64 20] w fun e w' => Below w.heap.size w w' ∧ ∃ A, e = .returned (.tuple #[.slice A 3 3, .int .i64 0]) ∧ RdW w' w'.heap.size A [1661992960, 1808227885, 5] := by
  have e : 10 ^ 20 = 100000000000000000000 := rfl
  have h := powN w A c 10 20 (fit_lit l_ten (by decide)) (by rw [l_ten]; exact r) (by omega) (by rw [e]; exact fit_lit l_p (by decide))
  rw [e] at h
  unfold NumEnd at h
  rw [l_ten, l_p] at h
  exact h
theorem h_text2 (w : World) (A : Option Addr) (c : Nat) (r : RdW w w.heap.size A [1661992960, 1808227885, 5]) (hT : Tab w) : Calls Tryz.prog 21 #[.slice A 3 c] w fun e w' => e = .returned (.tuple #[str bP, .int .i64 0]) ∧ Below w.heap.size w w' := by
  have h := textN w A c 100000000000000000000 (fit_lit l_p (by decide)) (by rw [l_p]; exact r) hT
  rw [l_p, d_p] at h
  exact h
theorem h_sub2 (w : World) (A B : Option Addr) (c d : Nat) (r1 : RdW w w.heap.size A [1]) (r2 : RdW w w.heap.size B [2]) : Calls Tryz.prog 19 #[.slice A 1 c, .slice B 1 d] w (ErrEnd w 3) := by
  have h := subE w A B c d 1 2 (fit_lit l_one (by decide)) (fit_lit l_two (by decide)) (by rw [l_one]; exact r1) (by rw [l_two]; exact r2) (by omega)
  rw [l_one, l_two] at h
  exact h
theorem h_parse1 (w : World) : Calls Tryz.prog 22 #[.string ⟨#[48, 49]⟩] w (ErrEnd w 8) := parseE w [48, 49] (by simp) rfl
theorem h_parse2 (w : World) : Calls Tryz.prog 22 #[.string ⟨#[49, 56, 52, 52, 54, 55, 52, 52, 48, 54, 53, 49, 49, 57, 54, 49, 55, 48, 50, 53]⟩] w fun e w' => Below w.heap.size w w' ∧ ∃ A, e = .returned (.tuple #[.slice A 2 2, .int .i64 0]) ∧ RdW w' w'.heap.size A [1, 4294967294] := by
  have e : num 0 bA = 18446744065119617025 := rfl
  have h := parseN w bA (by simp [bA]) rfl (by rw [e]; exact fit_lit l_a (by decide))
  rw [e] at h
  unfold NumEnd at h
  rw [l_a] at h
  exact h
theorem h_same (w : World) (A B : Option Addr) (c d n m : Nat) (l1 l2 : List Nat) (q : Bool) (r1 : RdW w w.heap.size A l1) (r2 : RdW w w.heap.size B l2) (h1 : l1.length = n) (h2 : l2.length = m) (hb2 : m ≤ 9) (hq : decide (l1 = l2) = q) :
    Calls Tryz.prog 15 #[.slice A n c, .slice B m d] w fun e w' => e = .returned (.bool q) ∧ Below w.heap.size w w' := by
  subst h1 h2 hq
  exact same_any w A B c d l1 l2 r1 r2 (by omega)

set_option maxRecDepth 100000 in
set_option maxHeartbeats 4000000 in
theorem head_any (w : World) (hT : Tab w) : Calls Tryz.prog 12 #[] w fun e w' => e = .returned (.bool true) ∧ Below w.heap.size w w' := by
  have HT := Lib.hid hT; clear hT
  have HB := Lib.hid (Below.refl w.heap.size w)
  have HR : Hid (Store w []) := fun p hp => by cases hp
  go_enter Tryz.func12, Tryz.ntmps12
  go_wp2_with fail
  refine (h_make _).mono ?_
  rintro e w1 ⟨hb, Aw, rfl, hr⟩
  replace HR := Lib.hid (HR.out.push hb hr)
  replace HB := Lib.hid (below_on HB.out hb)
  clear hb hr
  replace HR := Lib.hid (HR.out.alloc #[.int .u32 4294967295] [4294967295] rfl)
  replace HB := Lib.hid (HB.out.alloc HB.out.size (.cells #[.int .u32 4294967295] 30))
  go_wp2_with fail
  refine (h_mul _ _ _ (HR.out.rd (by simp))).mono ?_
  rintro e w2 ⟨hb, Aa, rfl, hr⟩
  replace HR := Lib.hid (HR.out.push hb hr)
  replace HB := Lib.hid (below_on HB.out hb)
  clear hb hr
  go_wp2_with fail
  refine (h_text _ _ _ (HR.out.rd (by simp)) (HT.out.below HB.out)).mono ?_
  rintro e w3 ⟨rfl, hb⟩
  replace HR := Lib.hid (HR.out.on hb)
  replace HB := Lib.hid (below_on HB.out hb)
  clear hb
  replace HR := Lib.hid (HR.out.alloc #[.int .u32 1] [1] rfl)
  replace HB := Lib.hid (HB.out.alloc HB.out.size (.cells #[.int .u32 1] 30))
  go_wp2_with fail
  refine (h_sub _ _ _ _ _ (HR.out.rd (by simp)) (HR.out.rd (by simp))).mono ?_
  rintro e w4 ⟨hb, Ac, rfl, hr⟩
  replace HR := Lib.hid (HR.out.push hb hr)
  replace HB := Lib.hid (below_on HB.out hb)
  clear hb hr
  replace HR := Lib.hid (HR.out.alloc #[.int .u32 0, .int .u32 0, .int .u32 0, .int .u32 1] [0, 0, 0, 1] rfl)
  replace HB := Lib.hid (HB.out.alloc HB.out.size (.cells #[.int .u32 0, .int .u32 0, .int .u32 0, .int .u32 1] 30))
  replace HR := Lib.hid (HR.out.alloc #[.int .u32 1, .int .u32 1] [1, 1] rfl)
  replace HB := Lib.hid (HB.out.alloc HB.out.size (.cells #[.int .u32 1, .int .u32 1] 30))
  go_wp2_with fail
  refine (h_div _ _ _ _ _ (HR.out.rd (by simp)) (HR.out.rd (by simp))).mono ?_
  rintro e w5 ⟨hb, Aq, Ar, cq, cr, rfl, hr, hr2⟩
  replace HR := Lib.hid ((HR.out.push hb hr).push (Below.refl _ _) hr2)
  replace HB := Lib.hid (below_on HB.out hb)
  clear hb hr hr2
  replace HR := Lib.hid (HR.out.alloc #[.int .u32 10] [10] rfl)
  replace HB := Lib.hid (HB.out.alloc HB.out.size (.cells #[.int .u32 10] 30))
  go_wp2_with fail
  refine (h_pow _ _ _ (HR.out.rd (by simp))).mono ?_
  rintro e w6 ⟨hb, Ap, rfl, hr⟩
  replace HR := Lib.hid (HR.out.push hb hr)
  replace HB := Lib.hid (below_on HB.out hb)
  clear hb hr
  go_wp2_with fail
  refine (h_text2 _ _ _ (HR.out.rd (by simp)) (HT.out.below HB.out)).mono ?_
  rintro e w7 ⟨rfl, hb⟩
  replace HR := Lib.hid (HR.out.on hb)
  replace HB := Lib.hid (below_on HB.out hb)
  clear hb
  replace HR := Lib.hid (HR.out.alloc #[.int .u32 1] [1] rfl)
  replace HB := Lib.hid (HB.out.alloc HB.out.size (.cells #[.int .u32 1] 30))
  replace HR := Lib.hid (HR.out.alloc #[.int .u32 2] [2] rfl)
  replace HB := Lib.hid (HB.out.alloc HB.out.size (.cells #[.int .u32 2] 30))
  go_wp2_with fail
  refine (h_sub2 _ _ _ _ _ (HR.out.rd (by simp)) (HR.out.rd (by simp))).mono ?_
  rintro e w8 ⟨hb, A8, rfl, -⟩
  replace HR := Lib.hid (HR.out.on hb)
  replace HB := Lib.hid (below_on HB.out hb)
  clear hb
  go_wp2_with fail
  refine (h_parse1 _).mono ?_
  rintro e w9 ⟨hb, A9, rfl, -⟩
  replace HR := Lib.hid (HR.out.on hb)
  replace HB := Lib.hid (below_on HB.out hb)
  clear hb
  go_wp2_with fail
  refine (h_parse2 _).mono ?_
  rintro e w10 ⟨hb, An, rfl, hr⟩
  replace HR := Lib.hid (HR.out.push hb hr)
  replace HB := Lib.hid (below_on HB.out hb)
  clear hb hr
  replace HR := Lib.hid (HR.out.alloc #[.int .u32 0, .int .u32 1] [0, 1] rfl)
  replace HB := Lib.hid (HB.out.alloc HB.out.size (.cells #[.int .u32 0, .int .u32 1] 30))
  go_wp2_with fail
  refine (h_same _ _ _ _ _ _ _ [0, 1] [0, 1] true (HR.out.rd (by simp)) (HR.out.rd (by simp)) rfl rfl (by decide) rfl).mono ?_
  rintro e w11 ⟨rfl, hb⟩
  replace HR := Lib.hid (HR.out.on hb)
  replace HB := Lib.hid (below_on HB.out hb)
  clear hb
  replace HR := Lib.hid (HR.out.alloc #[.int .u32 1, .int .u32 4294967294] [1, 4294967294] rfl)
  replace HB := Lib.hid (HB.out.alloc HB.out.size (.cells #[.int .u32 1, .int .u32 4294967294] 30))
  go_wp2_with fail
  refine (h_same _ _ _ _ _ _ _ [1, 4294967294] [1, 4294967294] true (HR.out.rd (by simp)) (HR.out.rd (by simp)) rfl rfl (by decide) rfl).mono ?_
  rintro e w12 ⟨rfl, hb⟩
  replace HR := Lib.hid (HR.out.on hb)
  replace HB := Lib.hid (below_on HB.out hb)
  clear hb
  go_wp2_with fail
  refine (h_same _ _ _ _ _ _ _ [1, 4294967294] [1, 4294967294] true (HR.out.rd (by simp)) (HR.out.rd (by simp)) rfl rfl (by decide) rfl).mono ?_
  rintro e w13 ⟨rfl, hb⟩
  replace HR := Lib.hid (HR.out.on hb)
  replace HB := Lib.hid (below_on HB.out hb)
  clear hb
  go_wp2_with fail
  refine (h_same _ _ _ _ _ _ _ [4294967295] [4294967295] true (HR.out.rd (by simp)) (HR.out.rd (by simp)) rfl rfl (by decide) rfl).mono ?_
  rintro e w14 ⟨rfl, hb⟩
  replace HR := Lib.hid (HR.out.on hb)
  replace HB := Lib.hid (below_on HB.out hb)
  clear hb
  replace HR := Lib.hid (HR.out.alloc #[.int .u32 0, .int .u32 4294967295] [0, 4294967295] rfl)
  replace HB := Lib.hid (HB.out.alloc HB.out.size (.cells #[.int .u32 0, .int .u32 4294967295] 30))
  go_wp2_with fail
  refine (h_same _ _ _ _ _ _ _ [0, 4294967295] [0, 4294967295] true (HR.out.rd (by simp)) (HR.out.rd (by simp)) rfl rfl (by decide) rfl).mono ?_
  rintro e w15 ⟨rfl, hb⟩
  replace HR := Lib.hid (HR.out.on hb)
  replace HB := Lib.hid (below_on HB.out hb)
  clear hb
  go_wp2_with fail
  refine (h_same _ _ _ _ _ _ _ [0, 1] [0, 1] true (HR.out.rd (by simp)) (HR.out.rd (by simp)) rfl rfl (by decide) rfl).mono ?_
  rintro e w16 ⟨rfl, hb⟩
  replace HR := Lib.hid (HR.out.on hb)
  replace HB := Lib.hid (below_on HB.out hb)
  clear hb
  go_wp2_with fail
  refine (valid_q _ none 0 [] true (RdW.nil _ _ _) (by simp) rfl).mono ?_
  rintro e w17 ⟨rfl, rfl⟩
  replace HR := Lib.hid (HR.out.alloc #[.int .u32 1, .int .u32 0] [1, 0] rfl)
  replace HB := Lib.hid (HB.out.alloc HB.out.size (.cells #[.int .u32 1, .int .u32 0] 30))
  go_wp2_with fail
  refine (valid_q _ _ _ [1, 0] false (HR.out.rd (by simp)) (by simp) rfl).mono ?_
  rintro e w18 ⟨rfl, rfl⟩
  go_wp2_with fail
  go_ret
  exact ⟨rfl, HB.out⟩

end Go.Proofs.YtgcobhlplffpjaaGreatDoor
