/- Walks: slices.Clone, Div. -/
import Derived.Test.YtgcobhlplffpjaaGreatDoorNz
import Derived.Deep.DeepMust
namespace Go.Proofs.YtgcobhlplffpjaaGreatDoor
open Go.RowKit Go.Deep

def ucells (l : List Nat) : List Value := l.map fun (x : Nat) => Value.int .u32 (x : Int)
theorem ucells_length (l : List Nat) : (ucells l).length = l.length := List.length_map ..
theorem ucells_one (l : List Nat) : ∀ u ∈ ucells l, u.oneCell' = true := by
  intro u hu
  obtain ⟨x, -, rfl⟩ := List.mem_map.1 hu
  rfl
theorem ucells_at (l : List Nat) (j : Nat) (hj : j < l.length) : (ucells l)[j]? = some (.int .u32 ((l.getD j 0 : Nat) : Int)) := by
  rw [ucells, List.getElem?_map, List.getD_eq_getElem?_getD, List.getElem?_eq_getElem hj]; rfl
theorem RdW.shows {w : World} {B : Nat} {A : Option Addr} {l : List Nat} (h : RdW w B A l) : Shows w B 1 A l.length (ucells l) :=
  ⟨by rw [ucells_length, Nat.mul_one], fun hn => by
    obtain ⟨ad, e, hb, hc⟩ := h hn
    exact ⟨ad, e, hb, fun j hj => by rw [ucells_length] at hj; rw [hc j hj, ucells_at l j hj]⟩⟩
theorem rdw_of {w : World} {B : Nat} {A : Option Addr} {l : List Nat} (h : Shows w B 1 A l.length (ucells l)) : RdW w B A l := fun hl => by
  obtain ⟨ad, e, hb, hc⟩ := h.2 hl
  exact ⟨ad, e, hb, fun j hj => by rw [hc j (by rw [ucells_length]; exact hj), ucells_at l j hj]⟩
/-- A row of limbs of the call's own. -/
def OwnU (w : World) (base : Nat) (v : Value) (l : List Nat) : Prop := w.ownsRow base 30 1 v l.length (ucells l)
theorem OwnU.form {w : World} {base : Nat} {v : Value} {l : List Nat} (h : OwnU w base v l) : ∃ A c, v = .slice A l.length c ∧ l.length ≤ c ∧ RdW w w.heap.size A l := by
  have h' := h
  rcases h'.2 with ⟨rfl, h0⟩ | ⟨g, cap, cur, rfl, -, -, hc, -⟩
  · exact ⟨none, 0, by rw [h0], by omega, fun hl => by omega⟩
  · exact ⟨_, cap, rfl, hc, rdw_of (Shows.of_own h)⟩
theorem OwnU.snoc {w : World} {base : Nat} {v : Value} {l m : List Nat} (h : w.ownsRow base 30 1 v (l.length + m.length) (ucells l ++ ucells m)) : OwnU w base v (l ++ m) := by
  unfold OwnU
  rw [List.length_append, show ucells (l ++ m) = ucells l ++ ucells m by simp [ucells]]
  exact h
theorem empty_ownU (w : World) (base : Nat) (h : base ≤ w.heap.size) : OwnU (w.alloc (.cells #[] 30)) base (.slice (some ⟨w.heap.size, 0, none⟩) 0 0) [] :=
  World.ownsRow_made (e := 30) (size := 1) w #[] 0 h (by simp) rfl

set_option maxRecDepth 100000 in
set_option maxHeartbeats 1000000 in
theorem clone_any (w : World) (A1 : Option Addr) (c1 : Nat) (a : List Nat) (ra : RdW w w.heap.size A1 a) (na : a.length ≤ 1000000) :
    Calls Tryz.prog 61 #[.slice A1 a.length c1] w fun e w' => Below w.heap.size w w' ∧ ∃ A c, e = .returned (.slice A a.length c) ∧ RdW w' w'.heap.size A a := by
  have heq := fun (A : Option Addr) (n c : Nat) (w : World) => Lib.run_eql_slice_nil (P := Tryz.prog) w 23 30 A n c 0 0 Tryz.underlying23
  rcases A1 with _ | ad
  · have h0 : a.length = 0 := by
      rcases Nat.eq_zero_or_pos a.length with h | h
      · exact h
      · obtain ⟨_, h', _⟩ := ra h; cases h'
    have HN := Lib.hid (List.eq_nil_of_length_eq_zero h0)
    rw [h0]
    clear h0 ra
    go_enter Tryz.func61, Tryz.ntmps61
    go_wp2_with fail
    go_ret
    exact ⟨Below.refl _ _, none, 0, rfl, by rw [HN.out]; exact RdW.nil _ _ _⟩
  · have RA := Lib.hid ra.shows; clear ra
    have HL := Lib.hid (ucells_one a)
    go_enter Tryz.func61, Tryz.ntmps61
    go_wp2_with (first
      | (at_builtin; go_must (refine wpList_app _ rfl (.tmp 5) (.tmp 6) 23 30 (.int .u32 0) 1 4 rfl Tryz.underlying23 info_u32 rfl (by decide) w.heap.size _ 0 [] rfl (empty_ownU w w.heap.size (Nat.le_refl _)) w.heap.size (some ad) a.length c1 (ucells a) rfl (RA.out.below (((Below.refl w.heap.size w).alloc (Nat.le_refl _) _))) HL.out (by simp only [maxLen]; omega) (by omega) (by simp) ?_); intro v' w' ho hg _; have hO : OwnU w' w.heap.size v' a := (by simpa [OwnU] using ho); obtain ⟨A', c', rfl, _, r'⟩ := hO.form; replace r' := Lib.hid r'; replace hg := Lib.hid hg; clear ho hO))
    go_ret
    exact ⟨below_grown ((Below.refl _ _).alloc (Nat.le_refl _) _) hg.out (by simp) (fun g h => by cases h; exact Nat.le_refl _), A', c', rfl, r'.out⟩

theorem valid_q (w : World) (A : Option Addr) (c : Nat) (l : List Nat) (q : Bool) (h : RdW w w.heap.size A l) (hl : l.length ≤ 9223372036854775807) (hq : isNat l = q) :
    Calls Tryz.prog 13 #[.slice A l.length c] w fun e w' => e = .returned (.bool q) ∧ w = w' := by
  subst hq
  exact valid_any w _ A c l h hl
theorem val_one : ∀ (b : List Nat), b.length = 1 → val b = b.getD 0 0
  | [x], _ => by simp [val]
/-- What Div hands back. -/
def divQ (a b : List Nat) : List Nat := if isNat a && isNat b && decide (b.length ≠ 0) then limbs (val a / val b) else []
def divR (a b : List Nat) : List Nat := if isNat a && isNat b && decide (b.length ≠ 0) then limbs (val a % val b) else []
def divE (a b : List Nat) : Int := if isNat a && isNat b then (if b.length = 0 then 7 else 0) else 1
def EndsD (w : World) (q r : List Nat) (k : Int) (e : Ending) (w' : World) : Prop :=
  Below w.heap.size w w' ∧ ∃ A B c d, e = .returned (.tuple #[.slice A q.length c, .slice B r.length d, .int .i64 k]) ∧ RdW w' w'.heap.size A q ∧ RdW w' w'.heap.size B r

set_option maxRecDepth 100000 in
set_option maxHeartbeats 1000000 in
theorem div_bad (w : World) (A1 A2 : Option Addr) (c1 c2 : Nat) (a b : List Nat) (ra : RdW w w.heap.size A1 a) (rb : RdW w w.heap.size A2 b) (na : a.length ≤ 9223372036854775807) (nb : b.length ≤ 9223372036854775807) (h : (isNat a && isNat b) = false) :
    Calls Tryz.prog 29 #[.slice A1 a.length c1, .slice A2 b.length c2] w (EndsD w [] [] 1) := by
  rcases ha : isNat a with _ | _
  · have H1 := Lib.hid (valid_q w A1 c1 a false ra na ha)
    clear ra rb
    go_enter Tryz.func29, Tryz.ntmps29
    go_wp2_with (go_at_call 13; refine H1.out.mono ?_; rintro e w' ⟨rfl, rfl⟩)
    go_ret3
    exact ⟨Below.refl _ _, none, none, 0, 0, rfl, RdW.nil _ _ _, RdW.nil _ _ _⟩
  · rcases hb : isNat b with _ | _
    · have H1 := Lib.hid (valid_q w A1 c1 a true ra na ha)
      have H2 := Lib.hid (valid_q w A2 c2 b false rb nb hb)
      clear ra rb
      have tok1 : True := trivial
      go_enter Tryz.func29, Tryz.ntmps29
      go_wp2_with (first
        | (go_at_call 13; have _t := tok1; refine H1.out.mono ?_; rintro e w' ⟨rfl, rfl⟩; clear tok1)
        | (go_at_call 13; refine H2.out.mono ?_; rintro e w' ⟨rfl, rfl⟩))
      go_ret3
      exact ⟨Below.refl _ _, none, none, 0, 0, rfl, RdW.nil _ _ _, RdW.nil _ _ _⟩
    · rw [ha, hb] at h; cases h

set_option maxRecDepth 100000 in
set_option maxHeartbeats 1000000 in
theorem div_good (w : World) (A1 A2 : Option Addr) (c1 c2 : Nat) (a b : List Nat) (ra : RdW w w.heap.size A1 a) (rb : RdW w w.heap.size A2 b) (la : Lim a) (lb : Lim b) (ha : isNat a = true) (hb : isNat b = true) :
    Calls Tryz.prog 29 #[.slice A1 a.length c1, .slice A2 b.length c2] w (EndsD w (divQ a b) (divR a b) (divE a b)) := by
  have na := (isNat_norm ha).1
  have nb := (isNat_norm hb).1
  have H1 := Lib.hid (valid_q w A1 c1 a true ra (by omega) ha)
  have H2 := Lib.hid (valid_q w A2 c2 b true rb (by omega) hb)
  have tok1 : True := trivial
  have ea : (isNat a && isNat b) = true := by rw [ha, hb]; rfl
  by_cases h0 : b.length = 0
  · have eq : divQ a b = [] := by unfold divQ; rw [ea, h0]; rfl
    have er : divR a b = [] := by unfold divR; rw [ea, h0]; rfl
    have ek : divE a b = 7 := by unfold divE; rw [ea, h0]; rfl
    rw [eq, er, ek]
    rw [h0] at H2 ⊢
    clear eq er ek ea ha hb ra rb h0
    go_enter Tryz.func29, Tryz.ntmps29
    go_wp2_with (first
      | (go_at_call 13; have _t := tok1; refine H1.out.mono ?_; rintro e w' ⟨rfl, rfl⟩; clear tok1)
      | (go_at_call 13; refine H2.out.mono ?_; rintro e w' ⟨rfl, rfl⟩))
    go_ret3
    exact ⟨Below.refl _ _, none, none, 0, 0, rfl, RdW.nil _ _ _, RdW.nil _ _ _⟩
  · have eq : divQ a b = limbs (val a / val b) := by unfold divQ; rw [ea]; simp [h0]
    have er : divR a b = limbs (val a % val b) := by unfold divR; rw [ea]; simp [h0]
    have ek : divE a b = 0 := by unfold divE; rw [ea]; simp [h0]
    rw [eq, er, ek]
    clear eq er ek ea
    have hbne : b ≠ [] := fun e => h0 (by rw [e]; rfl)
    have hvb : 0 < val b := Nat.lt_of_lt_of_le (pw_pos _) (norm_pos (isNat_norm hb).2 hbne)
    have hb0 : ((b.length : Int) == 0) = false := by simp only [beq_eq_false_iff_ne, ne_eq]; omega
    by_cases hlt : a.length < b.length
    · have hv := val_len_lt a b la (isNat_norm hb).2 hlt
      have e1 : limbs (val a / val b) = [] := by rw [Nat.div_eq_of_lt hv]; rfl
      have e2 : limbs (val a % val b) = a := by rw [Nat.mod_eq_of_lt hv]; exact (isNat_eq la ha).symm
      rw [e1, e2]
      have HC := Lib.hid (clone_any w A1 c1 a ra (by omega))
      clear e1 e2 hv hvb hbne ra rb la lb ha hb
      go_enter Tryz.func29, Tryz.ntmps29
      go_wp2_with (first
        | (go_at_call 13; have _t := tok1; refine H1.out.mono ?_; rintro e w' ⟨rfl, rfl⟩; clear tok1)
        | (go_at_call 13; refine H2.out.mono ?_; rintro e w' ⟨rfl, rfl⟩)
        | (go_at_call 61; refine HC.out.mono ?_; rintro e w1 ⟨hB, A', c', rfl, hr⟩))
      go_ret3
      exact ⟨hB, none, A', 0, c', rfl, RdW.nil _ _ _, hr⟩
    · by_cases h1 : b.length = 1
      · obtain ⟨ad, rfl, had, hcell⟩ := rb (by omega)
        have hx := hcell 0 (by omega)
        have hx' : w.cell? ad = some (.int .u32 ((b.getD 0 0 : Nat) : Int)) := by simpa [Addr.add] using hx
        have hbv : val b = b.getD 0 0 := val_one b h1
        have hdl := lb.getD 0
        have HS := Lib.hid (short_any w A1 c1 (b.getD 0 0) a ra la na hdl (by rw [← hbv]; exact hvb))
        have hm : val a % b.getD 0 0 < 4294967296 := Nat.lt_trans (Nat.mod_lt _ (by rw [← hbv]; exact hvb)) hdl
        rw [hbv]
        rw [h1] at H2 hb0 hlt ⊢
        have HM := Lib.hid fun (w1 : World) => make_any w1 (val a % b.getD 0 0) (by omega)
        have HF := Lib.hid (show (limbs (val a % b.getD 0 0)).length ≤ 640 from Nat.le_trans (limbs_len (k := 1) |>.2 (by rw [pw_succ, pw_zero, Nat.mul_one]; exact hm)) (by omega))
        clear hcell hx hbv hvb hbne ra rb la lb ha hb hb0 h0 h1
        generalize val a % b.getD 0 0 = m at *
        generalize b.getD 0 0 = d at *
        go_enter Tryz.func29, Tryz.ntmps29
        go_wp2_with (first
          | (go_at_call 13; have _t := tok1; refine H1.out.mono ?_; rintro e w' ⟨rfl, rfl⟩; clear tok1)
          | (go_at_call 13; refine H2.out.mono ?_; rintro e w' ⟨rfl, rfl⟩)
          | (go_at_call 45; refine HS.out.mono ?_; rintro e w1 ⟨hB, A', rfl, hr, -⟩; replace hr := Lib.hid hr; replace hB := Lib.hid hB)
          | (go_at_call 20; refine (HM.out _).mono ?_; rintro e w2 ⟨hB2, he⟩; rw [if_pos HF.out] at he; obtain ⟨A2, rfl, hr2⟩ := he))
        go_ret3
        exact ⟨below_on hB.out hB2, A', A2, _, _, rfl, (hr.out.below hB2 (Nat.le_refl _)).mono hB2.size, hr2⟩
      · have h2 : 2 ≤ b.length := by omega
        have hb1 : ((b.length : Int) == 1) = false := by simp only [beq_eq_false_iff_ne, ne_eq]; omega
        have HL := Lib.hid (long_any w A1 A2 c1 c2 a b ra rb la lb ha hb h2 (by omega))
        clear hvb hbne ra rb la lb ha hb h0 h1
        go_enter Tryz.func29, Tryz.ntmps29
        go_wp2_with (first
          | (go_at_call 13; have _t := tok1; refine H1.out.mono ?_; rintro e w' ⟨rfl, rfl⟩; clear tok1)
          | (go_at_call 13; refine H2.out.mono ?_; rintro e w' ⟨rfl, rfl⟩)
          | (go_at_call 62; refine HL.out.mono ?_; rintro e w1 ⟨hB, A', B', rfl, hr1, hr2⟩))
        go_ret3
        exact ⟨hB, A', B', _, _, rfl, hr1, hr2⟩

theorem div_api (w : World) (A1 A2 : Option Addr) (c1 c2 : Nat) (a b : List Nat) (ra : RdW w w.heap.size A1 a) (rb : RdW w w.heap.size A2 b) (la : Lim a) (lb : Lim b) (na : a.length ≤ 9223372036854775807) (nb : b.length ≤ 9223372036854775807) :
    Calls Tryz.prog 29 #[.slice A1 a.length c1, .slice A2 b.length c2] w (EndsD w (divQ a b) (divR a b) (divE a b)) := by
  rcases h : (isNat a && isNat b) with _ | _
  · have eq : divQ a b = [] := by unfold divQ; rw [h]; rfl
    have er : divR a b = [] := by unfold divR; rw [h]; rfl
    have ek : divE a b = 1 := by unfold divE; rw [h]; rfl
    rw [eq, er, ek]
    exact div_bad w A1 A2 c1 c2 a b ra rb na nb h
  · rw [Bool.and_eq_true] at h
    exact div_good w A1 A2 c1 c2 a b ra rb la lb h.1 h.2

end Go.Proofs.YtgcobhlplffpjaaGreatDoor
