/- Walk: the law NaturalMatchesReference answers true. -/
import Derived.Test.YtgcobhlplffpjaaGreatDoorRA
import Derived.Test.YtgcobhlplffpjaaGreatDoorRC
import Derived.Test.YtgcobhlplffpjaaGreatDoorRE
namespace Go.Proofs.YtgcobhlplffpjaaGreatDoor
open Go.RowKit Go.Deep

/-- What Cmp answers, whatever the lists. -/
def cmpV (a b : List Nat) : Int := if isNat a && isNat b then cmpI (val a) (val b) else 0
def cmpE (a b : List Nat) : Int := if isNat a && isNat b then 0 else 1
set_option maxRecDepth 100000 in
set_option maxHeartbeats 1000000 in
theorem cmp_bad (w : World) (A1 A2 : Option Addr) (c1 c2 : Nat) (a b : List Nat) (ra : RdW w w.heap.size A1 a) (rb : RdW w w.heap.size A2 b) (na : a.length ≤ 9223372036854775807) (nb : b.length ≤ 9223372036854775807) (p q : Bool) (hp : isNat a = p) (hq : isNat b = q) (h : (p && q) = false) :
    Calls Tryz.prog 23 #[.slice A1 a.length c1, .slice A2 b.length c2] w fun e w' => e = .returned (.tuple #[.int .i64 0, .int .i64 1]) ∧ Below w.heap.size w w' := by
  have H1 := Lib.hid (valid_q w A1 c1 a p ra na hp)
  have H2 := Lib.hid (valid_q w A2 c2 b q rb nb hq)
  clear ra rb hp hq
  rcases p with _ | _
  · go_enter Tryz.func23, Tryz.ntmps23
    go_wp2_with (first
      | (go_at_call 13; (with_reducible refine H1.out.mono ?_); rintro e w' ⟨rfl, rfl⟩)
      | (go_at_call 13; (with_reducible refine H2.out.mono ?_); rintro e w' ⟨rfl, rfl⟩))
    go_ret2
    exact ⟨rfl, Below.refl _ _⟩
  · rcases q with _ | _
    · go_enter Tryz.func23, Tryz.ntmps23
      go_wp2_with (first
        | (go_at_call 13; (with_reducible refine H1.out.mono ?_); rintro e w' ⟨rfl, rfl⟩)
        | (go_at_call 13; (with_reducible refine H2.out.mono ?_); rintro e w' ⟨rfl, rfl⟩))
      go_ret2
      exact ⟨rfl, Below.refl _ _⟩
    · cases h
theorem cmp_all (w : World) (A1 A2 : Option Addr) (c1 c2 : Nat) (a b : List Nat) (ra : RdW w w.heap.size A1 a) (rb : RdW w w.heap.size A2 b) (la : Lim a) (lb : Lim b) (na : a.length ≤ 9223372036854775807) (nb : b.length ≤ 9223372036854775807) :
    Calls Tryz.prog 23 #[.slice A1 a.length c1, .slice A2 b.length c2] w fun e w' => e = .returned (.tuple #[.int .i64 (cmpV a b), .int .i64 (cmpE a b)]) ∧ Below w.heap.size w w' := by
  unfold cmpV cmpE
  rcases h : (isNat a && isNat b) with _ | _
  · exact cmp_bad w A1 A2 c1 c2 a b ra rb na nb _ _ rfl rfl h
  · rw [Bool.and_eq_true] at h
    exact cmp_any w A1 A2 c1 c2 a b ra rb la lb h.1 h.2

/-- A list of limbs and an error handed back. -/
def Two (w : World) (l : List Nat) (k : Int) (e : Ending) (w' : World) : Prop := Below w.heap.size w w' ∧ ∃ A c, e = .returned (.tuple #[.slice A l.length c, .int .i64 k]) ∧ RdW w' w'.heap.size A l
theorem two_ends {w : World} {o : Out} {e : Ending} {w' : World} (h : EndsO w o e w') : Two w o.l o.e e w' := ⟨h.1, by obtain ⟨A, h2, h3⟩ := h.2; exact ⟨A, _, h2, h3⟩⟩
theorem two_rends {w : World} {o : Out} {e : Ending} {w' : World} (h : REndsO w o e w') : Two w o.l o.e e w' := h
theorem cutLen (v : Nat) : (cutO v).l.length ≤ 640 := by
  unfold cutO
  split
  · assumption
  · simp [Out.l]
theorem both_l (a b : List Nat) (o : Out) (h : o.l.length ≤ 640) : (both a b o).l.length ≤ 640 := by
  unfold both
  split
  · exact h
  · simp [Out.l]
theorem sub_l (a b : List Nat) : (subO a b).l.length ≤ 640 := both_l _ _ _ (by
  unfold diffO
  split
  · exact cutLen _
  · simp [Out.l])
theorem pow_l (a : List Nat) (n : Int) : (powO a n).l.length ≤ 640 := by
  unfold powO powV
  split
  · split
    · simp [Out.l]
    · exact cutLen _
  · simp [Out.l]
theorem parse_l (s : List UInt8) : (parseO s).l.length ≤ 640 := by
  unfold parseO
  split
  · exact cutLen _
  · simp [Out.l]
theorem divQ_l {a : List Nat} (la : Lim a) (b : List Nat) : (divQ a b).length ≤ 640 := by
  unfold divQ
  split
  · rename_i h
    rw [Bool.and_eq_true, Bool.and_eq_true] at h
    have h1 := limbs_len.2 (val_nat la h.1.1)
    exact Nat.le_trans (limbs_mono (Nat.div_le_self _ _)) h1
  · simp
theorem divR_l {a : List Nat} (la : Lim a) (b : List Nat) : (divR a b).length ≤ 640 := by
  unfold divR
  split
  · rename_i h
    rw [Bool.and_eq_true, Bool.and_eq_true] at h
    have h1 := limbs_len.2 (val_nat la h.1.1)
    exact Nat.le_trans (limbs_mono (Nat.mod_le _ _)) h1
  · simp
/-- Two equal lists are the same. -/
theorem same_eq (w : World) (A1 A2 : Option Addr) (c1 c2 : Nat) (l : List Nat) (r1 : RdW w w.heap.size A1 l) (r2 : RdW w w.heap.size A2 l) (n : l.length ≤ 640) :
    Calls Tryz.prog 15 #[.slice A1 l.length c1, .slice A2 l.length c2] w fun e w' => e = .returned (.bool true) ∧ Below w.heap.size w w' := by
  have := same_any w A1 A2 c1 c2 l l r1 r2 (by omega)
  rw [show decide (l = l) = true by simp] at this
  exact this

section
variable {w w1 : World} {A : Option Addr} {l : List Nat}
theorem up_rd (h : RdW w w.heap.size A l) (hb : Below w.heap.size w w1) : RdW w1 w1.heap.size A l := (h.below hb (Nat.le_refl _)).mono hb.size
end

set_option maxRecDepth 100000 in
set_option maxHeartbeats 8000000 in
theorem matches_any (w : World) (A1 A2 : Option Addr) (c1 c2 : Nat) (a b : List Nat) (n : Int) (m : Nat) (s : List UInt8) (r1 : RdW w w.heap.size A1 a) (r2 : RdW w w.heap.size A2 b) (la : Lim a) (lb : Lim b) (na : a.length ≤ 9223372036854775807) (nb : b.length ≤ 9223372036854775807) (_lo : -9223372036854775808 ≤ n) (hi : n ≤ 9223372036854775807) (hm : m < 18446744073709551616) (hs : s.length ≤ 9223372036854775807) (hT : Tab w) :
    Calls Tryz.prog 8 #[.slice A1 a.length c1, .slice A2 b.length c2, .int .i64 n, .int .u64 m, str s] w fun e w' => e = .returned (.bool true) ∧ Below w.heap.size w w' := by
  have HAdd := Lib.hid fun (w1 : World) (hb : Below w.heap.size w w1) => (add_api w1 A1 A2 c1 c2 a b (up_rd r1 hb) (up_rd r2 hb) la lb na nb).mono fun _ _ h => two_ends h
  have GAdd := Lib.hid fun (w1 : World) (hb : Below w.heap.size w w1) => (rAdd_any w1 A1 A2 c1 c2 a b (up_rd r1 hb) (up_rd r2 hb) la lb na nb).mono fun _ _ h => two_rends h
  have LAdd : (addO a b).l.length ≤ 640 := both_l _ _ _ (cutLen _)
  generalize (addO a b).l = lAdd at *
  generalize (addO a b).e = eAdd at *
  have HSub := Lib.hid fun (w1 : World) (hb : Below w.heap.size w w1) => (sub_api w1 A1 A2 c1 c2 a b (up_rd r1 hb) (up_rd r2 hb) la lb na nb).mono fun _ _ h => two_ends h
  have GSub := Lib.hid fun (w1 : World) (hb : Below w.heap.size w w1) => (rSub_any w1 A1 A2 c1 c2 a b (up_rd r1 hb) (up_rd r2 hb) la lb na nb).mono fun _ _ h => two_rends h
  have LSub : (subO a b).l.length ≤ 640 := sub_l a b
  generalize (subO a b).l = lSub at *
  generalize (subO a b).e = eSub at *
  have HMul := Lib.hid fun (w1 : World) (hb : Below w.heap.size w w1) => (mul_api w1 A1 A2 c1 c2 a b (up_rd r1 hb) (up_rd r2 hb) la lb na nb).mono fun _ _ h => two_ends h
  have GMul := Lib.hid fun (w1 : World) (hb : Below w.heap.size w w1) => (rMul_any w1 A1 A2 c1 c2 a b (up_rd r1 hb) (up_rd r2 hb) la lb na nb).mono fun _ _ h => two_rends h
  have LMul : (mulO a b).l.length ≤ 640 := both_l _ _ _ (cutLen _)
  generalize (mulO a b).l = lMul at *
  generalize (mulO a b).e = eMul at *
  have HPow := Lib.hid fun (w1 : World) (hb : Below w.heap.size w w1) => (pow_api w1 A1 c1 a n (up_rd r1 hb) la na hi).mono fun _ _ h => two_ends h
  have GPow := Lib.hid fun (w1 : World) (hb : Below w.heap.size w w1) => (rPow_any w1 A1 c1 a n (up_rd r1 hb) la na hi).mono fun _ _ h => two_rends h
  have LPow : (powO a n).l.length ≤ 640 := pow_l a n
  generalize (powO a n).l = lPow at *
  generalize (powO a n).e = ePow at *
  have HPar := Lib.hid fun (w1 : World) (_ : Below w.heap.size w w1) => (parse_api w1 s hs).mono fun _ _ h => two_ends h
  have GPar := Lib.hid fun (w1 : World) (_ : Below w.heap.size w w1) => (rParse_any w1 s hs).mono fun _ _ h => two_rends h
  have LPar : (parseO s).l.length ≤ 640 := parse_l s
  generalize (parseO s).l = lPar at *
  generalize (parseO s).e = ePar at *
  have HDiv := Lib.hid fun (w1 : World) (hb : Below w.heap.size w w1) => div_api w1 A1 A2 c1 c2 a b (up_rd r1 hb) (up_rd r2 hb) la lb na nb
  have GDiv := Lib.hid fun (w1 : World) (hb : Below w.heap.size w w1) => rDiv_any w1 A1 A2 c1 c2 a b (up_rd r1 hb) (up_rd r2 hb) la lb na nb
  have LQ := divQ_l la b
  have LR := divR_l la b
  generalize divQ a b = lQ at *
  generalize divR a b = lR at *
  generalize divE a b = eD at *
  have HCmp := Lib.hid fun (w1 : World) (hb : Below w.heap.size w w1) => cmp_all w1 A1 A2 c1 c2 a b (up_rd r1 hb) (up_rd r2 hb) la lb na nb
  have GCmp := Lib.hid fun (w1 : World) (hb : Below w.heap.size w w1) => rCmp_any w1 A1 A2 c1 c2 a b (up_rd r1 hb) (up_rd r2 hb) la lb na nb
  change Hid (∀ (w1 : World), Below w.heap.size w w1 → Calls Tryz.prog 32 #[.slice A1 a.length c1, .slice A2 b.length c2] w1 fun e w' => e = .returned (.tuple #[.int .i64 (cmpV a b), .int .i64 (cmpE a b)]) ∧ Below w1.heap.size w1 w') at GCmp
  generalize cmpV a b = vC at *
  generalize cmpE a b = eC at *
  have HTxt := Lib.hid fun (w1 : World) (hb : Below w.heap.size w w1) => text_any w1 A1 c1 a (up_rd r1 hb) la na (hT.below hb)
  have GTxt := Lib.hid fun (w1 : World) (hb : Below w.heap.size w w1) => rText_any w1 A1 c1 a (up_rd r1 hb) la na
  generalize txtS a = sT at *
  generalize txtE a = eT at *
  have HVal := Lib.hid fun (w1 : World) (hb : Below w.heap.size w w1) => valid_any w1 _ A1 c1 a (up_rd r1 hb) na
  have GVal := Lib.hid fun (w1 : World) (hb : Below w.heap.size w w1) => rValid_any w1 _ A1 c1 a (up_rd r1 hb) na
  generalize isNat a = qV at *
  have HMak := Lib.hid fun (w1 : World) => makeN w1 m hm
  have GMak := Lib.hid fun (w1 : World) => rMake_any w1 m hm
  have LM : (limbs m).length ≤ 640 := fit_small hm
  generalize limbs m = lM at *
  have HT := Lib.hid hT; clear hT r1 r2 la lb na nb hi hm hs
  have HB := Lib.hid (Below.refl w.heap.size w)
  have HR : Hid (Store w []) := fun p hp => by cases hp
  go_enter Tryz.func8, Tryz.ntmps8
  go_wp2_with (first
    | (go_at_call 12; refine (head_any _ (HT.out.below HB.out)).mono ?_; rintro e w' ⟨rfl, hb⟩; replace HR := Lib.hid (HR.out.on hb); replace HB := Lib.hid (below_on HB.out hb); clear hb)
    | (go_at_call 13; refine (HVal.out _ HB.out).mono ?_; rintro e w' ⟨rfl, rfl⟩)
    | (go_at_call 24; refine (GVal.out _ HB.out).mono ?_; rintro e w' ⟨rfl, rfl⟩)
    | (go_at_call 20; refine (HMak.out _).mono ?_; rintro e w' ⟨hb, A', rfl, hr⟩; replace HR := Lib.hid (HR.out.push hb hr); replace HB := Lib.hid (below_on HB.out hb); clear hb hr)
    | (go_at_call 25; refine (GMak.out _).mono ?_; rintro e w' ⟨hb, A', c', rfl, hr⟩; replace HR := Lib.hid (HR.out.push hb hr); replace HB := Lib.hid (below_on HB.out hb); clear hb hr)
    | (go_at_call 18; refine (HAdd.out _ HB.out).mono ?_; rintro e w' ⟨hb, A', c', rfl, hr⟩; replace HR := Lib.hid (HR.out.push hb hr); replace HB := Lib.hid (below_on HB.out hb); clear hb hr)
    | (go_at_call 26; refine (GAdd.out _ HB.out).mono ?_; rintro e w' ⟨hb, A', c', rfl, hr⟩; replace HR := Lib.hid (HR.out.push hb hr); replace HB := Lib.hid (below_on HB.out hb); clear hb hr)
    | (go_at_call 19; refine (HSub.out _ HB.out).mono ?_; rintro e w' ⟨hb, A', c', rfl, hr⟩; replace HR := Lib.hid (HR.out.push hb hr); replace HB := Lib.hid (below_on HB.out hb); clear hb hr)
    | (go_at_call 27; refine (GSub.out _ HB.out).mono ?_; rintro e w' ⟨hb, A', c', rfl, hr⟩; replace HR := Lib.hid (HR.out.push hb hr); replace HB := Lib.hid (below_on HB.out hb); clear hb hr)
    | (go_at_call 16; refine (HMul.out _ HB.out).mono ?_; rintro e w' ⟨hb, A', c', rfl, hr⟩; replace HR := Lib.hid (HR.out.push hb hr); replace HB := Lib.hid (below_on HB.out hb); clear hb hr)
    | (go_at_call 28; refine (GMul.out _ HB.out).mono ?_; rintro e w' ⟨hb, A', c', rfl, hr⟩; replace HR := Lib.hid (HR.out.push hb hr); replace HB := Lib.hid (below_on HB.out hb); clear hb hr)
    | (go_at_call 14; refine (HPow.out _ HB.out).mono ?_; rintro e w' ⟨hb, A', c', rfl, hr⟩; replace HR := Lib.hid (HR.out.push hb hr); replace HB := Lib.hid (below_on HB.out hb); clear hb hr)
    | (go_at_call 31; refine (GPow.out _ HB.out).mono ?_; rintro e w' ⟨hb, A', c', rfl, hr⟩; replace HR := Lib.hid (HR.out.push hb hr); replace HB := Lib.hid (below_on HB.out hb); clear hb hr)
    | (go_at_call 22; refine (HPar.out _ HB.out).mono ?_; rintro e w' ⟨hb, A', c', rfl, hr⟩; replace HR := Lib.hid (HR.out.push hb hr); replace HB := Lib.hid (below_on HB.out hb); clear hb hr)
    | (go_at_call 34; refine (GPar.out _ HB.out).mono ?_; rintro e w' ⟨hb, A', c', rfl, hr⟩; replace HR := Lib.hid (HR.out.push hb hr); replace HB := Lib.hid (below_on HB.out hb); clear hb hr)
    | (go_at_call 29; refine (HDiv.out _ HB.out).mono ?_; rintro e w' ⟨hb, A', B', c', d', rfl, hr, hr2⟩; replace HR := Lib.hid ((HR.out.push hb hr).push (Below.refl _ _) hr2); replace HB := Lib.hid (below_on HB.out hb); clear hb hr hr2)
    | (go_at_call 23; refine (HCmp.out _ HB.out).mono ?_; rintro e w' ⟨rfl, hb⟩; replace HR := Lib.hid (HR.out.on hb); replace HB := Lib.hid (below_on HB.out hb); clear hb)
    | (go_at_call 21; refine (HTxt.out _ HB.out).mono ?_; rintro e w' ⟨rfl, hb⟩; replace HR := Lib.hid (HR.out.on hb); replace HB := Lib.hid (below_on HB.out hb); clear hb)
    | (go_at_call 30; refine (GDiv.out _ HB.out).mono ?_; rintro e w' ⟨hb, A', B', c', d', rfl, hr, hr2⟩; replace HR := Lib.hid ((HR.out.push hb hr).push (Below.refl _ _) hr2); replace HB := Lib.hid (below_on HB.out hb); clear hb hr hr2)
    | (go_at_call 32; refine (GCmp.out _ HB.out).mono ?_; rintro e w' ⟨rfl, hb⟩; replace HR := Lib.hid (HR.out.on hb); replace HB := Lib.hid (below_on HB.out hb); clear hb)
    | (go_at_call 33; refine (GTxt.out _ HB.out).mono ?_; rintro e w' ⟨rfl, hb⟩; replace HR := Lib.hid (HR.out.on hb); replace HB := Lib.hid (below_on HB.out hb); clear hb)
    | (go_at_call 15; refine (same_eq _ _ _ _ _ _ ?_ ?_ (by assumption)).mono ?_; exact HR.out.rd (by repeat (first | exact List.Mem.head _ | apply List.Mem.tail)); exact HR.out.rd (by repeat (first | exact List.Mem.head _ | apply List.Mem.tail)); rintro e w' ⟨rfl, hb⟩; replace HR := Lib.hid (HR.out.on hb); replace HB := Lib.hid (below_on HB.out hb); clear hb))
  go_ret
  exact ⟨rfl, HB.out⟩

end Go.Proofs.YtgcobhlplffpjaaGreatDoor
