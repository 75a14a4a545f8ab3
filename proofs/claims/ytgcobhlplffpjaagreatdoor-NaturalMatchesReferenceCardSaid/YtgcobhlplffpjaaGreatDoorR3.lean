/- Walks of the reference: Minus. -/
import Derived.Test.YtgcobhlplffpjaaGreatDoorR2
namespace Go.Proofs.YtgcobhlplffpjaaGreatDoor
open Go.RowKit Go.Deep

structure MinusAt (w wx : World) (a b l : List Nat) (k : Nat) (v : Value) : Prop where
  own : OwnU wx w.heap.size v l
  lim : Lim l
  eqn : val (a.take l.length) + k * pw l.length = val l + val (b.take l.length)
def MinusRel (w : World) (a b : List Nat) (c cy i : Value) (wx : World) : Prop :=
  ∃ (l : List Nat) (k : Nat), Below w.heap.size w wx ∧ i = .int .i64 (l.length : Nat) ∧ cy = .int .u64 k ∧ k ≤ 1 ∧ l.length ≤ a.length ∧ lenOf c = l.length ∧ Hid (MinusAt w wx a b l k c)
theorem minus_round {w wr w4 : World} {a b l : List Nat} {i k x y t q1 q q2 : Nat} {u v' : Value} (hB : Below w.heap.size w wr) (hP : MinusAt w wr a b l k u) (hi : l.length = i) (hil : i < a.length)
    (ho : w4.ownsRow w.heap.size 30 1 v' (l.length + 1) (ucells l ++ ucells [q1])) (hg : (wr.alloc (.cells #[.int .u32 (q1 : Int)] 30)).grownBy w4 u.ownBlock)
    (hT : t + y + k = x + 4294967296 ∧ q1 = t % 4294967296 ∧ q = t / 4294967296 ∧ q2 + q = 1) (hxy : a.getD i 0 = x ∧ b.getD i 0 = y) (h1 : q1 < 4294967296) :
    MinusRel w a b v' (.int .u64 q2) (.int .i64 ((i + 1 : Nat) : Int)) w4 := by
  obtain ⟨e0, e1, e2, e3⟩ := hT
  have hz := hB.size
  have B4 : Below w.heap.size w w4 := (hB.alloc hB.size _).grown hg (by simp; omega) (fun g e => (World.ownsRow.lt hP.own g e).1)
  have o : OwnU w4 w.heap.size v' (l ++ [q1]) := OwnU.snoc ho
  obtain ⟨A, c, rfl, -, -⟩ := o.form
  refine ⟨l ++ [q1], q2, B4, by simp [hi], rfl, by omega, by simp [hi]; omega, by simp [lenOf], o, hP.lim.append (Lim.nil.cons h1), ?_⟩
  have h3 := hP.eqn
  have h5 : x + 4294967296 * q2 = q1 + y + k := by omega
  have h6 : pw i * x + 4294967296 * pw i * q2 = pw i * q1 + pw i * y + pw i * k := by
    rw [← Nat.mul_add, ← Nat.mul_add, ← h5, Nat.mul_add, Nat.mul_comm 4294967296 (pw i), Nat.mul_assoc]
  rw [hi] at h3
  rw [List.length_append, List.length_singleton, hi, val_take_next, val_take_next, val_snoc, hi, pw_succ, hxy.1, hxy.2, Nat.mul_comm q2]
  rw [Nat.mul_comm k] at h3
  omega

set_option maxRecDepth 100000 in
set_option maxHeartbeats 2000000 in
theorem rMinus_new (w : World) (A1 A2 : Option Addr) (c1 c2 : Nat) (a b : List Nat) (ra : RdW w w.heap.size A1 a) (rb : RdW w w.heap.size A2 b) (la : Lim a) (lb : Lim b) (na : a.length ≤ 100000) (nb : b.length ≤ a.length) (hv : val b ≤ val a) :
    Calls Tryz.prog 59 #[.slice A1 a.length c1, .slice A2 b.length c2] w fun e w' => Below w.heap.size w w' ∧ ∃ A c, e = .returned (.slice A (limbs (val a - val b)).length c) ∧ (limbs (val a - val b)).length ≤ c ∧ RdW w' w'.heap.size A (limbs (val a - val b)) ∧ ∀ ad, A = some ad → w.heap.size ≤ ad.block := by
  have HLA := Lib.hid fun (w1 : World) (hb : Below w.heap.size w w1) (i : Nat) (hi : i ≤ 1000000) => rLimb_any w1 w.heap.size A1 c1 a i (ra.below hb (Nat.le_refl _)) la (by omega) hi
  have HLB := Lib.hid fun (w1 : World) (hb : Below w.heap.size w w1) (i : Nat) (hi : i ≤ 1000000) => rLimb_any w1 w.heap.size A2 c2 b i (rb.below hb (Nat.le_refl _)) lb (by omega) hi
  clear ra rb
  have LA := Lib.hid la; clear la
  have LB := Lib.hid lb; clear lb
  have HV := Lib.hid hv; clear hv
  go_enter Tryz.func59, Tryz.ntmps59
  go_wp2
  go_loopw [5, 6, 7] (fun c cy i wx => MinusRel w a b c cy i wx) (fun _ _ i _ => a.length + 1 - (intOf i).toNat)
  case atStart => exact ⟨[], 0, Below.refl _ _, rfl, rfl, by omega, by simp, rfl, World.ownsRow_nil _ _ _ 1, Lim.nil, by simp [val]⟩
  case round =>
    obtain ⟨l, k, hB, rfl, rfl, hk, hl, hlen, HP⟩ := hrel
    have HM := Lib.hid hlen; clear hlen
    obtain ⟨i, hi⟩ : ∃ i, l.length = i := ⟨_, rfl⟩
    by_cases hgo : i < a.length
    · have xl := LA.out.getD i
      have yl := LB.out.getD i
      have HX := Lib.hid (HLA.out wr hB i (by omega))
      have HY := Lib.hid (HLB.out wr hB i (by omega))
      rw [hi]
      have HI := Lib.hid hi
      clear hi
      obtain ⟨x, hx⟩ : ∃ x, a.getD i 0 = x := ⟨_, rfl⟩
      obtain ⟨y, hy⟩ : ∃ y, b.getD i 0 = y := ⟨_, rfl⟩
      rw [hx] at HX xl
      rw [hy] at HY yl
      have HXY := Lib.hid (And.intro hx hy)
      clear hx hy
      obtain ⟨p, hp⟩ : ∃ p, p = x + 4294967296 := ⟨_, rfl⟩
      obtain ⟨s, hs⟩ : ∃ s, s + y = p := ⟨p - y, by omega⟩
      obtain ⟨t, ht⟩ : ∃ t, t + k = s := ⟨s - k, by omega⟩
      obtain ⟨q1, hq1⟩ : ∃ q1, q1 = t % 4294967296 := ⟨_, rfl⟩
      obtain ⟨q, hq⟩ : ∃ q, q = t / 4294967296 := ⟨_, rfl⟩
      obtain ⟨q2, hq2⟩ : ∃ q2, q2 + q = 1 := ⟨1 - q, by omega⟩
      have r1 : (x : Int) + 4294967296 = (p : Int) := by omega
      have r2 : (p : Int) - (y : Int) = (s : Int) := by omega
      have r6 : (s : Int) - (k : Int) = (t : Int) := by omega
      have pb : p < 8589934592 := by omega
      have sb : s < 8589934592 := by omega
      have tb : t < 8589934592 := by omega
      have r3 : bits .and .u64 (t : Int) 4294967295 = (q1 : Int) := by
        have h := u64_and_nat t 4294967295 (by omega) (by omega)
        rw [show t &&& 4294967295 = t % 4294967296 from Nat.and_two_pow_sub_one_eq_mod t 32, ← hq1] at h
        exact h
      have r4 : (t : Int) / 4294967296 = (q : Int) := by omega
      have r5 : 1 - (q : Int) = (q2 : Int) := by omega
      have q1b : q1 < 4294967296 := by omega
      have qb : q ≤ 1 := by omega
      have q2b : q2 ≤ 1 := by omega
      have HT := Lib.hid (show t + y + k = x + 4294967296 ∧ q1 = t % 4294967296 ∧ q = t / 4294967296 ∧ q2 + q = 1 from ⟨by omega, hq1, hq, hq2⟩)
      clear hp hs ht hq1 hq2 hq
      have HO := Lib.hid (And.intro (World.ownsRow.alloc HP.out.own (.cells #[.int .u32 (q1 : Int)] 30)) (shows_new wr #[.int .u32 (q1 : Int)] 30 1 1 rfl))
      have hzz := hB.size
      go_wp2_with (first
          | (go_at_call 86; (with_reducible refine HX.out.mono ?_); rintro e w' ⟨rfl, rfl⟩)
          | (go_at_call 86; (with_reducible refine HY.out.mono ?_); rintro e w' ⟨rfl, rfl⟩)
          | (at_builtin; go_must (refine wpList_app _ rfl (.tmp 25) (.tmp 29) 23 30 (.int .u32 0) 1 4 rfl Tryz.underlying23 info_u32 rfl (by decide) w.heap.size _ _ _ rfl HO.out.1 (wr.heap.size + 1) (some ⟨wr.heap.size, 0, none⟩) 1 1 (ucells [q1]) rfl HO.out.2 (ucells_one [q1]) (by simp only [maxLen]; omega) (by omega) (by simp; omega) ?_); intro v' w4 ho4 hg4 _; replace ho4 := Lib.hid ho4; replace hg4 := Lib.hid hg4))
      go_roundw
      case rel => exact minus_round hB HP.out HI.out hgo ho4.out hg4.out HT.out HXY.out q1b
      case measure => simp [intOf]; omega
    · have h1 : i = a.length := by omega
      obtain ⟨A, c, rfl, hc, hr⟩ := HP.out.own.form
      have HNEW : Hid (∀ ad, A = some ad → w.heap.size ≤ ad.block) := fun ad e => by subst e; exact (World.ownsRow.lt HP.out.own ad.block rfl).1
      have ht := rTrim_any wr _ A c l hr (by omega) hc
      have e : val l = val a - val b := by
        have h2 := HP.out.eqn
        rw [hi, h1, List.take_length, List.take_of_length_le nb] at h2
        have h3 := val_lt HP.out.lim
        rw [hi, h1] at h3
        have h4 := HV.out
        rcases (show k = 0 ∨ k = 1 by omega) with rfl | rfl
        · omega
        · omega
      have e2 := trim_limbs HP.out.lim
      rw [e] at e2
      have hr2 := hr.take (trim l).length
      rw [← (trim_take l).1] at hr2
      have hcc := Nat.le_trans (trim_take l).2 hc
      rw [e2] at hcc
      rw [e2] at ht hr2
      have HT := Lib.hid ht
      have HR2 := Lib.hid hr2
      clear ht hr2 hr e e2 HP HM h1
      rw [hi] at HT ⊢
      clear hi
      go_wp2_with (go_at_call 54; refine HT.out.mono ?_; rintro e w' ⟨rfl, rfl⟩)
      go_ret
      exact ⟨hB, A, c, rfl, hcc, HR2.out, HNEW.out⟩

theorem rMinus_any (w : World) (A1 A2 : Option Addr) (c1 c2 : Nat) (a b : List Nat) (ra : RdW w w.heap.size A1 a) (rb : RdW w w.heap.size A2 b) (la : Lim a) (lb : Lim b) (na : a.length ≤ 100000) (nb : b.length ≤ a.length) (hv : val b ≤ val a) :
    Calls Tryz.prog 59 #[.slice A1 a.length c1, .slice A2 b.length c2] w fun e w' => Below w.heap.size w w' ∧ ∃ A c, e = .returned (.slice A (limbs (val a - val b)).length c) ∧ (limbs (val a - val b)).length ≤ c ∧ RdW w' w'.heap.size A (limbs (val a - val b)) := (rMinus_new w A1 A2 c1 c2 a b ra rb la lb na nb hv).mono fun _ _ ⟨h1, A, c, h2, h3, h4, _⟩ => ⟨h1, A, c, h2, h3, h4⟩

end Go.Proofs.YtgcobhlplffpjaaGreatDoor
