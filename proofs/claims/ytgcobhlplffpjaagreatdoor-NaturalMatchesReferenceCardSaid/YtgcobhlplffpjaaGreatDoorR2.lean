/- Walks of the reference: Plus. -/
import Derived.Test.YtgcobhlplffpjaaGreatDoorR1
namespace Go.Proofs.YtgcobhlplffpjaaGreatDoor
open Go.RowKit Go.Deep

structure PlusAt (w wx : World) (a b l : List Nat) (k : Nat) (v : Value) : Prop where
  own : OwnU wx w.heap.size v l
  lim : Lim l
  eqn : val l + k * pw l.length = val (a.take l.length) + val (b.take l.length)
def PlusRel (w : World) (a b : List Nat) (c cy i : Value) (wx : World) : Prop :=
  ∃ (l : List Nat) (k : Nat), Below w.heap.size w wx ∧ i = .int .i64 (l.length : Nat) ∧ cy = .int .u64 k ∧ k ≤ 1 ∧ l.length ≤ a.length + b.length + 1 ∧ (l.length = a.length + b.length + 1 → k = 0) ∧ lenOf c = l.length ∧ Hid (PlusAt w wx a b l k c)

theorem getD_out {l : List Nat} {i : Nat} (h : l.length ≤ i) : l.getD i 0 = 0 := by rw [List.getD_eq_getElem?_getD, List.getElem?_eq_none h]; rfl
theorem plus_round {w wr w4 : World} {a b l : List Nat} {i k x y p t q1 q2 : Nat} {u v' : Value} (hB : Below w.heap.size w wr) (hP : PlusAt w wr a b l k u) (hi : l.length = i) (hil : i ≤ a.length + b.length)
    (ho : w4.ownsRow w.heap.size 30 1 v' (l.length + 1) (ucells l ++ ucells [q1])) (hg : (wr.alloc (.cells #[.int .u32 (q1 : Int)] 30)).grownBy w4 u.ownBlock)
    (hT : p = x + y ∧ t = p + k ∧ q1 = t % 4294967296 ∧ q2 = t / 4294967296) (hxy : a.getD i 0 = x ∧ b.getD i 0 = y) (h1 : q1 < 4294967296) (h2 : q2 ≤ 1) (hk : k ≤ 1) :
    PlusRel w a b v' (.int .u64 q2) (.int .i64 ((i + 1 : Nat) : Int)) w4 := by
  obtain ⟨rfl, rfl, e1, e2⟩ := hT
  obtain ⟨rfl, rfl⟩ := hxy
  have hz := hB.size
  have B4 : Below w.heap.size w w4 := (hB.alloc hB.size _).grown hg (by simp; omega) (fun g e => (World.ownsRow.lt hP.own g e).1)
  have o : OwnU w4 w.heap.size v' (l ++ [q1]) := OwnU.snoc ho
  obtain ⟨A, c, rfl, -, -⟩ := o.form
  refine ⟨l ++ [q1], q2, B4, by simp [hi], rfl, h2, by simp [hi]; omega, fun hn => ?_, by simp [lenOf], o, hP.lim.append (Lim.nil.cons h1), ?_⟩
  · have hn' : i = a.length + b.length := by simp [hi] at hn; omega
    rw [getD_out (by omega), getD_out (by omega)] at e2
    omega
  · have h3 := hP.eqn
    have h4 := sum_step (val l) (pw i) (a.getD i 0) (b.getD i 0) k _ rfl
    rw [hi] at h3
    rw [List.length_append, List.length_singleton, hi, val_take_next, val_take_next, val_snoc, hi, pw_succ, e1, e2, Nat.mul_comm (_ / 4294967296)]
    omega

set_option maxRecDepth 100000 in
set_option maxHeartbeats 2000000 in
theorem rPlus_new (w : World) (A1 A2 : Option Addr) (c1 c2 : Nat) (a b : List Nat) (ra : RdW w w.heap.size A1 a) (rb : RdW w w.heap.size A2 b) (la : Lim a) (lb : Lim b) (na : a.length ≤ 100000) (nb : b.length ≤ 100000) :
    Calls Tryz.prog 57 #[.slice A1 a.length c1, .slice A2 b.length c2] w fun e w' => Below w.heap.size w w' ∧ ∃ A c, e = .returned (.slice A (limbs (val a + val b)).length c) ∧ (limbs (val a + val b)).length ≤ c ∧ RdW w' w'.heap.size A (limbs (val a + val b)) ∧ ∀ ad, A = some ad → w.heap.size ≤ ad.block := by
  have HLA := Lib.hid fun (w1 : World) (hb : Below w.heap.size w w1) (i : Nat) (hi : i ≤ 1000000) => rLimb_any w1 w.heap.size A1 c1 a i (ra.below hb (Nat.le_refl _)) la (by omega) hi
  have HLB := Lib.hid fun (w1 : World) (hb : Below w.heap.size w w1) (i : Nat) (hi : i ≤ 1000000) => rLimb_any w1 w.heap.size A2 c2 b i (rb.below hb (Nat.le_refl _)) lb (by omega) hi
  clear ra rb
  have LA := Lib.hid la; clear la
  have LB := Lib.hid lb; clear lb
  go_enter Tryz.func57, Tryz.ntmps57
  go_wp2
  go_loopw [5, 6, 7] (fun c cy i wx => PlusRel w a b c cy i wx) (fun _ _ i _ => a.length + b.length + 1 - (intOf i).toNat)
  case atStart => exact ⟨[], 0, Below.refl _ _, rfl, rfl, by omega, by simp, fun _ => rfl, rfl, World.ownsRow_nil _ _ _ 1, Lim.nil, by simp [val]⟩
  case round =>
    obtain ⟨l, k, hB, rfl, rfl, hk, hl, hk0, hlen, HP⟩ := hrel
    have HK := Lib.hid hk0; clear hk0
    have HM := Lib.hid hlen; clear hlen
    obtain ⟨i, hi⟩ : ∃ i, l.length = i := ⟨_, rfl⟩
    by_cases hgo : i < a.length ∨ i < b.length ∨ k = 1
    · have hil : i ≤ a.length + b.length := by
        by_cases e : l.length = a.length + b.length + 1
        · have := HK.out e; omega
        · omega
      have xl := LA.out.getD i
      have yl := LB.out.getD i
      have HX := Lib.hid (HLA.out wr hB i (by omega))
      have HY := Lib.hid (HLB.out wr hB i (by omega))
      rw [hi]
      have HI := Lib.hid hi
      clear hi
      obtain ⟨x, hx⟩ : ∃ x, a.getD i 0 = x := ⟨_, rfl⟩
      obtain ⟨y, hy⟩ : ∃ y, b.getD i 0 = y := ⟨_, rfl⟩
      rw [hx] at HX xl
      rw [hy] at HY yl
      have HXY := Lib.hid (And.intro hx hy)
      clear hx hy
      obtain ⟨p, hp⟩ : ∃ p, p = x + y := ⟨_, rfl⟩
      obtain ⟨t, ht⟩ : ∃ t, t = p + k := ⟨_, rfl⟩
      obtain ⟨q1, hq1⟩ : ∃ q1, q1 = t % 4294967296 := ⟨_, rfl⟩
      obtain ⟨q2, hq2⟩ : ∃ q2, q2 = t / 4294967296 := ⟨_, rfl⟩
      have r1 : (x : Int) + (y : Int) = (p : Int) := by omega
      have r2 : (p : Int) + (k : Int) = (t : Int) := by omega
      have pb : p < 8589934592 := by omega
      have tb : t < 8589934592 := by omega
      have r3 : bits .and .u64 (t : Int) 4294967295 = (q1 : Int) := by
        have h := u64_and_nat t 4294967295 (by omega) (by omega)
        rw [show t &&& 4294967295 = t % 4294967296 from Nat.and_two_pow_sub_one_eq_mod t 32, ← hq1] at h
        exact h
      have r4 : (t : Int) / 4294967296 = (q2 : Int) := by omega
      have q1b : q1 < 4294967296 := by omega
      have q2b : q2 ≤ 1 := by omega
      have HT := Lib.hid (show p = x + y ∧ t = p + k ∧ q1 = t % 4294967296 ∧ q2 = t / 4294967296 from ⟨hp, ht, hq1, hq2⟩)
      clear hp ht hq1 hq2
      have HO := Lib.hid (And.intro (World.ownsRow.alloc HP.out.own (.cells #[.int .u32 (q1 : Int)] 30)) (shows_new wr #[.int .u32 (q1 : Int)] 30 1 1 rfl))
      have hzz := hB.size
      rcases (show i < a.length ∨ (a.length ≤ i ∧ i < b.length) ∨ (a.length ≤ i ∧ b.length ≤ i ∧ 0 < k) by omega) with h | ⟨h, h'⟩ | ⟨h, h', h''⟩
      · clear hgo
        go_wp2_with (first
          | (go_at_call 86; (with_reducible refine HX.out.mono ?_); rintro e w' ⟨rfl, rfl⟩)
          | (go_at_call 86; (with_reducible refine HY.out.mono ?_); rintro e w' ⟨rfl, rfl⟩)
          | (at_builtin; go_must (refine wpList_app _ rfl (.tmp 34) (.tmp 38) 23 30 (.int .u32 0) 1 4 rfl Tryz.underlying23 info_u32 rfl (by decide) w.heap.size _ _ _ rfl HO.out.1 (wr.heap.size + 1) (some ⟨wr.heap.size, 0, none⟩) 1 1 (ucells [q1]) rfl HO.out.2 (ucells_one [q1]) (by simp only [maxLen]; omega) (by omega) (by simp; omega) ?_); intro v' w4 ho4 hg4 _; replace ho4 := Lib.hid ho4; replace hg4 := Lib.hid hg4))
        go_roundw
        case rel => exact plus_round hB HP.out HI.out (by omega) ho4.out hg4.out HT.out HXY.out q1b q2b (by omega)
        case measure => simp [intOf]; omega
      · clear hgo
        go_wp2_with (first
          | (go_at_call 86; (with_reducible refine HX.out.mono ?_); rintro e w' ⟨rfl, rfl⟩)
          | (go_at_call 86; (with_reducible refine HY.out.mono ?_); rintro e w' ⟨rfl, rfl⟩)
          | (at_builtin; go_must (refine wpList_app _ rfl (.tmp 34) (.tmp 38) 23 30 (.int .u32 0) 1 4 rfl Tryz.underlying23 info_u32 rfl (by decide) w.heap.size _ _ _ rfl HO.out.1 (wr.heap.size + 1) (some ⟨wr.heap.size, 0, none⟩) 1 1 (ucells [q1]) rfl HO.out.2 (ucells_one [q1]) (by simp only [maxLen]; omega) (by omega) (by simp; omega) ?_); intro v' w4 ho4 hg4 _; replace ho4 := Lib.hid ho4; replace hg4 := Lib.hid hg4))
        go_roundw
        case rel => exact plus_round hB HP.out HI.out (by omega) ho4.out hg4.out HT.out HXY.out q1b q2b (by omega)
        case measure => simp [intOf]; omega
      · clear hgo
        go_wp2_with (first
          | (go_at_call 86; (with_reducible refine HX.out.mono ?_); rintro e w' ⟨rfl, rfl⟩)
          | (go_at_call 86; (with_reducible refine HY.out.mono ?_); rintro e w' ⟨rfl, rfl⟩)
          | (at_builtin; go_must (refine wpList_app _ rfl (.tmp 34) (.tmp 38) 23 30 (.int .u32 0) 1 4 rfl Tryz.underlying23 info_u32 rfl (by decide) w.heap.size _ _ _ rfl HO.out.1 (wr.heap.size + 1) (some ⟨wr.heap.size, 0, none⟩) 1 1 (ucells [q1]) rfl HO.out.2 (ucells_one [q1]) (by simp only [maxLen]; omega) (by omega) (by simp; omega) ?_); intro v' w4 ho4 hg4 _; replace ho4 := Lib.hid ho4; replace hg4 := Lib.hid hg4))
        go_roundw
        case rel => exact plus_round hB HP.out HI.out (by omega) ho4.out hg4.out HT.out HXY.out q1b q2b (by omega)
        case measure => simp [intOf]; omega
    · have h1 : a.length ≤ i := by omega
      have h2 : b.length ≤ i := by omega
      obtain rfl : k = 0 := by omega
      obtain ⟨A, c, rfl, hc, hr⟩ := HP.out.own.form
      have HNEW : Hid (∀ ad, A = some ad → w.heap.size ≤ ad.block) := fun ad e => by subst e; exact (World.ownsRow.lt HP.out.own ad.block rfl).1
      have ht := rTrim_any wr _ A c l hr (by omega) hc
      have e : val l = val a + val b := by
        have := HP.out.eqn
        rw [hi, List.take_of_length_le h1, List.take_of_length_le h2] at this
        omega
      have e2 := trim_limbs HP.out.lim
      rw [e] at e2
      have hr2 := hr.take (trim l).length
      rw [← (trim_take l).1] at hr2
      have hcc := Nat.le_trans (trim_take l).2 hc
      rw [e2] at hcc
      rw [e2] at ht hr2
      have HT := Lib.hid ht
      have HR2 := Lib.hid hr2
      clear ht hr2 hr e e2 HP HM HK hgo
      rw [hi] at HT ⊢
      clear hi
      go_wp2_with (go_at_call 54; refine HT.out.mono ?_; rintro e w' ⟨rfl, rfl⟩)
      go_ret
      exact ⟨hB, A, c, rfl, hcc, HR2.out, HNEW.out⟩

theorem rPlus_any (w : World) (A1 A2 : Option Addr) (c1 c2 : Nat) (a b : List Nat) (ra : RdW w w.heap.size A1 a) (rb : RdW w w.heap.size A2 b) (la : Lim a) (lb : Lim b) (na : a.length ≤ 100000) (nb : b.length ≤ 100000) :
    Calls Tryz.prog 57 #[.slice A1 a.length c1, .slice A2 b.length c2] w fun e w' => Below w.heap.size w w' ∧ ∃ A c, e = .returned (.slice A (limbs (val a + val b)).length c) ∧ (limbs (val a + val b)).length ≤ c ∧ RdW w' w'.heap.size A (limbs (val a + val b)) := (rPlus_new w A1 A2 c1 c2 a b ra rb la lb na nb).mono fun _ _ ⟨h1, A, c, h2, h3, h4, _⟩ => ⟨h1, A, c, h2, h3, h4⟩

end Go.Proofs.YtgcobhlplffpjaaGreatDoor
