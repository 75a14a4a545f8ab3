/- Walks of the reference: Div. -/
import Derived.Test.YtgcobhlplffpjaaGreatDoorRD
namespace Go.Proofs.YtgcobhlplffpjaaGreatDoor
open Go.RowKit Go.Deep

def DvRel (w : World) (a : List Nat) (b : Nat) (r i : Value) (wx : World) : Prop :=
  ∃ (cnt : Nat) (z : Int) (A : Option Addr) (c : Nat) (m : List Nat), cnt ≤ a.length ∧ i = .int .i64 z ∧ z = (cnt : Int) - 1 ∧ r = .slice A (limbs (val (a.drop cnt) % b)).length c ∧ Below w.heap.size w wx ∧ Hid (∀ ad, A = some ad → w.heap.size < ad.block) ∧ Hid (RdW wx wx.heap.size A (limbs (val (a.drop cnt) % b))) ∧ Hid (DvAt w.heap.size a b cnt wx m)
def DvInRel (w : World) (a : List Nat) (b j : Nat) (r k : Value) (wx : World) : Prop :=
  ∃ (s : Nat) (z : Int) (A : Option Addr) (c : Nat) (m : List Nat), s ≤ 32 ∧ k = .int .i64 z ∧ z = (s : Int) - 1 ∧ r = .slice A (limbs (val (a.drop j) / 2 ^ s % b)).length c ∧ Below w.heap.size w wx ∧ Hid (∀ ad, A = some ad → w.heap.size < ad.block) ∧ Hid (RdW wx wx.heap.size A (limbs (val (a.drop j) / 2 ^ s % b))) ∧ Hid (DvIn w.heap.size a b j s wx m)

theorem rdw_set {w : World} {B g i : Nat} {A : Option Addr} {l : List Nat} (h : RdW w B A l) (hA : ∀ ad, A = some ad → g < ad.block) (v : Value) : RdW (w.setCell ⟨g, i, none⟩ v) B A l := fun hl => by
  obtain ⟨ad, rfl, hlt, hc⟩ := h hl
  refine ⟨ad, rfl, hlt, fun j hj => ?_⟩
  rw [World.cell?_setCell_other _ _ _ _ (fun e => by have h1 := hA ad rfl; have h2 := congrArg Addr.block e; rw [add_block] at h2; simp at h2; omega)]
  exact hc j hj
theorem DvIn.below {g : Nat} {a : List Nat} {b j s : Nat} {wx wy : World} {m : List Nat} (h : DvIn g a b j s wx m) (hb : Below wx.heap.size wx wy) : DvIn g a b j s wy m := ⟨h.len, h.lim, h.arr.below hb h.arr.lt, h.eqn, h.zer⟩
theorem DvAt.below {g : Nat} {a : List Nat} {b cnt : Nat} {wx wy : World} {m : List Nat} (h : DvAt g a b cnt wx m) (hb : Below wx.heap.size wx wy) : DvAt g a b cnt wy m := ⟨h.len, h.lim, h.arr.below hb h.arr.lt, h.eqn, h.zer⟩

set_option maxRecDepth 100000 in
set_option maxHeartbeats 2000000 in
theorem rDiv_run (w : World) (A1 A2 : Option Addr) (c1 c2 : Nat) (a b : List Nat) (ra : RdW w w.heap.size A1 a) (rb : RdW w w.heap.size A2 b) (la : Lim a) (lb : Lim b) (na : isNat a = true) (nb : isNat b = true) (hb0 : 0 < val b) :
    Calls Tryz.prog 30 #[.slice A1 a.length c1, .slice A2 b.length c2] w (EndsD w (limbs (val a / val b)) (limbs (val a % val b)) 0) := by
  have ha6 := (isNat_norm na).1
  have hb6 := (isNat_norm nb).1
  have HBO := Lib.hid (rBoth_any w A1 A2 c1 c2 a b ra rb (by omega) (by omega))
  rw [na, nb] at HBO
  have hmk := make_limbs a.length (by omega)
  have hbl0 : ¬ b.length = 0 := fun e => by rw [List.eq_nil_of_length_eq_zero e] at hb0; simp [val] at hb0
  have hbl : ((b.length : Int) == 0) = false := by rw [beq_eq_false_iff_ne]; omega
  clear hbl0
  obtain ⟨y, hy⟩ : ∃ y, val b = y := ⟨_, rfl⟩
  have hb : b = limbs y := by rw [← hy]; exact isNat_eq lb nb
  have hy6 : (limbs y).length ≤ 640 := by rw [← hb]; exact hb6
  have HPL : Hid (∀ (w1 : World) (A : Option Addr) (c x : Nat), x < y → RdW w1 w1.heap.size A (limbs x) → Calls Tryz.prog 57 #[.slice A (limbs x).length c, .slice A (limbs x).length c] w1 fun e w' => Below w1.heap.size w1 w' ∧ ∃ A c, e = .returned (.slice A (limbs (2 * x)).length c) ∧ RdW w' w'.heap.size A (limbs (2 * x)) ∧ ∀ ad, A = some ad → w1.heap.size ≤ ad.block) := fun w1 A c x hx hr => by
    have h6 := Nat.le_trans (limbs_mono (Nat.le_of_lt hx)) hy6
    have := rPlus_new w1 A A c c _ _ hr hr (limbs_lim x) (limbs_lim x) (by omega) (by omega)
    rw [limbs_val, ← Nat.two_mul] at this
    exact this.mono fun _ _ ⟨h1, A, c, h2, _, h3, h4⟩ => ⟨h1, A, c, h2, h3, h4⟩
  have HP1 : Hid (∀ (w0 w1 : World) (A : Option Addr) (c x : Nat), w1 = w0.alloc (.cells #[.int .u32 1] 30) → x < 2 * y → RdW w0 w0.heap.size A (limbs x) → Calls Tryz.prog 57 #[.slice A (limbs x).length c, .slice (some ⟨w0.heap.size, 0, none⟩) 1 1] w1 fun e w' => Below w0.heap.size w0 w' ∧ ∃ A c, e = .returned (.slice A (limbs (x + 1)).length c) ∧ RdW w' w'.heap.size A (limbs (x + 1)) ∧ ∀ ad, A = some ad → w0.heap.size ≤ ad.block) := fun w0 w1 A c x hw hx hr => by
    subst hw
    have h6 : (limbs x).length ≤ 641 := by
      refine Nat.le_trans (limbs_mono (Nat.le_of_lt hx)) ?_
      rw [Nat.two_mul]
      exact limbs_sum_len (limbs_len.1 hy6) (limbs_len.1 hy6)
    have hal := (Below.refl w0.heap.size w0).alloc (Nat.le_refl _) (.cells #[.int .u32 1] 30)
    have := rPlus_new (w0.alloc (.cells #[.int .u32 1] 30)) A (some ⟨w0.heap.size, 0, none⟩) c 1 _ [1] ((hr.below hal (Nat.le_refl _)).mono hal.size) ((arr_one w0 1).rd (by simp)) (limbs_lim x) (Lim.nil.cons (by omega)) (by omega) (by simp)
    rw [limbs_val, show val [1] = 1 from rfl] at this
    exact this.mono fun _ _ ⟨h1, A, c, h2, _, h3, h4⟩ => ⟨below_on hal h1, A, c, h2, h3, fun ad e => Nat.le_trans hal.size (h4 ad e)⟩
  have HOR : Hid (∀ (w1 : World) (A : Option Addr) (c x : Nat), Below w.heap.size w w1 → RdW w1 w1.heap.size A (limbs x) → Calls Tryz.prog 58 #[.slice A (limbs x).length c, .slice A2 b.length c2] w1 fun e w' => e = .returned (.int .i64 (cmpI x y)) ∧ Below w1.heap.size w1 w') := fun w1 A c x hbl hr => by
    have := rOrder_any w1 A A2 c c2 _ b hr ((rb.below hbl (Nat.le_refl _)).mono hbl.size) (limbs_lim x) lb (limbs_norm x) (isNat_norm nb).2 (by omega)
    rw [limbs_val, hy] at this
    exact this
  have HMI : Hid (∀ (w1 : World) (A : Option Addr) (c x : Nat), Below w.heap.size w w1 → y ≤ x → x < 2 * y → RdW w1 w1.heap.size A (limbs x) → Calls Tryz.prog 59 #[.slice A (limbs x).length c, .slice A2 b.length c2] w1 fun e w' => Below w1.heap.size w1 w' ∧ ∃ A c, e = .returned (.slice A (limbs (x - y)).length c) ∧ RdW w' w'.heap.size A (limbs (x - y)) ∧ ∀ ad, A = some ad → w1.heap.size ≤ ad.block) := fun w1 A c x hbl hxy hx hr => by
    have h6 : (limbs x).length ≤ 641 := by
      refine Nat.le_trans (limbs_mono (Nat.le_of_lt hx)) ?_
      rw [Nat.two_mul]
      exact limbs_sum_len (limbs_len.1 hy6) (limbs_len.1 hy6)
    have := rMinus_new w1 A A2 c c2 _ b hr ((rb.below hbl (Nat.le_refl _)).mono hbl.size) (limbs_lim x) lb (by omega) (by rw [hb]; exact limbs_mono hxy) (by rw [limbs_val, hy]; exact hxy)
    rw [limbs_val, hy] at this
    exact this.mono fun _ _ ⟨h1, A, c, h2, _, h3, h4⟩ => ⟨h1, A, c, h2, h3, h4⟩
  rw [hy] at hb0 ⊢
  have RA := Lib.hid ra
  have LA := Lib.hid la
  have HST := Lib.hid (DvAt.start w a y)
  clear ra rb la lb na nb hy hb hy6 hb6
  go_enter Tryz.func30, Tryz.ntmps30
  go_wp2_with (go_at_call 55; refine HBO.out.mono ?_; rintro e w' ⟨rfl, rfl⟩)
  go_loopw [8, 9] (fun r i wx => DvRel w a y r i wx) (fun _ i _ => (intOf i + 1).toNat)
  case atStart => exact ⟨a.length, _, none, 0, _, Nat.le_refl _, rfl, rfl, by rw [List.drop_of_length_le (Nat.le_refl _), val, Nat.zero_mod, limbs_zero]; rfl, (Below.refl _ _).alloc (Nat.le_refl _) _, (fun ad e => by cases e), by rw [List.drop_of_length_le (Nat.le_refl _), val, Nat.zero_mod, limbs_zero]; exact RdW.nil _ _ _, HST⟩
  case round =>
    clear HST
    obtain ⟨cnt, z, A, c, m, hcnt, rfl, hz, rfl, hB, HF, HR, HM⟩ := hrel
    by_cases hc0 : cnt = 0
    · subst hc0
      obtain rfl : z = -1 := by omega
      rw [List.drop_zero] at HR ⊢
      have hv := HM.out.eqn
      rw [List.drop_zero, List.drop_zero] at hv
      have hr := HM.out.arr.rd HM.out.arr.lt
      have hl := HM.out.len
      have ht := rTrim_any wr _ _ a.length m hr (by omega) (by omega)
      have e2 := trim_limbs HM.out.lim
      rw [hv] at e2
      have hr2 := hr.take (trim m).length
      rw [← (trim_take m).1] at hr2
      rw [e2] at ht hr2
      rw [hl] at ht
      have HT := Lib.hid ht
      have HR2 := Lib.hid hr2
      clear ht hr hr2 e2 hv hl HM hz
      go_wp2_with (go_at_call 54; refine HT.out.mono ?_; rintro e w' ⟨rfl, rfl⟩)
      go_ret3
      exact ⟨hB, _, A, _, c, rfl, HR2.out, HR.out⟩
    · obtain ⟨j, rfl⟩ : ∃ j, cnt = j + 1 := ⟨cnt - 1, by omega⟩
      obtain rfl : z = (j : Int) := by omega
      clear hz
      have hj : j < a.length := by omega
      have HE := Lib.hid (HM.out.enter LA.out hj)
      have e32 := up32 LA.out j hj
      obtain ⟨ad, rfl, had, hcell⟩ := RA.out (by omega)
      have hx0 := hcell j hj
      have xl := LA.out.getD j
      have HUP := Lib.hid (val_drop_cons a j hj)
      rw [← e32] at HR ⊢
      clear hcell e32 HM
      go_wp2
      go_loopw [8, 10] (fun r k wx => DvInRel w a y j r k wx) (fun _ k _ => (intOf k + 1).toNat)
      case atStart => exact ⟨32, 31, A, c, m, Nat.le_refl _, rfl, rfl, rfl, hB, HF, HR, HE⟩
      case round =>
        clear HE HR HF hB
        obtain ⟨s, z, A, c, m, hs, rfl, hz, rfl, hB, HF, HR, HM⟩ := hrel
        by_cases hs0 : s = 0
        · subst hs0
          obtain rfl : z = -1 := by omega
          rw [Nat.pow_zero, Nat.div_one] at HR ⊢
          have HN := Lib.hid HM.out.leave
          clear HM hz
          go_wp2
          go_roundw
          case rel => exact ⟨j, _, A, c, m, by omega, rfl, by go_num, rfl, hB, HF, HR, HN⟩
          case measure => simp [intOf]
        · obtain ⟨k, rfl⟩ : ∃ k, s = k + 1 := ⟨s - 1, by omega⟩
          obtain rfl : z = (k : Int) := by omega
          clear hz
          have hx := (hB.cell (p := ad.add j) (by rw [add_block]; exact had)).trans hx0
          have hup := up_bit (a.getD j 0) (val (a.drop (j + 1))) k (by omega)
          rw [← HUP.out] at hup
          have hbt : a.getD j 0 / 2 ^ k % 2 = 0 ∨ a.getD j 0 / 2 ^ k % 2 = 1 := by omega
          have hdv := div_bit (val (a.drop j) / 2 ^ (k + 1)) y (a.getD j 0 / 2 ^ k % 2) hb0 (by omega)
          have hxr := Nat.mod_lt (val (a.drop j) / 2 ^ (k + 1)) hb0
          rw [← hup] at hdv
          have hK := pow32 (s := k) (by omega)
          have hK1 := Nat.two_pow_pos k
          have hK2 : 2 ^ k ≤ 2 ^ 31 := Nat.pow_le_pow_right (i := k) (j := 31) (n := 2) (by omega) (by omega)
          have hshl : (1 : Int) * 2 ^ k = ((2 ^ k : Nat) : Int) := by rw [Int.one_mul, Int.natCast_pow]; rfl
          generalize val (a.drop j) / 2 ^ (k + 1) % y = R at *
          have htb0 : 2 * R + a.getD j 0 / 2 ^ k % 2 < 2 * y := by omega
          rcases hbt with hb' | hb'
          · rw [hb'] at hdv htb0
            have hbi : ((a.getD j 0 : Nat) : Int) / 2 ^ k % 2 = 0 := by
              have : ((2 : Int) ^ k) = ((2 ^ k : Nat) : Int) := by rw [Int.natCast_pow]; rfl
              rw [this]
              exact congrArg Nat.cast hb'
            clear hup hb'
            go_wp2_with (go_at_call 57; (with_reducible refine (HPL.out _ _ _ _ hxr HR.out).mono ?_); rintro e w2 ⟨b2, A3, c3, rfl, r2, f2⟩; replace b2 := Lib.hid b2; replace r2 := Lib.hid r2; replace f2 := Lib.hid f2)
            replace hx := (b2.out.cell (p := ad.add j) (by rw [add_block]; exact Nat.lt_of_lt_of_le had hB.size)).trans hx
            generalize a.getD j 0 = x at *
            rw [Nat.add_zero] at hdv htb0
            obtain ⟨t, ht⟩ : ∃ t, 2 * R = t := ⟨_, rfl⟩
            rw [ht] at hdv htb0 r2 ⊢
            have htb := htb0
            go_region
            have B3 : Hid (Below wr.heap.size wr w2.drew) := b2.out.drew
            have r3 : Hid (RdW w2.drew w2.drew.heap.size A3 (limbs t)) := r2.out
            have f3 := f2
            clear ht hx
            by_cases hty : y ≤ t
            · obtain ⟨e1, e2⟩ := hdv.1 hty
              have hge : decide (0 ≤ cmpI t y) = true := decide_eq_true (by unfold cmpI; split; omega; split <;> omega)
              clear hdv
              go_wp2_with (first
                | (go_at_call 58; (with_reducible refine (HOR.out _ _ _ _ (below_on hB B3.out) r3.out).mono ?_); rintro e w4 ⟨rfl, b4⟩; replace b4 := Lib.hid b4)
                | (go_at_call 59; (with_reducible refine (HMI.out _ _ _ _ (below_on (below_on hB B3.out) b4.out) hty htb ((r3.out.below b4.out (Nat.le_refl _)).mono b4.out.size)).mono ?_); rintro e w5 ⟨b5, A5, c5, rfl, r5, f5⟩; replace b5 := Lib.hid b5; replace r5 := Lib.hid r5; replace f5 := Lib.hid f5))
              have B5 := Lib.hid (below_on (below_on B3.out b4.out) b5.out)
              have arr5 := HM.out.arr.below B5.out HM.out.arr.lt
              have hcl := arr5.cell (i := j) (by rw [HM.out.len]; exact hj)
              have hfz := arr5.frozen j
              have hroom := HM.out.room hj (by omega)
              have HN := Lib.hid (HM.out.put hj (by omega) e1 (arr5.set j (m.getD j 0 + 2 ^ k) (by rw [HM.out.len]; exact hj)))
              have HG := Lib.hid (And.intro HM.out.arr.lt e2)
              have HNW : Hid (∀ ad, A5 = some ad → w.heap.size < ad.block) := fun ad e => Nat.lt_of_lt_of_le HG.out.1 (Nat.le_trans (below_on B3.out b4.out).size (f5.out ad e))
              clear e1 e2 arr5 HM
              generalize m.getD j 0 = qx at *
              obtain ⟨qn, hqn⟩ : ∃ qn, qx + 2 ^ k = qn := ⟨_, rfl⟩
              have hqi : (qx : Int) + 2 ^ k = (qn : Int) := by rw [← hqn, Int.natCast_add, Int.natCast_pow]; rfl
              rw [hqn] at hroom HN
              clear hqn
              go_region
              go_wp2
              refine ⟨⟨k, _, A5, c5, m.set j qn, by omega, rfl, by go_num, by rw [HG.out.2], ((below_on hB B5.out).setCell (Nat.le_refl _) _).drew, HNW, by rw [HG.out.2]; exact (rdw_set r5.out HNW.out _).mono ((Below.refl w.heap.size w5).setCell (p := ⟨w.heap.size, j, none⟩) (Nat.le_refl _) (Value.int .u32 (qn : Int))).size, HN.out.below (Below.refl _ _).drew⟩, by simp [intOf]⟩
            · obtain ⟨e1, e2⟩ := hdv.2 hty
              have hge : decide (0 ≤ cmpI t y) = false := decide_eq_false (by unfold cmpI; rw [if_pos (by omega)]; omega)
              have HN := Lib.hid (HM.out.skip e1)
              have HG := Lib.hid (And.intro HM.out.arr.lt e2)
              clear hdv e1 e2 HM
              go_wp2_with (first
                | (go_at_call 58; (with_reducible refine (HOR.out _ _ _ _ (below_on hB B3.out) r3.out).mono ?_); rintro e w4 ⟨rfl, b4⟩; replace b4 := Lib.hid b4))
              have B4 := Lib.hid (below_on B3.out b4.out)
              go_roundw
              case rel => exact ⟨k, _, A3, c3, m, by omega, rfl, by go_num, by rw [HG.out.2], below_on hB B4.out, fun ad e => Nat.lt_of_lt_of_le HG.out.1 (f3.out ad e), by rw [HG.out.2]; exact (r3.out.below b4.out (Nat.le_refl _)).mono b4.out.size, HN.out.below B4.out⟩
              case measure => simp [intOf]
          · rw [hb'] at hdv htb0
            have hbi : ((a.getD j 0 : Nat) : Int) / 2 ^ k % 2 = 1 := by
              have : ((2 : Int) ^ k) = ((2 ^ k : Nat) : Int) := by rw [Int.natCast_pow]; rfl
              rw [this]
              exact congrArg Nat.cast hb'
            clear hup hb'
            go_wp2_with (go_at_call 57; (with_reducible refine (HPL.out _ _ _ _ hxr HR.out).mono ?_); rintro e w2 ⟨b2, A9, c9, rfl, r2, f2⟩; replace b2 := Lib.hid b2; replace r2 := Lib.hid r2; replace f2 := Lib.hid f2)
            replace hx := (b2.out.cell (p := ad.add j) (by rw [add_block]; exact Nat.lt_of_lt_of_le had hB.size)).trans hx
            generalize a.getD j 0 = x at *
            obtain ⟨t, ht⟩ : ∃ t, 2 * R + 1 = t := ⟨_, rfl⟩
            have htR : 2 * R < 2 * y := by omega
            rw [ht] at hdv htb0
            have htb := htb0
            replace ht := Lib.hid ht
            go_region
            replace r2 : Hid (RdW w2.drew w2.drew.heap.size A9 (limbs (2 * R))) := r2.out
            clear hx
            by_cases hty : y ≤ t
            · obtain ⟨e1, e2⟩ := hdv.1 hty
              have hge : decide (0 ≤ cmpI t y) = true := decide_eq_true (by unfold cmpI; split; omega; split <;> omega)
              clear hdv
              go_wp2_with (first
                | (go_at_call 57; (refine (HP1.out w2.drew _ _ _ _ rfl htR r2.out).mono ?_); rintro e w3 ⟨b3, A3, c3, rfl, r3, f3⟩; rw [ht.out] at r3 ⊢; have B3 : Hid (Below wr.heap.size wr w3) := below_on b2.out.drew b3; replace r3 := Lib.hid r3; replace f3 : Hid (∀ ad, A3 = some ad → wr.heap.size ≤ ad.block) := fun ad e => Nat.le_trans b2.out.size (f3 ad e); clear b3)
                | (go_at_call 58; (with_reducible refine (HOR.out _ _ _ _ (below_on hB B3.out) r3.out).mono ?_); rintro e w4 ⟨rfl, b4⟩; replace b4 := Lib.hid b4)
                | (go_at_call 59; (with_reducible refine (HMI.out _ _ _ _ (below_on (below_on hB B3.out) b4.out) hty htb ((r3.out.below b4.out (Nat.le_refl _)).mono b4.out.size)).mono ?_); rintro e w5 ⟨b5, A5, c5, rfl, r5, f5⟩; replace b5 := Lib.hid b5; replace r5 := Lib.hid r5; replace f5 := Lib.hid f5))
              have B5 := Lib.hid (below_on (below_on B3.out b4.out) b5.out)
              have arr5 := HM.out.arr.below B5.out HM.out.arr.lt
              have hcl := arr5.cell (i := j) (by rw [HM.out.len]; exact hj)
              have hfz := arr5.frozen j
              have hroom := HM.out.room hj (by omega)
              have HN := Lib.hid (HM.out.put hj (by omega) e1 (arr5.set j (m.getD j 0 + 2 ^ k) (by rw [HM.out.len]; exact hj)))
              have HG := Lib.hid (And.intro HM.out.arr.lt e2)
              have HNW : Hid (∀ ad, A5 = some ad → w.heap.size < ad.block) := fun ad e => Nat.lt_of_lt_of_le HG.out.1 (Nat.le_trans (below_on B3.out b4.out).size (f5.out ad e))
              clear e1 e2 arr5 HM
              generalize m.getD j 0 = qx at *
              obtain ⟨qn, hqn⟩ : ∃ qn, qx + 2 ^ k = qn := ⟨_, rfl⟩
              have hqi : (qx : Int) + 2 ^ k = (qn : Int) := by rw [← hqn, Int.natCast_add, Int.natCast_pow]; rfl
              rw [hqn] at hroom HN
              clear hqn
              go_region
              go_wp2
              refine ⟨⟨k, _, A5, c5, m.set j qn, by omega, rfl, by go_num, by rw [HG.out.2], ((below_on hB B5.out).setCell (Nat.le_refl _) _).drew, HNW, by rw [HG.out.2]; exact (rdw_set r5.out HNW.out _).mono ((Below.refl w.heap.size w5).setCell (p := ⟨w.heap.size, j, none⟩) (Nat.le_refl _) (Value.int .u32 (qn : Int))).size, HN.out.below (Below.refl _ _).drew⟩, by simp [intOf]⟩
            · obtain ⟨e1, e2⟩ := hdv.2 hty
              have hge : decide (0 ≤ cmpI t y) = false := decide_eq_false (by unfold cmpI; rw [if_pos (by omega)]; omega)
              have HN := Lib.hid (HM.out.skip e1)
              have HG := Lib.hid (And.intro HM.out.arr.lt e2)
              clear hdv e1 e2 HM
              go_wp2_with (first
                | (go_at_call 57; (refine (HP1.out w2.drew _ _ _ _ rfl htR r2.out).mono ?_); rintro e w3 ⟨b3, A3, c3, rfl, r3, f3⟩; rw [ht.out] at r3 ⊢; have B3 : Hid (Below wr.heap.size wr w3) := below_on b2.out.drew b3; replace r3 := Lib.hid r3; replace f3 : Hid (∀ ad, A3 = some ad → wr.heap.size ≤ ad.block) := fun ad e => Nat.le_trans b2.out.size (f3 ad e); clear b3)
                | (go_at_call 58; (with_reducible refine (HOR.out _ _ _ _ (below_on hB B3.out) r3.out).mono ?_); rintro e w4 ⟨rfl, b4⟩; replace b4 := Lib.hid b4))
              have B4 := Lib.hid (below_on B3.out b4.out)
              go_roundw
              case rel => exact ⟨k, _, A3, c3, m, by omega, rfl, by go_num, by rw [HG.out.2], below_on hB B4.out, fun ad e => Nat.lt_of_lt_of_le HG.out.1 (f3.out ad e), by rw [HG.out.2]; exact (r3.out.below b4.out (Nat.le_refl _)).mono b4.out.size, HN.out.below B4.out⟩
              case measure => simp [intOf]


set_option maxRecDepth 100000 in
set_option maxHeartbeats 1000000 in
theorem rDiv_bad (w : World) (A1 A2 : Option Addr) (c1 c2 : Nat) (a b : List Nat) (ra : RdW w w.heap.size A1 a) (rb : RdW w w.heap.size A2 b) (na : a.length ≤ 9223372036854775807) (nb : b.length ≤ 9223372036854775807) (h : (isNat a && isNat b) = false) :
    Calls Tryz.prog 30 #[.slice A1 a.length c1, .slice A2 b.length c2] w (EndsD w [] [] 1) := by
  have HBO := Lib.hid (rBoth_any w A1 A2 c1 c2 a b ra rb na nb)
  rw [h] at HBO
  clear ra rb h
  go_enter Tryz.func30, Tryz.ntmps30
  go_wp2_with (go_at_call 55; refine HBO.out.mono ?_; rintro e w' ⟨rfl, rfl⟩)
  go_ret3
  exact ⟨Below.refl _ _, none, none, 0, 0, rfl, RdW.nil _ _ _, RdW.nil _ _ _⟩
set_option maxRecDepth 100000 in
set_option maxHeartbeats 1000000 in
theorem rDiv_zero (w : World) (A1 A2 : Option Addr) (c1 c2 : Nat) (a : List Nat) (ra : RdW w w.heap.size A1 a) (na : a.length ≤ 9223372036854775807) (h : isNat a = true) :
    Calls Tryz.prog 30 #[.slice A1 a.length c1, .slice A2 0 c2] w (EndsD w [] [] 7) := by
  have HBO := Lib.hid (rBoth_any w A1 A2 c1 c2 a [] ra (RdW.nil _ _ _) na (by simp))
  rw [h, show (true && isNat []) = true from rfl] at HBO
  clear ra h
  go_enter Tryz.func30, Tryz.ntmps30
  go_wp2_with (go_at_call 55; refine HBO.out.mono ?_; rintro e w' ⟨rfl, rfl⟩)
  go_ret3
  exact ⟨Below.refl _ _, none, none, 0, 0, rfl, RdW.nil _ _ _, RdW.nil _ _ _⟩
theorem rDiv_any (w : World) (A1 A2 : Option Addr) (c1 c2 : Nat) (a b : List Nat) (ra : RdW w w.heap.size A1 a) (rb : RdW w w.heap.size A2 b) (la : Lim a) (lb : Lim b) (na : a.length ≤ 9223372036854775807) (nb : b.length ≤ 9223372036854775807) :
    Calls Tryz.prog 30 #[.slice A1 a.length c1, .slice A2 b.length c2] w (EndsD w (divQ a b) (divR a b) (divE a b)) := by
  unfold divQ divR divE
  rcases h : (isNat a && isNat b) with _ | _
  · simp only [Bool.false_and, Bool.false_eq_true, if_false]
    exact rDiv_bad w A1 A2 c1 c2 a b ra rb na nb h
  · by_cases h0 : b.length = 0
    · obtain rfl := List.eq_nil_of_length_eq_zero h0
      rw [Bool.and_eq_true] at h
      simp only [List.length_nil, ne_eq, not_true_eq_false, decide_false, Bool.and_false, Bool.false_eq_true, if_false, if_true]
      exact rDiv_zero w A1 A2 c1 c2 a ra na h.1
    · rw [if_pos (by simp [h0]), if_pos (by simp [h0]), if_pos rfl, if_neg h0]
      rw [Bool.and_eq_true] at h
      refine rDiv_run w A1 A2 c1 c2 a b ra rb la lb h.1 h.2 ?_
      rcases Nat.eq_zero_or_pos (val b) with e | e
      · have hl := limbs_of lb (isNat_norm h.2).2
        rw [e, limbs_zero] at hl
        rw [← hl] at h0
        exact absurd rfl h0
      · exact e

end Go.Proofs.YtgcobhlplffpjaaGreatDoor
