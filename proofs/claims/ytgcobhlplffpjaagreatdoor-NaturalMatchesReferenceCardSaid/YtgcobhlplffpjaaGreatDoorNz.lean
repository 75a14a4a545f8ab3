/- Walks: long. -/
import Derived.Test.YtgcobhlplffpjaaGreatDoorNy
import Derived.Test.YtgcobhlplffpjaaGreatDoorNu
import Derived.BigRegion
import Derived.RegionTactic
import Derived.Deep.RegionWith
namespace Go.Proofs.YtgcobhlplffpjaaGreatDoor
open Go.RowKit Go.Deep

theorem shift_of (t : Nat) (h0 : 0 < t) (ht : t < 4294967296) : 32 - Lib.bitLen t ≤ 31 ∧ 2147483648 ≤ t * 2 ^ (32 - Lib.bitLen t) ∧ t * 2 ^ (32 - Lib.bitLen t) < 4294967296 := by
  obtain ⟨h1, h2, h3⟩ := Lib.bitLenAux_bounds 64 t (by omega) (by omega)
  have h4 := Lib.bitLen_le t 32 (by omega) ht
  unfold Lib.bitLen at *
  generalize Lib.bitLenAux 64 t = L at *
  have e1 : 2 ^ (L - 1) * 2 ^ (32 - L) = 2147483648 := by rw [← Nat.pow_add, show L - 1 + (32 - L) = 31 by omega]
  have e2 : 2 ^ L * 2 ^ (32 - L) = 4294967296 := by rw [← Nat.pow_add, show L + (32 - L) = 32 by omega]
  refine ⟨by omega, ?_, ?_⟩
  · rw [← e1]; exact Nat.mul_le_mul_right _ h2
  · rw [← e2]; exact Nat.mul_lt_mul_of_pos_right h3 (Nat.two_pow_pos _)

structure LongAt (gu gv gq n m A B : Nat) (V : List Nat) (k : Nat) (wx : World) (q M : List Nat) : Prop where
  inv : LongInv A B n k (m + 1) q M
  aru : Arr wx gu M
  arv : Arr wx gv V
  arq : Arr wx gq q
  qlen : q.length = m - n + 1
  qlim : Lim q
def LongRel (w : World) (gu gv gq n m A B : Nat) (V : List Nat) (i : Value) (wx : World) : Prop :=
  ∃ (k : Nat) (z : Int), k + n ≤ m + 1 ∧ i = .int .i64 z ∧ z = (k : Int) - 1 ∧ Below w.heap.size w wx ∧ ∃ q M, Hid (LongAt gu gv gq n m A B V k wx q M)
theorem LongAt.start {w2 : World} {gu gv n m A B l : Nat} {U V : List Nat} (hU : Arr w2 gu U) (hV : Arr w2 gv V) (h : LongInv A B n (m - n + 1) (l + 1) (zeros (m - n + 1)) U) (_hm : m - n + 1 = m - n + 1) (hl : l = m) :
    LongAt gu gv w2.heap.size n m A B V (m - n + 1) (w2.alloc (.cells (madeCells #[.int .u32 0] (m - n + 1)) 30)) (zeros (m - n + 1)) U where
  inv := by rw [← hl]; rw [← hl] at h; exact h
  aru := hU.alloc _
  arv := hV.alloc _
  arq := Arr.made w2 _
  qlen := zeros_length _
  qlim := Lim.zeros _
def LiftEnd (w wx : World) (len V : Nat) (e : Ending) (w' : World) : Prop :=
  Below w.heap.size w w' ∧ ∃ (g : Nat) (M : List Nat), e = .returned (.slice (some ⟨g, 0, none⟩) (len + 1) (len + 1)) ∧ wx.heap.size ≤ g ∧ (Arr w' g M ∧ M.length = len + 1 ∧ Lim M ∧ val M = V) ∧ Below wx.heap.size wx w'
theorem long_last (w : World) (g n v : Nat) (m : List Nat) (ha : Arr w g m) (hl : m.length = n) (hm : Lim m) (hv : val m = v) (hn : n ≤ 640) :
    Calls Tryz.prog 44 #[.slice (some ⟨g, 0, none⟩) n n] w fun e w' => e = .returned (.slice (some ⟨g, 0, none⟩) (limbs v).length (limbs v).length) ∧ RdW w w.heap.size (some ⟨g, 0, none⟩) (limbs v) ∧ w = w' := by
  subst hl hv
  refine (form_any w w.heap.size (some ⟨g, 0, none⟩) m.length m (ha.rd ha.lt) (by omega) (Nat.le_refl _) hm).mono fun e w' h => ?_
  have h1 := trim_limbs hm
  have h2 := trim_take m
  unfold Formed at h
  rw [if_pos (by omega), h1] at h
  refine ⟨h.1, ?_, h.2⟩
  rw [← h1, h2.1]
  exact (ha.rd ha.lt).take _
set_option maxRecDepth 100000 in
set_option maxHeartbeats 1000000 in
theorem long_any (w : World) (A1 A2 : Option Addr) (c1 c2 : Nat) (a b : List Nat) (ra : RdW w w.heap.size A1 a) (rb : RdW w w.heap.size A2 b) (la : Lim a) (lb : Lim b) (na : isNat a = true) (nb : isNat b = true) (h2 : 2 ≤ b.length) (hle : b.length ≤ a.length) :
    Calls Tryz.prog 62 #[.slice A1 a.length c1, .slice A2 b.length c2] w fun e w' => Below w.heap.size w w' ∧ ∃ A B, e = .returned (.tuple #[.slice A (limbs (val a / val b)).length (limbs (val a / val b)).length, .slice B (limbs (val a % val b)).length (limbs (val a % val b)).length]) ∧ RdW w' w'.heap.size A (limbs (val a / val b)) ∧ RdW w' w'.heap.size B (limbs (val a % val b)) := by
  obtain ⟨t, ht⟩ : ∃ t, b.getD (b.length - 1) 0 = t := ⟨_, rfl⟩
  have t1 : t < 4294967296 := by rw [← ht]; exact lb.getD _
  have t0 : 0 < t := by
    have := nb
    unfold isNat at this
    simp at this
    rw [← List.getD_eq_getElem?_getD, ht] at this
    rcases this.2 with h | h
    · rw [h] at h2; simp at h2
    · omega
  obtain ⟨s1, s2, s3⟩ := shift_of t t0 t1
  have HZ := Lib.hid (lz_any w t t1)
  have an := (isNat_norm na).1
  have bn := (isNat_norm nb).1
  obtain ⟨ad, rfl, had, hcell⟩ := rb (by omega)
  have hx := hcell (b.length - 1) (by omega)
  rw [ht] at hx
  clear hcell
  generalize 32 - Lib.bitLen t = s at *
  have HX := Lib.hid (And.intro ra (And.intro rb (And.intro la lb)))
  have HY := Lib.hid (And.intro na (And.intro nb (And.intro s2 (And.intro s3 ht))))
  clear ra rb la lb na nb s2 s3 ht t0 t1
  obtain ⟨n, hn⟩ : ∃ n, b.length = n := ⟨_, rfl⟩
  obtain ⟨m, hm⟩ : ∃ m, a.length = m := ⟨_, rfl⟩
  rw [hn] at hx h2 hle bn ⊢
  rw [hm] at hle an ⊢
  have HN := Lib.hid (And.intro hn hm)
  clear hn hm
  have hmk := make_limbs' ((m : Int) - (n : Int) + 1) (m - n + 1) (by omega) (by omega)
  have HLA := Lib.hid fun (wx : World) (hb : Below w.heap.size w wx) => (show Calls Tryz.prog 88 #[.slice A1 m c1, .int .i64 s] wx (LiftEnd w wx m (val a * 2 ^ s)) from by
    have := lift_any wx A1 c1 s a ((HX.out.1.below hb (Nat.le_refl _)).mono hb.size) HX.out.2.2.1 (by rw [HN.out.2]; omega) s1
    rw [HN.out.2] at this
    exact this.mono fun e w' ⟨k0, g, M, k1, k2, k3⟩ => ⟨below_on hb k0, g, M, k1, k2, k3, k0⟩)
  have HLB := Lib.hid fun (wx : World) (hb : Below w.heap.size w wx) => (show Calls Tryz.prog 88 #[.slice (some ad) n c2, .int .i64 s] wx (LiftEnd w wx n (val b * 2 ^ s)) from by
    have := lift_any wx (some ad) c2 s b ((HX.out.2.1.below hb (Nat.le_refl _)).mono hb.size) HX.out.2.2.2 (by rw [HN.out.1]; omega) s1
    rw [HN.out.1] at this
    exact this.mono fun e w' ⟨k0, g, M, k1, k2, k3⟩ => ⟨below_on hb k0, g, M, k1, k2, k3, k0⟩)
  go_enter Tryz.func62, Tryz.ntmps62
  go_wp2_with (go_at_call 87; refine HZ.out.mono ?_; rintro e w' ⟨rfl, rfl⟩)
  have tok1 : True := trivial
  go_region_with (first
    | (go_at_call 88; have _t := tok1; refine (HLA.out _ ?_).mono ?_; exact (Below.refl _ _).drew; rintro e w1 ⟨b1, gu, U, rfl, u1, u2⟩; clear tok1; replace u2 := Lib.hid u2)
    | (go_at_call 88; refine (HLB.out _ ?_).mono ?_; exact b1; rintro e w2 ⟨b2, gv, V, rfl, v1, v2⟩; replace v2 := Lib.hid v2))
  obtain ⟨hUa, hUl, hUm, hUv⟩ := u2.out.1
  obtain ⟨hVa, hVl, hVm, hVv⟩ := v2.out.1
  have hUa2 := hUa.below v2.out.2 hUa.lt
  have ge1 := b1.size
  have ge2 := b2.size
  have ge3 : w.heap.size ≤ gu := u1
  have lt1 := hUa.lt
  have lt2 := hVa.lt
  have hts := top_shift b V n t s HN.out.1 (by omega) s1 HX.out.2.2.2 hVm hVl hVv (by rw [← HN.out.1]; exact HY.out.2.2.2.2.symm) HY.out.2.2.1 HY.out.2.2.2.1
  have hvn : (V.take n).length = n := by rw [List.length_take, hVl]; omega
  have hlv := hVm.take n
  have hst := LongAt.start (w2 := w2) (gv := gv) hUa2 hVa (long_start a b U (V.take n) n s HN.out.1 HX.out.2.2.1 (isNat_norm HY.out.2.1).2 (by rw [← List.length_pos_iff, HN.out.1]; omega) hUm (by rw [hUl, HN.out.2]) hUv hts.1 (m - n + 1) (by rw [HN.out.2]; omega) (zeros (m - n + 1)) (fun i => zeros_get _ _) (by rw [zeros, val_zeros])) rfl HN.out.2
  rw [hUv, hts.1] at hst
  have HST := Lib.hid hst
  have HV := Lib.hid (And.intro (And.intro hVl hVm) (And.intro hts (And.intro hvn hlv)))
  clear hUa hUl hUm hUv hVa hVl hVm hVv hUa2 hts hvn hlv hst u2 v2 HLA HLB HZ
  have HP : Hid (0 < val b * 2 ^ s) := by
    have h1 := norm_pos (isNat_norm HY.out.2.1).2 (by rw [← List.length_pos_iff, HN.out.1]; omega)
    have h2 := pw_pos (b.length - 1)
    exact Nat.mul_pos (by omega) (Nat.two_pow_pos s)
  go_wp2_with fail
  go_loopw [11] (fun i wx => LongRel w gu gv w2.heap.size n m (val a * 2 ^ s) (val b * 2 ^ s) V i wx) (fun i _ => (intOf i + 1).toNat)
  case atStart => exact ⟨m - n + 1, _, by omega, rfl, by omega, b2.alloc b2.size _, _, _, HST⟩
  case round =>
    obtain ⟨k, z, hk, rfl, hz, hB, q, M, HS⟩ := hrel
    by_cases hk0 : k = 0
    · obtain rfl : z = -1 := by omega
      have hd := HS.out.inv
      rw [hk0] at hd
      have hdn := hd.done
      have hMn : val (M.take n) = val M := by
        have h1 := val_lt_of_zero HS.out.inv.lim n (fun i hi => val_high_zero n (Nat.lt_of_lt_of_le hd.bnd (by rw [pw_zero, Nat.one_mul]; have := val_lt HV.out.2.2.2; rw [HV.out.2.2.1, HV.out.2.1.1] at this; omega)) i hi)
        have h2 := val_split M n (by rw [hd.len]; omega)
        have h3 : val (M.drop n) = 0 := by
          rcases Nat.eq_zero_or_pos (val (M.drop n)) with h | h
          · exact h
          · have : pw n * 1 ≤ pw n * val (M.drop n) := Nat.mul_le_mul_left _ h
            omega
        rw [h3] at h2
        omega
      have hlq : limbs (val a / val b) = trim q := by rw [← hdn.1]; exact (trim_limbs HS.out.qlim).symm
      have hlq2 := (trim_take q).2
      rw [HS.out.qlen] at hlq2
      have HFQ := Lib.hid fun (wx : World) (hb : Below wr.heap.size wr wx) => (form_any wx wx.heap.size (some ⟨w2.heap.size, 0, none⟩) (m - n + 1) q ((HS.out.arq.below hb HS.out.arq.lt).rd (Nat.lt_of_lt_of_le HS.out.arq.lt hb.size)) (by rw [HS.out.qlen]; omega) (by rw [HS.out.qlen]; exact Nat.le_refl _) HS.out.qlim).mono fun e w' (h : Formed wx _ q e w') => (show e = .returned (.slice (some ⟨w2.heap.size, 0, none⟩) (limbs (val a / val b)).length (limbs (val a / val b)).length) ∧ wx = w' by
        unfold Formed at h
        rw [if_pos (by omega), ← hlq] at h
        exact h)
      rw [HS.out.qlen] at HFQ
      have HLO := Lib.hid fun (wx : World) (hb : Below wr.heap.size wr wx) => lower_any wx (some ⟨gu, 0, none⟩) (m + 1) s (M.take n) (((HS.out.aru.below hb HS.out.aru.lt).rd (Nat.lt_of_lt_of_le HS.out.aru.lt hb.size)).take n) (HS.out.inv.lim.take n) (by rw [List.length_take]; omega) s1
      rw [List.length_take, hd.len, Nat.min_eq_left (by omega), hMn, hdn.2] at HLO
      have HD := Lib.hid (And.intro hlq hlq2)
      clear hlq hlq2 hMn hdn hd hk0 hz
      go_wp2_with fail
      have tok1 : True := trivial
      go_region_with (first
        | (go_at_call 44; have _t := tok1; refine (HFQ.out _ ?_).mono ?_; exact (Below.refl _ _).drew; rintro e w6 ⟨rfl, rfl⟩; clear tok1)
        | (go_at_call 92; refine (HLO.out _ ?_).mono ?_; exact (Below.refl _ _).drew; intro e w7 h7; obtain ⟨b7, g7, m7, rfl, k7, a7, l7, lm7, v7⟩ := h7; have HFR := Lib.hid (long_last w7 g7 n (val a % val b) m7 a7 l7 lm7 v7 (by omega)); replace b7 := Lib.hid b7; clear k7 a7 l7 lm7 v7)
        | (go_at_call 44; refine HFR.out.mono ?_; rintro e w8 ⟨rfl, r8, rfl⟩; replace r8 := Lib.hid r8))
      all_goals
        go_wp2
        go_ret2
        refine ⟨below_on hB (below_on (Below.refl _ wr).drew b7.out), _, _, rfl, ?_, r8.out⟩
        rw [HD.out.1, (trim_take q).1]
        exact ((HS.out.arq.below (below_on (Below.refl _ wr).drew b7.out) HS.out.arq.lt).rd (Nat.lt_of_lt_of_le HS.out.arq.lt (below_on (Below.refl _ wr).drew b7.out).size)).take _
    · obtain ⟨j, rfl⟩ : ∃ j, k = j + 1 := ⟨k - 1, by omega⟩
      obtain rfl : z = (j : Int) := by omega
      clear hz hk0
      have hjn : j + n < m + 1 := by omega
      have hml := HS.out.inv.len
      have tg : ∀ i, i < n → (V.take n).getD i 0 = V.getD i 0 := fun i hi => by rw [List.getD_eq_getElem?_getD, List.getElem?_take, if_pos hi, ← List.getD_eq_getElem?_getD]
      have hgl := HS.out.inv.guess h2 HV.out.2.2.1 HV.out.2.2.2 HV.out.2.1.1 hjn (by rw [tg _ (by omega)]; exact HV.out.2.1.2)
      rw [tg _ (by omega), tg _ (by omega)] at hgl
      have HG := Lib.hid (guess_any wr gu gv j n (m + 1 - j) (n + 1) _ M V HS.out.aru HS.out.arv HS.out.inv.lim HV.out.1.2 h2 (by rw [HV.out.1.1]; omega) (by rw [hml]; exact hjn) (by rw [hml]; omega) hgl)
      have HT := Lib.hid fun (d : Nat) (wx : World) (hb : Below wr.heap.size wr wx) (hd : d ≤ 4294967296) => take_any wx gu gv j n (m + 1 - j) (n + 1) d M V (HS.out.aru.below hb HS.out.aru.lt) (HS.out.arv.below hb HS.out.arv.lt) HS.out.inv.lim HV.out.1.2 (by omega) (by rw [HV.out.1.1]; omega) (by rw [hml]; exact hjn) (by rw [hml]; omega) hd
      have hqs := hgl.small
      clear tg hgl
      obtain ⟨qh, hqh⟩ : ∃ qh, val ((M.drop j).take (n + 1)) / (val b * 2 ^ s) = qh := ⟨_, rfl⟩
      rw [hqh] at HG hqs
      have HQ := Lib.hid hqh
      replace hml := Lib.hid hml
      clear hqh
      go_wp2_with fail
      rw [show j + n + 1 - j = n + 1 by omega]
      refine HG.out.mono ?_
      rintro e w3 ⟨d, rfl, hd1, hd2, hb3⟩
      have HT' := Lib.hid (HT.out d w3 hb3 (by omega))
      have HB3 := Lib.hid hb3
      clear hb3 HT HG
      go_wp2_with fail
      refine HT'.out.mono ?_
      rintro e w4 ⟨ho4, bb, M4, rfl, hbb, ha4, hl4, hm4, he4, hf4⟩
      have H4 := Lib.hid (And.intro ho4 (And.intro ha4 (And.intro hl4 (And.intro hm4 he4))))
      have hM4 := val_lt_of_zero hm4 (j + n + 1) (fun i hi => by rw [hf4 i (by omega)]; exact HS.out.inv.high HV.out.2.2.1 HV.out.2.2.2 HV.out.2.1.1 i hi)
      have HM4 := Lib.hid hM4
      have HF4 := Lib.hid hf4
      clear ho4 ha4 hl4 hm4 he4 hf4 HT' hM4
      have hv4 : Arr w4 gv V := H4.out.1.arr (HS.out.arv.below HB3.out HS.out.arv.lt) (by omega)
      have hq4 : Arr w4 w2.heap.size q := H4.out.1.arr (HS.out.arq.below HB3.out HS.out.arq.lt) (by omega)
      have hB4 : Below w.heap.size w w4 := (below_on hB HB3.out).trans (H4.out.1.below (by have := u1; simpa using this) (below_on hB HB3.out).size)
      have H5 := Lib.hid (And.intro hv4 hq4)
      clear hv4 hq4
      rcases (show bb = 0 ∨ bb = 1 by omega) with rfl | rfl
      · obtain ⟨r1, r2, r3⟩ := HS.out.inv.right (M' := M4) HV.out.2.2.1 HV.out.2.2.2 HV.out.2.1.1 hjn HP.out (by rw [HQ.out]; exact hd1) (by have := H4.out.2.2.2.2; rw [HV.out.2.1.1, Nat.zero_mul, Nat.add_zero] at this; exact this)
        have HR := Lib.hid (And.intro r1 r2)
        clear r1 r2
        have hmod : (d : Int) % 4294967296 = (d : Int) := by omega
        have cq := H5.out.2.cell (i := j) (by rw [HS.out.qlen]; omega)
        have fq := H5.out.2.frozen j
        have hjq : j < m - n + 1 := by omega
        go_wp2_with fail
        refine ⟨⟨j, _, by omega, rfl, rfl, hB4.setCell (by omega) _, q.set j d, M4, ?_⟩, by simp [intOf]⟩
        exact ⟨HS.out.inv.store (by rw [HS.out.qlen]; omega) d H4.out.2.2.2.1 (by rw [H4.out.2.2.1]; exact hml.out) HR.out.1 HR.out.2, H4.out.2.1.other (by simp; omega) _, H5.out.1.other (by simp; omega) _, H5.out.2.set j d (by rw [HS.out.qlen]; omega), by rw [List.length_set]; exact HS.out.qlen, HS.out.qlim.set _ _ r3⟩
      · have he4 := H4.out.2.2.2.2
        rw [HV.out.2.1.1, Nat.one_mul] at he4
        have hdp := long_pos he4 HM4.out
        have HE4 := Lib.hid he4
        clear he4
        have HRs := Lib.hid (restore_any w4 gu gv j n (m + 1 - j) (n + 1) M4 V H4.out.2.1 H5.out.1 H4.out.2.2.2.1 HV.out.1.2 (by omega) (by rw [HV.out.1.1]; omega) (by rw [H4.out.2.2.1, hml.out]; exact hjn) (by rw [H4.out.2.2.1, hml.out]; omega))
        have hda : (d : Int) - 1 = ((d - 1 : Nat) : Int) := by omega
        go_wp2_with fail
        refine HRs.out.mono ?_
        rintro e w5 ⟨ho5, b5, M5, rfl, ha5, hl5, hm5, he5, hf5⟩
        have hM5 := val_lt_of_zero hm5 (j + n + 1) (fun i hi => by rw [hf5 i (by omega), HF4.out i (by omega)]; exact HS.out.inv.high HV.out.2.2.1 HV.out.2.2.2 HV.out.2.1.1 i hi)
        rw [HV.out.2.1.1] at he5
        obtain ⟨-, r1, r2, r3⟩ := HS.out.inv.wrong (M' := M4) (M'' := M5) HV.out.2.2.1 HV.out.2.2.2 HV.out.2.1.1 hjn HP.out (by rw [HQ.out]; exact hd2) HE4.out HM4.out he5 hM5
        have HR := Lib.hid (And.intro r1 r2)
        clear r1 r2 hf5 he5 hM5
        have hmod : ((d - 1 : Nat) : Int) % 4294967296 = ((d - 1 : Nat) : Int) := by omega
        have hv5 : Arr w5 gv V := ho5.arr H5.out.1 (by omega)
        have hq5 : Arr w5 w2.heap.size q := ho5.arr H5.out.2 (by omega)
        have hB5 : Below w.heap.size w w5 := hB4.trans (ho5.below ge3 hB4.size)
        have cq := hq5.cell (i := j) (by rw [HS.out.qlen]; omega)
        have fq := hq5.frozen j
        have hjq : j < m - n + 1 := by omega
        have H6 := Lib.hid (And.intro hv5 (And.intro hq5 (And.intro ha5 (And.intro hl5 (And.intro hm5 hB5)))))
        clear hv5 hq5 ha5 hl5 hm5 hB5 ho5
        go_wp2_with fail
        refine ⟨⟨j, _, by omega, rfl, rfl, H6.out.2.2.2.2.2.setCell (by omega) _, q.set j (d - 1), M5, ?_⟩, by simp [intOf]⟩
        exact ⟨HS.out.inv.store (by rw [HS.out.qlen]; omega) (d - 1) H6.out.2.2.2.2.1 (by rw [H6.out.2.2.2.1, H4.out.2.2.1]; exact hml.out) HR.out.1 HR.out.2, H6.out.2.2.1.other (by simp; omega) _, H6.out.1.other (by simp; omega) _, H6.out.2.1.set j (d - 1) (by rw [HS.out.qlen]; omega), by rw [List.length_set]; exact HS.out.qlen, HS.out.qlim.set _ _ r3⟩

end Go.Proofs.YtgcobhlplffpjaaGreatDoor
