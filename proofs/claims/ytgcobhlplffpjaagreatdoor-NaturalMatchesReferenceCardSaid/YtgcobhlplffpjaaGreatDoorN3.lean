/- Walks: Text. -/
import Derived.Test.YtgcobhlplffpjaaGreatDoorN2
import Derived.BigQuiet
import Derived.Deep.QuietTactic
namespace Go.Proofs.YtgcobhlplffpjaaGreatDoor
open Go.RowKit Go.Deep

def lenOf : Value → Nat
  | .slice _ n _ => n
  | _ => 0
/-- The groups laid so far, before the text of x. -/
structure TextAt (v x : Nat) (ss : List (List UInt8)) : Prop where
  txt : Lib.decDigits v = Lib.decDigits x ++ ss.reverse.flatten
  len : x * 2 ^ ss.length ≤ v
  nine : ss.flatten.length = 9 * ss.length
def TextRel (w : World) (v : Nat) (a g : Value) (wx : World) : Prop :=
  ∃ (x : Nat) (ss : List (List UInt8)) (A : Option Addr) (c : Nat), Below w.heap.size w wx ∧ a = .slice A (limbs x).length c ∧ Hid (RdW wx wx.heap.size A (limbs x)) ∧ Hid (OwnS wx w.heap.size g ss ∧ lenOf g = ss.length) ∧ Hid (TextAt v x ss) ∧ x ≤ v ∧ ss.length ≤ 20480
theorem TextAt.next {v x : Nat} {ss : List (List UInt8)} (h : TextAt v x ss) (hx : 1000000000 ≤ x) : TextAt v (x / 1000000000) (ss ++ [padk 9 (x % 1000000000)]) where
  txt := by
    have h1 := decDigits_split 9 (x / 1000000000) (x % 1000000000) (by omega) (by omega)
    rw [show x / 1000000000 * 10 ^ 9 + x % 1000000000 = x by omega] at h1
    rw [h.txt, h1]
    simp
  len := by
    have h1 := h.len
    rw [List.length_append, List.length_singleton, Nat.pow_succ]
    have h2 : x / 1000000000 * (2 ^ ss.length * 2) ≤ x * 2 ^ ss.length := by
      rw [Nat.mul_comm (2 ^ ss.length) 2, ← Nat.mul_assoc]
      exact Nat.mul_le_mul_right _ (by omega)
    omega
  nine := by
    rw [List.flatten_append, List.length_append, h.nine, List.length_append]
    simp [padk_length]
    omega
theorem TextAt.few {v x : Nat} {ss : List (List UInt8)} (h : TextAt v x ss) (hx : 0 < x) (hv : (limbs v).length ≤ 640) : ss.length < 20480 := by
  have h1 : v < pw 640 := limbs_len.1 hv
  have h2 : 2 ^ ss.length ≤ v := Nat.le_trans (Nat.le_mul_of_pos_left _ hx) h.len
  have h3 : ∀ k c, 32 * c = k → pw c = 2 ^ k := fun k c hk => by unfold pw; rw [← hk, Nat.pow_mul]
  rw [h3 20480 640 (by omega)] at h1
  exact (Nat.pow_lt_pow_iff_right (by omega)).1 (Nat.lt_of_le_of_lt h2 h1)

theorem dec_nine (r : Nat) (h : r < 1000000000) : 1 ≤ (Lib.decDigits r).length ∧ (Lib.decDigits r).length ≤ 9 := by
  refine ⟨decDigits_pos r, ?_⟩
  have := padk_eq 8 r h
  have h2 := congrArg List.length this
  rw [padk_length, List.length_append, List.length_replicate] at h2
  omega
theorem str_one (d : List UInt8) : ∀ u ∈ [str d], u.oneCell' = true := fun u hu => by
  rw [List.mem_singleton.1 hu]; rfl
/-- Behind the last group: what the two calls of the library get and give. -/
def RevEnd (w w2 : World) (g cap m : Nat) (S : List (List UInt8)) (w3 : World) : Prop := OwnS w3 w.heap.size (.slice (some ⟨g, 0, none⟩) m cap) S.reverse ∧ Below w.heap.size w w3 ∧ S.length = m ∧ w2 = w2
theorem text_end (w wr w1 w2 : World) (v' u4 : Value) (ss : List (List UInt8)) (d : List UInt8) (hB : Below w.heap.size w wr) (hb1 : Below wr.heap.size wr w1) (ho : OwnS wr w.heap.size u4 ss) (h : w2.ownsRow w.heap.size 9 1 v' (ss.length + 1) (ss.map str ++ [str d]))
    (hg : (w1.alloc (.cells #[str d] 9)).grownBy w2 u4.ownBlock) (hn : ss.length ≤ 20480) :
    ∃ g cap m, v' = .slice (some ⟨g, 0, none⟩) m cap ∧
      Calls Tryz.prog 48 #[.slice (some ⟨g, 0, none⟩) m cap] w2 (fun e w3 => e = .returned (.tuple #[]) ∧ RevEnd w w2 g cap m (ss ++ [d]) w3) ∧
      ∀ w3, RevEnd w w2 g cap m (ss ++ [d]) w3 → (ss ++ [d]).reverse.flatten.length ≤ 1000000000000 → Calls Tryz.prog 49 #[.slice (some ⟨g, 0, none⟩) m cap, .string ⟨#[]⟩] w3 fun e w4 => e = .returned (str (ss ++ [d]).reverse.flatten) ∧ Below w.heap.size w w4 := by
  have hs := OwnS.snoc h
  obtain ⟨g, cap, rfl, hg1, hg2⟩ := hs.form (by simp)
  have hb2 : Below w.heap.size w w2 := ((below_on hB hb1).alloc (below_on hB hb1).size _).grown hg (by have := (below_on hB hb1).size; simp; omega) (fun k hk => (World.ownsRow.lt ho k hk).1)
  refine ⟨g, cap, _, rfl, ?_, ?_⟩
  · exact (reverse_any w2 w.heap.size g cap (ss ++ [d]) hs (by simp; omega)).mono fun e w3 ⟨k1, k2, k3⟩ => ⟨k1, k2, hb2.grown k3 hb2.size (fun k hk => by cases hk; exact hg1), rfl, rfl⟩
  · intro w3 ⟨k1, k2, k3, _⟩ hf
    exact (join_any w3 w.heap.size g cap (ss ++ [d]).reverse _ (by simp) k1 (by simp; omega) hf).mono fun e w4 ⟨j1, j2⟩ => ⟨j1, below_on k2 j2⟩

theorem text_round (w wr w1 w2 w3 w4 : World) (u4 v' : Value) (v q : Nat) (ss : List (List UInt8)) (d : List UInt8) (A' : Option Addr) (hB : Below w.heap.size w wr) (hb1 : Below wr.heap.size wr w1) (hb2 : Below w1.heap.size w1 w2) (hb3 : Below w2.heap.size w2 w3)
    (hr : RdW w1 w1.heap.size A' (limbs q)) (hA : A' = some ⟨wr.heap.size, 0, none⟩) (ho : OwnS wr w.heap.size u4 ss) (hl : lenOf u4 = ss.length) (h : w4.ownsRow w.heap.size 9 1 v' (ss.length + 1) (ss.map str ++ [str d]))
    (hg : (w3.alloc (.cells #[str d] 9)).grownBy w4 u4.ownBlock) (HN : Hid (TextAt v q (ss ++ [d]))) (hq : q ≤ v) (hfew : ss.length < 20480) :
    TextRel w v (.slice A' (limbs q).length (limbs q).length) v' w4 ∧ 20480 - lenOf v' < 20480 - lenOf u4 := by
  have hs := OwnS.snoc h
  obtain ⟨g, cap, hv', hg1, hg2⟩ := hs.form (by simp)
  have hlv : lenOf v' = ss.length + 1 := by rw [hv']; simp [lenOf]
  have B13 := below_on hb1 (below_on hb2 hb3)
  have B3 := below_on hB B13
  have B4 : Below w.heap.size w w4 := (B3.alloc B3.size _).grown hg (by have := B3.size; simp; omega) (fun k hk => (World.ownsRow.lt ho k hk).1)
  refine ⟨⟨q, ss ++ [d], A', _, B4, rfl, ?_, ⟨hs, by rw [hlv]; simp⟩, HN, hq, by simp; omega⟩, by rw [hlv, hl]; omega⟩
  intro hn
  obtain ⟨ad, hA2, hlt, hc⟩ := hr hn
  have r3 := (hr.below (below_on hb2 hb3) (Nat.le_refl _)).mono (below_on hb2 hb3).size
  obtain ⟨ad3, hA3, hlt3, hc3⟩ := r3 hn
  rw [hA] at hA2 hA3
  injection hA2 with hA2
  injection hA3 with hA3
  subst hA2
  subst hA3
  refine ⟨_, hA, ?_, fun j hj => ?_⟩
  · have := hg.size
    simp at this hlt3 ⊢
    omega
  · have h1 : (w3.alloc (.cells #[str d] 9)).cell? ((⟨wr.heap.size, 0, none⟩ : Addr).add j) = some (.int .u32 (((limbs q).getD j 0 : Nat) : Int)) := by
      rw [World.cell?_alloc_lt]
      · exact hc3 j hj
      · rw [add_block]; exact hlt3
    refine hg.cell h1 ?_
    rw [add_block]
    intro e
    have := (World.ownsRow.lt ho _ e.symm).2
    simp at this

set_option maxRecDepth 100000 in
set_option maxHeartbeats 1000000 in
theorem text_good (w : World) (A1 : Option Addr) (c1 : Nat) (a : List Nat) (ra : RdW w w.heap.size A1 a) (la : Lim a) (na : isNat a = true) (hT : Tab w) :
    Calls Tryz.prog 21 #[.slice A1 a.length c1] w fun e w' => e = .returned (.tuple #[str (Lib.decDigits (val a)), .int .i64 0]) ∧ Below w.heap.size w w' := by
  have H1 := Lib.hid (valid_q w A1 c1 a true ra (by have := (isNat_norm na).1; omega) na)
  have hl6 := (isNat_norm na).1
  obtain ⟨v, hv⟩ : ∃ v, val a = v := ⟨_, rfl⟩
  have hal : a = limbs v := by rw [← hv]; exact isNat_eq la na
  have R1 := Lib.hid ra
  have HT := Lib.hid hT
  rw [hv]
  have HA := Lib.hid hal
  clear hal hv ra hT na la
  go_enter Tryz.func21, Tryz.ntmps21
  go_wp2_with (go_at_call 13; refine H1.out.mono ?_; rintro e w' ⟨rfl, rfl⟩)
  go_loopw [0, 4] (fun a g wx => TextRel w v a g wx) (fun _ g _ => 20480 - lenOf g)
  case atStart => exact ⟨v, [], A1, c1, Below.refl _ _, by rw [← HA.out], by rw [← HA.out]; exact R1.out, ⟨OwnS.start _ _, rfl⟩, ⟨by simp, by simp, rfl⟩, Nat.le_refl _, by simp⟩
  case round =>
    obtain ⟨x, ss, A, c, hB, rfl, HR, HO, HX, hxv, hn2⟩ := hrel
    by_cases hx : 1000000000 ≤ x
    · have HSH := short_any wr A c 1000000000 (limbs x) HR.out (limbs_lim _) (Nat.le_trans (limbs_mono hxv) (by rw [← HA.out]; exact hl6)) (by omega) (by omega)
      rw [limbs_val] at HSH
      have hr9 : x % 1000000000 < 4294967296 := by omega
      have HN := Lib.hid (HX.out.next hx)
      have hpad := padk_eq 8 (x % 1000000000) (by omega)
      obtain ⟨hd0, hd9⟩ := dec_nine (x % 1000000000) (by omega)
      have hfew := HX.out.few (by omega) (by rw [← HA.out]; exact hl6)
      have hq : x / 1000000000 ≤ v := by omega
      rcases Nat.lt_or_ge 1 (limbs x).length with hl | hl
      · clear hx HX
        rw [hpad] at HN
        clear hpad
        generalize x % 1000000000 = r at *
        generalize x / 1000000000 = q at *
        have hI : Hid (∀ w1, Below wr.heap.size wr w1 → Calls Tryz.prog 46 #[.int .i64 (r : Int)] w1 fun e w' => e = .returned (str (Lib.decDigits r)) ∧ Below w1.heap.size w1 w') := fun w1 hb => itoa_nat w1 r (by omega) (HT.out.below (below_on hB hb))
        generalize Lib.decDigits r = d at *
        generalize (limbs x).length = lx at *
        have HSH' := Lib.hid HSH
        clear HSH
        go_wp2_with fail
        refine HSH'.out.mono ?_
        rintro e w1 ⟨hb1, A', rfl, hr1, hA'⟩
        have HFr := Lib.hid hA'; clear hA'
        have HB1 := Lib.hid hb1; have HR1 := Lib.hid hr1; clear hb1 hr1
        have HI := Lib.hid (hI.out w1 HB1.out)
        go_wp2_with fail
        refine HI.out.mono ?_
        rintro e w2 ⟨rfl, hb2⟩
        have HB2 := Lib.hid hb2; clear hb2
        go_wp2_with fail
        rw [show (9 : Int) - (d.length : Int) = ((9 - d.length : Nat) : Int) by omega]
        have HRP := repeat_zero w2 (9 - d.length) (by omega)
        obtain ⟨zz, hzz⟩ : ∃ zz, List.replicate (9 - d.length) (48 : UInt8) = zz := ⟨_, rfl⟩
        rw [hzz] at HRP
        rw [show 8 + 1 - d.length = 9 - d.length by omega, hzz] at HN
        have hzl : zz.length ≤ 9 := by rw [← hzz, List.length_replicate]; omega
        clear hzz
        refine HRP.mono ?_
        rintro e w3 ⟨rfl, hb3⟩
        clear HRP
        have HB3 := Lib.hid hb3; clear hb3
        have hz1 := HB3.out.size
        have hz2 := HB2.out.size
        have hz3 := HB1.out.size
        have hz4 := hB.size
        have HO1 := Lib.hid (And.intro ((((HO.out.1.on HB1.out).on HB2.out).on HB3.out).alloc (.cells #[str (zz ++ d)] 9)) (shows_new w3 #[str (zz ++ d)] 9 1 1 rfl))
        go_wp2_with (first
          | (at_builtin; go_must (refine wpList_app _ rfl (.tmp 34) (.tmp 41) 54 9 (.string ⟨#[]⟩) 1 16 rfl Tryz.underlying54 info_str rfl (by decide) w.heap.size _ _ _ rfl HO1.out.1 (w3.heap.size + 1) (some ⟨w3.heap.size, 0, none⟩) 1 1 [str (zz ++ d)] rfl HO1.out.2 (str_one (zz ++ d)) (by simp only [maxLen]; omega) (by omega) (by simp; omega) ?_); intro v' w4 ho4 hg4 _; replace ho4 := Lib.hid ho4; replace hg4 := Lib.hid hg4))
        exact text_round w wr w1 w2 w3 w4 u4 v' v q ss (zz ++ d) A' hB HB1.out HB2.out HB3.out HR1.out HFr.out HO.out.1 HO.out.2 ho4.out hg4.out HN hq hfew
      · have h1 : (limbs x).length = 1 := by
          rcases Nat.eq_zero_or_pos (limbs x).length with h | h
          · have := limbs_nil (List.eq_nil_of_length_eq_zero h); omega
          · omega
        obtain ⟨ad, rfl, had, hcell⟩ := HR.out (by omega)
        have hx0 : wr.cell? ad = some (.int .u32 (x : Int)) := by
          have := hcell 0 (by omega)
          have e := val_one (limbs x) h1
          rw [limbs_val] at e
          rw [← e] at this
          simpa [Addr.add] using this
        have hxi : decide ((1000000000 : Int) ≤ (x : Int)) = true := by simp; omega
        have hxb : x < 4294967296 := by
          have := limbs_len.1 hl
          rwa [pw_succ, pw_zero, Nat.mul_one] at this
        clear hx HX hcell hl
        rw [hpad] at HN
        clear hpad
        generalize x % 1000000000 = r at *
        generalize x / 1000000000 = q at *
        have hI : Hid (∀ w1, Below wr.heap.size wr w1 → Calls Tryz.prog 46 #[.int .i64 (r : Int)] w1 fun e w' => e = .returned (str (Lib.decDigits r)) ∧ Below w1.heap.size w1 w') := fun w1 hb => itoa_nat w1 r (by omega) (HT.out.below (below_on hB hb))
        generalize Lib.decDigits r = d at *
        rw [h1] at HSH ⊢
        clear h1
        have HSH' := Lib.hid HSH
        clear HSH
        go_wp2_with fail
        refine HSH'.out.mono ?_
        rintro e w1 ⟨hb1, A', rfl, hr1, hA'⟩
        have HFr := Lib.hid hA'; clear hA'
        have HB1 := Lib.hid hb1; have HR1 := Lib.hid hr1; clear hb1 hr1
        have HI := Lib.hid (hI.out w1 HB1.out)
        go_wp2_with fail
        refine HI.out.mono ?_
        rintro e w2 ⟨rfl, hb2⟩
        have HB2 := Lib.hid hb2; clear hb2
        go_wp2_with fail
        rw [show (9 : Int) - (d.length : Int) = ((9 - d.length : Nat) : Int) by omega]
        have HRP := repeat_zero w2 (9 - d.length) (by omega)
        obtain ⟨zz, hzz⟩ : ∃ zz, List.replicate (9 - d.length) (48 : UInt8) = zz := ⟨_, rfl⟩
        rw [hzz] at HRP
        rw [show 8 + 1 - d.length = 9 - d.length by omega, hzz] at HN
        have hzl : zz.length ≤ 9 := by rw [← hzz, List.length_replicate]; omega
        clear hzz
        refine HRP.mono ?_
        rintro e w3 ⟨rfl, hb3⟩
        clear HRP
        have HB3 := Lib.hid hb3; clear hb3
        have hz1 := HB3.out.size
        have hz2 := HB2.out.size
        have hz3 := HB1.out.size
        have hz4 := hB.size
        have HO1 := Lib.hid (And.intro ((((HO.out.1.on HB1.out).on HB2.out).on HB3.out).alloc (.cells #[str (zz ++ d)] 9)) (shows_new w3 #[str (zz ++ d)] 9 1 1 rfl))
        go_wp2_with (first
          | (at_builtin; go_must (refine wpList_app _ rfl (.tmp 34) (.tmp 41) 54 9 (.string ⟨#[]⟩) 1 16 rfl Tryz.underlying54 info_str rfl (by decide) w.heap.size _ _ _ rfl HO1.out.1 (w3.heap.size + 1) (some ⟨w3.heap.size, 0, none⟩) 1 1 [str (zz ++ d)] rfl HO1.out.2 (str_one (zz ++ d)) (by simp only [maxLen]; omega) (by omega) (by simp; omega) ?_); intro v' w4 ho4 hg4 _; replace ho4 := Lib.hid ho4; replace hg4 := Lib.hid hg4))
        exact text_round w wr w1 w2 w3 w4 u4 v' v q ss (zz ++ d) A' hB HB1.out HB2.out HB3.out HR1.out HFr.out HO.out.1 HO.out.2 ho4.out hg4.out HN hq hfew
    · have hlx : (limbs x).length ≤ 1 := limbs_len.2 (by rw [pw_succ, pw_zero]; omega)
      have HTX := Lib.hid HX.out.txt
      have hfl := HX.out.nine
      have hdl := dec_len x
      have HF := Lib.hid (show (ss ++ [Lib.decDigits x]).reverse.flatten.length ≤ 1000000000000 by simp [List.length_flatten] at hfl ⊢; omega)
      have HS : Hid (Lib.decDigits x ++ ss.reverse.flatten = Lib.decDigits v) := HTX.out.symm
      clear hfl hdl HX H1 HTX
      have hI : Hid (Calls Tryz.prog 46 #[.int .i64 (x : Int)] wr fun e w' => e = .returned (str (Lib.decDigits x)) ∧ Below wr.heap.size wr w') := itoa_nat wr x (by omega) (HT.out.below hB)
      have HE := Lib.hid fun (d : List UInt8) (w1 : World) (v' : Value) (w2 : World) (hb1 : Below wr.heap.size wr w1) (h : w2.ownsRow w.heap.size 9 1 v' (ss.length + 1) (ss.map str ++ [str d])) (hg : (w1.alloc (.cells #[str d] 9)).grownBy w2 u4.ownBlock) => text_end w wr w1 w2 v' u4 ss d hB hb1 HO.out.1 h hg hn2
      rcases (show (limbs x).length = 0 ∨ (limbs x).length = 1 by omega) with h0 | h1
      · obtain rfl : x = 0 := limbs_nil (List.eq_nil_of_length_eq_zero h0)
        rw [h0]
        clear h0 hlx hx
        go_wp2_with fail
        refine hI.out.mono ?_
        generalize Lib.decDigits 0 = d at *
        rintro e w1 ⟨rfl, hb1⟩
        have HO1 := Lib.hid (And.intro ((HO.out.1.on hb1).alloc (.cells #[str d] 9)) (shows_new w1 #[str d] 9 1 1 rfl))
        have hz1 := hb1.size
        have hz2 := hB.size
        go_wp2_with (first
          | (at_builtin; go_must (refine wpList_app _ rfl (.tmp 51) (.tmp 54) 54 9 (.string ⟨#[]⟩) 1 16 rfl Tryz.underlying54 info_str rfl (by decide) w.heap.size _ _ _ rfl HO1.out.1 (w1.heap.size + 1) (some ⟨w1.heap.size, 0, none⟩) 1 1 [str d] rfl HO1.out.2 (str_one d) (by simp only [maxLen]; omega) (by omega) (by simp; omega) ?_); intro v' w2 ho2 hg2 _; obtain ⟨g, cap, m, rfl, hR, hJ⟩ := HE.out d w1 v' w2 hb1 ho2 hg2; replace hR := Lib.hid hR; replace hJ := Lib.hid hJ; clear ho2 hg2)
          | (go_at_call 48; refine hR.out.mono ?_; rintro e w3 ⟨rfl, h3⟩; replace hJ := Lib.hid (hJ.out w3 h3 HF.out); clear h3)
          | (go_at_call 49; refine hJ.out.mono ?_; rintro e w4 ⟨rfl, hb4⟩))
        go_ret2
        exact ⟨by rw [← HS.out]; rfl, hb4⟩
      · obtain ⟨ad, rfl, had, hcell⟩ := HR.out (by omega)
        have hx0 : wr.cell? ad = some (.int .u32 (x : Int)) := by
          have := hcell 0 (by omega)
          have e := val_one (limbs x) h1
          rw [limbs_val] at e
          rw [← e] at this
          simpa [Addr.add] using this
        rw [h1]
        have hxi : decide ((1000000000 : Int) ≤ (x : Int)) = false := by simp; omega
        have hxb : x < 4294967296 := by omega
        clear h1 hlx hcell hx
        go_wp2_with fail
        refine hI.out.mono ?_
        generalize Lib.decDigits x = d at *
        rintro e w1 ⟨rfl, hb1⟩
        have HO1 := Lib.hid (And.intro ((HO.out.1.on hb1).alloc (.cells #[str d] 9)) (shows_new w1 #[str d] 9 1 1 rfl))
        have hz1 := hb1.size
        have hz2 := hB.size
        go_wp2_with (first
          | (at_builtin; go_must (refine wpList_app _ rfl (.tmp 51) (.tmp 54) 54 9 (.string ⟨#[]⟩) 1 16 rfl Tryz.underlying54 info_str rfl (by decide) w.heap.size _ _ _ rfl HO1.out.1 (w1.heap.size + 1) (some ⟨w1.heap.size, 0, none⟩) 1 1 [str d] rfl HO1.out.2 (str_one d) (by simp only [maxLen]; omega) (by omega) (by simp; omega) ?_); intro v' w2 ho2 hg2 _; obtain ⟨g, cap, m, rfl, hR, hJ⟩ := HE.out d w1 v' w2 hb1 ho2 hg2; replace hR := Lib.hid hR; replace hJ := Lib.hid hJ; clear ho2 hg2)
          | (go_at_call 48; refine hR.out.mono ?_; rintro e w3 ⟨rfl, h3⟩; replace hJ := Lib.hid (hJ.out w3 h3 HF.out); clear h3)
          | (go_at_call 49; refine hJ.out.mono ?_; rintro e w4 ⟨rfl, hb4⟩))
        go_ret2
        exact ⟨by rw [← HS.out]; rfl, hb4⟩

end Go.Proofs.YtgcobhlplffpjaaGreatDoor
