/- Walks of the reference: Text. -/
import Derived.Test.YtgcobhlplffpjaaGreatDoorRB
namespace Go.Proofs.YtgcobhlplffpjaaGreatDoor
open Go.RowKit Go.Deep

def Sep (d left : Value) : Prop := ∀ g, left.ownBlock = some g → d.ownBlock ≠ some g
def TxtRel (w : World) (v : Nat) (d left : Value) (wx : World) : Prop :=
  ∃ (x : Nat) (ds : List UInt8) (A : Option Addr) (c : Nat), Below w.heap.size w wx ∧ left = .slice A (limbs x).length c ∧ lenOf d = ds.length ∧ ds.length ≤ 20480 ∧ (limbs x).length ≤ 640 ∧ Hid (OwnU wx w.heap.size (.slice A (limbs x).length c) (limbs x)) ∧ Hid (OwnB wx w.heap.size d ds) ∧ Hid (Sep d (.slice A (limbs x).length c)) ∧ Hid (TxtAt v x ds)
def RevRel (wo : World) (ds : List UInt8) (out i : Value) (wx : World) : Prop :=
  ∃ (k : Nat) (z : Int), k ≤ ds.length ∧ i = .int .i64 z ∧ z = (k : Int) - 1 ∧ Below wo.heap.size wo wx ∧ Hid (OwnB wx wo.heap.size out (ds.drop k).reverse)

theorem txt_round (w wr wx w4 : World) (v x g c : Nat) (d v' : Value) (ds : List UInt8) (hB : Below w.heap.size w wr) (hO : Only g wr wx) (hg : w.heap.size ≤ g) (hgx : g < wx.heap.size)
    (own : OwnU wx w.heap.size (.slice (some ⟨g, 0, none⟩) (limbs (x / 10)).length c) (limbs (x / 10))) (hD : OwnB wr w.heap.size d ds) (hS : d.ownBlock ≠ some g) (ht : TxtAt v x ds) (hx : 0 < x) (h6 : (limbs x).length ≤ 640) (hds : ds.length < 20480)
    (y : Nat) (hy : y = 48 + x % 10)
    (h : w4.ownsRow w.heap.size 5 1 v' (ds.length + 1) (bcells ds ++ [.int .u8 (y : Int)]))
    (hgr : (wx.alloc (.cells #[.int .u8 (y : Int)] 5)).grownBy w4 d.ownBlock) (ha : v'.ownBlock = d.ownBlock ∨ v'.ownBlock = some (wx.alloc (.cells #[.int .u8 (y : Int)] 5)).heap.size) :
    TxtRel w v v' (.slice (some ⟨g, 0, none⟩) (limbs (x / 10)).length c) w4 ∧ lenOf v' = ds.length + 1 := by
  have e1 : OwnB w4 w.heap.size v' (ds ++ [UInt8.ofNat (48 + x % 10)]) := OwnB.snoc h (by rw [hy, bcell_ofNat _ (by omega)]; rfl) rfl
  have e2 : lenOf v' = ds.length + 1 := by
    obtain ⟨A, c, rfl, -, -⟩ := e1.form
    simp [lenOf]
  have bx : Below w.heap.size w wx := hB.trans (hO.below hg hB.size)
  have b4 : Below w.heap.size w w4 := below_grown (bx.alloc bx.size _) hgr (by have := bx.size; simp; omega) (fun k hk => hD.block k hk)
  refine ⟨⟨x / 10, _, _, c, b4, rfl, by rw [e2]; simp, by simp; omega, Nat.le_trans (limbs_mono (by omega)) h6, ?_, e1, ?_, ht.next hx⟩, e2⟩
  · exact OwnU.kept (r := d.ownBlock) (World.ownsRow.alloc own _) hgr (.inr (fun e => hS e.symm))
  · intro k hk
    obtain rfl : g = k := Option.some.inj hk
    rcases ha with ha | ha
    · rw [ha]; exact hS
    · rw [ha]; intro e; have := Option.some.inj e; simp at this; omega

set_option maxRecDepth 100000 in
set_option maxHeartbeats 2000000 in
theorem rText_good (w : World) (A1 : Option Addr) (c1 : Nat) (a : List Nat) (ra : RdW w w.heap.size A1 a) (la : Lim a) (na : isNat a = true) :
    Calls Tryz.prog 33 #[.slice A1 a.length c1] w fun e w' => e = .returned (.tuple #[str (Lib.decDigits (val a)), .int .i64 0]) ∧ Below w.heap.size w w' := by
  have HV := Lib.hid (rValid_q w A1 c1 a true ra (by have := (isNat_norm na).1; omega) na)
  have hl6 := (isNat_norm na).1
  obtain ⟨v, hv⟩ : ∃ v, val a = v := ⟨_, rfl⟩
  have hal : a = limbs v := by rw [← hv]; exact isNat_eq la na
  have RA := Lib.hid ra
  rw [hv]
  have HA := Lib.hid hal
  have HL := Lib.hid (ucells_one a)
  clear hal hv ra na la
  go_enter Tryz.func33, Tryz.ntmps33
  go_wp2_with (first
    | (go_at_call 24; refine HV.out.mono ?_; rintro e w' ⟨rfl, rfl⟩)
    | (at_builtin; go_must (refine wpList_app _ rfl (.tmp 14) (.tmp 15) 23 30 (.int .u32 0) 1 4 rfl Tryz.underlying23 info_u32 rfl (by decide) w.heap.size _ 0 [] rfl (empty_ownU w w.heap.size (Nat.le_refl _)) w.heap.size A1 a.length c1 (ucells a) rfl (RA.out.shows.alloc (Nat.le_refl _) _) HL.out (by simp only [maxLen]; omega) (by omega) (by simp) ?_); intro v' w4 ho hg _; replace ho := Lib.hid ho; replace hg := Lib.hid hg; obtain ⟨A', c', hv, hc', r'⟩ := OwnU.form (l := a) (by have := ho.out; rw [Nat.zero_add, List.nil_append] at this; exact this); subst hv; clear hc' r'))
  have HB0 : Hid (Below w.heap.size w w4) := below_grown ((Below.refl w.heap.size w).alloc (Nat.le_refl _) _) hg.out (by simp) (fun g h => by cases h; exact Nat.le_refl _)
  have HO0 : Hid (OwnU w4 w.heap.size (.slice A' (limbs v).length c') (limbs v)) := by
    have := ho.out
    rw [Nat.zero_add, List.nil_append] at this
    rw [← HA.out]
    exact this
  clear ho hg
  go_loopw [4, 5] (fun d left wx => TxtRel w v d left wx) (fun d _ _ => 20480 - lenOf d)
  case atStart => exact ⟨v, [], A', c', HB0.out, by rw [← HA.out], rfl, by simp, by rw [← HA.out]; exact hl6, HO0, OwnB.start _ _, (fun g _ e => by cases e), TxtAt.start v⟩
  case round =>
    clear HB0 HO0 HV
    obtain ⟨x, ds, A, c, hB, rfl, hld, hds, h6, HO, HD, HS, HT⟩ := hrel
    by_cases hx : x = 0
    · subst hx
      have HTX := Lib.hid HT.out.done
      rw [limbs_zero]
      by_cases h0 : ds.length = 0
      · have HR : Hid (Lib.decDigits v = [48]) := by rw [HTX.out, if_pos h0]; rfl
        rw [h0] at hld
        obtain ⟨Ad, cd, rfl, -, -⟩ := HD.out.form
        rw [h0]
        clear HO HD HS HT HTX
        go_wp2
        go_ret2
        rw [HR.out]
        exact ⟨rfl, hB⟩
      · have HR : Hid (Lib.decDigits v = ds.reverse) := by rw [HTX.out, if_neg h0]; rfl
        obtain ⟨gd, cd, rfl, hgd, hgd2, hrd⟩ := HD.out.form' (by omega)
        have HRD := Lib.hid hrd
        have hn0 : ((ds.length : Int) == 0) = false := by rw [beq_eq_false_iff_ne]; omega
        clear HO HD HS HT HTX hrd
        obtain ⟨wo, hwo⟩ : ∃ wo, wo = wr := ⟨_, rfl⟩
        subst hwo
        go_wp2
        go_loopw [9, 10] (fun out i wx => RevRel wo ds out i wx) (fun _ i _ => (intOf i + 1).toNat)
        case atStart => exact ⟨ds.length, _, Nat.le_refl _, rfl, rfl, Below.refl _ _, by rw [List.drop_of_length_le (Nat.le_refl _)]; exact OwnB.start _ _⟩
        case round =>
          obtain ⟨k, z, hk, rfl, hz, hB2, HU⟩ := hrel
          by_cases hk0 : k = 0
          · obtain rfl : z = -1 := by omega
            rw [hk0, List.drop_zero] at HU
            obtain ⟨gu, cu, rfl, hgu, hgu2, hrd⟩ := HU.out.form' (by rw [List.length_reverse]; omega)
            have kc := conv_own wr gu ds.length cu ds.reverse (by simp) hrd
            clear HU hz hrd
            go_wp2
            go_ret2
            rw [HR.out]
            exact ⟨rfl, below_on hB hB2⟩
          · obtain ⟨j, rfl⟩ : ∃ j, k = j + 1 := ⟨k - 1, by omega⟩
            obtain rfl : z = (j : Int) := by omega
            clear hz
            obtain ⟨ad, e9, -, hcell⟩ := HRD.out.below hB2 (Nat.le_refl _) (by omega)
            obtain rfl := Option.some.inj e9
            have hx := hcell j (by omega)
            rw [show (⟨gd, 0, none⟩ : Addr).add j = ⟨gd, j, none⟩ from by unfold Addr.add; split <;> simp_all] at hx
            have HX := Lib.hid (show ds.getD j 0 = ds[j]'(by omega) by simp [List.getD_eq_getElem?_getD, List.getElem?_eq_getElem (show j < ds.length by omega)])
            have HDP := Lib.hid (List.drop_eq_getElem_cons (show j < ds.length by omega))
            generalize ds.getD j 0 = y at *
            clear hcell e9
            have HDA := Lib.hid (And.intro (World.ownsRow.alloc HU.out (.cells #[.int .u8 (y.toNat : Int)] 5)) (shows_new wr #[.int .u8 (y.toNat : Int)] 5 1 1 rfl))
            have hz1 := hB2.size
            go_wp2_with (at_builtin; go_must (refine wpList_appb _ rfl (.tmp 61) (.tmp 66) rfl wo.heap.size _ _ _ rfl HDA.out.1 (wr.heap.size + 1) (some ⟨wr.heap.size, 0, none⟩) 1 1 [.int .u8 (y.toNat : Int)] rfl HDA.out.2 (by simp [Value.oneCell']) (by simp; omega) (by simp; omega) ?_); intro v' w4 ho4 hg4 ha4; replace ho4 := Lib.hid ho4; replace hg4 := Lib.hid hg4; replace ha4 := Lib.hid ha4)
            go_roundw
            case rel => exact ⟨j, _, by omega, rfl, by go_num, below_grown (hB2.alloc hB2.size _) hg4.out (by simp; omega) (fun k hk => HU.out.block k hk), by rw [HDP.out, List.reverse_cons, ← HX.out]; exact OwnB.snoc ho4.out rfl rfl⟩
            case measure => simp [intOf]; omega
    · have hxp : 0 < x := by omega
      have hnp : 0 < (limbs x).length := by
        rcases Nat.eq_zero_or_pos (limbs x).length with e | e
        · exact absurd (limbs_nil (List.eq_nil_of_length_eq_zero e)) hx
        · exact e
      obtain ⟨g, rfl, hg, hgx, hcc⟩ := HO.out.form' hnp
      have hfew := HT.out.few hxp (by rw [← HA.out]; exact hl6)
      have HSd := Lib.hid (HS.out g rfl)
      have HLL := Lib.hid (limbs_lim x)
      have HVX := Lib.hid (limbs_val x)
      have HEND := Lib.hid fun wx w4 v' y h1 h2 h3 hy h4 h5 h6' => txt_round w wr wx w4 v x g c u4 v' ds hB h1 hg h2 h3 HD.out HSd.out HT.out hxp h6 hfew y hy h4 h5 h6'
      have HST := Lib.hid (DivIn.start HO.out HLL.out)
      clear HS HT HO hx
      generalize hl : limbs x = l at *
      clear hl
      go_wp2
      go_loopw [6, 7] (fun r i wx => DivInRel wr w.heap.size g c l r i wx) (fun _ i _ => (intOf i + 1).toNat)
      case atStart => exact ⟨l.length, 0, _, Nat.le_refl _, rfl, rfl, rfl, by omega, Only.refl _ _, l, HST⟩
      case round =>
        clear HST
        obtain ⟨k, ρ, z, hk, rfl, hz, rfl, hρ, hO, m, HM⟩ := hrel
        by_cases hk0 : k = 0
        · obtain rfl : z = -1 := by omega
          have hm : m = shortQ 10 l := by
            have := HM.out.top
            rw [hk0] at this
            simpa only [List.drop_zero] using this
          have hr : ρ = x % 10 := by
            have := HM.out.rem
            rw [hk0, List.drop_zero, HVX.out] at this
            exact this
          have e2 : trim m = limbs (x / 10) := by rw [trim_limbs HM.out.lim, hm, shortQ_val 10 (by omega), HVX.out]
          have own := HM.out.own
          have ml := HM.out.len
          obtain ⟨A9, c9, e9, _, hrd⟩ := own.form
          injection e9 with e9 ee1 ee2
          subst e9 ee2
          have hgx2 := (own.lt g rfl).2
          have hcut := own.cut (trim m).length (by have := (trim_take m).2; exact this)
          rw [← (trim_take m).1] at hcut
          have ht := rTrim_any wr _ (some ⟨g, 0, none⟩) c m hrd (by omega) (by omega)
          rw [e2] at ht hcut
          rw [ml] at ht
          have HTR := Lib.hid ht
          have HCUT := Lib.hid hcut
          obtain ⟨y, hy⟩ : ∃ y, y = 48 + ρ := ⟨_, rfl⟩
          have hyi : (48 : Int) + (ρ : Int) = (y : Int) := by omega
          have HY : Hid (y = 48 + x % 10) := by rw [hy, hr]; rfl
          have hyb : y < 58 := by omega
          have HDA := Lib.hid (And.intro (World.ownsRow.alloc (HD.out.kept hO.grown (.inr HSd.out)) (.cells #[.int .u8 (y : Int)] 5)) (shows_new wr #[.int .u8 (y : Int)] 5 1 1 rfl))
          have hzz : w.heap.size ≤ wr.heap.size := by omega
          clear ee1 hm hr e2 own ml hrd ht hcut hy HM hz hk0
          go_wp2_with (first
            | (go_at_call 54; refine HTR.out.mono ?_; rintro e w' ⟨rfl, rfl⟩)
            | (at_builtin; go_must (refine wpList_appb _ rfl (.tmp 45) (.tmp 49) rfl w.heap.size _ _ _ rfl HDA.out.1 (wr.heap.size + 1) (some ⟨wr.heap.size, 0, none⟩) 1 1 [.int .u8 (y : Int)] rfl HDA.out.2 (by simp [Value.oneCell']) (by omega) (by simp; omega) ?_); intro v' w4 ho4 hg4 ha4; replace ho4 := Lib.hid ho4; replace hg4 := Lib.hid hg4; replace ha4 := Lib.hid ha4))
          have HE := HEND.out wr w4 v' y hO hgx2 HCUT.out HY.out ho4.out hg4.out ha4.out
          go_roundw
          case rel => exact HE.1
          case measure => rw [HE.2]; omega
        · obtain ⟨j, rfl⟩ : ∃ j, k = j + 1 := ⟨k - 1, by omega⟩
          obtain rfl : z = (j : Int) := by omega
          clear hz
          obtain ⟨hcl, hfz⟩ := HM.out.cell (by omega)
          have xl := HLL.out.getD j
          obtain ⟨t, ht⟩ : ∃ t, ρ * 4294967296 + l.getD j 0 = t := ⟨_, rfl⟩
          have HN := Lib.hid (HM.out.next (by omega) (by rw [ht]; omega))
          rw [ht] at HN
          generalize l.getD j 0 = y at *
          have h1 : (ρ : Int) * 4294967296 + (y : Int) = (t : Int) := by omega
          have tb : t < 42949672960 := by omega
          obtain ⟨q1, hq1⟩ : ∃ q1, t / 10 = q1 := ⟨_, rfl⟩
          obtain ⟨q2, hq2⟩ : ∃ q2, t % 10 = q2 := ⟨_, rfl⟩
          rw [hq1, hq2] at HN
          have r1 : (t : Int) / 10 = (q1 : Int) := by omega
          have r2 : (t : Int) % 10 = (q2 : Int) := by omega
          have b1 : q1 < 4294967296 := by omega
          have b2 : q2 < 10 := by omega
          clear hq1 hq2 ht
          go_wp2
          go_roundw
          case rel => exact ⟨j, q2, _, by omega, rfl, by go_num, by rw [r2], b2, hO.setCell _ _, _, HN⟩
          case measure => simp [intOf]

def txtS (a : List Nat) : List UInt8 := if isNat a then Lib.decDigits (val a) else []
def txtE (a : List Nat) : Int := if isNat a then 0 else 1
set_option maxRecDepth 100000 in
set_option maxHeartbeats 1000000 in
theorem rText_any (w : World) (A1 : Option Addr) (c1 : Nat) (a : List Nat) (ra : RdW w w.heap.size A1 a) (la : Lim a) (hl : a.length ≤ 9223372036854775807) :
    Calls Tryz.prog 33 #[.slice A1 a.length c1] w fun e w' => e = .returned (.tuple #[str (txtS a), .int .i64 (txtE a)]) ∧ Below w.heap.size w w' := by
  unfold txtS txtE
  rcases h : isNat a with _ | _
  · rw [if_neg (by decide), if_neg (by decide)]
    have H1 := Lib.hid (rValid_q w A1 c1 a false ra hl h)
    clear ra la h
    go_enter Tryz.func33, Tryz.ntmps33
    go_wp2_with (go_at_call 24; refine H1.out.mono ?_; rintro e w' ⟨rfl, rfl⟩)
    go_ret2
    exact ⟨rfl, Below.refl _ _⟩
  · exact rText_good w A1 c1 a ra la h
theorem text_any (w : World) (A1 : Option Addr) (c1 : Nat) (a : List Nat) (ra : RdW w w.heap.size A1 a) (la : Lim a) (hl : a.length ≤ 9223372036854775807) (hT : Tab w) :
    Calls Tryz.prog 21 #[.slice A1 a.length c1] w fun e w' => e = .returned (.tuple #[str (txtS a), .int .i64 (txtE a)]) ∧ Below w.heap.size w w' := by
  unfold txtS txtE
  rcases h : isNat a with _ | _
  · rw [if_neg (by decide), if_neg (by decide)]
    exact text_bad w A1 c1 a ra hl h
  · exact text_good w A1 c1 a ra la h hT

end Go.Proofs.YtgcobhlplffpjaaGreatDoor
