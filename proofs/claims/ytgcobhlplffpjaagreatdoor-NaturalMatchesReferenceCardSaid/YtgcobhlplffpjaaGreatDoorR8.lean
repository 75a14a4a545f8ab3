/- Walks of the reference: Pow. -/
import Derived.Test.YtgcobhlplffpjaaGreatDoorR7
namespace Go.Proofs.YtgcobhlplffpjaaGreatDoor
open Go.RowKit Go.Deep

def RPowRel (w : World) (x n : Nat) (c i : Value) (wx : World) : Prop :=
  ∃ (k : Nat) (A : Option Addr) (cap : Nat), k ≤ n ∧ i = .int .i64 k ∧ c = .slice A (limbs (x ^ k)).length cap ∧ Below w.heap.size w wx ∧ (limbs (x ^ k)).length ≤ 640 ∧ Hid (RdW wx wx.heap.size A (limbs (x ^ k)))

set_option maxRecDepth 100000 in
set_option maxHeartbeats 2000000 in
theorem rPow_loop (w : World) (A1 : Option Addr) (c1 : Nat) (a : List Nat) (n : Nat) (ra : RdW w w.heap.size A1 a) (la : Lim a) (na : isNat a = true) (hx : 1 < val a) (hn : 0 < n) (hn2 : n ≤ 9223372036854775807) :
    Calls Tryz.prog 31 #[.slice A1 a.length c1, .int .i64 n] w (REndsO w (cutO (val a ^ n))) := by
  have HV := Lib.hid (rValid_q w A1 c1 a true ra (by have := (isNat_norm na).1; omega) na)
  have HC := Lib.hid (rOrder_any (w.alloc (.cells #[.int .u32 1] 30)) A1 (some ⟨w.heap.size, 0, none⟩) c1 1 a [1] ((ra.below ((Below.refl w.heap.size w).alloc (Nat.le_refl _) _) (Nat.le_refl _)).mono (by simp)) ((arr_one w 1).rd (by simp)) la (Lim.nil.cons (by omega)) (isNat_norm na).2 (by simp [Norm]) (by simp))
  have e1 : val [1] = 1 := rfl
  have hr : cmpI (val a) 1 = 1 := by rw [cmpI, if_neg (by omega), if_pos hx]
  rw [e1, hr] at HC
  clear e1 hr
  have HP := Lib.hid fun (w1 : World) (hb : Below w.heap.size w w1) (l : List Nat) (A : Option Addr) (c : Nat) (h : RdW w1 w1.heap.size A l) (ll : Lim l) (hl : l.length ≤ 640) => rProduct_any w1 A A1 c c1 l a h ((ra.below hb (Nat.le_refl _)).mono hb.size) ll la (by omega) (by have := (isNat_norm na).1; omega)
  have hn0 : ¬ n = 0 := by omega
  clear ra la na hx
  generalize val a = x at *
  have HN2 := Lib.hid hn2; clear hn2
  go_enter Tryz.func31, Tryz.ntmps31
  go_wp2_with (first
    | (go_at_call 24; refine HV.out.mono ?_; rintro e w' ⟨rfl, rfl⟩)
    | (go_at_call 58; refine HC.out.mono ?_; rintro e w1 ⟨rfl, hB1⟩))
  have hB2 : Below w.heap.size w w1 := ((Below.refl w.heap.size w).alloc (Nat.le_refl _) _).trans (hB1.mono (by simp))
  clear hB1
  go_loopw [6, 7] (fun c i wx => RPowRel w x n c i wx) (fun _ i _ => n - (intOf i).toNat)
  case atStart => exact ⟨0, some ⟨w1.heap.size, 0, none⟩, 1, by omega, rfl, by rw [Nat.pow_zero, l_one]; rfl, hB2.alloc hB2.size _, by rw [Nat.pow_zero, l_one]; simp, by rw [Nat.pow_zero, l_one]; exact (arr_one w1 1).rd (by simp)⟩
  case round =>
    clear hB2
    obtain ⟨k, A, cap, hk, rfl, rfl, hB, h6, HR⟩ := hrel
    by_cases hlt : k < n
    · have HM := Lib.hid (HP.out wr hB _ A cap HR.out (limbs_lim _) h6)
      rw [limbs_val, ← Nat.pow_succ] at HM
      by_cases h7 : (limbs (x ^ (k + 1))).length ≤ 640
      · clear HR h6
        have hkb : k < 9223372036854775807 := by have := HN2.out; omega
        generalize hl1 : (limbs (x ^ (k + 1))) = l1 at *
        generalize (limbs (x ^ k)).length = l0 at *
        go_wp2_with (go_at_call 60; refine HM.out.mono ?_; rintro e w2 ⟨hb, A', c', rfl, hc, hr⟩; replace hb := Lib.hid hb; replace hr := Lib.hid hr; clear hc)
        go_roundw
        case rel => exact ⟨k + 1, A', c', by omega, by go_num, by rw [hl1], below_on hB hb.out, by rw [hl1]; exact h7, by rw [hl1]; exact hr⟩
        case measure => simp [intOf]; omega
      · have HE : Hid (cutO (x ^ n) = .err 2) := if_neg (pow_big x (k + 1) n (by omega) h7)
        clear HR h6
        generalize (limbs (x ^ (k + 1))) = l1 at *
        generalize (limbs (x ^ k)).length = l0 at *
        go_wp2_with (go_at_call 60; refine HM.out.mono ?_; rintro e w2 ⟨hb, A', c', rfl, hc, hr⟩; replace hb := Lib.hid hb; clear hc hr)
        go_ret2
        rw [HE.out]
        exact ⟨below_on hB hb.out, none, 0, rfl, RdW.nil _ _ _⟩
    · obtain rfl : k = n := by omega
      have HE : Hid (cutO (x ^ k) = .num (x ^ k)) := if_pos h6
      go_wp2_with fail
      go_ret2
      rw [HE.out]
      exact ⟨hB, A, cap, rfl, HR.out⟩

set_option maxRecDepth 100000 in
set_option maxHeartbeats 2000000 in
theorem rPow_few (w : World) (A1 : Option Addr) (c1 : Nat) (a : List Nat) (n : Nat) (ra : RdW w w.heap.size A1 a) (la : Lim a) (na : isNat a = true) (hx : val a ≤ 1) (hn : 0 < n) :
    Calls Tryz.prog 31 #[.slice A1 a.length c1, .int .i64 n] w (REndsO w (cutO (val a ^ n))) := by
  have HV := Lib.hid (rValid_q w A1 c1 a true ra (by have := (isNat_norm na).1; omega) na)
  have HC := Lib.hid (rOrder_any (w.alloc (.cells #[.int .u32 1] 30)) A1 (some ⟨w.heap.size, 0, none⟩) c1 1 a [1] ((ra.below ((Below.refl w.heap.size w).alloc (Nat.le_refl _) _) (Nat.le_refl _)).mono (by simp)) ((arr_one w 1).rd (by simp)) la (Lim.nil.cons (by omega)) (isNat_norm na).2 (by simp [Norm]) (by simp))
  have e1 : val [1] = 1 := rfl
  have hr : decide (cmpI (val a) 1 ≤ 0) = true := by
    refine decide_eq_true ?_
    unfold cmpI
    split
    · omega
    · rw [if_neg (by omega)]; omega
  rw [e1] at HC
  have hp : val a ^ n = val a := by
    rw [← pow_small (val a) n hx, Nat.min_eq_right hn, Nat.pow_one]
  have h6 := (isNat_norm na).1
  have el : limbs (val a) = a := limbs_of la (isNat_norm na).2
  have HE : Hid (cutO (val a ^ n) = .num (val a)) := by
    rw [hp]
    exact if_pos (by rw [el]; exact h6)
  have EL := Lib.hid el
  have RA := Lib.hid ra
  have HL := Lib.hid (ucells_one a)
  have hn0 : ¬ n = 0 := by omega
  clear e1 el hp ra la na hx
  generalize cmpI (val a) 1 = r at *
  go_enter Tryz.func31, Tryz.ntmps31
  go_wp2_with (first
    | (go_at_call 24; refine HV.out.mono ?_; rintro e w' ⟨rfl, rfl⟩)
    | (go_at_call 58; refine HC.out.mono ?_; rintro e w1 ⟨rfl, hB1⟩; have hB2 : Hid (Below w.heap.size w w1) := ((Below.refl w.heap.size w).alloc (Nat.le_refl _) _).trans (hB1.mono (by simp)); clear hB1)
    | (at_builtin; go_must (refine wpList_app _ rfl (.tmp 20) (.tmp 21) 23 30 (.int .u32 0) 1 4 rfl Tryz.underlying23 info_u32 rfl (by decide) w1.heap.size _ 0 [] rfl (empty_ownU w1 w1.heap.size (Nat.le_refl _)) w.heap.size A1 a.length c1 (ucells a) rfl ((RA.out.below hB2.out (Nat.le_refl _)).shows.alloc hB2.out.size _) HL.out (by simp only [maxLen]; omega) (by omega) (by simp) ?_); intro v' w4 ho hg _; replace ho := Lib.hid ho; replace hg := Lib.hid hg; obtain ⟨A', c', hv, hc', r'⟩ := OwnU.form (l := a) (by have := ho.out; rw [Nat.zero_add, List.nil_append] at this; exact this); subst hv; replace r' := Lib.hid r'))
  go_ret2
  rw [HE.out]
  refine ⟨below_grown (hB2.out.alloc hB2.out.size _) hg.out (by have := hB2.out.size; simp; omega) (fun g h => by cases h; exact hB2.out.size), A', c', ?_, ?_⟩
  · show _ = Ending.returned (.tuple #[.slice A' (limbs (val a)).length c', .int .i64 0])
    rw [EL.out]
    rfl
  · show RdW w4 w4.heap.size A' (limbs (val a))
    rw [EL.out]
    exact r'.out

set_option maxRecDepth 100000 in
set_option maxHeartbeats 2000000 in
theorem rPow_any (w : World) (A1 : Option Addr) (c1 : Nat) (a : List Nat) (n : Int) (ra : RdW w w.heap.size A1 a) (la : Lim a) (na : a.length ≤ 9223372036854775807) (hn : n ≤ 9223372036854775807) :
    Calls Tryz.prog 31 #[.slice A1 a.length c1, .int .i64 n] w (REndsO w (powO a n)) := by
  unfold powO
  rcases h : isNat a with _ | _
  · have HV := Lib.hid (rValid_q w A1 c1 a false ra na h)
    rw [if_neg (by decide)]
    clear h ra la
    go_enter Tryz.func31, Tryz.ntmps31
    go_wp2_with (go_at_call 24; refine HV.out.mono ?_; rintro e w' ⟨rfl, rfl⟩)
    go_ret2
    exact ⟨Below.refl _ _, none, 0, rfl, RdW.nil _ _ _⟩
  · rw [if_pos rfl]
    unfold powV
    by_cases h0 : n < 0
    · have HV := Lib.hid (rValid_q w A1 c1 a true ra na h)
      rw [if_pos h0]
      clear h ra la
      go_enter Tryz.func31, Tryz.ntmps31
      go_wp2_with (go_at_call 24; refine HV.out.mono ?_; rintro e w' ⟨rfl, rfl⟩)
      go_ret2
      exact ⟨Below.refl _ _, none, 0, rfl, RdW.nil _ _ _⟩
    · rw [if_neg h0]
      obtain ⟨m, rfl⟩ : ∃ m : Nat, n = m := ⟨n.toNat, by omega⟩
      rw [Int.toNat_natCast]
      by_cases hm : m = 0
      · have HV := Lib.hid (rValid_q w A1 c1 a true ra na h)
        subst hm
        rw [Nat.pow_zero, show cutO 1 = .num 1 from if_pos (by rw [l_one]; simp)]
        clear h ra la
        go_enter Tryz.func31, Tryz.ntmps31
        go_wp2_with (go_at_call 24; refine HV.out.mono ?_; rintro e w' ⟨rfl, rfl⟩)
        go_ret2
        refine ⟨(Below.refl _ _).alloc (Nat.le_refl _) _, some ⟨w.heap.size, 0, none⟩, 1, ?_, ?_⟩
        · show _ = Ending.returned (.tuple #[.slice _ (limbs 1).length 1, .int .i64 0])
          rw [l_one]
          rfl
        · show RdW _ _ _ (limbs 1)
          rw [l_one]
          exact (arr_one w 1).rd (by simp)
      · by_cases hx : val a ≤ 1
        · exact rPow_few w A1 c1 a m ra la h hx (by omega)
        · exact rPow_loop w A1 c1 a m ra la h (by omega) (by omega) (by omega)

end Go.Proofs.YtgcobhlplffpjaaGreatDoor
