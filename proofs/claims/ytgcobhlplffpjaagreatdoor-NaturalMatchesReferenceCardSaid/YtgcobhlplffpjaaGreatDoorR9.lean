/- Walks of the reference: Parse. -/
import Derived.Test.YtgcobhlplffpjaaGreatDoorR8
import Derived.Test.YtgcobhlplffpjaaGreatDoorN6
namespace Go.Proofs.YtgcobhlplffpjaaGreatDoor
open Go.RowKit Go.Deep

def PScan (s : List UInt8) (i : Value) : Prop := ∃ k : Nat, k ≤ s.length ∧ i = .int .i64 k ∧ Hid (∀ x ∈ s.take k, isDig x = true)
def PRun (w : World) (s : List UInt8) (a i : Value) (wx : World) : Prop :=
  ∃ (k : Nat) (A : Option Addr) (c : Nat), k ≤ s.length ∧ i = .int .i64 k ∧ a = .slice A (limbs (num 0 (s.take k))).length c ∧ Below w.heap.size w wx ∧ (limbs (num 0 (s.take k))).length ≤ 640 ∧ Hid (RdW wx wx.heap.size A (limbs (num 0 (s.take k))))
theorem take_next (s : List UInt8) (k : Nat) (h : k < s.length) : s.take (k + 1) = s.take k ++ [s[k]] := by
  rw [List.take_succ_eq_append_getElem h]
theorem isDecB_dig {s : List UInt8} {x : UInt8} (hm : x ∈ s) (h : isDig x = false) : isDecB s = false := by
  rcases hd : isDecB s with _ | _
  · rfl
  · unfold isDecB at hd
    rw [Bool.and_eq_true] at hd
    have := List.all_eq_true.1 hd.2 x hm
    rw [h] at this
    cases this

theorem hDsOf {s : List UInt8} {k : Nat} (h : ∀ x ∈ s, isDig x = true) (hk : k < s.length) : 48 ≤ s[k].toNat ∧ s[k].toNat ≤ 57 := by
  have := h _ (List.getElem_mem hk)
  unfold isDig at this
  exact of_decide_eq_true this

set_option maxRecDepth 100000 in
set_option maxHeartbeats 1000000 in
theorem rParse_run (w : World) (s : List UInt8) (hl : s.length ≤ 9223372036854775807) (h0 : 0 < s.length) (h1 : s[0].toNat = 48 → s.length = 1) :
    Calls Tryz.prog 34 #[str s] w (REndsO w (parseO s)) := by
  have hz0 : (⟨s.toArray⟩ : ByteArray)[0]'(by simpa [ByteArray.size] using h0) = s[0]'h0 := rfl
  have HL := Lib.hid hl; clear hl
  have H1 := Lib.hid h1
  have n0 : ((s.length : Int) == 0) = false := by rw [beq_eq_false_iff_ne]; omega
  have hc : (s[0].toNat = 48 ∧ s.length ≤ 1) ∨ ¬ s[0].toNat = 48 := by
    by_cases e : s[0].toNat = 48
    · exact .inl ⟨e, by have := h1 e; omega⟩
    · exact .inr e
  clear h1
  rcases hc with ⟨ha, hb⟩ | ha
  all_goals
    go_enter Tryz.func34, Tryz.ntmps34
    go_wp2
    go_loop [4] (fun i => PScan s i) (fun i => s.length - (intOf i).toNat)
    case atStart => exact ⟨0, Nat.zero_le _, rfl, fun x hx => by simp at hx⟩
    case round =>
      obtain ⟨k, hk, rfl, HD⟩ := hrel
      by_cases hlt : k < s.length
      · have HM := Lib.hid (show s[k] ∈ s from List.getElem_mem hlt)
        have HT := Lib.hid (take_next s k hlt)
        have hkb : k < 9223372036854775807 := by have := HL.out; omega
        obtain ⟨x, hx⟩ : ∃ x, s[k] = x := ⟨_, rfl⟩
        rw [hx] at HM HT
        have hz : (⟨s.toArray⟩ : ByteArray)[k]'(by simpa [ByteArray.size] using hlt) = x := hx
        clear hx
        by_cases hd : 48 ≤ x.toNat ∧ x.toNat ≤ 57
        · obtain ⟨d0, d1⟩ := hd
          have HD2 : Hid (∀ y ∈ s.take (k + 1), isDig y = true) := fun y hy => by
            rw [HT.out] at hy
            rcases List.mem_append.1 hy with hy | hy
            · exact HD.out y hy
            · obtain rfl := List.mem_singleton.1 hy
              exact decide_eq_true ⟨d0, d1⟩
          go_wp2
          refine ⟨⟨k + 1, by omega, by go_num, HD2⟩, by simp [intOf]; omega⟩
        · have HE : Hid (parseO s = .err 8) := by
            show _ = _
            unfold parseO
            rw [isDecB_dig HM.out (decide_eq_false hd), if_neg (by decide)]
          rcases (show x.toNat < 48 ∨ 57 < x.toNat by omega) with d0 | d0
          · clear hd
            go_wp2
            go_ret2
            rw [HE.out]
            exact ⟨Below.refl _ _, none, 0, rfl, RdW.nil _ _ _⟩
          · clear hd
            go_wp2
            go_ret2
            rw [HE.out]
            exact ⟨Below.refl _ _, none, 0, rfl, RdW.nil _ _ _⟩
      · obtain rfl : k = s.length := by omega
        have hd : ∀ y ∈ s, isDig y = true := fun y hy => HD.out y (by rw [List.take_length]; exact hy)
        have HE : Hid (parseO s = cutO (num 0 s)) := by
          show _ = _
          unfold parseO
          rw [if_pos]
          unfold isDecB
          rw [Bool.and_eq_true, Bool.and_eq_true]
          refine ⟨⟨decide_eq_true (fun e => by rw [e] at h0; simp at h0), ?_⟩, List.all_eq_true.2 hd⟩
          rw [Bool.not_eq_true', Bool.and_eq_false_iff]
          by_cases e : s[0].toNat = 48
          · right
            have := H1.out e
            exact decide_eq_false (by omega)
          · left
            refine decide_eq_false (fun e2 => e ?_)
            rw [List.head?_eq_getElem?, List.getElem?_eq_getElem h0] at e2
            rw [Option.some.inj e2]
            rfl
        have HDs := Lib.hid hd
        clear hd HD
        go_wp2
        go_loopw [5, 6] (fun a i wx => PRun w s a i wx) (fun _ i _ => s.length - (intOf i).toNat)
        case atStart => exact ⟨0, none, 0, Nat.zero_le _, rfl, rfl, Below.refl _ _, by simp [num, limbs_zero], RdW.nil _ _ _⟩
        case round =>
          clear hk hlt
          obtain ⟨k, A, c, hk, rfl, rfl, hB, h6, HR⟩ := hrel
          by_cases hlt : k < s.length
          · have HM := Lib.hid (hDsOf HDs.out hlt)
            have HT := Lib.hid (take_next s k hlt)
            have hkb : k < 9223372036854775807 := by have := HL.out; omega
            obtain ⟨x, hx⟩ : ∃ x, s[k] = x := ⟨_, rfl⟩
            rw [hx] at HM HT
            have hz : (⟨s.toArray⟩ : ByteArray)[k]'(by simpa [ByteArray.size] using hlt) = x := hx
            clear hx
            obtain ⟨d, hd⟩ : ∃ d, d = x.toNat - 48 := ⟨_, rfl⟩
            obtain ⟨v, hv⟩ : ∃ v, num 0 (s.take k) = v := ⟨_, rfl⟩
            rw [hv] at h6 HR ⊢
            obtain ⟨p, hp⟩ : ∃ p, p = v * 10 := ⟨_, rfl⟩
            obtain ⟨t, ht⟩ : ∃ t, t = p + d := ⟨_, rfl⟩
            have hnt : num 0 (s.take (k + 1)) = t := by
              rw [HT.out, num_append, hv, ht, hp, hd]
              show 10 * v + (x.toNat - 48) = _
              omega
            have hm := HM.out
            have d9 : d ≤ 9 := by omega
            have D1 : (x.toNat : Int) - 48 = (d : Int) := by omega
            have D2 : ∀ n : Nat, n < 1000 → IntKind.u64.wrap (n : Int) = (n : Int) := fun n hn => by
              unfold IntKind.wrap
              simp only [IntKind.signed, IntKind.bits, Bool.false_and, Bool.false_eq_true, if_false]
              omega
            have D3 : IntKind.u64.wrap (IntKind.u64.wrap (x.toNat : Int) - 48) = (d : Int) := by
              rw [D2 _ (by omega), D1]
              exact D2 _ (by omega)
            have hpl : (limbs p).length ≤ 641 := by
              rw [hp]
              exact limbs_mul_len (limbs_len.1 h6) (show 10 < pw 1 by decide)
            have HPr : Hid (∀ w1, Below wr.heap.size wr w1 → RdW w1 w1.heap.size (some ⟨wr.heap.size, 0, none⟩) [10] → Calls Tryz.prog 60 #[.slice A (limbs v).length c, .slice (some ⟨wr.heap.size, 0, none⟩) 1 1] w1 fun e w' => Below w1.heap.size w1 w' ∧ ∃ A c, e = .returned (.slice A (limbs p).length c) ∧ (limbs p).length ≤ c ∧ RdW w' w'.heap.size A (limbs p)) := fun w1 hb h10 => by
              have := rProduct_any w1 A (some ⟨wr.heap.size, 0, none⟩) c 1 (limbs v) [10] ((HR.out.below hb (Nat.le_refl _)).mono hb.size) h10 (limbs_lim _) (Lim.nil.cons (by omega)) (by omega) (by simp)
              rw [limbs_val, show val [10] = 10 from rfl, ← hp] at this
              exact this
            have HMk : Hid (∀ w1, Calls Tryz.prog 25 #[.int .u64 (IntKind.u64.wrap (IntKind.u64.wrap (x.toNat : Int) - 48))] w1 fun e w' => Below w1.heap.size w1 w' ∧ ∃ A c, e = .returned (.slice A (limbs d).length c) ∧ RdW w' w'.heap.size A (limbs d)) := fun w1 => by rw [D3]; exact rMake_any w1 d (by omega)
            have HPl : Hid (∀ (w1 : World) (A1 A2 : Option Addr) (c1 c2 : Nat), RdW w1 w1.heap.size A1 (limbs p) → RdW w1 w1.heap.size A2 (limbs d) → Calls Tryz.prog 57 #[.slice A1 (limbs p).length c1, .slice A2 (limbs d).length c2] w1 fun e w' => Below w1.heap.size w1 w' ∧ ∃ A c, e = .returned (.slice A (limbs t).length c) ∧ (limbs t).length ≤ c ∧ RdW w' w'.heap.size A (limbs t)) := fun w1 A1 A2 c1 c2 r1 r2 => by
              have := rPlus_any w1 A1 A2 c1 c2 (limbs p) (limbs d) r1 r2 (limbs_lim _) (limbs_lim _) (by omega) (by have : (limbs d).length ≤ 2 := limbs_len.2 (by simp only [pw_succ, pw_zero]; omega); omega)
              rw [limbs_val, limbs_val, ← ht] at this
              exact this
            have HNT := Lib.hid hnt
            have HBG : Hid (¬ (limbs t).length ≤ 640 → cutO (num 0 s) = .err 2) := fun h => by
              refine if_neg (fun h' => h (Nat.le_trans (limbs_mono ?_) h'))
              rw [← hnt]
              conv => rhs; rw [← List.take_append_drop (k + 1) s, num_append, num_from]
              exact Nat.le_trans (Nat.le_mul_of_pos_right _ (Nat.pow_pos (by omega))) (Nat.le_add_right _ _)
            clear hd hv hp ht hnt hm hpl HT HM D1 D2 D3
            generalize (limbs v).length = lv at *
            generalize limbs p = lp at *
            generalize limbs d = ld at *
            generalize hlt1 : limbs t = lt at *
            go_wp2
            go_region_with (first
              | (go_at_call 60; (with_reducible refine (HPr.out _ ?_ ?_).mono ?_); exact (Below.refl _ _).drew.alloc (Nat.le_refl _) _; exact (arr_one _ 10).rd (by simp); rintro e w2 ⟨b2, A2, cp, rfl, -, r2⟩; replace b2 := Lib.hid b2; replace r2 := Lib.hid r2)
              | (go_at_call 25; (with_reducible refine (HMk.out _).mono ?_); rintro e w3 ⟨b3, A3, cm, rfl, r3⟩; replace b3 := Lib.hid b3; replace r3 := Lib.hid r3)
              | (go_at_call 57; (with_reducible refine (HPl.out _ _ _ _ _ ((r2.out.below b3.out (Nat.le_refl _)).mono b3.out.size) r3.out).mono ?_); rintro e w4 ⟨b4, A4, c4, rfl, -, r4⟩; replace b4 := Lib.hid b4; replace r4 := Lib.hid r4))
            all_goals
              have e1 : Below wr.heap.size wr w2 := ((Below.refl wr.heap.size wr).drew.alloc (Nat.le_refl _) _).trans (b2.out.mono (by simp))
              have e3 := Lib.hid (below_on hB (below_on (below_on e1 b3.out) b4.out))
              clear e1
              by_cases h7 : lt.length ≤ 640
              · go_wp2
                go_roundw
                case rel => exact ⟨k + 1, A4, c4, by omega, by go_num, by rw [HNT.out, hlt1], e3.out, by rw [HNT.out, hlt1]; exact h7, by rw [HNT.out, hlt1]; exact r4⟩
                case measure => simp [intOf]; omega
              · go_wp2
                go_ret2
                rw [HE.out, HBG.out h7]
                exact ⟨e3.out, none, 0, rfl, RdW.nil _ _ _⟩
          · obtain rfl : k = s.length := by omega
            rw [List.take_length] at *
            have HE2 : Hid (cutO (num 0 s) = .num (num 0 s)) := if_pos h6
            go_wp2
            go_ret2
            rw [HE.out, HE2.out]
            exact ⟨hB, A, c, rfl, HR.out⟩

end Go.Proofs.YtgcobhlplffpjaaGreatDoor
