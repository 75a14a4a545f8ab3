/- Walk: the law NaturalDigits answers true. -/
import Derived.Test.YtgcobhlplffpjaaGreatDoorQA
namespace Go.Proofs.YtgcobhlplffpjaaGreatDoor
open Go.RowKit Go.Deep

theorem u64_digit {v : Int} (h0 : 0 ≤ v) (h1 : v < 18446744073709551616) : IntKind.u64.wrap v = v := by
  unfold IntKind.wrap
  simp only [IntKind.signed, IntKind.bits, Bool.false_and, Bool.false_eq_true, if_false]
  omega
theorem conv1 (w : World) (v : Int) (c : Nat) : (convert 38 9 (.slice (some ⟨w.heap.size, 0, none⟩) 1 c)).run Tryz.prog (w.alloc (.cells #[.int .u8 v] 5)) = .ok (str [UInt8.ofNat v.toNat]) (w.alloc (.cells #[.int .u8 v] 5)) :=
  run_convert_bytes_arg (P := Tryz.prog) (w.alloc (.cells #[.int .u8 v] 5)) 38 5 Tryz.underlying38 Tryz.underlying5 w.heap.size 0 1 c [v] rfl (fun i hi => by
    obtain rfl : i = 0 := by omega
    rw [Nat.add_zero, World.cell?_alloc_new w #[.int .u8 v] 5 0]
    rfl) 9 Tryz.underlying9
theorem app_toList (d : List UInt8) (y : UInt8) : (d ++ [y] == ((⟨d.toArray⟩ : ByteArray) ++ (⟨#[y]⟩ : ByteArray)).toList) = true := by
  rw [ByteArray.toList_eq, ByteArray.data_append]
  simp
theorem make10 (w : World) : Calls Tryz.prog 20 #[.int .u64 10] w fun e w' => Below w.heap.size w w' ∧ ∃ A, e = .returned (.slice A (limbs 10).length (limbs 10).length) ∧ RdW w' w'.heap.size A (limbs 10) := makeN w 10 (by omega)
theorem fit_ten : Fit 10 := fit_small (by omega)
theorem digits_app {x d : Nat} (hx : x ≠ 0) (hd : d ≤ 9) : Lib.decDigits (x * 10 + d) = Lib.decDigits x ++ [UInt8.ofNat (48 + d)] := by
  rw [decDigits_big (by omega), show (x * 10 + d) / 10 = x by omega, show (x * 10 + d) % 10 = d by omega]

set_option maxRecDepth 100000 in
set_option maxHeartbeats 1000000 in
theorem digits_bad (w : World) (A1 : Option Addr) (c1 : Nat) (a : List Nat) (d : Int) (r1 : RdW w w.heap.size A1 a) (na : a.length ≤ 9223372036854775807) (hT : Tab w) (hbad : isNat a = false) :
    Calls Tryz.prog 6 #[.slice A1 a.length c1, .int .i64 d] w fun e w' => e = .returned (.bool true) ∧ Below w.heap.size w w' := by
  have H3 := Lib.hid fun (w1 : World) (hb : Below w.heap.size w w1) => valid_q w1 A1 c1 a false ((r1.below hb (Nat.le_refl _)).mono hb.size) na hbad
  have HT := Lib.hid hT; clear hT hbad r1
  go_enter Tryz.func6, Tryz.ntmps6
  go_wp2_with (first
    | (go_at_call 12; refine (head_any _ HT.out).mono ?_; rintro e w1 ⟨rfl, hb⟩; replace hb := Lib.hid hb)
    | (go_at_call 13; refine (H3.out _ hb.out).mono ?_; rintro e w' ⟨rfl, rfl⟩))
  go_ret
  exact ⟨rfl, hb.out⟩

set_option maxRecDepth 100000 in
set_option maxHeartbeats 4000000 in
theorem digits_good (w : World) (A1 : Option Addr) (c1 : Nat) (x : Nat) (d : Int) (hx : Fit x) (r1 : RdW w w.heap.size A1 (limbs x)) (hT : Tab w) :
    Calls Tryz.prog 6 #[.slice A1 (limbs x).length c1, .int .i64 d] w fun e w' => e = .returned (.bool true) ∧ Below w.heap.size w w' := by
  have HT := Lib.hid hT; clear hT
  have HB := Lib.hid (Below.refl w.heap.size w)
  have HR : Hid (Store w [(A1, limbs x)]) := fun p hp => by simp at hp; subst hp; exact r1
  clear r1
  have f10 := fit_ten
  by_cases Z : x = 0
  · have q1 : (((limbs x).length : Int) == 0) = true := by rw [len_zero]; exact decide_eq_true Z
    clear Z
    go_enter Tryz.func6, Tryz.ntmps6
    go_wp2_with (first
    | (go_at_call 20; refine (make10 _).mono ?_; rintro e w' ⟨hb, A', rfl, hr⟩; replace HR := Lib.hid (HR.out.push hb hr); replace HB := Lib.hid (below_on HB.out hb); clear hb hr)
        | (go_at_call 12; refine (head_any _ (HT.out.below HB.out)).mono ?_; rintro e w' ⟨rfl, hb⟩; replace HR := Lib.hid (HR.out.on hb); replace HB := Lib.hid (below_on HB.out hb); clear hb)
        | (go_at_call 13; refine (validN _ _ _ _ ?_ ?_).mono ?_; (first | exact fitV _ | assumption | exact fitQ _ (by assumption) | exact fitR _ (by assumption) | exact fitS _ (by assumption) | exact fit_zero | exact fitP _); exact HR.out.rd (by repeat (first | exact List.Mem.head _ | apply List.Mem.tail)); rintro e w' ⟨rfl, rfl⟩)
        | (go_at_call 16; refine (mulU _ _ _ _ _ _ _ ?_ ?_ ?_ ?_).mono ?_; (first | exact fitV _ | assumption | exact fitQ _ (by assumption) | exact fitR _ (by assumption) | exact fitS _ (by assumption) | exact fit_zero | exact fitP _); (first | exact fitV _ | assumption | exact fitQ _ (by assumption) | exact fitR _ (by assumption) | exact fitS _ (by assumption) | exact fit_zero | exact fitP _); exact HR.out.rd (by repeat (first | exact List.Mem.head _ | apply List.Mem.tail)); exact HR.out.rd (by repeat (first | exact List.Mem.head _ | apply List.Mem.tail)); rintro e w' ⟨hb, A', c', rfl, hr⟩; replace HR := Lib.hid (HR.out.push hb hr); replace HB := Lib.hid (below_on HB.out hb); clear hb hr)
        | (go_at_call 18; refine (addU _ _ _ _ _ _ _ ?_ ?_ ?_ ?_).mono ?_; (first | exact fitV _ | assumption | exact fitQ _ (by assumption) | exact fitR _ (by assumption) | exact fitS _ (by assumption) | exact fit_zero | exact fitP _); (first | exact fitV _ | assumption | exact fitQ _ (by assumption) | exact fitR _ (by assumption) | exact fitS _ (by assumption) | exact fit_zero | exact fitP _); exact HR.out.rd (by repeat (first | exact List.Mem.head _ | apply List.Mem.tail)); exact HR.out.rd (by repeat (first | exact List.Mem.head _ | apply List.Mem.tail)); rintro e w' ⟨hb, A', c', rfl, hr⟩; replace HR := Lib.hid (HR.out.push hb hr); replace HB := Lib.hid (below_on HB.out hb); clear hb hr)
        | (go_at_call 21; refine (textN _ _ _ _ ?_ ?_ ?_).mono ?_; (first | exact fitV _ | assumption | exact fitQ _ (by assumption) | exact fitR _ (by assumption) | exact fitS _ (by assumption) | exact fit_zero | exact fitP _); exact HR.out.rd (by repeat (first | exact List.Mem.head _ | apply List.Mem.tail)); exact HT.out.below HB.out; rintro e w' ⟨rfl, hb⟩; replace HR := Lib.hid (HR.out.on hb); replace HB := Lib.hid (below_on HB.out hb); clear hb)
        | (go_at_call 20; refine (makeN _ _ ?_).mono ?_; omega; rintro e w' ⟨hb, A', rfl, hr⟩; replace HR := Lib.hid (HR.out.push hb hr); replace HB := Lib.hid (below_on HB.out hb); clear hb hr))
    go_ret
    exact ⟨rfl, HB.out⟩
  · have q1 : (((limbs x).length : Int) == 0) = false := by rw [len_zero]; exact decide_eq_false Z
    by_cases D0 : d < 0
    · clear Z
      go_enter Tryz.func6, Tryz.ntmps6
      go_wp2_with (first
    | (go_at_call 20; refine (make10 _).mono ?_; rintro e w' ⟨hb, A', rfl, hr⟩; replace HR := Lib.hid (HR.out.push hb hr); replace HB := Lib.hid (below_on HB.out hb); clear hb hr)
          | (go_at_call 12; refine (head_any _ (HT.out.below HB.out)).mono ?_; rintro e w' ⟨rfl, hb⟩; replace HR := Lib.hid (HR.out.on hb); replace HB := Lib.hid (below_on HB.out hb); clear hb)
          | (go_at_call 13; refine (validN _ _ _ _ ?_ ?_).mono ?_; (first | exact fitV _ | assumption | exact fitQ _ (by assumption) | exact fitR _ (by assumption) | exact fitS _ (by assumption) | exact fit_zero | exact fitP _); exact HR.out.rd (by repeat (first | exact List.Mem.head _ | apply List.Mem.tail)); rintro e w' ⟨rfl, rfl⟩)
          | (go_at_call 16; refine (mulU _ _ _ _ _ _ _ ?_ ?_ ?_ ?_).mono ?_; (first | exact fitV _ | assumption | exact fitQ _ (by assumption) | exact fitR _ (by assumption) | exact fitS _ (by assumption) | exact fit_zero | exact fitP _); (first | exact fitV _ | assumption | exact fitQ _ (by assumption) | exact fitR _ (by assumption) | exact fitS _ (by assumption) | exact fit_zero | exact fitP _); exact HR.out.rd (by repeat (first | exact List.Mem.head _ | apply List.Mem.tail)); exact HR.out.rd (by repeat (first | exact List.Mem.head _ | apply List.Mem.tail)); rintro e w' ⟨hb, A', c', rfl, hr⟩; replace HR := Lib.hid (HR.out.push hb hr); replace HB := Lib.hid (below_on HB.out hb); clear hb hr)
          | (go_at_call 18; refine (addU _ _ _ _ _ _ _ ?_ ?_ ?_ ?_).mono ?_; (first | exact fitV _ | assumption | exact fitQ _ (by assumption) | exact fitR _ (by assumption) | exact fitS _ (by assumption) | exact fit_zero | exact fitP _); (first | exact fitV _ | assumption | exact fitQ _ (by assumption) | exact fitR _ (by assumption) | exact fitS _ (by assumption) | exact fit_zero | exact fitP _); exact HR.out.rd (by repeat (first | exact List.Mem.head _ | apply List.Mem.tail)); exact HR.out.rd (by repeat (first | exact List.Mem.head _ | apply List.Mem.tail)); rintro e w' ⟨hb, A', c', rfl, hr⟩; replace HR := Lib.hid (HR.out.push hb hr); replace HB := Lib.hid (below_on HB.out hb); clear hb hr)
          | (go_at_call 21; refine (textN _ _ _ _ ?_ ?_ ?_).mono ?_; (first | exact fitV _ | assumption | exact fitQ _ (by assumption) | exact fitR _ (by assumption) | exact fitS _ (by assumption) | exact fit_zero | exact fitP _); exact HR.out.rd (by repeat (first | exact List.Mem.head _ | apply List.Mem.tail)); exact HT.out.below HB.out; rintro e w' ⟨rfl, hb⟩; replace HR := Lib.hid (HR.out.on hb); replace HB := Lib.hid (below_on HB.out hb); clear hb)
          | (go_at_call 20; refine (makeN _ _ ?_).mono ?_; omega; rintro e w' ⟨hb, A', rfl, hr⟩; replace HR := Lib.hid (HR.out.push hb hr); replace HB := Lib.hid (below_on HB.out hb); clear hb hr))
      go_ret
      exact ⟨rfl, HB.out⟩
    · by_cases D1 : 9 < d
      · clear Z
        go_enter Tryz.func6, Tryz.ntmps6
        go_wp2_with (first
    | (go_at_call 20; refine (make10 _).mono ?_; rintro e w' ⟨hb, A', rfl, hr⟩; replace HR := Lib.hid (HR.out.push hb hr); replace HB := Lib.hid (below_on HB.out hb); clear hb hr)
            | (go_at_call 12; refine (head_any _ (HT.out.below HB.out)).mono ?_; rintro e w' ⟨rfl, hb⟩; replace HR := Lib.hid (HR.out.on hb); replace HB := Lib.hid (below_on HB.out hb); clear hb)
            | (go_at_call 13; refine (validN _ _ _ _ ?_ ?_).mono ?_; (first | exact fitV _ | assumption | exact fitQ _ (by assumption) | exact fitR _ (by assumption) | exact fitS _ (by assumption) | exact fit_zero | exact fitP _); exact HR.out.rd (by repeat (first | exact List.Mem.head _ | apply List.Mem.tail)); rintro e w' ⟨rfl, rfl⟩)
            | (go_at_call 16; refine (mulU _ _ _ _ _ _ _ ?_ ?_ ?_ ?_).mono ?_; (first | exact fitV _ | assumption | exact fitQ _ (by assumption) | exact fitR _ (by assumption) | exact fitS _ (by assumption) | exact fit_zero | exact fitP _); (first | exact fitV _ | assumption | exact fitQ _ (by assumption) | exact fitR _ (by assumption) | exact fitS _ (by assumption) | exact fit_zero | exact fitP _); exact HR.out.rd (by repeat (first | exact List.Mem.head _ | apply List.Mem.tail)); exact HR.out.rd (by repeat (first | exact List.Mem.head _ | apply List.Mem.tail)); rintro e w' ⟨hb, A', c', rfl, hr⟩; replace HR := Lib.hid (HR.out.push hb hr); replace HB := Lib.hid (below_on HB.out hb); clear hb hr)
            | (go_at_call 18; refine (addU _ _ _ _ _ _ _ ?_ ?_ ?_ ?_).mono ?_; (first | exact fitV _ | assumption | exact fitQ _ (by assumption) | exact fitR _ (by assumption) | exact fitS _ (by assumption) | exact fit_zero | exact fitP _); (first | exact fitV _ | assumption | exact fitQ _ (by assumption) | exact fitR _ (by assumption) | exact fitS _ (by assumption) | exact fit_zero | exact fitP _); exact HR.out.rd (by repeat (first | exact List.Mem.head _ | apply List.Mem.tail)); exact HR.out.rd (by repeat (first | exact List.Mem.head _ | apply List.Mem.tail)); rintro e w' ⟨hb, A', c', rfl, hr⟩; replace HR := Lib.hid (HR.out.push hb hr); replace HB := Lib.hid (below_on HB.out hb); clear hb hr)
            | (go_at_call 21; refine (textN _ _ _ _ ?_ ?_ ?_).mono ?_; (first | exact fitV _ | assumption | exact fitQ _ (by assumption) | exact fitR _ (by assumption) | exact fitS _ (by assumption) | exact fit_zero | exact fitP _); exact HR.out.rd (by repeat (first | exact List.Mem.head _ | apply List.Mem.tail)); exact HT.out.below HB.out; rintro e w' ⟨rfl, hb⟩; replace HR := Lib.hid (HR.out.on hb); replace HB := Lib.hid (below_on HB.out hb); clear hb)
            | (go_at_call 20; refine (makeN _ _ ?_).mono ?_; omega; rintro e w' ⟨hb, A', rfl, hr⟩; replace HR := Lib.hid (HR.out.push hb hr); replace HB := Lib.hid (below_on HB.out hb); clear hb hr))
        go_ret
        exact ⟨rfl, HB.out⟩
      · obtain ⟨k, rfl⟩ : ∃ k : Nat, d = k := ⟨d.toNat, by omega⟩
        have hk : k ≤ 9 := by omega
        have k3 : k < 18446744073709551616 := by omega
        have fk := fit_small k3
        have W1 : IntKind.u64.wrap (k : Int) = (k : Int) := u64_digit (by omega) (by omega)
        by_cases P : Fit (x * 10)
        · have k1 := kE_fit P
          by_cases Q : Fit (vE (x * 10) + k)
          · have k2 := kE_fit Q
            obtain ⟨y, hy⟩ : ∃ y : UInt8, y = UInt8.ofNat (48 + k) := ⟨_, rfl⟩
            have t1 : Lib.decDigits (vE (vE (x * 10) + k)) = Lib.decDigits x ++ [y] := by rw [vE_fit Q, vE_fit P, digits_app Z hk, hy]
            have kc : ∀ (w : World), (convert 38 9 (.slice (some ⟨w.heap.size, 0, none⟩) 1 1)).run Tryz.prog (w.alloc (.cells #[.int .u8 (48 + (k : Int))] 5)) = .ok (str [y]) (w.alloc (.cells #[.int .u8 (48 + (k : Int))] 5)) := fun w => by rw [conv1, hy]; rfl
            have t9 := app_toList (Lib.decDigits x) y
            have t8 : (Lib.decDigits x).length ≤ 6401 := dec_fit hx
            clear hy
            clear P Q Z
            go_enter Tryz.func6, Tryz.ntmps6
            go_wp2_with (first
    | (go_at_call 20; refine (make10 _).mono ?_; rintro e w' ⟨hb, A', rfl, hr⟩; replace HR := Lib.hid (HR.out.push hb hr); replace HB := Lib.hid (below_on HB.out hb); clear hb hr)
                | (go_at_call 12; refine (head_any _ (HT.out.below HB.out)).mono ?_; rintro e w' ⟨rfl, hb⟩; replace HR := Lib.hid (HR.out.on hb); replace HB := Lib.hid (below_on HB.out hb); clear hb)
                | (go_at_call 13; refine (validN _ _ _ _ ?_ ?_).mono ?_; (first | exact fitV _ | assumption | exact fitQ _ (by assumption) | exact fitR _ (by assumption) | exact fitS _ (by assumption) | exact fit_zero | exact fitP _); exact HR.out.rd (by repeat (first | exact List.Mem.head _ | apply List.Mem.tail)); rintro e w' ⟨rfl, rfl⟩)
                | (go_at_call 16; refine (mulU _ _ _ _ _ _ _ ?_ ?_ ?_ ?_).mono ?_; (first | exact fitV _ | assumption | exact fitQ _ (by assumption) | exact fitR _ (by assumption) | exact fitS _ (by assumption) | exact fit_zero | exact fitP _); (first | exact fitV _ | assumption | exact fitQ _ (by assumption) | exact fitR _ (by assumption) | exact fitS _ (by assumption) | exact fit_zero | exact fitP _); exact HR.out.rd (by repeat (first | exact List.Mem.head _ | apply List.Mem.tail)); exact HR.out.rd (by repeat (first | exact List.Mem.head _ | apply List.Mem.tail)); rintro e w' ⟨hb, A', c', rfl, hr⟩; replace HR := Lib.hid (HR.out.push hb hr); replace HB := Lib.hid (below_on HB.out hb); clear hb hr)
                | (go_at_call 18; refine (addU _ _ _ _ _ _ _ ?_ ?_ ?_ ?_).mono ?_; (first | exact fitV _ | assumption | exact fitQ _ (by assumption) | exact fitR _ (by assumption) | exact fitS _ (by assumption) | exact fit_zero | exact fitP _); (first | exact fitV _ | assumption | exact fitQ _ (by assumption) | exact fitR _ (by assumption) | exact fitS _ (by assumption) | exact fit_zero | exact fitP _); exact HR.out.rd (by repeat (first | exact List.Mem.head _ | apply List.Mem.tail)); exact HR.out.rd (by repeat (first | exact List.Mem.head _ | apply List.Mem.tail)); rintro e w' ⟨hb, A', c', rfl, hr⟩; replace HR := Lib.hid (HR.out.push hb hr); replace HB := Lib.hid (below_on HB.out hb); clear hb hr)
                | (go_at_call 21; refine (textN _ _ _ _ ?_ ?_ ?_).mono ?_; (first | exact fitV _ | assumption | exact fitQ _ (by assumption) | exact fitR _ (by assumption) | exact fitS _ (by assumption) | exact fit_zero | exact fitP _); exact HR.out.rd (by repeat (first | exact List.Mem.head _ | apply List.Mem.tail)); exact HT.out.below HB.out; rintro e w' ⟨rfl, hb⟩; replace HR := Lib.hid (HR.out.on hb); replace HB := Lib.hid (below_on HB.out hb); clear hb)
                | (go_at_call 20; refine (makeN _ _ ?_).mono ?_; omega; rintro e w' ⟨hb, A', rfl, hr⟩; replace HR := Lib.hid (HR.out.push hb hr); replace HB := Lib.hid (below_on HB.out hb); clear hb hr))
            go_ret
            exact ⟨rfl, below_on HB.out ((Below.refl _ _).alloc (Nat.le_refl _) _)⟩
          · have k2 := kE_big Q
            clear P Q Z
            go_enter Tryz.func6, Tryz.ntmps6
            go_wp2_with (first
    | (go_at_call 20; refine (make10 _).mono ?_; rintro e w' ⟨hb, A', rfl, hr⟩; replace HR := Lib.hid (HR.out.push hb hr); replace HB := Lib.hid (below_on HB.out hb); clear hb hr)
                | (go_at_call 12; refine (head_any _ (HT.out.below HB.out)).mono ?_; rintro e w' ⟨rfl, hb⟩; replace HR := Lib.hid (HR.out.on hb); replace HB := Lib.hid (below_on HB.out hb); clear hb)
                | (go_at_call 13; refine (validN _ _ _ _ ?_ ?_).mono ?_; (first | exact fitV _ | assumption | exact fitQ _ (by assumption) | exact fitR _ (by assumption) | exact fitS _ (by assumption) | exact fit_zero | exact fitP _); exact HR.out.rd (by repeat (first | exact List.Mem.head _ | apply List.Mem.tail)); rintro e w' ⟨rfl, rfl⟩)
                | (go_at_call 16; refine (mulU _ _ _ _ _ _ _ ?_ ?_ ?_ ?_).mono ?_; (first | exact fitV _ | assumption | exact fitQ _ (by assumption) | exact fitR _ (by assumption) | exact fitS _ (by assumption) | exact fit_zero | exact fitP _); (first | exact fitV _ | assumption | exact fitQ _ (by assumption) | exact fitR _ (by assumption) | exact fitS _ (by assumption) | exact fit_zero | exact fitP _); exact HR.out.rd (by repeat (first | exact List.Mem.head _ | apply List.Mem.tail)); exact HR.out.rd (by repeat (first | exact List.Mem.head _ | apply List.Mem.tail)); rintro e w' ⟨hb, A', c', rfl, hr⟩; replace HR := Lib.hid (HR.out.push hb hr); replace HB := Lib.hid (below_on HB.out hb); clear hb hr)
                | (go_at_call 18; refine (addU _ _ _ _ _ _ _ ?_ ?_ ?_ ?_).mono ?_; (first | exact fitV _ | assumption | exact fitQ _ (by assumption) | exact fitR _ (by assumption) | exact fitS _ (by assumption) | exact fit_zero | exact fitP _); (first | exact fitV _ | assumption | exact fitQ _ (by assumption) | exact fitR _ (by assumption) | exact fitS _ (by assumption) | exact fit_zero | exact fitP _); exact HR.out.rd (by repeat (first | exact List.Mem.head _ | apply List.Mem.tail)); exact HR.out.rd (by repeat (first | exact List.Mem.head _ | apply List.Mem.tail)); rintro e w' ⟨hb, A', c', rfl, hr⟩; replace HR := Lib.hid (HR.out.push hb hr); replace HB := Lib.hid (below_on HB.out hb); clear hb hr)
                | (go_at_call 21; refine (textN _ _ _ _ ?_ ?_ ?_).mono ?_; (first | exact fitV _ | assumption | exact fitQ _ (by assumption) | exact fitR _ (by assumption) | exact fitS _ (by assumption) | exact fit_zero | exact fitP _); exact HR.out.rd (by repeat (first | exact List.Mem.head _ | apply List.Mem.tail)); exact HT.out.below HB.out; rintro e w' ⟨rfl, hb⟩; replace HR := Lib.hid (HR.out.on hb); replace HB := Lib.hid (below_on HB.out hb); clear hb)
                | (go_at_call 20; refine (makeN _ _ ?_).mono ?_; omega; rintro e w' ⟨hb, A', rfl, hr⟩; replace HR := Lib.hid (HR.out.push hb hr); replace HB := Lib.hid (below_on HB.out hb); clear hb hr))
            go_ret
            exact ⟨rfl, HB.out⟩
        · have k1 := kE_big P
          clear P Z
          go_enter Tryz.func6, Tryz.ntmps6
          go_wp2_with (first
    | (go_at_call 20; refine (make10 _).mono ?_; rintro e w' ⟨hb, A', rfl, hr⟩; replace HR := Lib.hid (HR.out.push hb hr); replace HB := Lib.hid (below_on HB.out hb); clear hb hr)
              | (go_at_call 12; refine (head_any _ (HT.out.below HB.out)).mono ?_; rintro e w' ⟨rfl, hb⟩; replace HR := Lib.hid (HR.out.on hb); replace HB := Lib.hid (below_on HB.out hb); clear hb)
              | (go_at_call 13; refine (validN _ _ _ _ ?_ ?_).mono ?_; (first | exact fitV _ | assumption | exact fitQ _ (by assumption) | exact fitR _ (by assumption) | exact fitS _ (by assumption) | exact fit_zero | exact fitP _); exact HR.out.rd (by repeat (first | exact List.Mem.head _ | apply List.Mem.tail)); rintro e w' ⟨rfl, rfl⟩)
              | (go_at_call 16; refine (mulU _ _ _ _ _ _ _ ?_ ?_ ?_ ?_).mono ?_; (first | exact fitV _ | assumption | exact fitQ _ (by assumption) | exact fitR _ (by assumption) | exact fitS _ (by assumption) | exact fit_zero | exact fitP _); (first | exact fitV _ | assumption | exact fitQ _ (by assumption) | exact fitR _ (by assumption) | exact fitS _ (by assumption) | exact fit_zero | exact fitP _); exact HR.out.rd (by repeat (first | exact List.Mem.head _ | apply List.Mem.tail)); exact HR.out.rd (by repeat (first | exact List.Mem.head _ | apply List.Mem.tail)); rintro e w' ⟨hb, A', c', rfl, hr⟩; replace HR := Lib.hid (HR.out.push hb hr); replace HB := Lib.hid (below_on HB.out hb); clear hb hr)
              | (go_at_call 18; refine (addU _ _ _ _ _ _ _ ?_ ?_ ?_ ?_).mono ?_; (first | exact fitV _ | assumption | exact fitQ _ (by assumption) | exact fitR _ (by assumption) | exact fitS _ (by assumption) | exact fit_zero | exact fitP _); (first | exact fitV _ | assumption | exact fitQ _ (by assumption) | exact fitR _ (by assumption) | exact fitS _ (by assumption) | exact fit_zero | exact fitP _); exact HR.out.rd (by repeat (first | exact List.Mem.head _ | apply List.Mem.tail)); exact HR.out.rd (by repeat (first | exact List.Mem.head _ | apply List.Mem.tail)); rintro e w' ⟨hb, A', c', rfl, hr⟩; replace HR := Lib.hid (HR.out.push hb hr); replace HB := Lib.hid (below_on HB.out hb); clear hb hr)
              | (go_at_call 21; refine (textN _ _ _ _ ?_ ?_ ?_).mono ?_; (first | exact fitV _ | assumption | exact fitQ _ (by assumption) | exact fitR _ (by assumption) | exact fitS _ (by assumption) | exact fit_zero | exact fitP _); exact HR.out.rd (by repeat (first | exact List.Mem.head _ | apply List.Mem.tail)); exact HT.out.below HB.out; rintro e w' ⟨rfl, hb⟩; replace HR := Lib.hid (HR.out.on hb); replace HB := Lib.hid (below_on HB.out hb); clear hb)
              | (go_at_call 20; refine (makeN _ _ ?_).mono ?_; omega; rintro e w' ⟨hb, A', rfl, hr⟩; replace HR := Lib.hid (HR.out.push hb hr); replace HB := Lib.hid (below_on HB.out hb); clear hb hr))
          go_ret
          exact ⟨rfl, HB.out⟩

theorem digits_any (w : World) (A1 : Option Addr) (c1 : Nat) (a : List Nat) (d : Int) (r1 : RdW w w.heap.size A1 a) (la : Lim a) (na : a.length ≤ 9223372036854775807) (_ : -9223372036854775808 ≤ d) (_ : d ≤ 9223372036854775807) (hT : Tab w) :
    Calls Tryz.prog 6 #[.slice A1 a.length c1, .int .i64 d] w fun e w' => e = .returned (.bool true) ∧ Below w.heap.size w w' := by
  rcases ha : isNat a with _ | _
  · exact digits_bad w A1 c1 a d r1 na hT ha
  · have e1 := isNat_eq la ha
    have f1 : Fit (val a) := by unfold Fit; rw [← e1]; exact (isNat_norm ha).1
    have := digits_good w A1 c1 (val a) d f1 (by rw [← e1]; exact r1) hT
    rw [← e1] at this
    exact this

end Go.Proofs.YtgcobhlplffpjaaGreatDoor
