/- Several texts in one: Oz, Ra, Rb, Rc, Rd, Re, Rf, Rg, Rh, Ri, Rj, Rk. -/
import Derived.Test.YtipaapplingbnaaGreatDoorPa
import Derived.Deep.RegionHeld3
import Derived.BigQuiet
import Derived.Deep.QuietTactic
import Derived.Deep.DeepCutAuto
import Derived.StillTailTactics
namespace Go.Proofs.YtipaapplingbnaaGreatDoor
open Go.RowKit Go.Deep

theorem Shows.drew {w : World} {B size n : Nat} {A : Option Addr} {xs : List Value} (h : Shows w B size A n xs) : Shows w.drew B size A n xs := h
/-- A row of integers of the call's own. -/
def OwnZ (w : World) (base : Nat) (v : Value) (l : List Int) : Prop := w.ownsRow base 3 1 v l.length (icells l)
theorem OwnZ.start (w : World) (base : Nat) : OwnZ w base (.slice none 0 0) [] := ⟨rfl, Or.inl ⟨rfl, rfl⟩⟩
theorem OwnZ.form {w : World} {base : Nat} {v : Value} {l : List Int} (h : OwnZ w base v l) : ∃ A c, v = .slice A l.length c ∧ l.length ≤ c ∧ RdI w w.heap.size A l := by
  have h' := h
  rcases h'.2 with ⟨rfl, h0⟩ | ⟨g, cap, cur, rfl, -, -, hc, -⟩
  · obtain rfl : l = [] := List.eq_nil_of_length_eq_zero h0
    exact ⟨none, 0, rfl, Nat.le_refl _, RdI.nil _ _ _⟩
  · exact ⟨_, cap, rfl, hc, Shows.of_own h⟩
theorem OwnZ.block {w : World} {base : Nat} {v : Value} {l : List Int} (h : OwnZ w base v l) : ∀ g, v.ownBlock = some g → base ≤ g := fun g hg => (World.ownsRow.lt h g hg).1
theorem OwnZ.snoc {w : World} {base : Nat} {v : Value} {l m : List Int} (h : w.ownsRow base 3 1 v (l.length + m.length) (icells l ++ icells m)) : OwnZ w base v (l ++ m) := by
  unfold OwnZ
  rw [List.length_append, icells_append]
  exact h
theorem OwnZ.alloc {w : World} {base : Nat} {v : Value} {l : List Int} (h : OwnZ w base v l) (o : Obj) : OwnZ (w.alloc o) base v l := World.ownsRow.alloc h o
theorem OwnZ.drew {w : World} {base : Nat} {v : Value} {l : List Int} (h : OwnZ w base v l) : OwnZ w.drew base v l := h


end Go.Proofs.YtipaapplingbnaaGreatDoor
namespace Go.Proofs.YtipaapplingbnaaGreatDoor
open Go.RowKit Go.Deep

set_option maxRecDepth 100000 in
set_option maxHeartbeats 1000000 in
theorem rInterval_any (w : World) (v : Vc) :
    Calls Tryz.prog 29 #[.agg #[.int .i64 v.a, .int .i64 v.b, .int .i64 v.c, .int .i64 v.d, .int .i64 v.e, .int .i64 v.f]] w fun e w' => e = .returned (.bool v.ok) ∧ Below w.heap.size w w' := by
  obtain ⟨R, hR⟩ : ∃ R, v.ok = R := ⟨_, rfl⟩
  rw [hR]
  have HR := Lib.hid hR
  clear hR
  go_enter Tryz.func29, Tryz.ntmps29
  go_wp2_with fail
  go_loop [3] (fun i => ∃ k : Nat, k ≤ 6 ∧ i = .int .i64 k ∧ Hid (∀ j, j < k → (v.at j).natAbs ≤ 48)) (fun i => 6 - (intOf i).toNat)
  case atStart => exact ⟨0, by omega, rfl, fun j hj => by omega⟩
  case round =>
    obtain ⟨k, hk, rfl, HK⟩ := hrel
    by_cases hlt : k < 6
    · have hki : (k : Int) < 6 := by omega
      have hx := ((Blk.new w 25 #[.int .i64 v.a, .int .i64 v.b, .int .i64 v.c, .int .i64 v.d, .int .i64 v.e, .int .i64 v.f]).cell k).trans (v.cell k hlt)
      have HNO : Hid (¬ (v.at k).natAbs ≤ 48 → R = false) := fun h => by
        rw [← HR.out, Bool.eq_false_iff]
        exact fun e => h ((Vc.ok_iff v).1 e k hlt)
      have HYES : Hid ((v.at k).natAbs ≤ 48 → ∀ j, j < k + 1 → (v.at j).natAbs ≤ 48) := fun h j hj => by
        rcases Nat.lt_or_ge j k with h' | h'
        · exact HK.out j h'
        · obtain rfl : j = k := by omega
          exact h
      generalize v.at k = x at *
      clear HK
      by_cases h1 : x < -48
      · have HN := Lib.hid (HNO.out (by omega))
        clear HNO HYES
        go_wp2_with fail
        go_ret
        exact ⟨by rw [HN.out]; rfl, (Below.refl _ _).alloc (Nat.le_refl _) _⟩
      · by_cases h2 : 48 < x
        · have HN := Lib.hid (HNO.out (by omega))
          clear HNO HYES
          go_wp2_with fail
          go_ret
          exact ⟨by rw [HN.out]; rfl, (Below.refl _ _).alloc (Nat.le_refl _) _⟩
        · have HN := Lib.hid (HYES.out (by omega))
          clear HNO HYES
          go_wp2_with fail
          refine ⟨⟨k + 1, by omega, by go_num, HN⟩, by simp [intOf]; omega⟩
    · obtain rfl : k = 6 := by omega
      have HT : Hid (R = true) := HR.out.symm.trans ((Vc.ok_iff v).2 HK.out)
      go_wp2_with fail
      go_ret
      exact ⟨by rw [HT.out]; rfl, (Below.refl _ _).alloc (Nat.le_refl _) _⟩

set_option maxRecDepth 100000 in
set_option maxHeartbeats 1000000 in
theorem rName_any (w : World) (s : List UInt8) (hs : s.length ≤ 9223372036854775807) :
    Calls Tryz.prog 28 #[str s] w fun e w' => e = .returned (.bool (isName s)) ∧ w = w' := by
  have HQ : Hid (isName s = (decide (1 ≤ s.length ∧ s.length ≤ 16) && s.all letter)) := rfl
  obtain ⟨R, hR⟩ : ∃ R, isName s = R := ⟨_, rfl⟩
  rw [hR] at HQ ⊢
  clear hR
  go_enter Tryz.func28, Tryz.ntmps28
  go_wp2_with fail
  go_loop [3] (fun i => ∃ k : Nat, k ≤ s.length ∧ i = .int .i64 k ∧ Hid (∀ x ∈ s.take k, letter x = true)) (fun i => s.length - (intOf i).toNat)
  case atStart => exact ⟨0, Nat.zero_le _, rfl, fun x hx => by simp at hx⟩
  case round =>
    obtain ⟨k, hk, rfl, HK⟩ := hrel
    by_cases hlt : k < s.length
    · have hz : (⟨s.toArray⟩ : ByteArray)[k]'(by simpa [ByteArray.size] using hlt) = s[k] := rfl
      have HME := Lib.hid (List.getElem_mem hlt)
      have HTK := Lib.hid (List.take_succ_eq_append_getElem hlt)
      generalize s[k] = x at *
      have HL : Hid (letter x = decide (97 ≤ x.toNat ∧ x.toNat ≤ 122)) := rfl
      by_cases h1 : x.toNat < 97
      · have HN : Hid (R = false) := by
          show _ = _
          rw [HQ.out, Bool.and_eq_false_iff]
          refine .inr (Bool.eq_false_iff.2 fun h => ?_)
          have := List.all_eq_true.1 h x HME.out
          rw [HL.out, decide_eq_true_eq] at this
          omega
        go_wp2_with fail
        go_ret
        exact ⟨by rw [HN.out]; rfl, rfl⟩
      · by_cases h2 : 122 < x.toNat
        · have HN : Hid (R = false) := by
            show _ = _
            rw [HQ.out, Bool.and_eq_false_iff]
            refine .inr (Bool.eq_false_iff.2 fun h => ?_)
            have := List.all_eq_true.1 h x HME.out
            rw [HL.out, decide_eq_true_eq] at this
            omega
          go_wp2_with fail
          go_ret
          exact ⟨by rw [HN.out]; rfl, rfl⟩
        · have HN : Hid (∀ y ∈ s.take (k + 1), letter y = true) := fun y hy => by
            rw [HTK.out] at hy
            rcases List.mem_append.1 hy with hy | hy
            · exact HK.out y hy
            · obtain rfl := List.mem_singleton.1 hy
              rw [HL.out, decide_eq_true_eq]
              omega
          clear HK HTK HME HL
          go_wp2_with fail
          refine ⟨⟨k + 1, by omega, by go_num, HN⟩, by simp [intOf]; omega⟩
    · obtain rfl : k = s.length := by omega
      have HT : Hid (s.all letter = true) := List.all_eq_true.2 fun x hx => HK.out x (by rw [List.take_length]; exact hx)
      by_cases h1 : 1 ≤ s.length
      · by_cases h2 : s.length ≤ 16
        · have HN : Hid (R = true) := HQ.out.trans (by rw [HT.out, decide_eq_true ⟨h1, h2⟩]; rfl)
          clear HT HK HQ
          go_wp2_with fail
          go_ret
          exact ⟨by rw [HN.out]; first | rfl | (simp <;> omega), rfl⟩
        · have HN : Hid (R = false) := HQ.out.trans (by rw [decide_eq_false (fun h => h2 h.2)]; rfl)
          clear HT HK HQ
          go_wp2_with fail
          go_ret
          exact ⟨by rw [HN.out]; first | rfl | (simp <;> omega), rfl⟩
      · have HN : Hid (R = false) := HQ.out.trans (by rw [decide_eq_false (fun h => h1 h.1)]; rfl)
        clear HT HK HQ
        go_wp2_with fail
        go_ret
        exact ⟨by rw [HN.out]; first | rfl | (simp [h1] <;> omega), rfl⟩

set_option maxRecDepth 100000 in
set_option maxHeartbeats 2000000 in
theorem rRows_any (w : World) (A : Option Addr) (c : Nat) (l : List Cm) (hr : RdN w w.heap.size A l) (h6 : l.length ≤ 6) :
    Calls Tryz.prog 31 #[.slice A l.length c] w fun e w' => Below w.heap.size w w' ∧ ∃ v, e = .returned v ∧ OwnV w' w.heap.size v (l.map Cm.v) := by
  have HR := Lib.hid hr
  clear hr
  go_enter Tryz.func31, Tryz.ntmps31
  go_wp2_with fail
  go_loopw [3, 4] (fun r i wx => ∃ k : Nat, k ≤ l.length ∧ i = .int .i64 k ∧ Hid (Below w.heap.size w wx) ∧ Hid (OwnV wx w.heap.size r ((l.take k).map Cm.v))) (fun _ i _ => l.length - (intOf i).toNat)
  case atStart => exact ⟨0, Nat.zero_le _, rfl, Below.refl _ _, OwnV.start _ _⟩
  case round =>
    obtain ⟨k, hk, rfl, HB, HO⟩ := hrel
    by_cases hlt : k < l.length
    · obtain ⟨ad, rfl, had, q0, q1, q2, q3, q4, q5, q6⟩ := (HR.out.up HB.out).at hlt
      have HTK := Lib.hid (show l.take (k + 1) = l.take k ++ [l[k]] from List.take_succ_eq_append_getElem hlt)
      generalize hx : l[k] = x at *
      clear hx
      have hz := HB.out.size
      have HO3 := Lib.hid (HO.out.alloc (.cells x.v.cells 25))
      have hlk : ((l.take k).map Cm.v).length ≤ 6 := by rw [List.length_map, List.length_take]; omega
      go_wp2_with (at_builtin; go_must (refine wpList_appv _ rfl (.tmp 11) (.tmp 17) rfl w.heap.size _ _ rfl HO3.out (wr.heap.size + 1) (some ⟨wr.heap.size, 0, none⟩) 1 x.v rfl (shows_vec wr x.v) (by omega) (by simp; omega) ?_); intro v4 w4 ho4 hg4 _; replace ho4 := Lib.hid ho4; replace hg4 := Lib.hid hg4)
      go_roundw
      case rel => exact ⟨k + 1, by omega, by go_num, below_grown (HB.out.alloc HB.out.size _) hg4.out (by simp; omega) (fun g h => HO.out.block g h), by show OwnV _ _ _ _; rw [HTK.out, List.map_append]; exact ho4.out⟩
      case measure => simp [intOf]; omega
    · obtain rfl : k = l.length := by omega
      rw [List.take_length] at HO
      go_wp2_with fail
      go_ret
      exact ⟨HB.out, _, rfl, HO.out⟩

set_option maxRecDepth 100000 in
set_option maxHeartbeats 2000000 in
theorem rAccount_any (w : World) (A Ac : Option Addr) (c cc n : Nat) (cs : List Int) (_hn : n ≤ 9223372036854775807) (hrc : RdI w w.heap.size Ac cs) (hcl : cs.length ≤ 9223372036854775807) :
    Calls Tryz.prog 34 #[.slice A n c, .slice Ac cs.length cc] w fun e w' => e = .returned (.bool (decide (cs.length = n) && inRange cs)) ∧ w = w' := by
  by_cases he : cs.length = n
  case neg =>
    have he' : ((cs.length : Int) != (n : Int)) = true := by rw [bne_iff_ne]; omega
    rw [decide_eq_false he, Bool.false_and]
    clear he hrc
    go_enter Tryz.func34, Tryz.ntmps34
    go_wp2_with fail
    go_ret
    exact ⟨rfl, rfl⟩
  have he' : ((cs.length : Int) != (n : Int)) = false := by rw [bne_eq_false_iff_eq]; omega
  rw [decide_eq_true he, Bool.true_and]
  clear he
  have HC := Lib.hid hrc
  clear hrc
  obtain ⟨R, hR⟩ : ∃ R, inRange cs = R := ⟨_, rfl⟩
  rw [hR]
  have HR := Lib.hid hR
  clear hR
  go_enter Tryz.func34, Tryz.ntmps34
  go_wp2_with fail
  clear he'
  go_loop [5] (fun i => ∃ k : Nat, k ≤ cs.length ∧ i = .int .i64 k ∧ Hid (∀ x ∈ cs.take k, -1000 ≤ x ∧ x ≤ 1000)) (fun i => cs.length - (intOf i).toNat)
  case atStart => exact ⟨0, Nat.zero_le _, rfl, fun x hx => by simp at hx⟩
  case round =>
    obtain ⟨k, hk, rfl, HK⟩ := hrel
    by_cases hlt : k < cs.length
    · obtain ⟨ad, rfl, had, hx⟩ := HC.out.at hlt
      have HTK := Lib.hid (show cs.take (k + 1) = cs.take k ++ [cs.getD k 0] by rw [List.take_succ_eq_append_getElem hlt]; simp [List.getD_eq_getElem?_getD, hlt])
      have HME := Lib.hid (show cs.getD k 0 ∈ cs by simp [List.getD_eq_getElem?_getD, hlt])
      generalize cs.getD k 0 = x at *
      have HNO : Hid (¬ (-1000 ≤ x ∧ x ≤ 1000) → R = false) := fun h => by
        rw [← HR.out, Bool.eq_false_iff]
        exact fun e => h (of_decide_eq_true (List.all_eq_true.1 e x HME.out))
      have HYES : Hid (-1000 ≤ x ∧ x ≤ 1000 → ∀ y ∈ cs.take (k + 1), -1000 ≤ y ∧ y ≤ 1000) := fun h y hy => by
        rw [HTK.out] at hy
        rcases List.mem_append.1 hy with hy | hy
        · exact HK.out y hy
        · obtain rfl := List.mem_singleton.1 hy; exact h
      clear HK HTK HME
      by_cases h1 : x < -1000
      · have HN := Lib.hid (HNO.out (by omega))
        clear HNO HYES
        go_wp2_with fail
        go_ret
        exact ⟨by rw [HN.out]; rfl, rfl⟩
      · by_cases h2 : 1000 < x
        · have HN := Lib.hid (HNO.out (by omega))
          clear HNO HYES
          go_wp2_with fail
          go_ret
          exact ⟨by rw [HN.out]; rfl, rfl⟩
        · have HN := Lib.hid (HYES.out (by omega))
          clear HNO HYES
          go_wp2_with fail
          refine ⟨⟨k + 1, by omega, by go_num, HN⟩, by simp [intOf]; omega⟩
    · obtain rfl : k = cs.length := by omega
      have HT : Hid (R = true) := HR.out.symm.trans (List.all_eq_true.2 fun x hx => decide_eq_true (HK.out x (by rw [List.take_length]; exact hx)))
      go_wp2_with fail
      go_ret
      exact ⟨by rw [HT.out]; rfl, rfl⟩

theorem wrong_true {n k : Nat} {s c m d : Int} (h : (s != (k : Int) + 1) = true ∨ c < 0 ∨ (n : Int) ≤ c ∨ m < -1 ∨ 1 < m ∨ d < 0 ∨ 8 ≤ d ∨ (m = 0 ∧ c ≠ 0)) : wrongT n k ⟨s, c, m, d⟩ = true := by
  unfold wrongT
  rcases h with h | h | h | h | h | h | h | ⟨h, h2⟩
  · simp [h]
  · simp [h]
  · simp [h]
  · rw [if_neg (by show ¬ m = 0; omega)]
    simp
    omega
  · rw [if_neg (by show ¬ m = 0; omega)]
    simp
    omega
  · simp [h]
  · simp [h]
  · subst h
    have h3 : (c != 0) = true := by rw [bne_iff_ne]; exact h2
    rw [if_pos rfl]
    simp only [h3, Bool.or_true]
theorem wrong_false {n k : Nat} {s c m d : Int} (h1 : (s != (k : Int) + 1) = false) (h2 : 0 ≤ c) (h3 : c < (n : Int)) (h4 : -1 ≤ m) (h5 : m ≤ 1) (h6 : 0 ≤ d) (h7 : d < 8) (h8 : m = 0 → c = 0) : wrongT n k ⟨s, c, m, d⟩ = false := by
  unfold wrongT
  have e2 : ¬ c < 0 := by omega
  have e3 : ¬ (n : Int) ≤ c := by omega
  have e4 : ¬ d < 0 := by omega
  have e5 : ¬ 8 ≤ d := by omega
  by_cases h0 : m = 0
  · have := h8 h0
    subst h0 this
    simp [h1, e4, e5]
    omega
  · rw [if_neg (by exact h0)]
    rcases (show m = 1 ∨ m = -1 by omega) with rfl | rfl <;> simp [h1, e2, e3, e4, e5]
theorem okT_bad {n : Nat} {ts : List Tk} {k : Nat} (hk : k < ts.length) (h : wrongT n k ts[k] = true) : okT n ts = false := okT_false hk (by rw [getD_at hk]; exact h)

set_option maxRecDepth 100000 in
set_option maxHeartbeats 4000000 in
theorem rTakes_any (w : World) (A At : Option Addr) (c ct n : Nat) (ts : List Tk) (hn : n ≤ 9223372036854775807) (hrt : RdT w w.heap.size At ts) (htl : ts.length ≤ 9223372036854775807) :
    Calls Tryz.prog 48 #[.slice A n c, .slice At ts.length ct] w fun e w' => e = .returned (.bool (decide (ts.length < 16) && okT n ts)) ∧ Below w.heap.size w w' := by
  by_cases h15 : 15 < ts.length
  · rw [decide_eq_false (by omega), Bool.false_and]
    clear hrt
    go_enter Tryz.func48, Tryz.ntmps48
    go_wp2_with fail
    go_ret
    exact ⟨rfl, Below.refl _ _⟩
  rw [decide_eq_true (by omega), Bool.true_and]
  obtain ⟨R, hR⟩ : ∃ R, okT n ts = R := ⟨_, rfl⟩
  rw [hR]
  have HR := Lib.hid hR
  have HRT := Lib.hid hrt
  clear hrt hR
  go_enter Tryz.func48, Tryz.ntmps48
  go_wp2_with fail
  go_loopw [5] (fun i wx => ∃ k : Nat, k ≤ ts.length ∧ i = .int .i64 k ∧ Hid (Below w.heap.size w wx) ∧ Hid (∀ j, j < k → wrongT n j (ts.getD j ⟨0, 0, 0, 0⟩) = false)) (fun i _ => ts.length - (intOf i).toNat)
  case atStart => exact ⟨0, Nat.zero_le _, rfl, Below.refl _ _, fun j hj => absurd hj (by omega)⟩
  case round =>
    obtain ⟨k, hk, rfl, HB, HK⟩ := hrel
    by_cases hlt : k < ts.length
    · obtain ⟨ad, rfl, had, q0, q1, q2, q3⟩ := (HRT.out.up HB.out).at hlt
      have HNO : Hid (wrongT n k ts[k] = true → R = false) := fun h => HR.out.symm.trans (okT_bad hlt h)
      have HYES : Hid (wrongT n k ts[k] = false → ∀ j, j < k + 1 → wrongT n j (ts.getD j ⟨0, 0, 0, 0⟩) = false) := fun h j hj => by
        rcases Nat.lt_or_ge j k with h' | h'
        · exact HK.out j h'
        · obtain rfl : j = k := by omega
          rw [getD_at hlt]
          exact h
      generalize ts[k] = t at *
      obtain ⟨s, cc, m, d⟩ := t
      have hw := HB.out.size
      simp only at q0 q1 q2 q3
      clear HK
      rcases hs : (s != (k : Int) + 1) with _ | _
      case true =>
        have HN := Lib.hid (HNO.out (wrong_true (.inl hs)))
        clear HNO HYES
        go_wp2_with fail
        go_ret
        exact ⟨by rw [HN.out]; rfl, HB.out.alloc HB.out.size _⟩
      by_cases hc : cc < 0
      case pos =>
        have HN := Lib.hid (HNO.out (wrong_true (.inr (.inl hc))))
        clear HNO HYES
        go_wp2_with fail
        go_ret
        exact ⟨by rw [HN.out]; rfl, HB.out.alloc HB.out.size _⟩
      replace hc : 0 ≤ cc := by omega
      by_cases hn2 : (n : Int) ≤ cc
      case pos =>
        have HN := Lib.hid (HNO.out (wrong_true (.inr (.inr (.inl hn2)))))
        clear HNO HYES
        go_wp2_with fail
        go_ret
        exact ⟨by rw [HN.out]; rfl, HB.out.alloc HB.out.size _⟩
      replace hn2 : cc < (n : Int) := by omega
      by_cases hm : m < -1
      case pos =>
        have HN := Lib.hid (HNO.out (wrong_true (.inr (.inr (.inr (.inl hm))))))
        clear HNO HYES
        go_wp2_with fail
        go_ret
        exact ⟨by rw [HN.out]; rfl, HB.out.alloc HB.out.size _⟩
      replace hm : -1 ≤ m := by omega
      by_cases hm2 : 1 < m
      case pos =>
        have HN := Lib.hid (HNO.out (wrong_true (.inr (.inr (.inr (.inr (.inl hm2)))))))
        clear HNO HYES
        go_wp2_with fail
        go_ret
        exact ⟨by rw [HN.out]; rfl, HB.out.alloc HB.out.size _⟩
      replace hm2 : m ≤ 1 := by omega
      by_cases hd : d < 0
      case pos =>
        have HN := Lib.hid (HNO.out (wrong_true (.inr (.inr (.inr (.inr (.inr (.inl hd))))))))
        clear HNO HYES
        go_wp2_with fail
        go_ret
        exact ⟨by rw [HN.out]; rfl, HB.out.alloc HB.out.size _⟩
      replace hd : 0 ≤ d := by omega
      by_cases hd2 : 8 ≤ d
      case pos =>
        have HN := Lib.hid (HNO.out (wrong_true (.inr (.inr (.inr (.inr (.inr (.inr (.inl hd2)))))))))
        clear HNO HYES
        go_wp2_with fail
        go_ret
        exact ⟨by rw [HN.out]; rfl, HB.out.alloc HB.out.size _⟩
      replace hd2 : d < 8 := by omega
      by_cases h0 : m = 0
      case neg =>
        have h0' : (m == 0) = false := by rw [beq_eq_false_iff_ne]; exact h0
        have HN := Lib.hid (HYES.out (wrong_false hs hc hn2 hm hm2 hd hd2 (fun e => absurd e h0)))
        clear HNO HYES
        go_wp2_with fail
        go_roundw
        case rel => exact ⟨k + 1, by omega, by go_num, HB.out.alloc HB.out.size _, HN.out⟩
        case measure => simp [intOf]; omega
      have h0' : (m == 0) = true := by rw [beq_iff_eq]; exact h0
      by_cases h1 : cc = 0
      case neg =>
        have h1' : (cc != 0) = true := by rw [bne_iff_ne]; exact h1
        subst h0
        have HN := Lib.hid (HNO.out (wrong_true (.inr (.inr (.inr (.inr (.inr (.inr (.inr (⟨rfl, h1⟩))))))))))
        clear HNO HYES
        go_wp2_with fail
        go_ret
        exact ⟨by rw [HN.out]; rfl, HB.out.alloc HB.out.size _⟩
      subst h0 h1
      have HN := Lib.hid (HYES.out (wrong_false hs hc hn2 hm hm2 hd hd2 (fun _ => rfl)))
      clear HNO HYES
      go_wp2_with fail
      go_roundw
      case rel => exact ⟨k + 1, by omega, by go_num, HB.out.alloc HB.out.size _, HN.out⟩
      case measure => simp [intOf]; omega
    · obtain rfl : k = ts.length := by omega
      have HT : Hid (R = true) := HR.out.symm.trans (decide_eq_true HK.out)
      go_wp2_with fail
      go_ret
      exact ⟨by rw [HT.out]; rfl, HB.out⟩

end Go.Proofs.YtipaapplingbnaaGreatDoor
namespace Go.Proofs.YtipaapplingbnaaGreatDoor
open Go.RowKit Go.Deep

theorem icells_drop (l : List Int) (k : Nat) : (icells l).drop k = icells (l.drop k) := by simp [icells, List.map_drop]
theorem icells_take (l : List Int) (k : Nat) : (icells l).take k = icells (l.take k) := by simp [icells, List.map_take]
theorem RdI.from_ {w : World} {B : Nat} {A : Option Addr} {l : List Int} (h : RdI w B A l) {k cap : Nat} (hk : k ≤ l.length) (hc : l.length ≤ cap) : RdI w B (if cap = k then A else A.map (·.add k)) (l.drop k) := by
  have := Shows.cut (k := k) (cap := cap) h hk hc
  rw [Nat.mul_one, icells_drop] at this
  unfold RdI
  rw [List.length_drop]
  exact this
theorem RdI.take_ {w : World} {B : Nat} {A : Option Addr} {l : List Int} (h : RdI w B A l) {k : Nat} (hk : k ≤ l.length) : RdI w B A (l.take k) := by
  have := Shows.head (k := k) h hk
  rw [Nat.mul_one, icells_take] at this
  unfold RdI
  rw [List.length_take, Nat.min_eq_left hk]
  exact this
theorem slice_ints (A : Option Addr) (n c p : Nat) (q : Int) (hq : q = (p : Int)) (h : p ≤ n) (w : World) : (Instr.slice 23 (.slice A n c) (some (.int .i64 q)) none none).run Tryz.prog w = .ok (.slice (if c = p then A else A.map (·.add p)) (n - p) (c - p)) w := by
  subst hq
  obtain ⟨i0, hi, hz0, hz1, hz2⟩ := info_parts int_info
  rw [run_slice_l (P := Tryz.prog) (w := w) 23 A n c (by kernel_rfl) .i64 (p : Int) (by omega) (by omega)]
  have he : Tryz.prog.elem 23 = 3 := by kernel_rfl
  rw [he]
  simp [sizeOf, typeInfo, hi, hz1, sliced, Result.andThen]
theorem ofN_drop (l : List Nat) (k : Nat) : (ofN l).drop k = ofN (l.drop k) := by simp [ofN, List.map_drop]
theorem ofN_take (l : List Nat) (k : Nat) : (ofN l).take k = ofN (l.take k) := by simp [ofN, List.map_take]
theorem ofN_append (l m : List Nat) : ofN (l ++ m) = ofN l ++ ofN m := by simp [ofN]
theorem OwnI.add {w : World} {base : Nat} {v : Value} {l m : List Nat} (h : w.ownsRow base 3 1 v (l.length + m.length) (icells (ofN l) ++ icells (ofN m))) : OwnI w base v (l ++ m) := by
  unfold OwnI
  rw [List.length_append, ofN_append, icells_append]
  exact h
theorem OwnI.add' {w : World} {base n k : Nat} {v : Value} {l m : List Nat} (hn : l.length = n) (hk : m.length = k) (h : w.ownsRow base 3 1 v (n + k) (icells (ofN l) ++ icells (ofN m))) : OwnI w base v (l ++ m) := by
  subst hn hk
  exact OwnI.add h
theorem OwnI.two {w : World} {base k j : Nat} {v : Value} {a b : List Nat} (ha : a.length = k) (hb : b.length = j) (h : w.ownsRow base 3 1 v (0 + k + j) (icells (ofN []) ++ icells (ofN a) ++ icells (ofN b))) : OwnI w base v (a ++ b) := by
  subst ha hb
  unfold OwnI
  rw [List.length_append, ofN_append, icells_append]
  rw [Nat.zero_add] at h
  exact h
theorem OwnI.made (w : World) (base : Nat) (h : base ≤ w.heap.size) : OwnI (w.alloc (.cells #[] 3)) base (.slice (some ⟨w.heap.size, 0, none⟩) 0 0) [] :=
  World.ownsRow_made (e := 3) (size := 1) w #[] 0 h (by simp) rfl
theorem OwnI.drew {w : World} {base : Nat} {v : Value} {l : List Nat} (h : OwnI w base v l) : OwnI w.drew base v l := h
theorem OwnI.alloc {w : World} {base : Nat} {v : Value} {l : List Nat} (h : OwnI w base v l) (o : Obj) : OwnI (w.alloc o) base v l := World.ownsRow.alloc h o
theorem shows_ofN {w : World} {B : Nat} {A : Option Addr} {x : List Nat} (h : RdI w B A (ofN x)) : Shows w B 1 A x.length (icells (ofN x)) := by
  unfold RdI at h
  rw [ofN_length] at h
  exact h
theorem shows_new1 (w : World) (o : Obj) (cs : Array Value) (t : TypeId) (n size : Nat) (hn : cs.size = n * size) : Shows ((w.alloc o).alloc (.cells cs t)) (w.heap.size + 2) size (some ⟨w.heap.size + 1, 0, none⟩) n cs.toList := by
  have h := shows_new (w.alloc o) cs t n size hn
  rw [World.size_alloc] at h
  exact h
theorem shows_far {w w' : World} {B size n g : Nat} {xs : List Value} {r : Option Nat} (h : Shows w B size (some ⟨g, 0, none⟩) n xs) (hg : w.grownBy w' r) (hlt : g < w.heap.size) (hne : r ≠ some g) : Shows w' B size (some ⟨g, 0, none⟩) n xs := by
  refine ⟨h.1, fun hn => ?_⟩
  obtain ⟨ad, e, hb, hc⟩ := h.2 hn
  injection e with e
  subst e
  exact ⟨_, rfl, hb, fun j hj => by rw [World.cell?_of_block (hg.block _ (by rw [add_block]; exact hlt) (by rw [add_block]; exact fun e => hne e.symm))]; exact hc j hj⟩
theorem getD_mem {l : List Nat} {k : Nat} (h : k < l.length) : l.getD k 0 ∈ l := by rw [List.getD_eq_getElem?_getD, List.getElem?_eq_getElem h]; exact List.getElem_mem h
theorem take_drop_len (l : List Nat) (k : Nat) (h : k < l.length) : (l.take k ++ l.drop (k + 1)).length + 1 = l.length := by simp; omega
theorem drop_cons (l : List Nat) (k : Nat) (h : k < l.length) : l.drop k = l.getD k 0 :: l.drop (k + 1) := by
  rw [List.drop_eq_getElem_cons h, List.getD_eq_getElem?_getD, List.getElem?_eq_getElem h]; rfl
theorem take_more (l : List Nat) (k : Nat) (h : k < l.length) : l.take (k + 1) = l.take k ++ [l.getD k 0] := by
  rw [List.take_succ_eq_append_getElem h, List.getD_eq_getElem?_getD, List.getElem?_eq_getElem h]; rfl

/-- The numbers of one step. -/
theorem minor_nums {rows : List Vc} (hok : ∀ v ∈ rows, v.ok = true) {ρ : Nat} {is js : List Nat} {k : Nat} {v : Int} (hjc : ∀ c ∈ js, c < 6) (hj6 : js.length ≤ 6) (hi6 : is.length ≤ 5) (hk : k < js.length)
    (h : Part ((rows.getD ρ ⟨0, 0, 0, 0, 0, 0⟩).at) (Dt (rowf rows is)) 48 (288 ^ is.length) (js.take k) (js.drop k) v) :
    Part ((rows.getD ρ ⟨0, 0, 0, 0, 0, 0⟩).at) (Dt (rowf rows is)) 48 (288 ^ is.length) (js.take (k + 1)) (js.drop (k + 1)) (v + sg k * (rows.getD ρ ⟨0, 0, 0, 0, 0, 0⟩).at (js.getD k 0) * Dt (rowf rows is) (js.take k ++ js.drop (k + 1)))
    ∧ v.natAbs ≤ 600000000000000 ∧ (Dt (rowf rows is) (js.take k ++ js.drop (k + 1))).natAbs ≤ 1981355655168 := by
  have hb := minor_bound hok is (js.take k ++ js.drop (k + 1)) (fun c hc => by
    rcases List.mem_append.1 hc with hc | hc
    · exact hjc c (List.mem_of_mem_take hc)
    · exact hjc c (List.mem_of_mem_drop hc)) (by have := take_drop_len js k hk; omega)
  have h5 : 288 ^ is.length ≤ 1981355655168 := pow288 hi6
  have hsm := h.small
  rw [List.length_take, Nat.min_eq_left (by omega)] at hsm
  rw [drop_cons js k hk] at h
  have hn := h.next (vec_ok hok ρ (js.getD k 0) (hjc _ (getD_mem hk))) hb
  rw [List.length_take, Nat.min_eq_left (by omega), ← take_more js k hk] at hn
  refine ⟨hn, ?_, by omega⟩
  have : 48 * k * 288 ^ is.length ≤ 288 * 1981355655168 := Nat.mul_le_mul (by omega) h5
  omega

set_option maxRecDepth 100000 in
set_option maxHeartbeats 4000000 in
theorem rMinor_any (n : Nat) : ∀ (w : World) (Ar Ai Aj : Option Addr) (cr ci cj : Nat) (rows : List Vc) (is js : List Nat), is.length = n → RdV w w.heap.size Ar rows → RdI w w.heap.size Ai (ofN is) → RdI w w.heap.size Aj (ofN js) → is.length ≤ ci → js.length ≤ cj → is.length = js.length → js.length ≤ 6 → rows.length ≤ 100 → (∀ c ∈ js, c < 6) → (∀ c ∈ is, c < rows.length) → (∀ v ∈ rows, v.ok = true) →
    Calls Tryz.prog 39 #[.slice Ar rows.length cr, .slice Ai is.length ci, .slice Aj js.length cj] w fun e w' => e = .returned (.int .i64 (Dt (rowf rows is) js)) ∧ Below w.heap.size w w' := by
  induction n with
  | zero =>
    intro w Ar Ai Aj cr ci cj rows is js hn rr ri rj hci hcj hij hj6 hrl hjc hic hok
    obtain rfl := List.eq_nil_of_length_eq_zero hn
    obtain rfl : js = [] := List.eq_nil_of_length_eq_zero hij.symm
    clear rr ri rj hok hic hjc
    go_enter Tryz.func39, Tryz.ntmps39
    go_wp2_with fail
    go_ret
    exact ⟨rfl, Below.refl _ _⟩
  | succ n ih =>
    intro w Ar Ai Aj cr ci cj rows is js hn rr ri rj hci hcj hij hj6 hrl hjc hic hok
    have hne : ((is.length : Int) == 0) = false := by rw [beq_eq_false_iff_ne]; omega
    obtain ⟨i0, is', rfl⟩ : ∃ a b, is = a :: b := List.exists_cons_of_length_pos (by omega)
    have hi0 : i0 < rows.length := hic i0 (by simp)
    have hil : (i0 :: is').length = js.length := hij
    have hil' : is'.length + 1 = js.length := by simpa using hij
    have HSL := Lib.hid fun W => slice_ints Ai (i0 :: is').length ci 1 1 rfl (by simp) W
    have HRF := ri.from_ (k := 1) (cap := ci) (by simp [ofN]) (by rw [ofN_length]; exact hci)
    rw [ofN_drop] at HRF
    obtain ⟨Af, hAf⟩ : ∃ Af, Af = (if ci = 1 then Ai else Ai.map (·.add 1)) := ⟨_, rfl⟩
    rw [← hAf] at HSL HRF
    have HD : Hid (Dt (rowf rows (i0 :: is')) js = W ((rows.getD i0 ⟨0, 0, 0, 0, 0, 0⟩).at) (Dt (rowf rows is')) js) := Dt_cons _ _ _
    have IH := Lib.hid fun W Ak ck ks (rr : RdV W W.heap.size Ar rows) (ri : RdI W W.heap.size Af (ofN is')) (rj : RdI W W.heap.size Ak (ofN ks)) h1 h2 h3 h4 => ih W Ar Af Ak cr (ci - 1) ck rows is' ks (by simpa using hn) rr ri rj (by simp at hci; omega) h1 h2 h3 hrl h4 (fun c hc => hic c (by simp [hc])) hok
    have HP : Hid (∀ k v, k < js.length → Part ((rows.getD i0 ⟨0, 0, 0, 0, 0, 0⟩).at) (Dt (rowf rows is')) 48 (288 ^ is'.length) (js.take k) (js.drop k) v → _) := fun k v hk h => minor_nums hok hjc hj6 (by omega) hk h
    have HRR := Lib.hid rr
    have HRI := Lib.hid ri
    have HRJ := Lib.hid rj
    have HRF' := Lib.hid (show RdI w w.heap.size Af (ofN is') from HRF)
    have HJC := Lib.hid hjc
    have HV := Lib.hid fun c hc => vec_ok hok i0 c hc
    have hcons : (i0 :: is').length = is'.length + 1 := rfl
    rw [hil] at HSL hne ⊢
    clear rr ri rj HRF hAf ih hok hic hjc hij hil hcons
    have hsl := HSL.out
    go_enter Tryz.func39, Tryz.ntmps39
    go_wp2_with fail
    go_loopw [7, 8, 9] (fun s sn i wx => ∃ (k : Nat) (v : Int), k ≤ js.length ∧ i = .int .i64 k ∧ s = .int .i64 v ∧ sn = .int .i64 (sg k) ∧ Hid (Below w.heap.size w wx) ∧ Hid (Part ((rows.getD i0 ⟨0, 0, 0, 0, 0, 0⟩).at) (Dt (rowf rows is')) 48 (288 ^ is'.length) (js.take k) (js.drop k) v)) (fun _ _ i _ => js.length - (intOf i).toNat)
    case atStart => exact ⟨0, 0, Nat.zero_le _, rfl, rfl, rfl, Below.refl _ _, Part.start _ _ _ _ js⟩
    case round =>
      obtain ⟨k, v, hk, rfl, rfl, rfl, HB, HPT⟩ := hrel
      by_cases hlt : k < js.length
      · obtain ⟨aj, rfl, haj, qj⟩ := (HRJ.out.up HB.out).at (i := k) (by rw [ofN_length]; exact hlt)
        obtain ⟨ai, rfl, hai, qi⟩ := (HRI.out.up HB.out).at (i := 0) (by simp [ofN])
        obtain ⟨ar, rfl, har, -, qr⟩ := (HRR.out.up HB.out).at hi0
        have hc6 := HJC.out _ (getD_mem hlt)
        have qx := qr _ hc6
        rw [show rows[i0] = rows.getD i0 ⟨0, 0, 0, 0, 0, 0⟩ from (getD_lt rows _ _ hi0).symm] at qx
        rw [ofN_at _ _ hlt] at qj
        have qi' : wr.cell? ai = some (.int .i64 (i0 : Int)) := by
          rw [show ai = ai.add 0 from by simp [Addr.add]]
          exact qi
        have hv48 := HV.out _ hc6
        obtain ⟨s1, s2, s3⟩ := HP.out k v hlt HPT.out
        have hs0 := sg_cases k
        have HSN := Lib.hid (sg_succ k)
        have HT1 := Lib.hid fun W (hb : Below wr.heap.size wr W) => (HRJ.out.up (below_on HB.out hb)).take_ (k := k) (by rw [ofN_length]; omega)
        have HT2 := Lib.hid fun W (hb : Below wr.heap.size wr W) => (HRJ.out.up (below_on HB.out hb)).from_ (k := k + 1) (cap := cj) (by rw [ofN_length]; omega) (by rw [ofN_length]; exact hcj)
        have hs2 := fun W => slice_ints (some aj) js.length cj (k + 1) ((k : Int) + 1) (by omega) (by omega) W
        obtain ⟨Ag, hAg⟩ : ∃ Ag, Ag = (if cj = k + 1 then some aj else (some aj).map (·.add (k + 1))) := ⟨_, rfl⟩
        rw [← hAg] at hs2 HT2
        rw [ofN_drop] at HT2
        rw [ofN_take] at HT1
        have HS1' : Hid (∀ W, Below wr.heap.size wr W → Shows W W.heap.size 1 (some aj) k (icells (ofN (js.take k)))) := fun W hb => by
          have := HT1.out W hb
          unfold RdI at this
          rw [ofN_length, List.length_take, Nat.min_eq_left hk] at this
          exact this
        have HS2' : Hid (∀ W, Below wr.heap.size wr W → Shows W W.heap.size 1 Ag (js.length - (k + 1)) (icells (ofN (js.drop (k + 1))))) := fun W hb => by
          have := HT2.out W hb
          unfold RdI at this
          rw [ofN_length, List.length_drop] at this
          exact this
        have hkc : (k : Int) ≤ (cj : Int) := by omega
        have hk0 : (0 : Int) ≤ (k : Int) := by omega
        have HS1 := Lib.hid s1
        have HKL := Lib.hid (take_drop_len js k hlt)
        have HL1 : Hid ((js.take k).length = k) := by show _ = _; rw [List.length_take]; omega
        have HL2 : Hid ((js.drop (k + 1)).length = js.length - (k + 1)) := List.length_drop
        have HJK : Hid (∀ c ∈ js.take k ++ js.drop (k + 1), c < 6) := fun c hc => by
          rcases List.mem_append.1 hc with hc | hc
          · exact HJC.out c (List.mem_of_mem_take hc)
          · exact HJC.out c (List.mem_of_mem_drop hc)
        clear qi qr hAg s1 HPT
        generalize (rows.getD i0 ⟨0, 0, 0, 0, 0, 0⟩).at (js.getD k 0) = X at *
        generalize js.getD k 0 = c at *
        have hwk : IntKind.i64.wrap ((k : Int) + 1) = (k : Int) + 1 := IntWalk.i64_in _ (by omega)
        have hs1 : -1 ≤ sg k := by rcases hs0 with e | e <;> rw [e] <;> decide
        have hs2' : sg k ≤ 1 := by rcases hs0 with e | e <;> rw [e] <;> decide
        generalize sg k = S at *
        by_cases hX0 : X = 0
        · subst hX0
          rw [Int.mul_zero, Int.zero_mul, Int.add_zero] at HS1
          clear hs2 hsl s2 s3 hs0 hv48
          go_wp2_with fail
          go_quiet (fail)
          go_wp2_with fail
          go_roundw
          case rel => exact ⟨k + 1, v, by omega, by go_num, rfl, by rw [HSN.out], below_dN HB.out _, HS1.out⟩
          case measure => simp [intOf]; omega
        · have hX0' : (X != 0) = true := by rw [bne_iff_ne]; exact hX0
          have HIH := Lib.hid fun W Ak ck (hb : Below wr.heap.size wr W) (hc : js.length - 1 ≤ ck) (rj : RdI W W.heap.size Ak (ofN (js.take k ++ js.drop (k + 1)))) => IH.out W Ak ck (js.take k ++ js.drop (k + 1)) (HRR.out.up (below_on HB.out hb)) (HRF'.out.up (below_on HB.out hb)) rj (by have := HKL.out; omega) (by have := HKL.out; omega) (by have := HKL.out; omega) HJK.out
          rw [show (js.take k ++ js.drop (k + 1)).length = js.length - 1 from by have := HKL.out; omega] at HIH
          generalize hD : Dt (rowf rows is') (js.take k ++ js.drop (k + 1)) = D at *
          clear hD
          have hSX : ∃ Y1, S * X = Y1 ∧ -48 ≤ Y1 ∧ Y1 ≤ 48 := ⟨_, rfl, by rcases hs0 with rfl | rfl <;> omega, by rcases hs0 with rfl | rfl <;> omega⟩
          obtain ⟨Y1, y1, y2, y3⟩ := hSX
          rw [y1] at HS1
          have hYD : ∃ Y2, Y1 * D = Y2 ∧ -95105071448064 ≤ Y2 ∧ Y2 ≤ 95105071448064 := by
            refine ⟨_, rfl, ?_⟩
            have h1 : (Y1 * D).natAbs ≤ 48 * 1981355655168 := by rw [Int.natAbs_mul]; exact Nat.mul_le_mul (by omega) s3
            omega
          obtain ⟨Y2, z1, z2, z3⟩ := hYD
          rw [z1] at HS1
          clear hX0 hs0 s3
          go_wp2_with fail
          go_quiet (fail)
          go_wp2_with fail
          obtain ⟨wv, hwv⟩ : ∃ wv, wv = wr.drewN nq := ⟨_, rfl⟩
          rw [← hwv]
          have HBV : Hid (Below wr.heap.size wr wv) := by show Below _ _ _; rw [hwv]; exact below_dN (Below.refl _ _) _
          clear qj qx qi' hwv
          have hzz := HBV.out.size
          have hww := HB.out.size
          go_region_held3 (fun w' => Below wr.heap.size wr w')
            (first
              | exact HBV.out.drew
              | exact (HBV.out.alloc HBV.out.size _).drew
              | exact hbel4
              | exact hbel5)
            (first
              | (refine step_app _ (by rfl) (.tmp 34) (.tmp 37) 23 3 (.int .i64 0) 1 8 (by rfl) Tryz.underlying23 int_info rfl (by decide) wv.heap.size _ 0 _ (by rfl) (OwnI.made wv wv.heap.size (Nat.le_refl _)).drew _ (some aj) k cj (icells (ofN (js.take k))) (by rfl) (HS1'.out _ (by assumption)) (icells_one _) (by simp only [maxLen]; omega) (by omega) (by simp) ?_; intro v4 w4 hown4 hg4 hat4; have hbel4 := below_grown (B := wr.heap.size) (a := wr) (by assumption) hg4 (by simp; omega) (fun g hg => by have := (World.ownsRow.lt (OwnI.made wv wv.heap.size (Nat.le_refl _)) g hg).1; omega); have hsz4 : wv.heap.size ≤ w4.heap.size := (by have := hg4.size; simp at this; omega))
              | (refine step_app _ (by rfl) (.tmp 38) (.tmp 42) 23 3 (.int .i64 0) 1 8 (by rfl) Tryz.underlying23 int_info rfl (by decide) wv.heap.size _ _ _ (by rfl) hown4 _ Ag (js.length - (k + 1)) (cj - (k + 1)) (icells (ofN (js.drop (k + 1)))) (by rfl) (HS2'.out _ (by assumption)) (icells_one _) (by simp only [maxLen]; omega) (by omega) (by omega) ?_; intro v5 w5 hown5 hg5 hat5; have hbel5 := below_grown (B := wr.heap.size) (a := wr) (by assumption) hg5 (by omega) (fun g hg => by have := (World.ownsRow.lt hown4 g hg).1; omega)))
          have HO := Lib.hid (OwnI.two HL1.out HL2.out hown5)
          obtain ⟨Ak, ck, rfl, hck, hrk⟩ := HO.out.form
          rw [show (js.take k ++ js.drop (k + 1)).length = js.length - 1 from by have := HKL.out; omega] at hck ⊢
          have HC5 := Lib.hid (HIH.out w5 Ak ck hbel5 hck hrk)
          have HB5 := Lib.hid (below_on HB.out hbel5)
          have hil2 : js.length - 1 = is'.length := by omega
          rw [← hil2] at HC5
          clear hck hrk HO hown5 hown4 hg4 hg5 hat4 hat5 hbel4 hbel5 hs2 hil2
          go_wp2_with (go_at_call 39; refine HC5.out.mono ?_; rintro e w6 ⟨rfl, b6⟩; replace b6 := Lib.hid b6)
          go_roundw
          case rel => exact ⟨k + 1, v + Y2, by omega, by go_num, rfl, by rw [HSN.out], below_on HB5.out b6.out, HS1.out⟩
          case measure => simp [intOf]; omega
      · obtain rfl : k = js.length := by omega
        have HE : Hid (Dt (rowf rows (i0 :: is')) js = v) := by
          have h := HPT.out
          rw [List.take_length, List.drop_length] at h
          exact HD.out.trans h.done
        go_wp2_with fail
        go_ret
        exact ⟨by rw [HE.out]; rfl, HB.out⟩

end Go.Proofs.YtipaapplingbnaaGreatDoor
namespace Go.Proofs.YtipaapplingbnaaGreatDoor
open Go.RowKit Go.Deep

/-- The rising lists of k of the numbers below n. -/
def subs : Nat → Nat → List (List Nat)
  | _, 0 => [[]]
  | 0, _ + 1 => []
  | n + 1, k + 1 => subs n (k + 1) ++ (subs n k).map (· ++ [n])
theorem subs_few {n k : Nat} (h : n < k) : subs n k = [] := by
  induction n generalizing k with
  | zero =>
    cases k with
    | zero => omega
    | succ k => rfl
  | succ n ih =>
    cases k with
    | zero => omega
    | succ k => rw [subs, ih (by omega), ih (by omega)]; rfl
theorem subs_len {n k : Nat} : ∀ x ∈ subs n k, x.length = k ∧ ∀ c ∈ x, c < n := by
  induction n generalizing k with
  | zero =>
    cases k with
    | zero => intro x hx; simp [subs] at hx; subst hx; simp
    | succ k => intro x hx; simp [subs] at hx
  | succ n ih =>
    cases k with
    | zero => intro x hx; simp [subs] at hx; subst hx; simp
    | succ k =>
      intro x hx
      rw [subs] at hx
      rcases List.mem_append.1 hx with hx | hx
      · obtain ⟨h1, h2⟩ := ih x hx
        exact ⟨h1, fun c hc => by have := h2 c hc; omega⟩
      · obtain ⟨y, hy, rfl⟩ := List.mem_map.1 hx
        obtain ⟨h1, h2⟩ := ih y hy
        refine ⟨by simp [h1], fun c hc => ?_⟩
        rcases List.mem_append.1 hc with hc | hc
        · have := h2 c hc; omega
        · have := List.mem_singleton.1 hc; omega
theorem subs_small (n k : Nat) : (subs n k).length ≤ 2 ^ n := by
  induction n generalizing k with
  | zero =>
    cases k with
    | zero => simp [subs]
    | succ k => simp [subs]
  | succ n ih =>
    cases k with
    | zero => simp [subs]; exact Nat.one_le_two_pow
    | succ k =>
      have h1 := ih (k + 1)
      have h2 := ih k
      rw [subs, List.length_append, List.length_map, Nat.pow_succ]
      omega
/-- Every choice of columns is among them, in some order. -/
theorem subs_has {n : Nat} {T : List Nat} (hn : T.Nodup) (hT : ∀ c ∈ T, c < n) : ∃ x ∈ subs n T.length, x.Perm T := by
  induction n generalizing T with
  | zero =>
    obtain rfl : T = [] := by
      cases T with
      | nil => rfl
      | cons c T => have := hT c (by simp); omega
    exact ⟨[], by simp [subs], .refl _⟩
  | succ n ih =>
    rcases hl : T.length with _ | m
    · obtain rfl := List.eq_nil_of_length_eq_zero hl
      exact ⟨[], by simp [subs], .refl _⟩
    · by_cases hm : n ∈ T
      · obtain ⟨a, b, rfl⟩ := List.append_of_mem hm
        have hp : (a ++ n :: b).Perm (n :: (a ++ b)) := List.perm_middle
        have hn2 := hp.nodup_iff.1 hn
        rw [List.nodup_cons] at hn2
        obtain ⟨x, hx, hxp⟩ := ih hn2.2 (fun c hc => by
          have h1 := hT c (by
            rcases List.mem_append.1 hc with h | h
            · exact List.mem_append_left _ h
            · exact List.mem_append_right _ (List.mem_cons_of_mem _ h))
          have : c ≠ n := fun e => hn2.1 (e ▸ hc)
          omega)
        have hlen : (a ++ b).length = m := by simp at hl ⊢; omega
        rw [hlen] at hx
        refine ⟨x ++ [n], ?_, ?_⟩
        · rw [subs]
          exact List.mem_append_right _ (List.mem_map.2 ⟨x, hx, rfl⟩)
        · refine .trans ?_ hp.symm
          exact (List.perm_append_comm).trans (hxp.cons n)
      · obtain ⟨x, hx, hxp⟩ := ih hn (fun c hc => by
          have h1 := hT c hc
          have : c ≠ n := fun e => hm (e ▸ hc)
          omega)
        rw [hl] at hx
        refine ⟨x, ?_, hxp⟩
        rw [subs]
        exact List.mem_append_left _ hx

/-- A list of lists, read. -/
def RdL (w : World) (B : Nat) (A : Option Addr) (L : List (List Nat)) : Prop :=
  ∃ vs, Shows w B 1 A L.length vs ∧ ∀ i, i < L.length → ∃ A' c', vs[i]? = some (.slice A' (L.getD i []).length c') ∧ (L.getD i []).length ≤ c' ∧ RdI w B A' (ofN (L.getD i []))
theorem RdL.up {w w' : World} {A : Option Addr} {L : List (List Nat)} (h : RdL w w.heap.size A L) (hb : Below w.heap.size w w') : RdL w' w'.heap.size A L := by
  obtain ⟨vs, h1, h2⟩ := h
  refine ⟨vs, (h1.below hb).wider hb.size, fun i hi => ?_⟩
  obtain ⟨A', c', e, hc, hr⟩ := h2 i hi
  exact ⟨A', c', e, hc, hr.up hb⟩
theorem RdL.at {w : World} {B : Nat} {A : Option Addr} {L : List (List Nat)} (h : RdL w B A L) {i : Nat} (hi : i < L.length) : ∃ ad A' c', A = some ad ∧ ad.block < B ∧ w.cell? (ad.add i) = some (.slice A' (L.getD i []).length c') ∧ (L.getD i []).length ≤ c' ∧ RdI w B A' (ofN (L.getD i [])) := by
  obtain ⟨vs, h1, h2⟩ := h
  obtain ⟨A', c', e, hc, hr⟩ := h2 i hi
  obtain ⟨ad, u, rfl, hb, hu, hcell⟩ := h1.at_ hi
  rw [e] at hu
  injection hu with hu
  subst hu
  exact ⟨ad, A', c', rfl, hb, hcell, hc, hr⟩
/-- A list of lists of the call's own; no list lies in the row itself. -/
def OwnL (w : World) (base : Nat) (v : Value) (L : List (List Nat)) : Prop :=
  ∃ vs, w.ownsRow base 23 1 v L.length vs ∧ ∀ i, i < L.length → ∃ A' c', vs[i]? = some (.slice A' (L.getD i []).length c') ∧ (L.getD i []).length ≤ c' ∧ RdI w w.heap.size A' (ofN (L.getD i [])) ∧ (0 < (L.getD i []).length → ∀ ad, A' = some ad → v.ownBlock ≠ some ad.block ∧ base ≤ ad.block)
theorem OwnL.form {w : World} {base : Nat} {v : Value} {L : List (List Nat)} (h : OwnL w base v L) : ∃ A c, v = .slice A L.length c ∧ L.length ≤ c ∧ RdL w w.heap.size A L := by
  obtain ⟨vs, h1, h2⟩ := h
  have h1' := h1
  rcases h1'.2 with ⟨rfl, h0⟩ | ⟨g, cap, cur, rfl, -, -, hc, -⟩
  · refine ⟨none, 0, by rw [h0], by omega, vs, ?_, fun i hi => by omega⟩
    have : vs = [] := List.eq_nil_of_length_eq_zero (by have := h1.1; rw [h0] at this; simpa using this)
    rw [h0, this]
    exact Shows.nil_
  · refine ⟨_, cap, rfl, hc, vs, Shows.of_own h1, fun i hi => ?_⟩
    obtain ⟨A', c', e, hc', hr, -⟩ := h2 i hi
    exact ⟨A', c', e, hc', hr⟩
theorem OwnL.block {w : World} {base : Nat} {v : Value} {L : List (List Nat)} (h : OwnL w base v L) : ∀ g, v.ownBlock = some g → base ≤ g ∧ g < w.heap.size := fun g hg => World.ownsRow.lt h.choose_spec.1 g hg
theorem OwnL.on {w w' : World} {base : Nat} {v : Value} {L : List (List Nat)} (h : OwnL w base v L) (hb : Below w.heap.size w w') : OwnL w' base v L := by
  obtain ⟨vs, h1, h2⟩ := h
  refine ⟨vs, World.ownsRow.kept (row := some w.heap.size) h1 (grown_below hb _) (by
    rcases hv : v.ownBlock with _ | g
    · exact Or.inl rfl
    · right; intro e; injection e with e; have := (World.ownsRow.lt h1 g hv).2; omega), fun i hi => ?_⟩
  obtain ⟨A', c', e, hc, hr, hs⟩ := h2 i hi
  exact ⟨A', c', e, hc, hr.up hb, hs⟩
theorem OwnL.lower {w : World} {base base' : Nat} {v : Value} {L : List (List Nat)} (h : OwnL w base v L) (hb : base' ≤ base) : OwnL w base' v L := by
  obtain ⟨vs, h1, h2⟩ := h
  refine ⟨vs, ⟨h1.1, ?_⟩, fun i hi => by
    obtain ⟨A', c', e, hc, hr, hs⟩ := h2 i hi
    exact ⟨A', c', e, hc, hr, fun h0 ad ea => ⟨(hs h0 ad ea).1, Nat.le_trans hb (hs h0 ad ea).2⟩⟩⟩
  rcases h1.2 with h2 | ⟨g, cap, cur, hv, hg, r⟩
  · exact .inl h2
  · exact .inr ⟨g, cap, cur, hv, by omega, r⟩
theorem OwnL.nil (w : World) (base : Nat) : OwnL w base (.slice none 0 0) [] := ⟨[], World.ownsRow_nil _ _ _ 1, fun i hi => by simp at hi⟩
theorem slice_info : (Tryz.prog.info? 23).map (fun i => (i.zero, i.size, i.bytes)) = some (some (.slice none 0 0), 1, 24) := by kernel_rfl
theorem getD_app {L : List (List Nat)} {x : List Nat} {i : Nat} (hi : i < L.length) : (L ++ [x]).getD i [] = L.getD i [] := by
  rw [List.getD_eq_getElem?_getD, List.getElem?_append_left hi, ← List.getD_eq_getElem?_getD]
/-- One list more. -/
theorem OwnL.snoc {w wx w' : World} {base : Nat} {v v' : Value} {L : List (List Nat)} {x : List Nat} {A : Option Addr} {c : Nat} {vs : List Value}
    (h2 : ∀ i, i < L.length → ∃ A' c', vs[i]? = some (.slice A' (L.getD i []).length c') ∧ (L.getD i []).length ≤ c' ∧ RdI w w.heap.size A' (ofN (L.getD i [])) ∧ (0 < (L.getD i []).length → ∀ ad, A' = some ad → v.ownBlock ≠ some ad.block ∧ base ≤ ad.block)) (hvl : vs.length = L.length) (hvb : ∀ g, v.ownBlock = some g → g < w.heap.size)
    (hb : Below w.heap.size w wx) (hrx : RdI wx wx.heap.size A (ofN x)) (hcx : x.length ≤ c) (hfar : ∀ ad, A = some ad → w.heap.size ≤ ad.block) (hbw : base ≤ w.heap.size)
    (hown : w'.ownsRow base 23 1 v' (L.length + 1) (vs ++ [.slice A x.length c])) (hg : wx.grownBy w' v.ownBlock) (hat : v'.ownBlock = v.ownBlock ∨ v'.ownBlock = some wx.heap.size) : OwnL w' base v' (L ++ [x]) := by
  have hlt : ∀ {A' : Option Addr} {l : List Nat} {W : World}, RdI W W.heap.size A' (ofN l) → 0 < l.length → ∀ ad, A' = some ad → ad.block < W.heap.size := fun hr h0 ad e => by
    obtain ⟨ad', e', hb', -⟩ := hr.2 (by rw [ofN_length]; exact h0)
    rw [e] at e'
    injection e' with e'
    subst e'
    exact hb'
  have hfix : ∀ {A' : Option Addr} {l : List Nat}, RdI wx wx.heap.size A' (ofN l) → (0 < l.length → ∀ ad, A' = some ad → v.ownBlock ≠ some ad.block) → RdI w' w'.heap.size A' (ofN l) := fun {A' l} hr hs => by
    refine Shows.wider (B := wx.heap.size) ?_ hg.size
    refine ⟨hr.1, fun hn => ?_⟩
    obtain ⟨ad, e, hb', hc⟩ := hr.2 hn
    exact ⟨ad, e, hb', fun j hj => by rw [World.cell?_of_block (hg.block (ad.add j).block (by rw [add_block]; exact hb') (fun e2 => hs (by rw [ofN_length] at hn; exact hn) ad e (by rw [← e2, add_block])))]; exact hc j hj⟩
  refine ⟨vs ++ [.slice A x.length c], by rw [List.length_append]; exact hown, fun i hi => ?_⟩
  rw [List.length_append, List.length_singleton] at hi
  by_cases hi' : i < L.length
  · obtain ⟨A', c', e, hc, hr, hs⟩ := h2 i hi'
    rw [getD_app hi']
    refine ⟨A', c', by rw [List.getElem?_append_left (by omega)]; exact e, hc, hfix (hr.up hb) (fun h0 ad e2 => (hs h0 ad e2).1), fun h0 ad e2 => ⟨fun e3 => ?_, (hs h0 ad e2).2⟩⟩
    have h1 := hlt hr h0 ad e2
    have h3 := hb.size
    rcases hat with e4 | e4
    · exact (hs h0 ad e2).1 (e4.symm.trans e3)
    · rw [e4] at e3
      injection e3 with e3
      omega
  · obtain rfl : i = L.length := by omega
    rw [List.getD_eq_getElem?_getD, List.getElem?_append_right (Nat.le_refl _), Nat.sub_self]
    refine ⟨A, c, by rw [List.getElem?_append_right (by omega), hvl, Nat.sub_self]; rfl, hcx, hfix hrx (fun h0 ad e2 e3 => ?_), fun h0 ad e2 => ⟨fun e3 => ?_, Nat.le_trans hbw (hfar ad e2)⟩⟩
    · have := hfar ad e2
      have := hvb _ e3
      omega
    · have h1 := hfar ad e2
      have h4 := hlt hrx h0 ad e2
      rcases hat with e4 | e4
      · have := hvb _ (e4.symm.trans e3)
        omega
      · rw [e4] at e3
        injection e3 with e3
        omega

/-- A list of lists, read, none of it below block lo. -/
def RdLL (w : World) (lo : Nat) (A : Option Addr) (L : List (List Nat)) : Prop :=
  ∃ vs, Shows w w.heap.size 1 A L.length vs ∧ (0 < L.length → ∀ ad, A = some ad → lo ≤ ad.block) ∧ ∀ i, i < L.length → ∃ A' c', vs[i]? = some (.slice A' (L.getD i []).length c') ∧ (L.getD i []).length ≤ c' ∧ RdI w w.heap.size A' (ofN (L.getD i [])) ∧ (0 < (L.getD i []).length → ∀ ad, A' = some ad → lo ≤ ad.block)
theorem shows_keep {w w' : World} {lo n : Nat} {A : Option Addr} {xs : List Value} (h : Shows w w.heap.size 1 A n xs) (hlo : 0 < n → ∀ ad, A = some ad → lo ≤ ad.block) (hs : w.heap.size ≤ w'.heap.size) (hk : ∀ b, lo ≤ b → b < w.heap.size → w'.heap[b]? = w.heap[b]?) : Shows w' w'.heap.size 1 A n xs := by
  refine ⟨h.1, fun hn => ?_⟩
  obtain ⟨ad, e, hb, hc⟩ := h.2 hn
  exact ⟨ad, e, by omega, fun j hj => by rw [World.cell?_of_block (hk (ad.add j).block (by rw [add_block]; exact hlo hn ad e) (by rw [add_block]; exact hb))]; exact hc j hj⟩
theorem RdLL.keep {w w' : World} {lo : Nat} {A : Option Addr} {L : List (List Nat)} (h : RdLL w lo A L) (hs : w.heap.size ≤ w'.heap.size) (hk : ∀ b, lo ≤ b → b < w.heap.size → w'.heap[b]? = w.heap[b]?) : RdLL w' lo A L := by
  obtain ⟨vs, h1, h2, h3⟩ := h
  refine ⟨vs, shows_keep h1 h2 hs hk, h2, fun i hi => ?_⟩
  obtain ⟨A', c', e, hc, hr, hl⟩ := h3 i hi
  exact ⟨A', c', e, hc, shows_keep hr (by rw [ofN_length]; exact hl) hs hk, hl⟩
theorem RdLL.rd {w : World} {lo : Nat} {A : Option Addr} {L : List (List Nat)} (h : RdLL w lo A L) : RdL w w.heap.size A L := by
  obtain ⟨vs, h1, h2, h3⟩ := h
  refine ⟨vs, h1, fun i hi => ?_⟩
  obtain ⟨A', c', e, hc, hr, -⟩ := h3 i hi
  exact ⟨A', c', e, hc, hr⟩
theorem OwnL.rdll {w : World} {base n c : Nat} {A : Option Addr} {L : List (List Nat)} (h : OwnL w base (.slice A n c) L) : RdLL w base A L := by
  obtain ⟨vs, h1, h2⟩ := h
  have h1' := h1
  rcases h1'.2 with ⟨e0, h0⟩ | ⟨g, cap, cur, e0, hg, -, hc, -⟩
  · refine ⟨vs, ?_, fun h => by omega, fun i hi => by omega⟩
    have : vs = [] := List.eq_nil_of_length_eq_zero (by have := h1.1; rw [h0] at this; simpa using this)
    rw [h0, this]
    exact Shows.nil_
  · injection e0 with e1 e2 e3
    subst e1 e2 e3
    refine ⟨vs, Shows.of_own h1, fun _ ad e => by injection e with e; subst e; exact hg, fun i hi => ?_⟩
    obtain ⟨A', c', e, hc', hr, hs⟩ := h2 i hi
    exact ⟨A', c', e, hc', hr, fun h0 ad ea => (hs h0 ad ea).2⟩

end Go.Proofs.YtipaapplingbnaaGreatDoor
namespace Go.Proofs.YtipaapplingbnaaGreatDoor
open Go.RowKit Go.Deep

theorem OwnI.lt {w : World} {base : Nat} {v : Value} {l : List Nat} (h : OwnI w base v l) : ∀ g, v.ownBlock = some g → base ≤ g ∧ g < w.heap.size := fun g hg => World.ownsRow.lt h g hg
theorem own_far {w : World} {base n c : Nat} {A : Option Addr} {l : List Nat} (h : OwnI w base (.slice A n c) l) : ∀ ad, A = some ad → base ≤ ad.block := fun ad e => by
  subst e
  rcases h.2 with ⟨h1, -⟩ | ⟨g, cap, cur, hv, hg, -⟩
  · cases h1
  · injection hv with hv
    injection hv with hv
    subst hv
    exact hg
theorem own_on {w w' : World} {base n size : Nat} {e : TypeId} {v : Value} {xs : List Value} (h : w.ownsRow base e size v n xs) (hb : Below w.heap.size w w') : w'.ownsRow base e size v n xs :=
  World.ownsRow.kept (row := some w.heap.size) h (grown_below hb _) (by
    rcases hv : v.ownBlock with _ | g
    · exact Or.inl rfl
    · right; intro e; injection e with e; have := (World.ownsRow.lt h g hv).2; omega)
theorem subs_lens (n k : Nat) (j : Nat) (hj : j < (subs n k).length) : ((subs n k).getD j []).length = k := by
  rw [List.getD_eq_getElem?_getD, List.getElem?_eq_getElem hj]
  exact (subs_len _ (List.getElem_mem hj)).1

set_option maxRecDepth 100000 in
set_option maxHeartbeats 4000000 in
theorem rSubsets_any (n : Nat) : ∀ (w : World) (k : Nat), n ≤ 6 → k ≤ 6 →
    Calls Tryz.prog 57 #[.int .i64 (n : Int), .int .i64 (k : Int)] w fun e w' => Below w.heap.size w w' ∧ ∃ v, e = .returned v ∧ OwnL w' w.heap.size v (subs n k) := by
  have hzero : ∀ (n : Nat) (w : World), Calls Tryz.prog 57 #[.int .i64 (n : Int), .int .i64 ((0 : Nat) : Int)] w fun e w' => Below w.heap.size w w' ∧ ∃ v, e = .returned v ∧ OwnL w' w.heap.size v (subs n 0) := fun n w => by
    have e0 : subs n 0 = [[]] := by cases n <;> rfl
    rw [e0]
    clear e0
    go_enter Tryz.func57, Tryz.ntmps57
    go_wp2_with fail
    go_ret
    refine ⟨(Below.refl _ _).alloc (Nat.le_refl _) _, _, rfl, [.slice none 0 0], ⟨rfl, .inr ⟨w.heap.size, 1, #[.slice none 0 0], rfl, Nat.le_refl _, heap_alloc_new w _, Nat.le_refl _, by simp [maxLen], rfl, rfl⟩⟩, fun i hi => ?_⟩
    obtain rfl : i = 0 := by simpa using hi
    exact ⟨none, 0, rfl, by simp, RdI.nil _ _ _, fun h => by simp at h⟩
  have hfew : ∀ (n k : Nat) (w : World), n < k → Calls Tryz.prog 57 #[.int .i64 (n : Int), .int .i64 (k : Int)] w fun e w' => Below w.heap.size w w' ∧ ∃ v, e = .returned v ∧ OwnL w' w.heap.size v (subs n k) := fun n k w h => by
    rw [subs_few h]
    have hk : ((k : Int) == 0) = false := by rw [beq_eq_false_iff_ne]; omega
    have hnk : (n : Int) < (k : Int) := by omega
    go_enter Tryz.func57, Tryz.ntmps57
    go_wp2_with fail
    go_ret
    exact ⟨Below.refl _ _, _, rfl, OwnL.nil _ _⟩
  induction n with
  | zero =>
    intro w k _ _
    rcases Nat.eq_zero_or_pos k with rfl | h
    · exact hzero 0 w
    · exact hfew 0 k w h
  | succ n ih =>
    intro w k hn6 hk6
    rcases Nat.eq_zero_or_pos k with rfl | hk
    · exact hzero _ w
    by_cases hlt : n + 1 < k
    · exact hfew _ k w hlt
    obtain ⟨k, rfl⟩ : ∃ j, k = j + 1 := ⟨k - 1, by omega⟩
    have HA := Lib.hid fun W => ih W (k + 1) (by omega) hk6
    have HB := Lib.hid fun W => ih W k (by omega) (by omega)
    have HSU : Hid (subs (n + 1) (k + 1) = subs n (k + 1) ++ (subs n k).map (· ++ [n])) := rfl
    have HL := Lib.hid (subs_lens n k)
    have hs1 := subs_small n (k + 1)
    have hs2 := subs_small n k
    have h2 : 2 ^ n ≤ 32 := Nat.le_trans (Nat.pow_le_pow_right (by omega) (show n ≤ 5 by omega)) (by decide)
    obtain ⟨R, hR⟩ : ∃ R, R = subs (n + 1) (k + 1) := ⟨_, rfl⟩
    rw [← hR] at HSU ⊢
    obtain ⟨N, hN⟩ : ∃ N, N = n + 1 := ⟨_, rfl⟩
    obtain ⟨K, hK⟩ : ∃ K, K = k + 1 := ⟨_, rfl⟩
    rw [← hK] at HA HSU hs1 ⊢
    rw [← hN]
    have eN : (N : Int) - 1 = (n : Int) := by omega
    have eK : (K : Int) - 1 = (k : Int) := by omega
    have bk : ((K : Int) == 0) = false := by rw [beq_eq_false_iff_ne]; omega
    have bn : ¬ (N : Int) < (K : Int) := by omega
    have bN : N ≤ 6 := by omega
    have bK : K ≤ 6 := by omega
    obtain ⟨L1, hL1⟩ : ∃ L, L = subs n K := ⟨_, rfl⟩
    obtain ⟨L2, hL2⟩ : ∃ L, L = subs n k := ⟨_, rfl⟩
    rw [← hL1] at HA HSU hs1
    rw [← hL2] at HB HSU hs2 HL
    have b1 : L1.length ≤ 32 := by omega
    have b2 : L2.length ≤ 32 := by omega
    clear hzero hfew ih hR hN hK hL1 hL2 hs1 hs2 h2 hk hlt
    have tok1 := Lib.hid trivial
    go_enter Tryz.func57, Tryz.ntmps57
    go_wp2_with (first
      | (have _t := tok1; go_at_call 57; (with_reducible refine (HA.out _).mono ?_); rintro e w1 ⟨b1', v1, rfl, o1⟩; have B1 := Lib.hid b1'; have O1 := Lib.hid o1; clear b1' o1 tok1)
      | (go_at_call 57; (with_reducible refine (HB.out _).mono ?_); rintro e w2 ⟨b2', v2, rfl, o2⟩; have B2 := Lib.hid (below_on B1.out b2'); have O1' := Lib.hid (O1.out.on b2'); have O2 := Lib.hid o2; have HZ12 := Lib.hid b2'.size; clear b2' o2))
    obtain ⟨A2, c2, rfl, hc2, hr2⟩ := O2.out.form
    have RW := Lib.hid O2.out.rdll
    have HZ1 := O1.out.block
    have hz12 : w1.heap.size ≤ w2.heap.size := HZ12.out
    clear hr2 hc2
    go_loopw [5, 7] (fun v i wx => ∃ j : Nat, j ≤ L2.length ∧ i = .int .i64 j ∧ Hid (Below w.heap.size w wx) ∧ Hid (w2.heap.size ≤ wx.heap.size ∧ ∀ b, w1.heap.size ≤ b → b < w2.heap.size → wx.heap[b]? = w2.heap[b]?) ∧ Hid (∀ g, v.ownBlock = some g → g < w1.heap.size ∨ w2.heap.size ≤ g) ∧ Hid (OwnL wx w.heap.size v (L1 ++ (L2.take j).map (· ++ [n])))) (fun _ i _ => L2.length - (intOf i).toNat)
    case atStart => exact ⟨0, Nat.zero_le _, rfl, B2.out, ⟨Nat.le_refl _, fun _ _ _ => rfl⟩, fun g hg => .inl (HZ1 g hg).2, by show OwnL _ _ _ _; simpa using O1'.out⟩
    case round =>
      obtain ⟨j, hj, rfl, HBx, HKP, HSEP, HO⟩ := hrel
      by_cases hlt : j < L2.length
      · obtain ⟨ad2, A', c', rfl, had, qx, hcx, hrx⟩ := (RW.out.keep HKP.out.1 HKP.out.2).rd.at hlt
        have hq0 : (ad2.add j).block < wr.heap.size := by rw [add_block]; exact had
        have hxl := HL.out j hlt
        have HTK := Lib.hid (show L2.take (j + 1) = L2.take j ++ [L2.getD j []] by rw [List.take_succ_eq_append_getElem hlt, List.getD_eq_getElem?_getD, List.getElem?_eq_getElem hlt]; rfl)
        generalize L2.getD j [] = x at *
        have hx6 : x.length ≤ 6 := by omega
        clear hxl
        obtain ⟨vs, ho1, ho2⟩ := HO.out
        have hvb := HO.out.block
        have HV1 := Lib.hid ho1
        have HV2 := Lib.hid ho2
        have HVB := Lib.hid hvb
        obtain ⟨M, hM⟩ : ∃ M, M = L1 ++ (L2.take j).map (· ++ [n]) := ⟨_, rfl⟩
        have hMl : M.length ≤ 64 := by rw [hM, List.length_append, List.length_map, List.length_take]; omega
        have HNX : Hid (L1 ++ (L2.take (j + 1)).map (· ++ [n]) = M ++ [x ++ [n]]) := by show _ = _; rw [HTK.out, List.map_append, hM, List.append_assoc]; rfl
        rw [← hM] at HV1 HV2
        clear ho1 ho2 hvb hM HO HTK
        have HVL := Lib.hid (show vs.length = M.length by have := HV1.out.1; simpa using this)
        have HX := Lib.hid hrx
        clear hrx
        have hzz := HBx.out.size
        have ta := Lib.hid trivial
        go_wp2_with (first
          | (have _t := ta; at_builtin; go_must (refine wpList_app _ rfl (.tmp 30) (.tmp 34) 23 3 (.int .i64 0) 1 8 rfl Tryz.underlying23 int_info rfl (by decide) wr.heap.size _ 0 _ rfl (OwnI.made wr wr.heap.size (Nat.le_refl _)) _ A' x.length c' (icells (ofN x)) rfl (shows_ofN (HX.out.up ((Below.refl _ _).alloc (Nat.le_refl _) _))) (icells_one _) (by simp only [maxLen]; omega) (by omega) (by simp) ?_); intro v4 w4 ho4 hg4 _; have B4 : Hid (Below wr.heap.size wr w4) := (below_grown (B := wr.heap.size) (a := wr) ((Below.refl wr.heap.size wr).alloc (Nat.le_refl _) _) hg4 (by simp) (fun g hg => (World.ownsRow.lt (OwnI.made wr wr.heap.size (Nat.le_refl _)) g hg).1)); have hsz4 := B4.out.size; replace ho4 := Lib.hid ho4; have tb := Lib.hid trivial; clear hg4 ta)
          | (have _t := tb; at_builtin; go_must (refine wpList_app _ rfl (.tmp 35) (.tmp 38) 23 3 (.int .i64 0) 1 8 rfl Tryz.underlying23 int_info rfl (by decide) wr.heap.size _ _ _ rfl (World.ownsRow.alloc ho4.out (.cells #[.int .i64 (n : Int)] 3)) (w4.heap.size + 1) (some ⟨w4.heap.size, 0, none⟩) 1 1 (icells [(n : Int)]) rfl (shows_new w4 #[.int .i64 (n : Int)] 3 1 1 rfl) (icells_one _) (by simp only [maxLen]; omega) (by omega) (by simp; omega) ?_); intro v5 w5 ho5 hg5 _; have B5 : Hid (Below wr.heap.size wr w5) := (below_grown (B := wr.heap.size) (a := wr) (B4.out.alloc B4.out.size _) hg5 (by simp; omega) (fun g hg => (World.ownsRow.lt ho4.out g hg).1)); have hsz5 := B5.out.size; replace ho5 := Lib.hid (OwnI.two (a := x) (b := [n]) rfl rfl ho5); clear hg5; obtain ⟨y, hy⟩ : ∃ y, y = x ++ [n] := ⟨_, rfl⟩; rw [← hy] at ho5 HNX; clear hy; obtain ⟨A5, c5, e5, hc5, hr5⟩ := ho5.out.form; subst e5; have HF5 := Lib.hid (own_far ho5.out); have HR5 := Lib.hid hr5; have HC5 := Lib.hid hc5; have tc := Lib.hid trivial; clear hr5 hc5 tb)
          | (have _t := tc; at_builtin; go_must (refine wpList_app _ rfl (.tmp 29) (.tmp 40) 96 23 (.slice none 0 0) 1 24 rfl Tryz.underlying96 slice_info rfl (by decide) w.heap.size _ M.length vs rfl (World.ownsRow.alloc (own_on HV1.out B5.out) (.cells #[.slice A5 y.length c5] 23)) (w5.heap.size + 1) (some ⟨w5.heap.size, 0, none⟩) 1 1 [.slice A5 y.length c5] rfl (shows_new w5 #[.slice A5 y.length c5] 23 1 1 rfl) (by simp [Value.oneCell']) (by simp only [maxLen]; omega) (by omega) (by simp; omega) ?_); intro v6 w6 ho6 hg6 hat6; replace ho6 := Lib.hid ho6; replace hg6 := Lib.hid hg6; replace hat6 := Lib.hid hat6))
        go_roundw
        case rel =>
          have h5 : Below wr.heap.size wr (w5.alloc (.cells #[.slice A5 y.length c5] 23)) := B5.out.alloc B5.out.size _
          have hz6 := hg6.out.size
          have hz5 := h5.size
          have hz0 := HKP.out.1
          refine ⟨j + 1, by omega, by go_num, ?_, ?_, ?_, ?_⟩
          · exact below_grown (below_on HBx.out h5) hg6.out (by omega) (fun g hg => (HVB.out g hg).1)
          · refine ⟨by omega, fun b h1 h2 => ?_⟩
            have e1 : w6.heap[b]? = (w5.alloc (.cells #[.slice A5 y.length c5] 23)).heap[b]? := hg6.out.block b (by omega) (fun e => by rcases HSEP.out b e.symm with h | h <;> omega)
            rw [e1, h5.block b (by omega)]
            exact HKP.out.2 b h1 h2
          · show ∀ g, _
            intro g hg
            rcases hat6.out with e | e
            · exact HSEP.out g (e.symm.trans hg)
            · rw [e] at hg
              injection hg with hg
              right
              omega
          · show OwnL _ _ _ _
            rw [HNX.out]
            exact OwnL.snoc HV2.out HVL.out (fun g hg => (HVB.out g hg).2) h5 (HR5.out.up ((Below.refl _ _).alloc (Nat.le_refl _) _)) HC5.out HF5.out hzz ho6.out hg6.out hat6.out
        case measure => simp [intOf]; omega
      · obtain rfl : j = L2.length := by omega
        have HRE : Hid (R = L1 ++ (L2.take L2.length).map (· ++ [n])) := by show _ = _; rw [List.take_length]; exact HSU.out
        go_wp2_with fail
        go_ret
        refine ⟨?_, _, rfl, by rw [HRE.out]; exact HO.out⟩
        exact HBx.out

end Go.Proofs.YtipaapplingbnaaGreatDoor
namespace Go.Proofs.YtipaapplingbnaaGreatDoor
open Go.RowKit Go.Deep

set_option maxRecDepth 100000 in
set_option maxHeartbeats 4000000 in
theorem rMvalid_any (w : World) (Ar : Option Addr) (cr : Nat) (rows : List Vc) (rr : RdV w w.heap.size Ar rows) (hr6 : rows.length ≤ 6) (hok : ∀ v ∈ rows, v.ok = true) :
    Calls Tryz.prog 54 #[.slice Ar rows.length cr] w fun e w' => e = .returned (.bool (volOk rows)) ∧ w = w' := by
  have RR := Lib.hid rr
  have HOK := Lib.hid hok
  clear rr hok
  obtain ⟨R, hR⟩ : ∃ R, volOk rows = R := ⟨_, rfl⟩
  rw [hR]
  have HR := Lib.hid hR
  clear hR
  go_enter Tryz.func54, Tryz.ntmps54
  go_wp2_with fail
  go_loop [3, 4] (fun s i => ∃ k : Nat, k ≤ rows.length ∧ i = .int .i64 k ∧ s = .int .i64 (vol (rows.take k) : Nat) ∧ vol (rows.take k) ≤ 1000000000) (fun _ i => rows.length - (intOf i).toNat)
  case atStart => exact ⟨0, Nat.zero_le _, rfl, rfl, by simp [vol]⟩
  case round =>
    obtain ⟨k, hk, rfl, rfl, hvol⟩ := hrel
    by_cases hlt : k < rows.length
    · obtain ⟨ad, rfl, had, -, hca⟩ := RR.out.at hlt
      have hv := Lib.hid (HOK.out _ (List.getElem_mem hlt))
      have HVN := Lib.hid (show vol (rows.take (k + 1)) = vol (rows.take k) * fac rows[k] by rw [List.take_succ_eq_append_getElem hlt, vol_snoc])
      have HVT := Lib.hid (vol_take rows (k + 1))
      have HCA := Lib.hid hca
      clear hca
      generalize rows[k] = v at *
      generalize hV : vol (rows.take k) = V at *
      have hV1 : 1 ≤ V := by rw [← hV]; exact vol_pos _
      clear hV
      go_wp2_with fail
      go_loop [5, 6] (fun s j => ∃ m : Nat, m ≤ 6 ∧ j = .int .i64 m ∧ s = .int .i64 (asum v m : Nat)) (fun _ j => 6 - (intOf j).toNat)
      case atStart => exact ⟨0, by omega, rfl, rfl⟩
      case round =>
        obtain ⟨m, hm, rfl, rfl⟩ := hrel
        by_cases hm6 : m < 6
        · have hm6i : (m : Int) < 6 := by omega
          have hcx := HCA.out m hm6
          have hx := (Vc.ok_iff v).1 hv.out m hm6
          have HS := Lib.hid (show asum v (m + 1) = asum v m + (v.at m).natAbs from rfl)
          have hsb := asum_le hv.out m hm
          have b1 : -48 ≤ v.at m := by omega
          have b2 : v.at m ≤ 48 := by omega
          have hmx : max (v.at m) (-v.at m) = (((v.at m).natAbs : Nat) : Int) := by omega
          generalize v.at m = x at *
          generalize x.natAbs = y at *
          go_wp2_with fail
          go_round
          case rel => exact ⟨m + 1, by omega, by go_num, by rw [HS.out]; go_num⟩
          case measure => simp [intOf]; omega
        · obtain rfl : m = 6 := by omega
          have hsb := asum_le hv.out 6 (by omega)
          have hf : fac v = if asum v 6 = 0 then 1 else asum v 6 := rfl
          generalize asum v 6 = s at *
          have hfb : fac v ≤ 288 := by rw [hf]; split <;> omega
          have hf1 := fac_pos v
          by_cases hs0 : s = 0
          · rw [if_pos hs0] at hf
            have HV2 := Lib.hid (HVN.out.trans (by rw [hf, Nat.mul_one]))
            subst hs0
            clear hf hfb hf1 HVN
            go_wp2_with fail
            go_round
            case rel => exact ⟨k + 1, by omega, by go_num, by rw [HV2.out], by rw [HV2.out]; exact hvol⟩
            case measure => simp [intOf]; omega
          · rw [if_neg hs0] at hf
            have hs1 : (0 : Int) < (s : Int) := by omega
            obtain ⟨P, hP⟩ : ∃ P, V * s = P := ⟨_, rfl⟩
            have hPi : (V : Int) * (s : Int) = (P : Int) := by rw [← hP, Int.natCast_mul]
            have hPb : P ≤ 288000000000 := by
              rw [← hP]
              exact Nat.le_trans (Nat.mul_le_mul hvol (by omega)) (by decide)
            have HV2 := Lib.hid (HVN.out.trans (by rw [hf, hP]))
            clear hP hf hfb hf1 HVN hs0
            by_cases hbig : P ≤ 1000000000
            · go_wp2_with fail
              go_round
              case rel => exact ⟨k + 1, by omega, by go_num, by rw [HV2.out], by rw [HV2.out]; exact hbig⟩
              case measure => simp [intOf]; omega
            · have HF : Hid (R = false) := HR.out.symm.trans (decide_eq_false (by have := HVT.out; rw [HV2.out] at this; omega))
              go_wp2_with fail
              go_ret
              exact ⟨by rw [HF.out]; rfl, rfl⟩
    · obtain rfl : k = rows.length := by omega
      have HF : Hid (R = true) := HR.out.symm.trans (decide_eq_true (by rw [List.take_length] at hvol; exact hvol))
      go_wp2_with fail
      go_ret
      exact ⟨by rw [HF.out]; rfl, rfl⟩

end Go.Proofs.YtipaapplingbnaaGreatDoor
namespace Go.Proofs.YtipaapplingbnaaGreatDoor
open Go.RowKit Go.Deep

/-- The rows and columns that have been found in the first k columns. -/
structure Gr (rows : List Vc) (k : Nat) (is js : List Nat) : Prop where
  d : Dt (rowf rows is) js ≠ 0
  hi : ∀ i ∈ is, i < rows.length
  hj : ∀ c ∈ js, c < k
  len : is.length = js.length
  jk : js.length ≤ k
  hangs : ∀ c, c < k → c ∉ js → Hangs (rows.map Vc.at) js c
theorem Gr.start (rows : List Vc) : Gr rows 0 [] [] := ⟨by simp [rowf, Dt, WW, one0], by simp, by simp, rfl, by simp, fun c hc => by omega⟩
theorem Gr.isle {k : Nat} {rows : List Vc} {is js : List Nat} (h : Gr rows k is js) : is.length ≤ rows.length := by
  have hn := rowsAt_nodup (by rw [← rowf_eq]; exact h.d)
  have := nodup_sub (m := List.range rows.length) hn (fun x hx => List.mem_range.2 (h.hi x hx))
  simpa using this
theorem Gr.pass {k : Nat} {rows : List Vc} {is js : List Nat} (h : Gr rows k is js) (hz : ∀ i, i < rows.length → Dt (rowf rows (is ++ [i])) (js ++ [k]) = 0) : Gr rows (k + 1) is js :=
  ⟨h.d, h.hi, fun c hc => by have := h.hj c hc; omega, h.len, by have := h.jk; omega, fun c hc hcj => by
    rcases Nat.lt_or_ge c k with h1 | h1
    · exact h.hangs c h1 hcj
    · obtain rfl : c = k := by omega
      have hd := h.d
      rw [rowf_eq] at hd
      refine hangs_of hd fun r hr => ?_
      obtain ⟨i, hi, rfl⟩ := List.mem_iff_getElem.1 hr
      have hi' : i < rows.length := by simpa using hi
      have := hz i hi'
      rw [rowf_eq] at this
      have e : rowsAt (rows.map Vc.at) (is ++ [i]) = rowsAt (rows.map Vc.at) is ++ [(rows.map Vc.at)[i]] := by
        simp [rowsAt, rowAt, List.getD_eq_getElem?_getD, hi']
      rw [e] at this
      exact this⟩
theorem Gr.take {k i : Nat} {rows : List Vc} {is js : List Nat} (h : Gr rows k is js) (hi : i < rows.length) (hd : Dt (rowf rows (is ++ [i])) (js ++ [k]) ≠ 0) : Gr rows (k + 1) (is ++ [i]) (js ++ [k]) :=
  ⟨hd, fun x hx => by
    rcases List.mem_append.1 hx with hx | hx
    · exact h.hi x hx
    · obtain rfl := List.mem_singleton.1 hx; exact hi, fun c hc => by
    rcases List.mem_append.1 hc with hc | hc
    · have := h.hj c hc; omega
    · obtain rfl := List.mem_singleton.1 hc; omega, by simp [h.len], by have := h.jk; simp; omega, fun c hc hcj => by
    have hcj' : c ∉ js := fun e => hcj (List.mem_append_left _ e)
    have hck : c ≠ k := fun e => hcj (by rw [e]; simp)
    exact (h.hangs c (by omega) hcj').more (fun x hx => List.mem_append_left _ hx)⟩
theorem Gr.full {rows : List Vc} {is js : List Nat} (h : Gr rows 6 is js) : is.length = rows.length ↔ Indep 6 (rows.map Vc.at) := by
  have := greedy_full (rows := rows.map Vc.at) (is := is) (js := js) (m := 6) (by rw [← rowf_eq]; exact h.d) (fun i hi => by simpa using h.hi i hi) h.hj h.hangs
  simpa using this
/-- Where greedy's variables lie. -/
structure GrAt (w wx : World) (is js : List Nat) (vi vj : Value) : Prop where
  below : Below w.heap.size w wx
  blk : Blk wx (w.heap.size + 1) 92 #[vi, vj]
  res : Blk wx w.heap.size 92 #[.slice none 0 0, .slice none 0 0]
  oi : OwnI wx (w.heap.size + 2) vi is
  oj : OwnI wx (w.heap.size + 2) vj js
theorem GrAt.on {w wx wy : World} {is js : List Nat} {vi vj : Value} (h : GrAt w wx is js vi vj) (hb : Below wx.heap.size wx wy) : GrAt w wy is js vi vj :=
  ⟨below_on h.below hb, h.blk.below hb h.blk.lt, h.res.below hb h.res.lt, h.oi.on hb, h.oj.on hb⟩
theorem OwnI.made1 (w : World) (o : Obj) (base : Nat) (h : base ≤ w.heap.size) : OwnI ((w.alloc o).alloc (.cells #[] 3)) base (.slice (some ⟨w.heap.size + 1, 0, none⟩) 0 0) [] := by
  have := OwnI.made (w.alloc o) base (by simp; omega)
  rw [World.size_alloc] at this
  exact this
theorem Blk.set2 {w : World} {g : Nat} {t : TypeId} {c0 c1 : Value} (h : Blk w g t #[c0, c1]) (v0 v1 : Value) : Blk ((w.setCell ⟨g, 0, none⟩ v0).setCell ⟨g, 1, none⟩ v1) g t #[v0, v1] := by
  have := (h.set_ 0 v0).set_ 1 v1
  simpa using this
/-- An append inside a region that draws; wherever the source lies. -/
theorem step_appx {P : Program} (w : World) {ops : Array Oper} {o : Oper} {a : Act} {K : Act → World → Prop} {Q : Exit → Act → World → Prop} {E : Prop} (hgd : o.guard = none) (s x : Operand) (t e : TypeId) (z : Value) (size bytes : Nat)
    (ho : o.op = .call { callee := .builtin .append, args := #[s, x], argTypes := #[t, t] }) (ht : P.underlying t = some (.slice e)) (hinf : (P.info? e).map (fun i => (i.zero, i.size, i.bytes)) = some (some z, size, bytes)) (hzs : z.cells.size = size) (hsz : 0 < size)
    (base : Nat) (v : Value) (n : Nat) (xs : List Value) (hs : a.eval s = v) (hown : w.ownsRow base e size v n xs)
    (A : Option Addr) (m c : Nat) (news : List Value) (hx : a.eval x = .slice A m c) (hr : ∃ B, Shows w B size A m news) (h1 : ∀ u ∈ news, u.oneCell' = true)
    (h63 : n + m ≤ maxLen) (hbytes : (n + m) * bytes ≤ 140737488355328) (hbase : base ≤ w.heap.size)
    (h : ∀ v' w', w'.ownsRow base e size v' (n + m) (xs ++ news) → w.grownBy w' v.ownBlock → (v'.ownBlock = v.ownBlock ∨ v'.ownBlock = some w.heap.size) → K (a.put o.dst v') w') :
    if Region.wanted o (yielded ops a.tmps) = true then Oper.wp P o a w K Q else E := by
  obtain ⟨B, hr⟩ := hr
  have hw : Region.wanted o (yielded ops a.tmps) = true := by simp [Region.wanted, hgd]
  rw [if_pos hw]
  obtain ⟨i0, hi, hz0, hz1, hz2⟩ := info_parts hinf
  exact wp_app w s x _ ho base _ i0 _ size bytes ht hi hz0 hz1 hz2 hzs hsz v n xs hs hown B A m c news hx hr h1 h63 hbytes hbase h

theorem far1 (w : World) (o : Obj) (cs : Array Value) (t : TypeId) (n size : Nat) (hn : cs.size = n * size) {w' : World} {r : Option Nat} (hg : ((w.alloc o).alloc (.cells cs t)).drew.grownBy w' r) (hr : r = some w.heap.size) : ∃ B, Shows w' B size (some ⟨w.heap.size + 1, 0, none⟩) n cs.toList :=
  ⟨_, shows_far (Shows.drew (shows_new1 w o cs t n size hn)) hg (by simp) (by rw [hr]; simp)⟩
theorem far2 (w : World) (o : Obj) (cs : Array Value) (t : TypeId) (n size : Nat) (hn : cs.size = n * size) {w' : World} {r : Option Nat} (hg : ((w.alloc (.cells cs t)).alloc o).drew.grownBy w' r) (hr : r = some (w.heap.size + 1)) : ∃ B, Shows w' B size (some ⟨w.heap.size, 0, none⟩) n cs.toList :=
  ⟨_, shows_far (Shows.drew (Shows.alloc (shows_new w cs t n size hn) (by simp) o)) hg (by simp; omega) (by rw [hr]; simp)⟩
theorem OwnI.two1 {w : World} {base k : Nat} {v : Value} {a : List Nat} {x : Nat} (ha : a.length = k) (h : w.ownsRow base 3 1 v (0 + k + 1) (icells (ofN []) ++ icells (ofN a) ++ [.int .i64 (x : Int)])) : OwnI w base v (a ++ [x]) :=
  OwnI.two (b := [x]) ha rfl h

end Go.Proofs.YtipaapplingbnaaGreatDoor
namespace Go.Proofs.YtipaapplingbnaaGreatDoor
open Go.RowKit Go.Deep

def GreedyIs (w : World) (rows : List Vc) (e : Ending) (w' : World) : Prop :=
  Below w.heap.size w w' ∧ ∃ (Ai Aj : Option Addr) (ci cj n nj : Nat), e = .returned (.agg #[.slice Ai n ci, .slice Aj nj cj]) ∧ (n = rows.length ↔ Indep 6 (rows.map Vc.at))

set_option maxRecDepth 100000 in
set_option maxHeartbeats 4000000 in
theorem greedy_any (w : World) (Ar Ao : Option Addr) (cr co : Nat) (rows : List Vc) (rr : RdV w w.heap.size Ar rows) (ro : RdI w w.heap.size Ao (ofN [0, 1, 2, 3, 4, 5])) (hr6 : rows.length ≤ 6) (hok : ∀ v ∈ rows, v.ok = true) :
    Calls Tryz.prog 55 #[.slice Ar rows.length cr, .slice Ao 6 co] w (GreedyIs w rows) := by
  have RR := Lib.hid rr
  have RO := Lib.hid ro
  have HOK := Lib.hid hok
  clear rr ro hok
  go_enter Tryz.func55, Tryz.ntmps55
  go_wp2_with fail
  go_loopw [6] (fun i wx => ∃ k : Nat, k ≤ 6 ∧ i = .int .i64 k ∧ ∃ is js vi vj, Hid (Gr rows k is js) ∧ Hid (GrAt w wx is js vi vj)) (fun i _ => 6 - (intOf i).toNat)
  case atStart =>
    refine ⟨0, by omega, rfl, [], [], .slice none 0 0, .slice none 0 0, Gr.start rows, ?_⟩
    exact ⟨((Below.refl w.heap.size w).alloc (Nat.le_refl _) _).alloc (by simp) _, by
      have := Blk.new (w.alloc (.cells #[.slice none 0 0, .slice none 0 0] 92)) 92 #[.slice none 0 0, .slice none 0 0]
      simpa using this, (Blk.new w 92 _).alloc _, OwnI.start _ _, OwnI.start _ _⟩
  case round =>
    obtain ⟨k, hk, rfl, is, js, vi, vj, HG, HF⟩ := hrel
    by_cases hlt : k < 6
    · have hki : (k : Int) < 6 := by omega
      have hjk := HG.out.jk
      have hij := HG.out.len
      obtain ⟨Ai, ci, rfl, -, -⟩ := HF.out.oi.form
      obtain ⟨Aj, cj, rfl, hcj, hrj⟩ := HF.out.oj.form
      obtain ⟨ao, rfl, hao, ho⟩ := (RO.out.up HF.out.below).at (i := k) (by simp [ofN]; omega)
      rw [ofN_six k hlt] at ho
      have b1 := HF.out.blk.cell 1
      simp at b1
      have hwz := HF.out.blk.lt
      have hq1 : (ao.add k).block < wr.heap.size := by rw [add_block]; exact hao
      have HJS := Lib.hid fun W (hb : Below wr.heap.size wr W) => shows_ofN (hrj.up hb)
      have HKS : Hid (∀ W, Below wr.heap.size wr W → Below wr.heap.size wr W ∧ W.cell? ⟨w.heap.size + 1, 1, none⟩ = some (.slice Aj js.length cj) ∧ W.cell? (ao.add k) = some (.int .i64 (k : Int))) := fun W hb => ⟨hb, (hb.cell (p := ⟨w.heap.size + 1, 1, none⟩) hwz).trans b1, (hb.cell hq1).trans ho⟩
      have HIJ := Lib.hid hij
      clear hij hrj
      go_wp2_with fail
      go_cut [7] (fun v wx => Hid (Below wr.heap.size wr wx) ∧ Hid (OwnI wx wr.heap.size v (js ++ [k])))
      case first =>
        go_region_held3 (fun w' => Below wr.heap.size wr w' ∧ w'.cell? ⟨w.heap.size + 1, 1, none⟩ = some (.slice Aj js.length cj) ∧ w'.cell? (ao.add k) = some (.int .i64 (k : Int)))
          ((refine HKS.out _ ?_; first
            | exact (Below.refl _ _).drew
            | exact Below.refl _ _
            | exact ((Below.refl _ _).alloc (Nat.le_refl _) _).drew
            | exact (((Below.refl _ _).alloc (Nat.le_refl _) _).alloc (by simp) _).drew
            | exact hbel4
            | exact hbel4.alloc hsz4 _
            | exact hbel5))
          ((have hS : Below wr.heap.size wr _ ∧ _ := (by assumption); first
          | (refine step_appx _ rfl (.tmp 16) (.tmp 18) 23 3 (.int .i64 0) 1 8 rfl Tryz.underlying23 int_info rfl (by decide) wr.heap.size _ 0 (icells (ofN [])) rfl ?_ Aj js.length cj (icells (ofN js)) rfl ⟨_, (HJS.out _ hS.1)⟩ (icells_one _) (by simp only [maxLen]; omega) (by omega) ?_ ?_; (first | exact (OwnI.made wr wr.heap.size (Nat.le_refl _)).drew | exact ((OwnI.made wr wr.heap.size (Nat.le_refl _)).alloc (.cells #[.int .i64 (k : Int)] 3)).drew | exact (OwnI.made1 wr (.cells #[.int .i64 (k : Int)] 3) wr.heap.size (Nat.le_refl _)).drew); (first | exact Nat.le_refl _ | (simp <;> omega)); intro v4 w4 ho4 hg4 _; have hbel4 := below_grown (B := wr.heap.size) (a := wr) hS.1 hg4 (by first | exact Nat.le_refl _ | (simp <;> omega)) (fun g hg => by have h2 : some wr.heap.size = some g ∨ some (wr.heap.size + 1) = some g := (by first | exact .inl hg | exact .inr hg); rcases h2 with h2 | h2 <;> (injection h2 with h2; omega)); have hsz4 := hbel4.size; have hob4 := fun g hg => (World.ownsRow.lt ho4 g hg).1; have hgs4 := hg4.size)
          | (refine step_appx _ rfl (.tmp 19) (.tmp 24) 23 3 (.int .i64 0) 1 8 rfl Tryz.underlying23 int_info rfl (by decide) wr.heap.size _ (0 + js.length) (icells (ofN []) ++ icells (ofN js)) rfl ?_ _ 1 1 [.int .i64 (k : Int)] rfl ?_ (by simp [Value.oneCell']) (by simp only [maxLen]; omega) (by omega) ?_ ?_; (first | exact World.ownsRow.alloc ho4 (.cells #[.int .i64 (k : Int)] 3) | exact ho4); (first | exact ⟨_, shows_new w4 #[.int .i64 (k : Int)] 3 1 1 rfl⟩ | exact far1 wr (.cells #[] 3) #[.int .i64 (k : Int)] 3 1 1 rfl hg4 rfl | exact far2 wr (.cells #[] 3) #[.int .i64 (k : Int)] 3 1 1 rfl hg4 rfl); (first | omega | (simp <;> omega)); intro v5 w5 ho5 hg5 _; have hbel5 := below_grown (B := wr.heap.size) (a := wr) hS.1 hg5 (by first | omega | (simp <;> omega)) (fun g hg => hob4 g hg); have HJ := Lib.hid (OwnI.two1 rfl ho5); have HB5 := Lib.hid hbel5)))
        all_goals
          go_wp2_with fail
          go_meet
          case rel => exact ⟨HB5.out, HJ.out⟩
      case rest =>
        obtain ⟨HB5, HJ⟩ := hcut
        have hw5 := HB5.out.size
        clear b1 ho HKS HJS hq1
        obtain ⟨A3, c3, rfl, -⟩ := HJ.out.form1
        have HF3 := Lib.hid (HF.out.on HB5.out)
        obtain ⟨wo, hwo⟩ : ∃ wo, wo = wc := ⟨_, rfl⟩
        subst hwo
        go_wp2_with fail
        go_loopw [8] (fun i wx => FiRel wo rows is js k i wx) (fun i _ => rows.length - (intOf i).toNat)
        case atStart => exact ⟨0, Nat.zero_le _, rfl, Below.refl _ _, fun i hi => by omega⟩
        case round =>
          obtain ⟨n, hn, rfl, hB, HZ⟩ := hrel
          by_cases hnt : n < rows.length
          · have HW := Lib.hid (HF3.out.on hB)
            have hile := HG.out.isle
            obtain ⟨Ai', ci', ei, hci', hri⟩ := HW.out.oi.form
            injection ei with ei1 ei2 ei3
            subst ei1 ei3
            have b1 := HW.out.blk.cell 0
            simp at b1
            have HIS := Lib.hid fun W (hb : Below wr.heap.size wr W) => shows_ofN (hri.up hb)
            have hwz2 := HW.out.blk.lt
            clear hri hci' ei2
            have HMN := Lib.hid fun (w1 : World) (hb : Below wr.heap.size wr w1) (A5 : Option Addr) (c5 : Nat) (hc5 : is.length + 1 ≤ c5) (h5 : RdI w1 w1.heap.size A5 (ofN (is ++ [n]))) => rMinor_any (is ++ [n]).length w1 Ar A5 A3 cr c5 c3 rows (is ++ [n]) (js ++ [k]) rfl (RR.out.up (below_on HW.out.below hb)) h5 (by
                obtain ⟨A', c', e', r'⟩ := HJ.out.form1
                injection e' with e'
                subst e'
                exact r'.up (below_on hB hb)) (by rw [List.length_append]; exact hc5) (by
                obtain ⟨A', c', e', hc', r'⟩ := HJ.out.form
                injection e' with e1 e2 e3
                subst e3
                exact hc') (by rw [List.length_append, List.length_append, HIJ.out]; rfl) (by simp; omega) (by omega) (fun c hc => by
                rcases List.mem_append.1 hc with hc | hc
                · have := HG.out.hj c hc; omega
                · obtain rfl := List.mem_singleton.1 hc; exact hlt) (fun x hx => by
                rcases List.mem_append.1 hx with hx | hx
                · exact HG.out.hi x hx
                · obtain rfl := List.mem_singleton.1 hx; exact hnt) HOK.out
            rw [show (is ++ [n]).length = is.length + 1 by simp, show (js ++ [k]).length = js.length + 1 by simp] at HMN
            have HZ2 : Hid (Dt (rowf rows (is ++ [n])) (js ++ [k]) = 0 → ∀ i', i' < n + 1 → Dt (rowf rows (is ++ [i'])) (js ++ [k]) = 0) := fun h0 i' hi' => by
              rcases Nat.lt_or_ge i' n with h | h
              · exact HZ.out i' h
              · obtain rfl : i' = n := by omega
                exact h0
            have HTK := Lib.hid fun (hd : Dt (rowf rows (is ++ [n])) (js ++ [k]) ≠ 0) => HG.out.take hnt hd
            generalize Dt (rowf rows (is ++ [n])) (js ++ [k]) = d at *
            have ta := Lib.hid trivial
            have hil5 : is.length ≤ 6 := by omega
            by_cases hd : d = 0
            · go_wp2_with (first
                | (have _t := ta; at_builtin; refine wpList_app _ rfl (.tmp 32) (.tmp 34) 23 3 (.int .i64 0) 1 8 rfl Tryz.underlying23 int_info rfl (by decide) wr.heap.size _ 0 (icells (ofN [])) rfl (OwnI.made wr wr.heap.size (Nat.le_refl _)) _ Ai is.length ci (icells (ofN is)) rfl (HIS.out _ ((Below.refl _ _).alloc (Nat.le_refl _) _)) (icells_one _) (by simp only [maxLen]; omega) (by omega) (by simp) ?_; intro v3 w3 ho3 hg3 _; have B3 : Hid (Below wr.heap.size wr w3) := (below_grown (B := wr.heap.size) (a := wr) ((Below.refl wr.heap.size wr).alloc (Nat.le_refl _) _) hg3 (by simp) (fun g hg => (World.ownsRow.lt (OwnI.made wr wr.heap.size (Nat.le_refl _)) g hg).1)); have hsz3 := B3.out.size; replace ho3 := Lib.hid ho3; have tb := Lib.hid trivial; clear hg3 ta)
                | (have _t := tb; at_builtin; refine wpList_app _ rfl (.tmp 35) (.tmp 37) 23 3 (.int .i64 0) 1 8 rfl Tryz.underlying23 int_info rfl (by decide) wr.heap.size _ (0 + is.length) _ rfl (World.ownsRow.alloc ho3.out (.cells #[.int .i64 (n : Int)] 3)) (w3.heap.size + 1) (some ⟨w3.heap.size, 0, none⟩) 1 1 [.int .i64 (n : Int)] rfl (shows_new w3 #[.int .i64 (n : Int)] 3 1 1 rfl) (by simp [Value.oneCell']) (by simp only [maxLen]; omega) (by omega) (by simp; omega) ?_; intro v4 w4 ho4 hg4 _; have HB4 : Hid (Below wr.heap.size wr w4) := (below_grown (B := wr.heap.size) (a := wr) (B3.out.alloc B3.out.size _) hg4 (by simp; omega) (fun g hg => (World.ownsRow.lt ho3.out g hg).1)); have HJ4 := Lib.hid (OwnI.two1 rfl ho4); clear ho4 hg4 tb; obtain ⟨A5, c5, rfl, r5⟩ := HJ4.out.form1; have hc5 : is.length + 1 ≤ c5 := (by obtain ⟨A', c', e', hc', r'⟩ := HJ4.out.form; injection e' with e1 e2 e3; subst e3; simpa using hc'); have HM5 := Lib.hid (HMN.out _ HB4.out A5 c5 hc5 r5); clear r5 hc5)
                | (go_at_call 39; refine HM5.out.mono ?_; rintro e w6 ⟨rfl, b6⟩; have HB6 := Lib.hid b6; clear b6))
              go_roundw
              case rel => exact ⟨n + 1, by omega, by go_num, below_on (below_on hB HB4.out) HB6.out, HZ2.out hd⟩
              case measure => simp [intOf]; omega
            · have hd' : (d != 0) = true := by rw [bne_iff_ne]; exact hd
              go_wp2_with (first
                | (have _t := ta; at_builtin; refine wpList_app _ rfl (.tmp 32) (.tmp 34) 23 3 (.int .i64 0) 1 8 rfl Tryz.underlying23 int_info rfl (by decide) wr.heap.size _ 0 (icells (ofN [])) rfl (OwnI.made wr wr.heap.size (Nat.le_refl _)) _ Ai is.length ci (icells (ofN is)) rfl (HIS.out _ ((Below.refl _ _).alloc (Nat.le_refl _) _)) (icells_one _) (by simp only [maxLen]; omega) (by omega) (by simp) ?_; intro v3 w3 ho3 hg3 _; have B3 : Hid (Below wr.heap.size wr w3) := (below_grown (B := wr.heap.size) (a := wr) ((Below.refl wr.heap.size wr).alloc (Nat.le_refl _) _) hg3 (by simp) (fun g hg => (World.ownsRow.lt (OwnI.made wr wr.heap.size (Nat.le_refl _)) g hg).1)); have hsz3 := B3.out.size; replace ho3 := Lib.hid ho3; have tb := Lib.hid trivial; clear hg3 ta)
                | (have _t := tb; at_builtin; refine wpList_app _ rfl (.tmp 35) (.tmp 37) 23 3 (.int .i64 0) 1 8 rfl Tryz.underlying23 int_info rfl (by decide) wr.heap.size _ (0 + is.length) _ rfl (World.ownsRow.alloc ho3.out (.cells #[.int .i64 (n : Int)] 3)) (w3.heap.size + 1) (some ⟨w3.heap.size, 0, none⟩) 1 1 [.int .i64 (n : Int)] rfl (shows_new w3 #[.int .i64 (n : Int)] 3 1 1 rfl) (by simp [Value.oneCell']) (by simp only [maxLen]; omega) (by omega) (by simp; omega) ?_; intro v4 w4 ho4 hg4 _; have HB4 : Hid (Below wr.heap.size wr w4) := (below_grown (B := wr.heap.size) (a := wr) (B3.out.alloc B3.out.size _) hg4 (by simp; omega) (fun g hg => (World.ownsRow.lt ho3.out g hg).1)); have HJ4 := Lib.hid (OwnI.two1 rfl ho4); clear ho4 hg4 tb; obtain ⟨A5, c5, rfl, r5⟩ := HJ4.out.form1; have hc5 : is.length + 1 ≤ c5 := (by obtain ⟨A', c', e', hc', r'⟩ := HJ4.out.form; injection e' with e1 e2 e3; subst e3; simpa using hc'); have HM5 := Lib.hid (HMN.out _ HB4.out A5 c5 hc5 r5); clear r5 hc5)
                | (go_at_call 39; refine HM5.out.mono ?_; rintro e w6 ⟨rfl, b6⟩; have HB6 := Lib.hid b6; have HW6 := Lib.hid (HW.out.on (below_on HB4.out b6)); have p1 := HW6.out.blk.cell 0; have p2 := HW6.out.blk.cell 1; have z1 := HW6.out.blk.frozen 0; have z2 := HW6.out.blk.frozen 1; simp at p1 p2; clear b6))
              have HBW := below_on HB4.out HB6.out
              have K1 := Blk.set2 HW6.out.blk (.slice A5 (is.length + 1) c5) (.slice A3 (js.length + 1) c3)
              have O4 := ((((HJ4.out.on HB6.out).lower (Nat.succ_le_of_lt HW.out.blk.lt)).far (p := ⟨w.heap.size + 1, 0, none⟩) (by simp) (.slice A5 (is.length + 1) c5)).far (p := ⟨w.heap.size + 1, 1, none⟩) (by simp) (.slice A3 (js.length + 1) c3))
              have O3 := (((((HJ.out.on hB).on HBW).lower (Nat.succ_le_of_lt HF.out.blk.lt)).far (p := ⟨w.heap.size + 1, 0, none⟩) (by simp) (.slice A5 (is.length + 1) c5)).far (p := ⟨w.heap.size + 1, 1, none⟩) (by simp) (.slice A3 (js.length + 1) c3))
              have R6 := ((HW6.out.res.far (p := ⟨w.heap.size + 1, 0, none⟩) (by simp) (.slice A5 (is.length + 1) c5)).far (p := ⟨w.heap.size + 1, 1, none⟩) (by simp) (.slice A3 (js.length + 1) c3))
              have HN : Hid (GrAt w _ (is ++ [n]) (js ++ [k]) _ _) := ⟨((HW6.out.below.setCell (p := ⟨w.heap.size + 1, 0, none⟩) (by simp) (.slice A5 (is.length + 1) c5)).setCell (p := ⟨w.heap.size + 1, 1, none⟩) (by simp) (.slice A3 (js.length + 1) c3)), K1, R6, O4, O3⟩
              go_roundw
              case rel => exact ⟨k + 1, by omega, by go_num, is ++ [n], js ++ [k], _, _, HTK.out hd, HN⟩
              case measure => simp [intOf]; omega
          · obtain rfl : n = rows.length := by omega
            have HN := Lib.hid (HG.out.pass (fun i hi => HZ.out i hi))
            have HN2 := Lib.hid (HF3.out.on hB)
            go_wp2_with fail
            go_roundw
            case rel => exact ⟨k + 1, by omega, by go_num, is, js, _, _, HN.out, HN2.out⟩
            case measure => simp [intOf]; omega
    · obtain rfl : k = 6 := by omega
      have hfull := HG.out.full
      have hile := HG.out.isle
      obtain ⟨Ai, ci, rfl, -, -⟩ := HF.out.oi.form
      obtain ⟨Aj, cj, rfl, -, -⟩ := HF.out.oj.form
      have b0 := HF.out.blk.cell 0
      have b1 := HF.out.blk.cell 1
      have r0 := HF.out.res.cell 0
      have r1 := HF.out.res.cell 1
      have f0 := HF.out.res.frozen 0
      have f1 := HF.out.res.frozen 1
      simp at b0 b1 r0 r1
      have hsz : (Tryz.prog.info? 92).map (·.size) = some 2 := by kernel_rfl
      have HB0 := Lib.hid HF.out.below
      have R4 := Lib.hid (Blk.set2 HF.out.res (.slice Ai is.length ci) (.slice Aj js.length cj))
      have HSZ := Lib.hid hsz
      have HFULL := Lib.hid hfull
      clear hsz hfull HF
      go_wp2_with fail
      refine bodyPost_ret (results_cell rfl _ ⟨w.heap.size, 0, none⟩ rfl _ Tryz.underlying92 rfl _ #[.slice Ai is.length ci, .slice Aj js.length cj] HSZ.out (fun j v hv => ?_)) rfl ?_
      · rw [show (⟨w.heap.size, 0, none⟩ : Addr).add j = ⟨w.heap.size, j, none⟩ from by unfold Addr.add; split <;> simp_all, R4.out.cell j, ← hv]
        simp
      · exact ⟨(HB0.out.setCell (Nat.le_refl _) _).setCell (Nat.le_refl _) _, Ai, Aj, ci, cj, is.length, js.length, rfl, HFULL.out⟩

end Go.Proofs.YtipaapplingbnaaGreatDoor
namespace Go.Proofs.YtipaapplingbnaaGreatDoor
open Go.RowKit Go.Deep

set_option maxRecDepth 100000 in
set_option maxHeartbeats 1000000 in
theorem field_bs (d : Value) (A : Option Addr) (n cap : Nat) (w : World) : (Instr.field 92 (.agg #[.slice A n cap, d]) 0).run Tryz.prog w = .ok (.slice A n cap) w := by rfl
set_option maxRecDepth 100000 in
set_option maxHeartbeats 1000000 in
theorem rRank_bad (w : World) (Ar : Option Addr) (cr : Nat) (rows : List Vc) (rr : RdV w w.heap.size Ar rows) (hr6 : rows.length ≤ 6) (hok : ∀ v ∈ rows, v.ok = true) (hv : volOk rows = false) :
    Calls Tryz.prog 30 #[.slice Ar rows.length cr] w fun e w' => e = .returned (.tuple #[.int .i64 0, .int .i64 1]) ∧ Below w.heap.size w w' := by
  have HV := Lib.hid (rMvalid_any w Ar cr rows rr hr6 hok)
  rw [hv] at HV
  clear rr hok hv
  go_enter Tryz.func30, Tryz.ntmps30
  go_wp2_with (go_at_call 54; refine HV.out.mono ?_; rintro e w1 ⟨rfl, rfl⟩)
  go_ret2
  exact ⟨rfl, Below.refl _ _⟩
set_option maxRecDepth 100000 in
set_option maxHeartbeats 1000000 in
theorem rRank_good (w : World) (Ar : Option Addr) (cr : Nat) (rows : List Vc) (rr : RdV w w.heap.size Ar rows) (hr6 : rows.length ≤ 6) (hok : ∀ v ∈ rows, v.ok = true) (hv : volOk rows = true) :
    Calls Tryz.prog 30 #[.slice Ar rows.length cr] w fun e w' => Below w.heap.size w w' ∧ ∃ n : Nat, e = .returned (.tuple #[.int .i64 n, .int .i64 0]) ∧ (n = rows.length ↔ Indep 6 (rows.map Vc.at)) := by
  have HV := Lib.hid (rMvalid_any w Ar cr rows rr hr6 hok)
  rw [hv] at HV
  have HF := Lib.hid fun (w1 : World) (hb : Below w.heap.size w w1) (Ao : Option Addr) (ro : RdI w1 w1.heap.size Ao (ofN [0, 1, 2, 3, 4, 5])) => greedy_any w1 Ar Ao cr 6 rows (rr.up hb) ro hr6 hok
  clear rr hok hv
  have hfi := field_bs
  have hb0 := Lib.hid ((Below.refl w.heap.size w).alloc (Nat.le_refl _) (.cells #[.int .i64 0, .int .i64 1, .int .i64 2, .int .i64 3, .int .i64 4, .int .i64 5] 3))
  have hs := shows_new w #[.int .i64 0, .int .i64 1, .int .i64 2, .int .i64 3, .int .i64 4, .int .i64 5] 3 6 1 rfl
  have RO := Lib.hid (show RdI (w.alloc (.cells #[.int .i64 0, .int .i64 1, .int .i64 2, .int .i64 3, .int .i64 4, .int .i64 5] 3)) (w.alloc (.cells #[.int .i64 0, .int .i64 1, .int .i64 2, .int .i64 3, .int .i64 4, .int .i64 5] 3)).heap.size (some ⟨w.heap.size, 0, none⟩) (ofN [0, 1, 2, 3, 4, 5]) from hs.wider (by simp))
  clear hs
  go_enter Tryz.func30, Tryz.ntmps30
  go_wp2_with (first
    | (go_at_call 54; refine HV.out.mono ?_; rintro e w1 ⟨rfl, rfl⟩)
    | (go_at_call 55; refine (HF.out _ hb0.out _ RO.out).mono ?_; rintro e w3 ⟨b3, Ai, Aj, ci, cj, n, nj, rfl, hn⟩; replace b3 := Lib.hid b3; replace hn := Lib.hid hn))
  go_ret2
  exact ⟨below_on hb0.out b3.out, n, rfl, hn.out⟩

theorem dup_false {l : List Cm} {m k : Nat} (hm : m < k) (hk : k < l.length) (h : (l[m]'(by omega)).nm = l[k].nm) : validB l = false := validB_false fun hV => by
  have hn := hV.nodup
  unfold nms at hn
  have h2 := (List.pairwise_iff_getElem.1 hn) m k (by rw [List.length_map]; omega) (by rw [List.length_map]; exact hk) hm
  simp only [List.getElem_map] at h2
  exact h2 h
theorem nodup_step {l : List Cm} {k : Nat} (hk : k < l.length) (hn : ((l.take k).map Cm.nm).Nodup) (h : ∀ m (hm : m < k), (l[m]'(by omega)).nm ≠ l[k].nm) : ((l.take (k + 1)).map Cm.nm).Nodup := by
  rw [List.take_succ_eq_append_getElem hk, List.map_append, List.nodup_append]
  refine ⟨hn, by simp, fun a ha b hb => ?_⟩
  obtain rfl : b = l[k].nm := by simpa using hb
  obtain ⟨x, hx, rfl⟩ := List.mem_map.1 ha
  obtain ⟨m, hm, rfl⟩ := List.mem_iff_getElem.1 hx
  rw [List.length_take] at hm
  rw [List.getElem_take]
  exact h m (by omega)

set_option maxRecDepth 100000 in
set_option maxHeartbeats 4000000 in
theorem rValid_any (w : World) (A : Option Addr) (c : Nat) (l : List Cm) (hr : RdN w w.heap.size A l) (hs : ∀ x ∈ l, x.nm.length ≤ 9223372036854775807) (hll : l.length ≤ 9223372036854775807) :
    Calls Tryz.prog 7 #[.slice A l.length c] w fun e w' => e = .returned (.bool (validB l)) ∧ Below w.heap.size w w' := by
  by_cases h1 : l.length < 1
  · rw [validB_false (fun h => by have := h.lo; omega)]
    clear hr hs
    go_enter Tryz.func7, Tryz.ntmps7
    go_wp2_with fail
    go_ret
    exact ⟨rfl, Below.refl _ _⟩
  by_cases h6 : 6 < l.length
  · rw [validB_false (fun h => by have := h.hi; omega)]
    clear hr hs
    go_enter Tryz.func7, Tryz.ntmps7
    go_wp2_with fail
    go_ret
    exact ⟨rfl, Below.refl _ _⟩
  have HR := Lib.hid hr
  have HS := Lib.hid hs
  clear hr hs
  obtain ⟨R, hR⟩ : ∃ R, validB l = R := ⟨_, rfl⟩
  rw [hR]
  have HRR := Lib.hid hR
  clear hR
  go_enter Tryz.func7, Tryz.ntmps7
  go_wp2_with fail
  go_loopw [3] (fun i wx => ∃ k : Nat, k ≤ l.length ∧ i = .int .i64 k ∧ Hid (Below w.heap.size w wx) ∧ Hid (∀ x ∈ l.take k, isName x.nm = true ∧ x.v.ok = true) ∧ Hid (((l.take k).map Cm.nm).Nodup)) (fun i _ => l.length - (intOf i).toNat)
  case atStart => exact ⟨0, Nat.zero_le _, rfl, Below.refl _ _, fun x hx => by simp at hx, by show List.Nodup _; simp⟩
  case round =>
    obtain ⟨k, hk, rfl, HB, HK, HN⟩ := hrel
    by_cases hlt : k < l.length
    · obtain ⟨ad, rfl, had, q0, q1, q2, q3, q4, q5, q6⟩ := (HR.out.up HB.out).at hlt
      have HNM := Lib.hid fun w1 => rName_any w1 l[k].nm (HS.out _ (List.getElem_mem hlt))
      have HIV := Lib.hid fun w1 => rInterval_any w1 l[k].v
      have HTK := Lib.hid (show l.take (k + 1) = l.take k ++ [l[k]] from List.take_succ_eq_append_getElem hlt)
      have HME := Lib.hid (List.getElem_mem hlt)
      have HNS := Lib.hid (nodup_step hlt HN.out)
      have HDF := Lib.hid fun m (hm : m < k) h => HRR.out.symm.trans (dup_false (l := l) hm hlt h)
      have HQK := Lib.hid fun W (hb : Below w.heap.size w W) => (HR.out.up hb).at hlt
      generalize hx : l[k] = x at *
      clear hx
      have hz := HB.out.size
      rcases hn : isName x.nm with _ | _
      · have HF := Lib.hid (HRR.out.symm.trans (validB_false (l := l) fun h => by rw [h.names x HME.out] at hn; cases hn))
        rw [hn] at HNM
        clear hn
        go_wp2_with (first
          | (go_at_call 28; refine (HNM.out _).mono ?_; rintro e w2 ⟨rfl, rfl⟩)
          | (go_at_call 29; refine (HIV.out _).mono ?_; rintro e w3 ⟨rfl, b3⟩; replace b3 := Lib.hid b3))
        go_ret
        exact ⟨by rw [HF.out]; rfl, below_on HB.out b3.out⟩
      rcases hv : x.v.ok with _ | _
      · have HF := Lib.hid (HRR.out.symm.trans (validB_false (l := l) fun h => by rw [h.vecs x HME.out] at hv; cases hv))
        rw [hn] at HNM
        rw [hv] at HIV
        clear hn hv
        go_wp2_with (first
          | (go_at_call 28; refine (HNM.out _).mono ?_; rintro e w2 ⟨rfl, rfl⟩)
          | (go_at_call 29; refine (HIV.out _).mono ?_; rintro e w3 ⟨rfl, b3⟩; replace b3 := Lib.hid b3))
        go_ret
        exact ⟨by rw [HF.out]; rfl, below_on HB.out b3.out⟩
      have HK2 : Hid (∀ y ∈ l.take (k + 1), isName y.nm = true ∧ y.v.ok = true) := fun y hy => by
        rw [HTK.out] at hy
        rcases List.mem_append.1 hy with hy | hy
        · exact HK.out y hy
        · obtain rfl := List.mem_singleton.1 hy; exact ⟨hn, hv⟩
      rw [hn] at HNM
      rw [hv] at HIV
      clear hn hv
      go_wp2_with (first
        | (go_at_call 28; refine (HNM.out _).mono ?_; rintro e w2 ⟨rfl, rfl⟩)
        | (go_at_call 29; refine (HIV.out _).mono ?_; rintro e w3 ⟨rfl, b3⟩; have B3 := Lib.hid (below_on HB.out b3); clear b3))
      clear q0 q1 q2 q3 q4 q5 q6
      go_loopw [6] (fun j wx => ∃ m : Nat, m ≤ k ∧ j = .int .i64 m ∧ Hid (Below w.heap.size w wx) ∧ Hid (∀ m', m' < m → (l.getD m' ⟨[], zeroV⟩).nm ≠ x.nm)) (fun j _ => k - (intOf j).toNat)
      case atStart => exact ⟨0, by omega, rfl, B3.out, fun m' hm => absurd hm (by omega)⟩
      case round =>
        obtain ⟨m, hm, rfl, HBm, HZ⟩ := hrel
        by_cases hmk : m < k
        · have hmki : (m : Int) < (k : Int) := by omega
          have hml : m < l.length := by omega
          obtain ⟨ad1, e1, -, p0, -⟩ := (HR.out.up HBm.out).at hml
          obtain rfl := Option.some.inj e1
          obtain ⟨ad2, e2, -, z0, -⟩ := HQK.out _ HBm.out
          obtain rfl := Option.some.inj e2
          have HGD := Lib.hid (getD_at hml (⟨[], zeroV⟩ : Cm))
          have HDM := Lib.hid (HDF.out m hmk)
          clear e1 e2
          generalize l[m] = y at *
          rcases hyx : (y.nm == x.nm) with _ | _
          · have HN2 : Hid (∀ m', m' < m + 1 → (l.getD m' ⟨[], zeroV⟩).nm ≠ x.nm) := fun m' hm' => by
              rcases Nat.lt_or_ge m' m with h' | h'
              · exact HZ.out m' h'
              · obtain rfl : m' = m := by omega
                rw [HGD.out]
                rw [beq_eq_false_iff_ne] at hyx
                exact hyx
            clear HDM HGD
            go_wp2_with fail
            go_quiet (fail)
            go_wp2_with fail
            go_roundw
            case rel => exact ⟨m + 1, by omega, by go_num, below_dN HBm.out _, HN2.out⟩
            case measure => simp [intOf]; omega
          · have HF := Lib.hid (HDM.out (by rw [beq_iff_eq] at hyx; exact hyx))
            clear HDM HGD
            go_wp2_with fail
            go_quiet (fail)
            go_wp2_with fail
            go_ret
            exact ⟨by rw [HF.out]; rfl, below_dN HBm.out _⟩
        · obtain rfl : m = k := by omega
          have HN2 := Lib.hid (HNS.out (fun m' hm' => by
            have := HZ.out m' hm'
            rwa [getD_at (show m' < l.length by omega)] at this))
          go_wp2_with fail
          go_roundw
          case rel => exact ⟨m + 1, by omega, by go_num, HBm.out, HK2.out, HN2.out⟩
          case measure => simp [intOf]; omega
    · obtain rfl : k = l.length := by omega
      rw [List.take_length] at HK HN
      have HRO := Lib.hid (rRows_any wr A c l (HR.out.up HB.out) (by omega))
      have hml : (l.map Cm.v).length = l.length := by simp
      have hvok : ∀ v ∈ l.map Cm.v, v.ok = true := fun v hv => by
        obtain ⟨x, hx, rfl⟩ := List.mem_map.1 hv
        exact (HK.out x hx).2
      have HVL : Hid (volOk (l.map Cm.v) = true → Indep 6 (l.map fun x => x.v.at) → R = true) := fun h1 h2 => HRR.out.symm.trans (validB_true ⟨by omega, by omega, HN.out, fun x hx => (HK.out x hx).1, fun x hx => (HK.out x hx).2, h1, h2⟩)
      rcases hvo : volOk (l.map Cm.v) with _ | _
      · have HRK := Lib.hid fun W Av cv (hrv : RdV W W.heap.size Av (l.map Cm.v)) => rRank_bad W Av cv _ hrv (by omega) hvok hvo
        have HF := Lib.hid (HRR.out.symm.trans (validB_false (l := l) fun h => by have := h.vol; rw [hvo] at this; cases this))
        rw [hml] at HRK
        clear hvok hvo hml
        go_wp2_with (first
          | (go_at_call 31; refine HRO.out.mono ?_; rintro e w4 ⟨b4, v4, rfl, o4⟩; replace b4 := Lib.hid b4; obtain ⟨Av, cv, e4, -, r4⟩ := o4.form; subst e4; rw [show (l.map Cm.v).length = l.length from List.length_map _]; replace r4 := Lib.hid r4; clear o4)
          | (go_at_call 30; refine (HRK.out _ _ _ r4.out).mono ?_; rintro e w5 ⟨rfl, b5⟩; replace b5 := Lib.hid b5))
        go_ret
        exact ⟨by rw [HF.out]; rfl, below_on HB.out (below_on b4.out b5.out)⟩
      · have HRK := Lib.hid fun W Av cv (hrv : RdV W W.heap.size Av (l.map Cm.v)) => rRank_good W Av cv _ hrv (by omega) hvok hvo
        rw [hml, map_vat] at HRK
        have HVT := Lib.hid (HVL.out hvo)
        have HVF : Hid (¬ Indep 6 (l.map fun x => x.v.at) → R = false) := fun h => HRR.out.symm.trans (validB_false fun hV => h hV.ind)
        clear hvok hvo hml HVL
        go_wp2_with (first
          | (go_at_call 31; refine HRO.out.mono ?_; rintro e w4 ⟨b4, v4, rfl, o4⟩; replace b4 := Lib.hid b4; obtain ⟨Av, cv, e4, -, r4⟩ := o4.form; subst e4; rw [show (l.map Cm.v).length = l.length from List.length_map _]; replace r4 := Lib.hid r4; clear o4)
          | (go_at_call 30; refine (HRK.out _ _ _ r4.out).mono ?_; rintro e w5 ⟨b5, n, rfl, hn⟩; replace b5 := Lib.hid b5; replace hn := Lib.hid hn))
        go_ret
        refine ⟨?_, below_on HB.out (below_on b4.out b5.out)⟩
        by_cases hnl : n = l.length
        · rw [HVT.out (hn.out.1 hnl), hnl]
          simp
        · rw [HVF.out (fun h => hnl (hn.out.2 h))]
          have : ((n : Int) == (l.length : Int)) = false := by rw [beq_eq_false_iff_ne]; omega
          simp [this]

end Go.Proofs.YtipaapplingbnaaGreatDoor
namespace Go.Proofs.YtipaapplingbnaaGreatDoor
open Go.RowKit Go.Deep

set_option maxRecDepth 100000 in
set_option maxHeartbeats 4000000 in
theorem rFind_any (w : World) (A : Option Addr) (c : Nat) (l : List Cm) (s : List UInt8) (hr : RdN w w.heap.size A l) (hs : ∀ x ∈ l, x.nm.length ≤ 9223372036854775807) (hll : l.length ≤ 9223372036854775807) :
    Calls Tryz.prog 9 #[.slice A l.length c, str s] w fun e w' => e = .returned (.tuple #[.int .i64 (findV l s), .int .i64 (findE l s)]) ∧ Below w.heap.size w w' := by
  have HV := Lib.hid (rValid_any w A c l hr hs hll)
  rcases hv : validB l with _ | _
  · rw [hv] at HV
    have h1 : findV l s = 0 := by unfold findV; rw [hv]; rfl
    have h2 : findE l s = 1 := by unfold findE; rw [hv]; rfl
    rw [h1, h2]
    clear hr hs hv h1 h2
    go_enter Tryz.func9, Tryz.ntmps9
    go_wp2_with (go_at_call 7; refine HV.out.mono ?_; rintro e w1 ⟨rfl, b1⟩; replace b1 := Lib.hid b1)
    go_ret2
    exact ⟨rfl, b1.out⟩
  · rw [hv] at HV
    have hL := validB_iff.1 hv
    obtain ⟨RV, hRV⟩ : ∃ R, findV l s = R := ⟨_, rfl⟩
    obtain ⟨RE, hRE⟩ : ∃ R, findE l s = R := ⟨_, rfl⟩
    rw [hRV, hRE]
    have hnl : (nms l).length = l.length := by simp [nms]
    have HYES : Hid (∀ k (hk : k < l.length), l[k].nm = s → RV = k ∧ RE = 0) := fun k hk h => by
      have hix := idx_some (ns := nms l) (s := s) (i := k) (by omega) hL.nodup (by rw [nms_at l k hk]; exact h)
      refine ⟨?_, ?_⟩
      · rw [← hRV]; unfold findV findI; rw [hv, hix]; rfl
      · rw [← hRE]; unfold findE; rw [hv, hix]; rfl
    have HNO : Hid ((∀ k, k < l.length → (l.getD k ⟨[], zeroV⟩).nm ≠ s) → RV = 0 ∧ RE = 4) := fun h => by
      have hix := idx_none (ns := nms l) (s := s) (fun i hi e => h i (by omega) (by rw [getD_at (by omega)]; rw [nms_at l i (by omega)] at e; exact e))
      refine ⟨?_, ?_⟩
      · rw [← hRV]; unfold findV findI; rw [hv, hix]; rfl
      · rw [← hRE]; unfold findE; rw [hv, hix]; rfl
    have HR := Lib.hid hr
    clear hr hs hv hL hRV hRE hnl
    go_enter Tryz.func9, Tryz.ntmps9
    go_wp2_with (go_at_call 7; refine HV.out.mono ?_; rintro e w1 ⟨rfl, b1⟩; replace b1 := Lib.hid b1)
    go_loop [7] (fun i => ∃ k : Nat, k ≤ l.length ∧ i = .int .i64 k ∧ Hid (∀ m, m < k → (l.getD m ⟨[], zeroV⟩).nm ≠ s)) (fun i => l.length - (intOf i).toNat)
    case atStart => exact ⟨0, Nat.zero_le _, rfl, fun m hm => absurd hm (by omega)⟩
    case round =>
      obtain ⟨k, hk, rfl, HZ⟩ := hrel
      by_cases hlt : k < l.length
      · obtain ⟨ad, rfl, had, q0, -⟩ := (HR.out.up b1.out).at hlt
        have HY := Lib.hid (HYES.out k hlt)
        have HGD := Lib.hid (getD_at hlt (⟨[], zeroV⟩ : Cm))
        generalize l[k] = x at *
        rcases hx : (x.nm == s) with _ | _
        · have HN2 : Hid (∀ m, m < k + 1 → (l.getD m ⟨[], zeroV⟩).nm ≠ s) := fun m hm => by
            rcases Nat.lt_or_ge m k with h' | h'
            · exact HZ.out m h'
            · obtain rfl : m = k := by omega
              rw [HGD.out]
              rw [beq_eq_false_iff_ne] at hx
              exact hx
          clear HY HGD
          go_wp2_with fail
          refine ⟨⟨k + 1, by omega, by go_num, HN2⟩, by simp [intOf]; omega⟩
        · have HF := Lib.hid (HY.out (by rw [beq_iff_eq] at hx; exact hx))
          clear HY HGD
          go_wp2_with fail
          go_ret2
          exact ⟨by rw [HF.out.1, HF.out.2]; rfl, b1.out⟩
      · obtain rfl : k = l.length := by omega
        have HF := Lib.hid (HNO.out (fun m hm => HZ.out m hm))
        go_wp2_with fail
        go_ret2
        exact ⟨by rw [HF.out.1, HF.out.2]; rfl, b1.out⟩

theorem RdN.vec {w : World} {B : Nat} {A : Option Addr} {l : List Cm} (h : RdN w B A l) {i : Nat} (hi : i < l.length) : ∃ ad, A = some ad ∧ ad.block < B ∧ ∀ j, j < 6 → w.cell? ⟨(ad.add (i * 7)).block, (ad.add (i * 7)).off + 1 + j, none⟩ = some (.int .i64 (l[i].v.at j)) := by
  obtain ⟨ad, rfl, hb, hc⟩ := Shows.rec Cm.cs 7 Cm.cs_len h rfl hi
  refine ⟨ad, rfl, hb, fun j hj => ?_⟩
  have h1 := hc (j + 1) (by omega)
  rw [add_off] at h1
  have e : (ad.add (i * 7)).off + 1 + j = (ad.add (i * 7)).off + (j + 1) := by omega
  rw [e, h1]
  rcases (show j = 0 ∨ j = 1 ∨ j = 2 ∨ j = 3 ∨ j = 4 ∨ j = 5 by omega) with rfl | rfl | rfl | rfl | rfl | rfl <;> rfl

set_option maxRecDepth 100000 in
set_option maxHeartbeats 4000000 in
theorem rTotal_any (w : World) (A Ac : Option Addr) (c cc : Nat) (l : List Cm) (cs : List Int) (hr : RdN w w.heap.size A l) (hl6 : l.length ≤ 6) (hlen : cs.length = l.length) (hrc : RdI w w.heap.size Ac cs) (hv : ∀ x ∈ l, x.v.ok = true) (hM : ∀ n ∈ cs, n.natAbs ≤ 600000000000000) :
    Calls Tryz.prog 35 #[.slice A l.length c, .slice Ac l.length cc] w fun e w' => e = .returned (.agg (tot l cs l.length).cells) ∧ Below w.heap.size w w' := by
  have HR := Lib.hid hr
  have HC := Lib.hid hrc
  have HLEN := Lib.hid hlen
  have HTS := Lib.hid fun k (hk : k ≤ l.length) j (hj : j < 6) => tot_small l cs hv 600000000000000 hM hlen k hk j hj
  have HV := Lib.hid hv
  have HMM := Lib.hid hM
  clear hr hrc hlen hv hM
  go_enter Tryz.func35, Tryz.ntmps35
  go_wp2_with fail
  go_loopw [6] (fun i wx => ∃ k : Nat, k ≤ l.length ∧ i = .int .i64 k ∧ Hid (Below w.heap.size w wx) ∧ Hid (Blk wx (w.heap.size + 1) 25 (tot l cs k).cells) ∧ Hid (Blk wx w.heap.size 25 zeroV.cells)) (fun i _ => l.length - (intOf i).toNat)
  case atStart =>
    refine ⟨0, Nat.zero_le _, rfl, ((Below.refl w.heap.size w).alloc (Nat.le_refl _) _).alloc (by simp) _, ?_, (Blk.new w _ _).alloc _⟩
    have := Blk.new (w.alloc (.cells zeroV.cells 25)) 25 zeroV.cells
    rw [World.size_alloc] at this
    exact this
  case round =>
    obtain ⟨k, hk, rfl, HB, HT, HZ⟩ := hrel
    by_cases hlt : k < l.length
    · obtain ⟨ad, rfl, had, hca⟩ := HR.out.vec hlt
      obtain ⟨ac, rfl, hac, hx⟩ := HC.out.at (i := k) (by have := HLEN.out; omega)
      have hn := HMM.out (cs.getD k 0) (by have := HLEN.out; simp [List.getD_eq_getElem?_getD, show k < cs.length by omega])
      have HVK := Lib.hid (HV.out _ (List.getElem_mem hlt))
      have HTN : Hid (∀ j, (tot l cs (k + 1)).at j = (tot l cs k).at j + cs.getD k 0 * l[k].v.at j) := fun j => by
        rw [tot, Vc.addm_at, getD_at hlt]
      have HTB := Lib.hid fun j hj => HTS.out k hk j hj
      have HCA := Lib.hid fun W (hb : Below w.heap.size w W) j hj => (hb.cell (p := ⟨(ad.add (k * 7)).block, (ad.add (k * 7)).off + 1 + j, none⟩) (by show (ad.add (k * 7)).block < _; rw [add_block]; exact had)).trans (hca j hj)
      have HCX := Lib.hid fun W (hb : Below w.heap.size w W) => (hb.cell (p := ac.add k) (by rw [add_block]; exact hac)).trans hx
      clear hca hx had hac
      have hkl : (k : Int) < (l.length : Int) := by omega
      obtain ⟨u, hu⟩ : ∃ u, u = tot l cs k := ⟨_, rfl⟩
      obtain ⟨t, ht⟩ : ∃ t, t = tot l cs (k + 1) := ⟨_, rfl⟩
      rw [← hu, ← ht] at HTN
      rw [← hu] at HTB HT
      have HTT := Lib.hid ht
      clear hu ht
      generalize cs.getD k 0 = n at *
      generalize l[k].v = x at *
      go_wp2_with fail
      go_loopw [7] (fun i wx => ∃ m : Nat, m ≤ 6 ∧ i = .int .i64 m ∧ Hid (Below w.heap.size w wx) ∧ Hid (Blk wx (w.heap.size + 1) 25 (mixv u t m).cells) ∧ Hid (Blk wx w.heap.size 25 zeroV.cells)) (fun i _ => 6 - (intOf i).toNat)
      case atStart => exact ⟨0, by omega, rfl, HB.out, by rw [mixv_zero]; exact HT.out, HZ.out⟩
      case round =>
        obtain ⟨m, hm, rfl, HBm, HTm, HZm⟩ := hrel
        by_cases hm6 : m < 6
        · have hm6i : (m : Int) < 6 := by omega
          have q1 := HCA.out _ HBm.out m hm6
          have q2 := HCX.out _ HBm.out
          have q3 := HTm.out.cell m
          rw [Vc.cell _ m hm6, mixv_at _ _ _ hm6] at q3
          have q4 := HTm.out.frozen m
          have hxs := (Vc.ok_iff x).1 HVK.out m hm6
          have hus := HTB.out m hm6
          have hus2 : (u.at m).natAbs ≤ 1000000000000000000 := by
            have : 600000000000000 * 48 * k ≤ 600000000000000 * 48 * 6 := Nat.mul_le_mul_left _ (by omega)
            omega
          have hpr : (n * x.at m).natAbs ≤ 600000000000000 * 48 := by rw [Int.natAbs_mul]; exact Nat.mul_le_mul hn hxs
          have HS := Lib.hid (HTm.out.set_ m (.int .i64 (t.at m)))
          rw [mixv_set _ _ _ hm6, HTN.out m] at HS
          clear hus
          obtain ⟨y, hy⟩ : ∃ y, n * x.at m = y := ⟨_, rfl⟩
          rw [hy] at HS hpr
          generalize x.at m = xm at *
          generalize u.at m = z at *
          have y1 : -28800000000000000 ≤ y := by omega
          have y2 : y ≤ 28800000000000000 := by omega
          have z1 : -1000000000000000000 ≤ z := by omega
          have z2 : z ≤ 1000000000000000000 := by omega
          have w1 : IntKind.i64.wrap y = y := IntWalk.i64_in _ (by omega)
          have w2 : IntKind.i64.wrap (z + y) = z + y := IntWalk.i64_in _ (by omega)
          clear hpr hus2 hxs
          go_wp2_with fail
          obtain ⟨wz, hwz⟩ : ∃ wz, wz = wr := ⟨_, rfl⟩
          have hE : ∀ p, World.cell? { wr with drawn := wr.drawn + 1 } p = wr.cell? p := fun _ => rfl
          go_still_tail 17, (by kernel_rfl)
          change wpList _ _ _ _ _ wr.drew
          go_wp2_with fail
          go_roundw
          case rel => exact ⟨m + 1, by omega, by go_num, HBm.out.drew.setCell (by simp) _, HS.out.drew, HZm.out.drew.far (p := ⟨w.heap.size + 1, m, none⟩) (by simp) _⟩
          case measure => simp [intOf]; omega
        · obtain rfl : m = 6 := by omega
          rw [mixv_six, HTT.out] at HTm
          go_wp2_with fail
          go_roundw
          case rel => exact ⟨k + 1, by omega, by go_num, HBm.out, HTm.out, HZm.out⟩
          case measure => simp [intOf]; omega
    · obtain rfl : k = l.length := by omega
      obtain ⟨T, hT⟩ : ∃ T, T = tot l cs l.length := ⟨_, rfl⟩
      rw [← hT] at HT
      have HTE := Lib.hid hT
      clear hT
      have t0 := HT.out.cell 0
      have t1 := HT.out.cell 1
      have t2 := HT.out.cell 2
      have t3 := HT.out.cell 3
      have t4 := HT.out.cell 4
      have t5 := HT.out.cell 5
      have p0 := HZ.out.cell 0
      have p1 := HZ.out.cell 1
      have p2 := HZ.out.cell 2
      have p3 := HZ.out.cell 3
      have p4 := HZ.out.cell 4
      have p5 := HZ.out.cell 5
      have z0 := HZ.out.frozen 0
      have z1 := HZ.out.frozen 1
      have z2 := HZ.out.frozen 2
      have z3 := HZ.out.frozen 3
      have z4 := HZ.out.frozen 4
      have z5 := HZ.out.frozen 5
      simp [zeroV] at p0 p1 p2 p3 p4 p5
      simp at t0 t1 t2 t3 t4 t5
      go_wp2_with fail
      refine bodyPost_ret (results_cell rfl _ ⟨w.heap.size, 0, none⟩ rfl _ Tryz.underlying25 rfl _ T.cells size_vec (vec_load (HZ.out.set6 (.int .i64 T.a) (.int .i64 T.b) (.int .i64 T.c) (.int .i64 T.d) (.int .i64 T.e) (.int .i64 T.f)))) rfl ?_
      exact ⟨by rw [← HTE.out], below_set6 HB.out (Nat.le_refl _) _ _ _ _ _ _⟩

set_option maxRecDepth 100000 in
set_option maxHeartbeats 4000000 in
theorem rSum_any (w : World) (A Ac : Option Addr) (c cc : Nat) (l : List Cm) (cs : List Int) (hr : RdN w w.heap.size A l) (hs : ∀ x ∈ l, x.nm.length ≤ 9223372036854775807) (hll : l.length ≤ 9223372036854775807) (hrc : RdI w w.heap.size Ac cs) (hcl : cs.length ≤ 9223372036854775807) :
    Calls Tryz.prog 11 #[.slice A l.length c, .slice Ac cs.length cc] w fun e w' => e = .returned (.tuple #[.agg (sumV l cs).cells, .int .i64 (sumE l cs)]) ∧ Below w.heap.size w w' := by
  have hal := (Below.refl w.heap.size w).alloc (Nat.le_refl _) (.cells zeroV.cells 25)
  have HVL := Lib.hid (rValid_any (w.alloc (.cells zeroV.cells 25)) A c l (hr.up hal) hs hll)
  have HAC := Lib.hid fun W (hb : Below w.heap.size w W) => rAccount_any W A Ac c cc l.length cs hll (hrc.up hb) hcl
  have HBL := Lib.hid (Blk.new w 25 zeroV.cells)
  have HAL := Lib.hid hal
  obtain ⟨RV, hRV⟩ : ∃ R, sumV l cs = R := ⟨_, rfl⟩
  obtain ⟨RE, hRE⟩ : ∃ R, sumE l cs = R := ⟨_, rfl⟩
  rw [hRV, hRE]
  rcases hvb : validB l with _ | _
  · have hab : accB l cs = false := by unfold accB; rw [hvb]; simp
    have HV2 : Hid (RV = zeroV) := by show _ = _; rw [← hRV]; unfold sumV; rw [hab]; rfl
    have HE2 : Hid (RE = 1) := by show _ = _; rw [← hRE]; unfold sumE; rw [hab]; rfl
    rw [hvb] at HVL
    clear hr hs hrc hal hRV hRE hvb hab
    go_enter Tryz.func11, Tryz.ntmps11
    go_wp2_with (go_at_call 7; refine HVL.out.mono ?_; rintro e w1 ⟨rfl, b1⟩; have K1 := Lib.hid (HBL.out.below b1 HBL.out.lt); have HB1 := Lib.hid (HAL.out.trans (b1.mono HAL.out.size)); have hz1 := K1.out.lt; have p0 := K1.out.cell 0; have p1 := K1.out.cell 1; have p2 := K1.out.cell 2; have p3 := K1.out.cell 3; have p4 := K1.out.cell 4; have p5 := K1.out.cell 5; have z0 := K1.out.frozen 0; have z1 := K1.out.frozen 1; have z2 := K1.out.frozen 2; have z3 := K1.out.frozen 3; have z4 := K1.out.frozen 4; have z5 := K1.out.frozen 5; simp [zeroV] at p0 p1 p2 p3 p4 p5; clear b1)
    refine bodyPost_ret (results_cell_tmp rfl _ ⟨w.heap.size, 0, none⟩ rfl _ Tryz.underlying25 rfl _ (zeroV).cells size_vec (vec_load (K1.out.set6 (.int .i64 0) (.int .i64 0) (.int .i64 0) (.int .i64 0) (.int .i64 0) (.int .i64 0)))) rfl ?_
    exact ⟨by rw [HV2.out, HE2.out]; rfl, below_set6 HB1.out (Nat.le_refl _) _ _ _ _ _ _⟩
  have hL := validB_iff.1 hvb
  have hl6 := hL.hi
  rw [hvb] at HVL
  rcases hac : (decide (cs.length = l.length) && inRange cs) with _ | _
  · have hab : accB l cs = false := by
      unfold accB
      rw [hvb, Bool.and_true, Bool.and_comm, hac]
    have HV2 : Hid (RV = zeroV) := by show _ = _; rw [← hRV]; unfold sumV; rw [hab]; rfl
    have HE2 : Hid (RE = 1) := by show _ = _; rw [← hRE]; unfold sumE; rw [hab]; rfl
    rw [hac] at HAC
    clear hr hs hrc hal hRV hRE hvb hab hac hL
    go_enter Tryz.func11, Tryz.ntmps11
    go_wp2_with (first
      | (go_at_call 7; refine HVL.out.mono ?_; rintro e w1 ⟨rfl, b1⟩; have K1 := Lib.hid (HBL.out.below b1 HBL.out.lt); have HB1 := Lib.hid (HAL.out.trans (b1.mono HAL.out.size)); have hz1 := K1.out.lt; have p0 := K1.out.cell 0; have p1 := K1.out.cell 1; have p2 := K1.out.cell 2; have p3 := K1.out.cell 3; have p4 := K1.out.cell 4; have p5 := K1.out.cell 5; have z0 := K1.out.frozen 0; have z1 := K1.out.frozen 1; have z2 := K1.out.frozen 2; have z3 := K1.out.frozen 3; have z4 := K1.out.frozen 4; have z5 := K1.out.frozen 5; simp [zeroV] at p0 p1 p2 p3 p4 p5; clear b1)
      | (go_at_call 34; refine (HAC.out _ HB1.out).mono ?_; rintro e w2 ⟨rfl, rfl⟩))
    refine bodyPost_ret (results_cell_tmp rfl _ ⟨w.heap.size, 0, none⟩ rfl _ Tryz.underlying25 rfl _ (zeroV).cells size_vec (vec_load (K1.out.set6 (.int .i64 0) (.int .i64 0) (.int .i64 0) (.int .i64 0) (.int .i64 0) (.int .i64 0)))) rfl ?_
    exact ⟨by rw [HV2.out, HE2.out]; rfl, below_set6 HB1.out (Nat.le_refl _) _ _ _ _ _ _⟩
  obtain ⟨hlen, hir⟩ : cs.length = l.length ∧ inRange cs = true := by simpa using hac
  have hab : accB l cs = true := accB_iff.2 ⟨hir, hlen, hL⟩
  have HTO := Lib.hid fun W (hb : Below w.heap.size w W) => rTotal_any W A Ac c cc l cs (hr.up hb) hl6 hlen (hrc.up hb) hL.vecs (fun n hn => by have := inRange_abs hir n hn; omega)
  rw [hac] at HAC
  rw [hlen] at HAC ⊢
  have HIV := Lib.hid fun w1 => rInterval_any w1 (tot l cs l.length)
  obtain ⟨T, hT⟩ : ∃ T, T = tot l cs l.length := ⟨_, rfl⟩
  rw [← hT] at HTO HIV
  rcases ho : T.ok with _ | _
  · have HV2 : Hid (RV = zeroV) := by show _ = _; rw [← hRV]; unfold sumV; rw [hab, ← hT, ho]; rfl
    have HE2 : Hid (RE = 3) := by show _ = _; rw [← hRE]; unfold sumE; rw [hab, ← hT, ho]; rfl
    rw [ho] at HIV
    clear hr hs hrc hal hRV hRE hvb hab hac hL hT ho hir hlen
    go_enter Tryz.func11, Tryz.ntmps11
    go_wp2_with (first
      | (go_at_call 7; refine HVL.out.mono ?_; rintro e w1 ⟨rfl, b1⟩; have K1 := Lib.hid (HBL.out.below b1 HBL.out.lt); have HB1 := Lib.hid (HAL.out.trans (b1.mono HAL.out.size)); have hz1 := K1.out.lt; have p0 := K1.out.cell 0; have p1 := K1.out.cell 1; have p2 := K1.out.cell 2; have p3 := K1.out.cell 3; have p4 := K1.out.cell 4; have p5 := K1.out.cell 5; have z0 := K1.out.frozen 0; have z1 := K1.out.frozen 1; have z2 := K1.out.frozen 2; have z3 := K1.out.frozen 3; have z4 := K1.out.frozen 4; have z5 := K1.out.frozen 5; simp [zeroV] at p0 p1 p2 p3 p4 p5; clear b1)
      | (go_at_call 34; refine (HAC.out _ HB1.out).mono ?_; rintro e w2 ⟨rfl, rfl⟩)
      | (go_at_call 35; refine (HTO.out _ HB1.out).mono ?_; rintro e w3 ⟨rfl, b3⟩; have KT := Lib.hid (Blk.new w3 25 #[.int .i64 T.a, .int .i64 T.b, .int .i64 T.c, .int .i64 T.d, .int .i64 T.e, .int .i64 T.f]); have b3a := below_al b3 (.cells #[.int .i64 T.a, .int .i64 T.b, .int .i64 T.c, .int .i64 T.d, .int .i64 T.e, .int .i64 T.f] 25); have hz3 := b3.size; replace K1 := Lib.hid (K1.out.below b3a K1.out.lt); replace HB1 := Lib.hid (below_on HB1.out b3a); clear b3 b3a p0 p1 p2 p3 p4 p5 z0 z1 z2 z3 z4 z5 hz1)
      | (go_at_call 29; refine (HIV.out _).mono ?_; rintro e w4 ⟨rfl, b4⟩; replace KT := Lib.hid (KT.out.below b4 KT.out.lt); replace K1 := Lib.hid (K1.out.below b4 K1.out.lt); replace HB1 := Lib.hid (below_on HB1.out b4); have hz1 := K1.out.lt; have p0 := K1.out.cell 0; have p1 := K1.out.cell 1; have p2 := K1.out.cell 2; have p3 := K1.out.cell 3; have p4 := K1.out.cell 4; have p5 := K1.out.cell 5; have z0 := K1.out.frozen 0; have z1 := K1.out.frozen 1; have z2 := K1.out.frozen 2; have z3 := K1.out.frozen 3; have z4 := K1.out.frozen 4; have z5 := K1.out.frozen 5; simp [zeroV] at p0 p1 p2 p3 p4 p5; have t0 := KT.out.cell 0; have t1 := KT.out.cell 1; have t2 := KT.out.cell 2; have t3 := KT.out.cell 3; have t4 := KT.out.cell 4; have t5 := KT.out.cell 5; simp at t0 t1 t2 t3 t4 t5; clear b4))
    refine bodyPost_ret (results_cell_tmp rfl _ ⟨w.heap.size, 0, none⟩ rfl _ Tryz.underlying25 rfl _ (zeroV).cells size_vec (vec_load (K1.out.set6 (.int .i64 0) (.int .i64 0) (.int .i64 0) (.int .i64 0) (.int .i64 0) (.int .i64 0)))) rfl ?_
    exact ⟨by rw [HV2.out, HE2.out]; rfl, below_set6 HB1.out (Nat.le_refl _) _ _ _ _ _ _⟩
  · have HV2 : Hid (RV = T) := by show _ = _; rw [← hRV]; unfold sumV; rw [hab, ← hT, ho]; rfl
    have HE2 : Hid (RE = 0) := by show _ = _; rw [← hRE]; unfold sumE; rw [hab, ← hT, ho]; rfl
    rw [ho] at HIV
    clear hr hs hrc hal hRV hRE hvb hab hac hL hT ho hir hlen
    go_enter Tryz.func11, Tryz.ntmps11
    go_wp2_with (first
      | (go_at_call 7; refine HVL.out.mono ?_; rintro e w1 ⟨rfl, b1⟩; have K1 := Lib.hid (HBL.out.below b1 HBL.out.lt); have HB1 := Lib.hid (HAL.out.trans (b1.mono HAL.out.size)); have hz1 := K1.out.lt; have p0 := K1.out.cell 0; have p1 := K1.out.cell 1; have p2 := K1.out.cell 2; have p3 := K1.out.cell 3; have p4 := K1.out.cell 4; have p5 := K1.out.cell 5; have z0 := K1.out.frozen 0; have z1 := K1.out.frozen 1; have z2 := K1.out.frozen 2; have z3 := K1.out.frozen 3; have z4 := K1.out.frozen 4; have z5 := K1.out.frozen 5; simp [zeroV] at p0 p1 p2 p3 p4 p5; clear b1)
      | (go_at_call 34; refine (HAC.out _ HB1.out).mono ?_; rintro e w2 ⟨rfl, rfl⟩)
      | (go_at_call 35; refine (HTO.out _ HB1.out).mono ?_; rintro e w3 ⟨rfl, b3⟩; have KT := Lib.hid (Blk.new w3 25 #[.int .i64 T.a, .int .i64 T.b, .int .i64 T.c, .int .i64 T.d, .int .i64 T.e, .int .i64 T.f]); have b3a := below_al b3 (.cells #[.int .i64 T.a, .int .i64 T.b, .int .i64 T.c, .int .i64 T.d, .int .i64 T.e, .int .i64 T.f] 25); have hz3 := b3.size; replace K1 := Lib.hid (K1.out.below b3a K1.out.lt); replace HB1 := Lib.hid (below_on HB1.out b3a); clear b3 b3a p0 p1 p2 p3 p4 p5 z0 z1 z2 z3 z4 z5 hz1)
      | (go_at_call 29; refine (HIV.out _).mono ?_; rintro e w4 ⟨rfl, b4⟩; replace KT := Lib.hid (KT.out.below b4 KT.out.lt); replace K1 := Lib.hid (K1.out.below b4 K1.out.lt); replace HB1 := Lib.hid (below_on HB1.out b4); have hz1 := K1.out.lt; have p0 := K1.out.cell 0; have p1 := K1.out.cell 1; have p2 := K1.out.cell 2; have p3 := K1.out.cell 3; have p4 := K1.out.cell 4; have p5 := K1.out.cell 5; have z0 := K1.out.frozen 0; have z1 := K1.out.frozen 1; have z2 := K1.out.frozen 2; have z3 := K1.out.frozen 3; have z4 := K1.out.frozen 4; have z5 := K1.out.frozen 5; simp [zeroV] at p0 p1 p2 p3 p4 p5; have t0 := KT.out.cell 0; have t1 := KT.out.cell 1; have t2 := KT.out.cell 2; have t3 := KT.out.cell 3; have t4 := KT.out.cell 4; have t5 := KT.out.cell 5; simp at t0 t1 t2 t3 t4 t5; clear b4))
    refine bodyPost_ret (results_cell_tmp rfl _ ⟨w.heap.size, 0, none⟩ rfl _ Tryz.underlying25 rfl _ (T).cells size_vec (vec_load (K1.out.set6 (.int .i64 T.a) (.int .i64 T.b) (.int .i64 T.c) (.int .i64 T.d) (.int .i64 T.e) (.int .i64 T.f)))) rfl ?_
    exact ⟨by rw [HV2.out, HE2.out]; rfl, below_set6 HB1.out (Nat.le_refl _) _ _ _ _ _ _⟩

end Go.Proofs.YtipaapplingbnaaGreatDoor
namespace Go.Proofs.YtipaapplingbnaaGreatDoor
open Go.RowKit Go.Deep

def gW (l : List Cm) (T : List Nat) : Int := Dt ((vecs l).map Vc.at) T
def gN (l : List Cm) (v : Vc) (T : List Nat) (k : Nat) : Int := Dt (((vecs l).set k v).map Vc.at) T
def gQ (l : List Cm) (v : Vc) (T : List Nat) (k : Nat) : Int := (gN l v T k).tdiv (gW l T)
def gR (l : List Cm) (v : Vc) (T : List Nat) (k : Nat) : Int := (gN l v T k).tmod (gW l T)
def gQs (l : List Cm) (v : Vc) (T : List Nat) : List Int := (List.range l.length).map (gQ l v T)
theorem gQs_len (l : List Cm) (v : Vc) (T : List Nat) : (gQs l v T).length = l.length := by simp [gQs]
theorem gQs_next (l : List Cm) (v : Vc) (T : List Nat) (k : Nat) (hk : k < l.length) : (gQs l v T).take (k + 1) = (gQs l v T).take k ++ [gQ l v T k] := by
  have hl : k < (gQs l v T).length := by rw [gQs_len]; exact hk
  rw [List.take_succ_eq_append_getElem hl]
  simp [gQs]
theorem gmakes_N {l : List Cm} {v : Vc} {cs : List Int} (h : MakesV l cs v) (T : List Nat) (k : Nat) (hk : k < l.length) : gN l v T k = cs.getD k 0 * gW l T := by
  have := cramer_at ((vecs l).map Vc.at) cs (by rw [h.1]; simp [vecs]) v.at (fun j => by rw [rows_eq]; exact (h.2 j).symm) T k (by simpa [vecs] using hk)
  unfold gN gW
  rw [List.map_set]
  exact this
theorem gmakes_Q {l : List Cm} {v : Vc} {cs : List Int} (h : MakesV l cs v) {T : List Nat} (hw : gW l T ≠ 0) (k : Nat) (hk : k < l.length) : gQ l v T k = cs.getD k 0 ∧ gR l v T k = 0 := by
  unfold gQ gR
  rw [gmakes_N h T k hk]
  exact ⟨Int.mul_tdiv_cancel _ hw, Int.mul_tmod_left _ _⟩
theorem gmakes_qs {l : List Cm} {v : Vc} {cs : List Int} (h : MakesV l cs v) {T : List Nat} (hw : gW l T ≠ 0) : gQs l v T = cs := by
  refine List.ext_getElem (by rw [gQs_len, h.1]) fun i h1 h2 => ?_
  have hi : i < l.length := by rw [gQs_len] at h1; exact h1
  simp only [gQs, List.getElem_map, List.getElem_range]
  rw [(gmakes_Q h hw i hi).1]
  simp [List.getD_eq_getElem?_getD, h2]
theorem gtot_makes {l : List Cm} {v : Vc} {T : List Nat} (h : tot l (gQs l v T) l.length = v) : MakesV l (gQs l v T) v := by
  have := tot_makes (l := l) (gQs_len l v T)
  rwa [h] at this
theorem rowf_range (l : List Cm) (v : Vc) : rowf (vecs l ++ [v]) (List.range l.length) = (vecs l).map Vc.at := by
  have hl : (vecs l).length = l.length := by simp [vecs]
  refine List.ext_getElem (by simp [rowf, vecs]) fun i h1 h2 => ?_
  have hi : i < l.length := by simpa [vecs] using h2
  simp only [rowf, List.getElem_map, List.getElem_range]
  rw [List.getD_eq_getElem?_getD, List.getElem?_append_left (by omega), List.getElem?_eq_getElem (by omega)]
  rfl
theorem rowf_set (l : List Cm) (v : Vc) (k : Nat) : rowf (vecs l ++ [v]) ((List.range l.length).set k l.length) = ((vecs l).set k v).map Vc.at := by
  have hl : (vecs l).length = l.length := by simp [vecs]
  refine List.ext_getElem (by simp [rowf, vecs]) fun i h1 h2 => ?_
  have hi : i < l.length := by simpa [vecs] using h2
  simp only [rowf, List.getElem_map, List.getElem_set, List.getElem_range]
  by_cases e : k = i
  · rw [if_pos e, if_pos e, List.getD_eq_getElem?_getD, List.getElem?_append_right (by omega), hl, Nat.sub_self]
    rfl
  · rw [if_neg e, if_neg e, List.getD_eq_getElem?_getD, List.getElem?_append_left (by omega), List.getElem?_eq_getElem (by omega)]
    rfl
theorem gN_bound {l : List Cm} {v : Vc} (hl : ∀ x ∈ l, x.v.ok = true) (hv : v.ok = true) (h6 : l.length ≤ 6) {T : List Nat} (hT : ∀ c ∈ T, c < 6) (hT6 : T.length ≤ 6) (k : Nat) : (gN l v T k).natAbs ≤ 570630428688384 := by
  have hok : ∀ u ∈ vecs l ++ [v], u.ok = true := fun u hu => by
    rcases List.mem_append.1 hu with h | h
    · obtain ⟨x, hx, rfl⟩ := List.mem_map.1 h
      exact hl x hx
    · obtain rfl := List.mem_singleton.1 h; exact hv
  have := minor_bound hok ((List.range l.length).set k l.length) T hT hT6
  rw [rowf_set, List.length_set, List.length_range] at this
  exact Nat.le_trans this (Nat.le_trans (Nat.pow_le_pow_right (by omega) h6) (by decide))
theorem gQ_bound {l : List Cm} {v : Vc} (hl : ∀ x ∈ l, x.v.ok = true) (hv : v.ok = true) (h6 : l.length ≤ 6) {T : List Nat} (hT : ∀ c ∈ T, c < 6) (hT6 : T.length ≤ 6) (k : Nat) : (gQ l v T k).natAbs ≤ 570630428688384 := by
  unfold gQ
  rw [Int.natAbs_tdiv]
  exact Nat.le_trans (Nat.div_le_self _ _) (gN_bound hl hv h6 hT hT6 k)
theorem indep_subs {rs : List (Nat → Int)} {n : Nat} (h : Indep 6 rs) (hn : rs.length = n) : ∃ x ∈ subs 6 n, Dt rs x ≠ 0 := by
  obtain ⟨T, hT, hd⟩ := h
  have hnd : T.Nodup := Classical.byContradiction fun hn => hd ((Alt.Dt rs).twice hn)
  obtain ⟨x, hx, hp⟩ := subs_has hnd hT
  rw [← Dt_len hd, hn] at hx
  exact ⟨x, hx, fun e => hd (((Alt.Dt rs).perm hp).1 e)⟩

def ColsIs (w : World) (rows : List Vc) (is : List Nat) (e : Ending) (w' : World) : Prop :=
  Below w.heap.size w w' ∧ ∃ (Aj : Option Addr) (cj : Nat) (T : List Nat) (d : Int), e = .returned (.tuple #[.slice Aj is.length cj, .int .i64 d]) ∧ is.length ≤ cj ∧ RdI w' w'.heap.size Aj (ofN T) ∧ T.length = is.length ∧ (∀ c ∈ T, c < 6) ∧ Dt (rowf rows is) T = d ∧ d ≠ 0

set_option maxRecDepth 100000 in
set_option maxHeartbeats 4000000 in
theorem columns_any (w : World) (Ar Ai : Option Addr) (cr ci : Nat) (rows : List Vc) (is : List Nat) (rr : RdV w w.heap.size Ar rows) (ri : RdI w w.heap.size Ai (ofN is)) (hci : is.length ≤ ci) (h6 : is.length ≤ 6) (hrl : rows.length ≤ 100) (hic : ∀ c ∈ is, c < rows.length) (hok : ∀ v ∈ rows, v.ok = true) (hI : Indep 6 (rowf rows is)) :
    Calls Tryz.prog 38 #[.slice Ar rows.length cr, .slice Ai is.length ci] w (ColsIs w rows is) := by
  obtain ⟨n, hn⟩ : ∃ n, n = is.length := ⟨_, rfl⟩
  have HSU := Lib.hid fun W => rSubsets_any 6 W n (by omega) (by omega)
  have HSL := Lib.hid (fun x (hx : x ∈ subs 6 n) => subs_len x hx)
  have HSM := Lib.hid (subs_small 6 n)
  have HEX : Hid (∃ x ∈ subs 6 n, Dt (rowf rows is) x ≠ 0) := indep_subs hI (by rw [rowf_len, hn])
  have HMI := Lib.hid fun W Aj cj js (hb : Below w.heap.size w W) (rj : RdI W W.heap.size Aj (ofN js)) (hcj : js.length ≤ cj) (hl : js.length = n) (hc : ∀ c ∈ js, c < 6) => rMinor_any is.length W Ar Ai Aj cr ci cj rows is js rfl (rr.up hb) (ri.up hb) rj hci hcj (by omega) (by omega) hrl hc hic hok
  have HN := Lib.hid hn
  rw [← hn] at HMI ⊢
  have HPOST : Hid (∀ e w', (Below w.heap.size w w' ∧ ∃ (Aj : Option Addr) (cj : Nat) (T : List Nat) (d : Int), e = .returned (.tuple #[.slice Aj n cj, .int .i64 d]) ∧ n ≤ cj ∧ RdI w' w'.heap.size Aj (ofN T) ∧ T.length = n ∧ (∀ c ∈ T, c < 6) ∧ Dt (rowf rows is) T = d ∧ d ≠ 0) → ColsIs w rows is e w') := fun e w' h => by unfold ColsIs; rw [← hn]; exact h
  clear rr ri hI hok hic
  have hn6 : n ≤ 6 := by omega
  clear hn
  go_enter Tryz.func38, Tryz.ntmps38
  go_wp2_with (go_at_call 57; refine (HSU.out _).mono ?_; rintro e w1 ⟨b1, v1, rfl, o1⟩; have O1 := Lib.hid o1; have B1 := Lib.hid b1; clear b1 o1)
  obtain ⟨A1, c1, rfl, -, r1⟩ := O1.out.form
  have R1 := Lib.hid r1
  obtain ⟨L, hL⟩ : ∃ L, L = subs 6 n := ⟨_, rfl⟩
  rw [← hL] at R1 HSL HSM HEX ⊢
  have hLl : L.length ≤ 64 := HSM.out
  clear r1 O1 hL HSU
  go_loopw [7] (fun i wx => ∃ k : Nat, k ≤ L.length ∧ i = .int .i64 k ∧ Hid (Below w1.heap.size w1 wx) ∧ Hid (∀ j, j < k → Dt (rowf rows is) (L.getD j []) = 0)) (fun i _ => L.length - (intOf i).toNat)
  case atStart => exact ⟨0, Nat.zero_le _, rfl, Below.refl _ _, fun j hj => absurd hj (by omega)⟩
  case round =>
    obtain ⟨k, hk, rfl, HB, HZ⟩ := hrel
    by_cases hlt : k < L.length
    · obtain ⟨ad, A', c', rfl, had, hx, hc', hrx⟩ := (R1.out.up HB.out).at hlt
      have hmem : L.getD k [] ∈ L := by rw [List.getD_eq_getElem?_getD, List.getElem?_eq_getElem hlt]; exact List.getElem_mem hlt
      obtain ⟨hxl, hx6⟩ := HSL.out _ hmem
      have HM := Lib.hid (HMI.out wr A' c' (L.getD k []) (below_on B1.out HB.out) hrx hc' hxl hx6)
      have HX := Lib.hid (show RdI wr wr.heap.size A' (ofN (L.getD k [])) ∧ (L.getD k []).length = n ∧ (∀ c ∈ L.getD k [], c < 6) from ⟨hrx, hxl, hx6⟩)
      have HZ2 : Hid (Dt (rowf rows is) (L.getD k []) = 0 → ∀ j, j < k + 1 → Dt (rowf rows is) (L.getD j []) = 0) := fun h0 j hj => by
        rcases Nat.lt_or_ge j k with h | h
        · exact HZ.out j h
        · obtain rfl : j = k := by omega
          exact h0
      rw [hxl] at hx hc' HM
      clear hmem hxl hx6 hrx HZ
      obtain ⟨T, hT⟩ : ∃ T, T = L.getD k [] := ⟨_, rfl⟩
      rw [← hT] at HM HX HZ2
      clear hT
      obtain ⟨d, hd⟩ : ∃ d, Dt (rowf rows is) T = d := ⟨_, rfl⟩
      rw [hd] at HM HZ2
      have HD := Lib.hid hd
      clear hd
      have hq0 : (ad.add k).block < wr.heap.size := by rw [add_block]; exact had
      by_cases h0 : d = 0
      · have HZ3 := Lib.hid (HZ2.out h0)
        clear HZ2
        go_wp2_with (go_at_call 39; refine HM.out.mono ?_; rintro e w2 ⟨rfl, b2⟩; replace b2 := Lib.hid b2)
        go_roundw
        case rel => exact ⟨k + 1, by omega, by go_num, below_on HB.out b2.out, HZ3.out⟩
        case measure => simp [intOf]; omega
      · have h0' : (d != 0) = true := by rw [bne_iff_ne]; exact h0
        go_wp2_with (go_at_call 39; refine HM.out.mono ?_; rintro e w2 ⟨rfl, b2⟩; have hx2 := (b2.cell hq0).trans hx; replace b2 := Lib.hid b2)
        go_ret2
        exact HPOST.out _ _ ⟨below_on B1.out (below_on HB.out b2.out), A', c', T, d, rfl, hc', HX.out.1.up b2.out, HX.out.2.1, HX.out.2.2, HD.out, h0⟩
    · obtain rfl : k = L.length := by omega
      exfalso
      obtain ⟨x, hx, hd⟩ := HEX.out
      obtain ⟨j, hj, rfl⟩ := List.mem_iff_getElem.1 hx
      have := HZ.out j hj
      rw [List.getD_eq_getElem?_getD, List.getElem?_eq_getElem hj] at this
      exact hd this

end Go.Proofs.YtipaapplingbnaaGreatDoor
namespace Go.Proofs.YtipaapplingbnaaGreatDoor
open Go.RowKit Go.Deep

theorem cnt_rem {l : List Cm} {v : Vc} {T : List Nat} (h : ValidL l ∧ v.ok = true) (hw : gW l T ≠ 0) {k : Nat} (hk : k < l.length) (hr : gR l v T k ≠ 0) : cntK l v = 4 ∧ cntV l v = [] :=
  cnt_none h fun ⟨_, hm⟩ => hr (gmakes_Q hm hw k hk).2
theorem cnt_tot {l : List Cm} {v : Vc} {T : List Nat} (h : ValidL l ∧ v.ok = true) (hw : gW l T ≠ 0) (ht : tot l (gQs l v T) l.length ≠ v) : cntK l v = 4 ∧ cntV l v = [] :=
  cnt_none h fun ⟨cs, hm⟩ => ht (by rw [gmakes_qs hm hw]; exact makes_tot hm)
theorem cnt_fit {l : List Cm} {v : Vc} {T : List Nat} (h : ValidL l ∧ v.ok = true) (ht : tot l (gQs l v T) l.length = v) : cntK l v = (if inRange (gQs l v T) then 0 else 3) ∧ cntV l v = (if inRange (gQs l v T) then gQs l v T else []) := cnt_makes h (gtot_makes ht)
theorem cnt_ends {w w' : World} {l : List Cm} {v : Vc} {K : Int} {V : List Int} {e : Ending} (h : cntK l v = K ∧ cntV l v = V) (hb : Below w.heap.size w w') (he : ∃ A c, e = .returned (.tuple #[.slice A V.length c, .int .i64 K]) ∧ RdI w' w'.heap.size A V ∧ V.length ≤ c) : CntEnds w l v e w' := by
  unfold CntEnds
  rw [h.1, h.2]
  exact ⟨hb, he⟩
theorem OwnI.cell {w : World} {base g n c : Nat} {l : List Nat} (h : OwnI w base (.slice (some ⟨g, 0, none⟩) n c) l) (j : Nat) (hj : j < l.length) : w.cell? ⟨g, j, none⟩ = some (.int .i64 ((l.getD j 0 : Nat) : Int)) ∧ w.frozen? ⟨g, j, none⟩ = false := by
  refine ⟨?_, ?_⟩
  · obtain ⟨A, c', e, _, hr⟩ := h.form
    injection e with e1 e2 e3
    subst e1
    obtain ⟨ad, e, _, hc⟩ := hr.at (i := j) (by rw [ofN_length]; exact hj)
    obtain rfl := Option.some.inj e
    rw [ofN_at _ _ hj] at hc
    rwa [show (⟨g, 0, none⟩ : Addr).add j = ⟨g, j, none⟩ from by unfold Addr.add; split <;> simp_all] at hc
  · rcases h.2 with ⟨_, h0⟩ | ⟨g', cap, cur, hv, hb, hg, _⟩
    · omega
    · injection hv with hv _ _
      injection hv with hv
      injection hv with hv _ _
      subst hv
      exact frozen_of_row w _ j cur _ hg
theorem OwnI.set {w : World} {base g n c : Nat} {l : List Nat} (h : OwnI w base (.slice (some ⟨g, 0, none⟩) n c) l) (j y : Nat) :
    OwnI (w.setCell ⟨g, j, none⟩ (.int .i64 (y : Int))) base (.slice (some ⟨g, 0, none⟩) n c) (l.set j y) := by
  unfold OwnI at *
  rw [List.length_set]
  refine ⟨by rw [icells_length, ofN_length, List.length_set, Nat.mul_one], ?_⟩
  rcases h.2 with ⟨h0, h1⟩ | ⟨g', cap, cur, hv, hb, hg, hc1, hc2, hc3, ht⟩
  · cases h0
  · refine Or.inr ⟨g', cap, cur.setIfInBounds j (.int .i64 (y : Int)), hv, hb, ?_, hc1, hc2, by rw [Array.size_setIfInBounds]; exact hc3, ?_⟩
    · injection hv with hv _ _
      injection hv with hv
      injection hv with hv _ _
      subst hv
      exact heap_setCell_same w _ j cur _ _ hg
    · rw [Array.toList_setIfInBounds, List.take_set, ht]
      simp [icells, ofN, List.map_set]
theorem OwnI.form' {w : World} {base n c : Nat} {A : Option Addr} {l : List Nat} (h : OwnI w base (.slice A n c) l) (hp : 0 < l.length) : ∃ g, A = some ⟨g, 0, none⟩ ∧ base ≤ g ∧ g < w.heap.size ∧ l.length ≤ c := by
  rcases h.2 with ⟨-, h0⟩ | ⟨g, cap, cur, hv, hb, hg, hc, -⟩
  · omega
  · injection hv with h1 h2 h3
    subst h1
    subst h3
    exact ⟨g, rfl, hb, (Array.getElem?_eq_some_iff.1 hg).1, hc⟩

theorem OwnV.lower {w : World} {base base' : Nat} {v : Value} {l : List Vc} (h : OwnV w base v l) (hb : base' ≤ base) : OwnV w base' v l := by
  refine ⟨h.1, ?_⟩
  rcases h.2 with h2 | ⟨g, cap, cur, hv, hg, r⟩
  · exact .inl h2
  · exact .inr ⟨g, cap, cur, hv, by omega, r⟩
theorem OwnV.snoc {w : World} {base : Nat} {v : Value} {l : List Vc} {u : Vc} (h : w.ownsRow base 25 6 v (l.length + 1) (rcells Vc.cs l ++ u.cs)) : OwnV w base v (l ++ [u]) := by
  unfold OwnV
  rw [List.length_append, rcells_append, rcells_single]
  exact h
set_option maxRecDepth 100000 in
set_option maxHeartbeats 4000000 in
theorem rCounts_bad (w : World) (A : Option Addr) (c : Nat) (l : List Cm) (v : Vc) (hr : RdN w w.heap.size A l) (hs : ∀ x ∈ l, x.nm.length ≤ 9223372036854775807) (hll : l.length ≤ 9223372036854775807) (h : ¬ (ValidL l ∧ v.ok = true)) :
    Calls Tryz.prog 13 #[.slice A l.length c, .agg #[.int .i64 v.a, .int .i64 v.b, .int .i64 v.c, .int .i64 v.d, .int .i64 v.e, .int .i64 v.f]] w (CntEnds w l v) := by
  have hal := (Below.refl w.heap.size w).alloc (Nat.le_refl _) (.cells v.cells 25)
  have HV := Lib.hid (rValid_any (w.alloc (.cells v.cells 25)) A c l (hr.up hal) hs hll)
  have HBL := Lib.hid (Blk.new w 25 v.cells)
  have HAL := Lib.hid hal
  have HIV := Lib.hid fun w1 => rInterval_any w1 v
  obtain ⟨e1, e2⟩ := cnt_arg h
  have HE1 := Lib.hid e1
  have HE2 := Lib.hid e2
  rcases hv : validB l with _ | _
  · rw [hv] at HV
    clear hr hs hal e1 e2 h hv
    go_enter Tryz.func13, Tryz.ntmps13
    go_wp2_with (go_at_call 7; refine HV.out.mono ?_; rintro e w1 ⟨rfl, b1⟩; replace b1 := Lib.hid b1)
    go_ret2
    unfold CntEnds
    rw [HE1.out, HE2.out]
    exact ⟨HAL.out.trans (b1.out.mono HAL.out.size), none, 0, rfl, RdI.nil _ _ _, Nat.le_refl _⟩
  · have hvo : v.ok = false := by rw [Bool.eq_false_iff]; exact fun e => h ⟨validB_iff.1 hv, e⟩
    rw [hv] at HV
    rw [hvo] at HIV
    clear hr hs hal e1 e2 h hv hvo
    go_enter Tryz.func13, Tryz.ntmps13
    go_wp2_with (first
      | (go_at_call 7; refine HV.out.mono ?_; rintro e w1 ⟨rfl, b1⟩; have K1 := Lib.hid (HBL.out.below b1 HBL.out.lt); have p0 := K1.out.cell 0; have p1 := K1.out.cell 1; have p2 := K1.out.cell 2; have p3 := K1.out.cell 3; have p4 := K1.out.cell 4; have p5 := K1.out.cell 5; simp at p0 p1 p2 p3 p4 p5; replace b1 := Lib.hid b1)
      | (go_at_call 29; refine (HIV.out _).mono ?_; rintro e w2 ⟨rfl, b2⟩; replace b2 := Lib.hid b2))
    go_ret2
    unfold CntEnds
    rw [HE1.out, HE2.out]
    exact ⟨below_on (HAL.out.trans (b1.out.mono HAL.out.size)) b2.out, none, 0, rfl, RdI.nil _ _ _, Nat.le_refl _⟩

set_option maxRecDepth 100000 in
set_option maxHeartbeats 3000000 in
theorem rCounts_any (w : World) (A : Option Addr) (c : Nat) (l : List Cm) (v : Vc) (hr : RdN w w.heap.size A l) (hs : ∀ x ∈ l, x.nm.length ≤ 9223372036854775807) (hll : l.length ≤ 9223372036854775807) :
    Calls Tryz.prog 13 #[.slice A l.length c, .agg #[.int .i64 v.a, .int .i64 v.b, .int .i64 v.c, .int .i64 v.d, .int .i64 v.e, .int .i64 v.f]] w (CntEnds w l v) := by
  by_cases hbad : ¬ (ValidL l ∧ v.ok = true)
  · exact rCounts_bad w A c l v hr hs hll hbad
  obtain ⟨hL, hvo⟩ := Classical.not_not.1 hbad
  have hal := (Below.refl w.heap.size w).alloc (Nat.le_refl _) (.cells v.cells 25)
  have hl6 := hL.hi
  have hl1 := hL.lo
  have HV := Lib.hid (rValid_any (w.alloc (.cells v.cells 25)) A c l (hr.up hal) hs hll)
  rw [validB_true hL] at HV
  have HIV := Lib.hid fun w1 => rInterval_any w1 v
  rw [hvo] at HIV
  have HBL := Lib.hid (Blk.new w 25 v.cells)
  have HAL := Lib.hid hal
  have HRO := Lib.hid fun W (hb : Below w.heap.size w W) => rRows_any W A c l (hr.up hb) hl6
  have hvl : (vecs l).length = l.length := by simp [vecs]
  have hok : ∀ u ∈ vecs l ++ [v], u.ok = true := fun u hu => by
    rcases List.mem_append.1 hu with h | h
    · obtain ⟨x, hx, rfl⟩ := List.mem_map.1 h
      exact hL.vecs x hx
    · obtain rfl := List.mem_singleton.1 h; exact hvo
  have hml : (vecs l ++ [v]).length = l.length + 1 := by simp [vecs]
  have HCO := Lib.hid fun W Am Ai cm ci (rm : RdV W W.heap.size Am (vecs l ++ [v])) (ri : RdI W W.heap.size Ai (ofN (List.range l.length))) (hci : l.length ≤ ci) => columns_any W Am Ai cm ci (vecs l ++ [v]) (List.range l.length) rm ri (by simpa using hci) (by simpa using hl6) (by omega) (fun c hc => by have := List.mem_range.1 hc; omega) hok (by rw [rowf_range, rows_eq]; exact hL.ind)
  have HMI := Lib.hid fun W Am Ai Aj cm ci cj k T (rm : RdV W W.heap.size Am (vecs l ++ [v])) (ri : RdI W W.heap.size Ai (ofN ((List.range l.length).set k l.length))) (rj : RdI W W.heap.size Aj (ofN T)) (hci : l.length ≤ ci) (hcj : l.length ≤ cj) (hTl : T.length = l.length) (hT : ∀ c ∈ T, c < 6) => rMinor_any l.length W Am Ai Aj cm ci cj (vecs l ++ [v]) ((List.range l.length).set k l.length) T (by simp) rm ri rj (by simpa using hci) (by omega) (by simp [hTl]) (by omega) (by omega) hT (fun c hc => by
    rcases List.mem_or_eq_of_mem_set hc with h | h
    · have := List.mem_range.1 h; omega
    · omega) hok
  rw [hml] at HCO HMI
  rw [show (List.range l.length).length = l.length from List.length_range] at HCO
  have HTO := Lib.hid fun W Ao co (hb : Below w.heap.size w W) T (hT : ∀ c ∈ T, c < 6) (hT6 : T.length ≤ 6) (ro : RdI W W.heap.size Ao (gQs l v T)) => rTotal_any W A Ao c co l (gQs l v T) (hr.up hb) hl6 (gQs_len l v T) ro hL.vecs (fun n hn => by
    obtain ⟨i, -, rfl⟩ := List.mem_map.1 hn
    have := gQ_bound hL.vecs hvo hl6 hT hT6 i
    omega)
  have HAC := Lib.hid fun W Ao co T (ro : RdI W W.heap.size Ao (gQs l v T)) => rAccount_any W A Ao c co l.length (gQs l v T) hll ro (by rw [gQs_len]; exact hll)
  have HVO := Lib.hid (And.intro hL hvo)
  clear hr hs hal hL hbad hok hvo
  go_enter Tryz.func13, Tryz.ntmps13
  go_wp2_with (first
    | (go_at_call 7; refine HV.out.mono ?_; rintro e w1 ⟨rfl, b1⟩; have K1 := Lib.hid (HBL.out.below b1 HBL.out.lt); have B1 := Lib.hid (HAL.out.trans (b1.mono HAL.out.size)); have p0 := K1.out.cell 0; have p1 := K1.out.cell 1; have p2 := K1.out.cell 2; have p3 := K1.out.cell 3; have p4 := K1.out.cell 4; have p5 := K1.out.cell 5; simp at p0 p1 p2 p3 p4 p5; clear b1)
    | (go_at_call 29; refine (HIV.out _).mono ?_; rintro e w2 ⟨rfl, b2⟩; have K2 := Lib.hid (K1.out.below b2 K1.out.lt); have B2 := Lib.hid (below_on B1.out b2); clear b2))
  clear p0 p1 p2 p3 p4 p5
  have hz2 := B2.out.size
  have hk2 := K2.out.lt
  have HKS : Hid (∀ W, Below w2.heap.size w2 W → Below w2.heap.size w2 W ∧ W.cell? ⟨w.heap.size, 0, none⟩ = some (.int .i64 v.a) ∧ W.cell? ⟨w.heap.size, 1, none⟩ = some (.int .i64 v.b) ∧ W.cell? ⟨w.heap.size, 2, none⟩ = some (.int .i64 v.c) ∧ W.cell? ⟨w.heap.size, 3, none⟩ = some (.int .i64 v.d) ∧ W.cell? ⟨w.heap.size, 4, none⟩ = some (.int .i64 v.e) ∧ W.cell? ⟨w.heap.size, 5, none⟩ = some (.int .i64 v.f)) := fun W hb => by
    have K := K2.out.below hb hk2
    exact ⟨hb, K.cell 0, K.cell 1, K.cell 2, K.cell 3, K.cell 4, K.cell 5⟩
  go_cut [7] (fun m wx => Hid (Below w2.heap.size w2 wx) ∧ ∃ Am cm, m = .slice Am (l.length + 1) cm ∧ Hid (RdV wx wx.heap.size Am (vecs l ++ [v])))
  case first =>
    go_region_held3 (fun W => Below w2.heap.size w2 W ∧ W.cell? ⟨w.heap.size, 0, none⟩ = some (.int .i64 v.a) ∧ W.cell? ⟨w.heap.size, 1, none⟩ = some (.int .i64 v.b) ∧ W.cell? ⟨w.heap.size, 2, none⟩ = some (.int .i64 v.c) ∧ W.cell? ⟨w.heap.size, 3, none⟩ = some (.int .i64 v.d) ∧ W.cell? ⟨w.heap.size, 4, none⟩ = some (.int .i64 v.e) ∧ W.cell? ⟨w.heap.size, 5, none⟩ = some (.int .i64 v.f))
      ((refine HKS.out _ ?_; first
        | exact (Below.refl _ _).drew
        | exact Below.refl _ _
        | exact ((Below.refl _ _).alloc (Nat.le_refl _) _).drew
        | exact HB5.out
        | exact HB3.out.alloc HB3.out.size _
        | exact HB3.out))
      ((have hS : Below w2.heap.size w2 _ ∧ _ := (by assumption); first
        | (go_at_call 31; refine (HRO.out _ (below_on B2.out hS.1)).mono ?_; rintro e w3 ⟨b3, v3, rfl, o3⟩; have HB3 := Lib.hid (below_on hS.1 b3); have hb3 := b3.size; have hs3 := (hS.1).size)
        | (refine step_appx _ rfl (.tmp 25) (.tmp 27) 40 25 (.agg #[.int .i64 0, .int .i64 0, .int .i64 0, .int .i64 0, .int .i64 0, .int .i64 0]) 6 48 rfl Tryz.underlying40 vec_info rfl (by decide) w2.heap.size _ (vecs l).length (rcells Vc.cs (vecs l)) rfl ?_ _ 1 1 v.cs rfl ?_ v.cs_one (by simp only [maxLen]; omega) (by omega) ?_ ?_; (first | exact OwnV.alloc (OwnV.lower o3 hs3) _ | exact OwnV.lower o3 hs3); (first | exact ⟨_, shows_vec w3 v⟩ | exact ⟨_, Shows.below (Shows.wider (Shows.drew (shows_vec w2 v)) (Nat.le_of_eq (World.size_alloc _ _).symm)) b3⟩); (first | omega | (simp <;> omega)); intro v5 w5 ho5 hg5 _; have HB5 := Lib.hid (below_grown (B := w2.heap.size) (a := w2) hS.1 hg5 (by first | omega | (simp <;> omega)) (fun g hg => Nat.le_trans hs3 (World.ownsRow.lt o3 g hg).1)); have HO5 := Lib.hid (OwnV.snoc ho5))))
    all_goals
      go_wp2_with fail
      go_meet
      case rel =>
        obtain ⟨Am, cm, rfl, -, rm⟩ := HO5.out.form
        exact ⟨HB5.out, Am, cm, by rw [List.length_append, hvl]; rfl, rm⟩
  case rest =>
    obtain ⟨HBC, Am, cm, rfl, HRM⟩ := hcut
    have hzc := HBC.out.size
    have KC := Lib.hid (K2.out.below HBC.out hk2)
    clear HKS
    go_wp2_with fail
    go_loopw [8, 9] (fun v i wx => ∃ k : Nat, k ≤ l.length ∧ i = .int .i64 k ∧ Hid (Below wc.heap.size wc wx) ∧ Hid (OwnI wx wc.heap.size v (List.range k))) (fun _ i _ => l.length - (intOf i).toNat)
    case atStart => exact ⟨0, Nat.zero_le _, rfl, Below.refl _ _, OwnI.start _ _⟩
    case round =>
      obtain ⟨k, hk, rfl, HB, HO⟩ := hrel
      by_cases hlt : k < l.length
      · have hrl : (List.range k).length ≤ 6 := by rw [List.length_range]; omega
        have hob := HO.out.block
        have hzr := HB.out.size
        have HRS := Lib.hid (show List.range (k + 1) = List.range k ++ [k] from List.range_succ)
        go_wp2_with (at_builtin; refine wpList_app _ rfl (.tmp 35) (.tmp 37) 23 3 (.int .i64 0) 1 8 rfl Tryz.underlying23 int_info rfl (by decide) wc.heap.size _ _ _ rfl (World.ownsRow.alloc HO.out (.cells #[.int .i64 (k : Int)] 3)) (wr.heap.size + 1) (some ⟨wr.heap.size, 0, none⟩) 1 1 [.int .i64 (k : Int)] rfl (shows_new wr #[.int .i64 (k : Int)] 3 1 1 rfl) (by simp [Value.oneCell']) (by simp only [maxLen]; omega) (by omega) (by simp; omega) ?_; intro v4 w4 ho4 hg4 _; replace ho4 := Lib.hid ho4; replace hg4 := Lib.hid hg4)
        go_roundw
        case rel => exact ⟨k + 1, by omega, by go_num, below_grown (HB.out.alloc HB.out.size _) hg4.out (by simp; omega) (fun g hg => hob g hg), by show OwnI _ _ _ _; rw [HRS.out]; exact OwnI.snoc ho4.out⟩
        case measure => simp [intOf]; omega
      · obtain rfl : k = l.length := by omega
        obtain ⟨Ai, ci, rfl, hci, hri⟩ := HO.out.form
        rw [List.length_range] at hci ⊢
        have HCC := Lib.hid (HCO.out wr Am Ai cm ci (HRM.out.up HB.out) hri hci)
        have HRI := Lib.hid hri
        have BR := Lib.hid (below_on B2.out (below_on HBC.out HB.out))
        have KR := Lib.hid (KC.out.below HB.out KC.out.lt)
        have RM := Lib.hid (HRM.out.up HB.out)
        clear hri HO HRM HCO
        go_wp2_with (go_at_call 38; refine HCC.out.mono ?_; rintro e w5 ⟨b5, Aj, cj, T, d, rfl, hcj, rj, hTl, hT6, hTd, hd0⟩; replace b5 := Lib.hid b5; replace rj := Lib.hid rj; have HT := Lib.hid (show T.length = l.length ∧ (∀ c ∈ T, c < 6) from ⟨by simpa using hTl, hT6⟩); have HTD := Lib.hid hTd; rw [show (List.range l.length).length = l.length from List.length_range] at hcj ⊢; clear hTl hT6 hTd)
        have hzr := b5.out.size
        have HW5 : Hid (gW l T = d) := by show _ = _; rw [← HTD.out, rowf_range]; rfl
        have HB5' := Lib.hid (below_on BR.out b5.out)
        have K5 := Lib.hid (KR.out.below b5.out KR.out.lt)
        have RM5 := Lib.hid (RM.out.up b5.out)
        have RI5 := Lib.hid (HRI.out.up b5.out)
        clear HCC HTD BR KR RM HRI HBC HB KC hzc
        go_loopw [12, 13] (fun o i wx => ∃ k : Nat, k ≤ l.length ∧ i = .int .i64 k ∧ Hid (Below w5.heap.size w5 wx) ∧ Hid (OwnZ wx w5.heap.size o ((gQs l v T).take k))) (fun _ i _ => l.length - (intOf i).toNat)
        case atStart => exact ⟨0, Nat.zero_le _, rfl, Below.refl _ _, OwnZ.start _ _⟩
        case round =>
          obtain ⟨k, hk, rfl, HB, HO⟩ := hrel
          have hzw := HB.out.size
          by_cases hlt : k < l.length
          · have hki : (k : Int) < (l.length : Int) := by omega
            have hNB := gN_bound HVO.out.1.vecs HVO.out.2 hl6 HT.out.2 (by rw [HT.out.1]; exact hl6) k
            have hQB := gQ_bound HVO.out.1.vecs HVO.out.2 hl6 HT.out.2 (by rw [HT.out.1]; exact hl6) k
            have HMK := Lib.hid fun W Ai' ci' (hb : Below wr.heap.size wr W) (ri : RdI W W.heap.size Ai' (ofN ((List.range l.length).set k l.length))) (hci' : l.length ≤ ci') => HMI.out W Am Ai' Aj cm ci' cj k T (RM5.out.up (below_on HB.out hb)) ri (rj.out.up (below_on HB.out hb)) hci' hcj HT.out.1 HT.out.2
            rw [rowf_set, List.length_set, List.length_range, HT.out.1] at HMK
            have HNX := Lib.hid (gQs_next l v T k hlt)
            have HRM4 : Hid (gR l v T k ≠ 0 → cntK l v = 4 ∧ cntV l v = []) := fun h => cnt_rem HVO.out (by rw [HW5.out]; exact hd0) hlt h
            have hr1 : (gN l v T k).tmod d = gR l v T k := by unfold gR; rw [HW5.out]
            have hq1 : (gN l v T k).tdiv d = gQ l v T k := by unfold gQ; rw [HW5.out]
            have HIS := Lib.hid fun W (hb : Below wr.heap.size wr W) => shows_ofN (RI5.out.up (below_on HB.out hb))
            rw [show (List.range l.length).length = l.length from List.length_range] at HIS
            obtain ⟨M, hM⟩ : ∃ M, M = (gQs l v T).take k := ⟨_, rfl⟩
            rw [← hM] at HO HNX
            have hMl : M.length = k := by rw [hM, List.length_take, gQs_len]; omega
            clear hM
            change Hid (∀ W Ai' ci', _ → _ → _ → Calls _ _ _ _ (fun e w' => e = .returned (.int .i64 (gN l v T k)) ∧ _)) at HMK
            obtain ⟨N, hN⟩ : ∃ N, gN l v T k = N := ⟨_, rfl⟩
            obtain ⟨Q, hQ⟩ : ∃ Q, gQ l v T k = Q := ⟨_, rfl⟩
            obtain ⟨R, hR⟩ : ∃ R, gR l v T k = R := ⟨_, rfl⟩
            rw [hN] at HMK hNB hr1 hq1
            rw [hQ] at hq1 HNX hQB
            rw [hR] at hr1 HRM4
            clear hN hQ hR
            have hob := HO.out.block
            have HOB := Lib.hid hob
            clear hob
            have ta := Lib.hid trivial
            by_cases hR0 : R = 0
            · subst hR0
              have hwQ : IntKind.i64.wrap Q = Q := IntWalk.i64_in _ (by omega)
              go_wp2_with (first
                | (have _t := ta; at_builtin; refine wpList_app _ rfl (.tmp 51) (.tmp 52) 23 3 (.int .i64 0) 1 8 rfl Tryz.underlying23 int_info rfl (by decide) wr.heap.size _ 0 (icells (ofN [])) rfl (OwnI.made wr wr.heap.size (Nat.le_refl _)) _ Ai l.length ci (icells (ofN (List.range l.length))) rfl (HIS.out _ ((Below.refl _ _).alloc (Nat.le_refl _) _)) (icells_one _) (by simp only [maxLen]; omega) (by omega) (by simp) ?_; intro v6 w6 ho6 hg6 _; have B6 : Hid (Below wr.heap.size wr w6) := (below_grown (B := wr.heap.size) (a := wr) ((Below.refl wr.heap.size wr).alloc (Nat.le_refl _) _) hg6 (by simp) (fun g hg => (World.ownsRow.lt (OwnI.made wr wr.heap.size (Nat.le_refl _)) g hg).1)); have O6 := OwnI.add' (l := []) (m := List.range l.length) rfl List.length_range ho6; rw [List.nil_append] at O6; obtain ⟨A6, c6, e6, hc6, -⟩ := O6.form; subst e6; obtain ⟨g6, e7, hg6b, hg6l, -⟩ := O6.form' (by rw [List.length_range]; omega); subst e7; rw [List.length_range] at O6 hc6 ⊢; have q6 := O6.cell k (by rw [List.length_range]; exact hlt); obtain ⟨q6a, q6b⟩ := q6; have HS6 := Lib.hid (O6.set k l.length); have BS6 := Lib.hid (B6.out.setCell (p := ⟨g6, k, none⟩) hg6b (.int .i64 (l.length : Int))); have tb := Lib.hid trivial; clear hg6 ho6 O6 ta)
                | (have _t := tb; go_at_call 39; refine (HMK.out _ (some ⟨g6, 0, none⟩) c6 BS6.out (by obtain ⟨A', c', e', -, r'⟩ := HS6.out.form; injection e' with e1 e2 e3; subst e1; exact r') hc6).mono ?_; rintro e w8 ⟨rfl, b8⟩; have B8 : Hid (Below wr.heap.size wr w8) := below_on BS6.out b8; have hz8 := B8.out.size; have td := Lib.hid trivial; clear b8 tb)
                | (have _t := td; at_builtin; refine wpList_app _ rfl (.tmp 67) (.tmp 71) 23 3 (.int .i64 0) 1 8 rfl Tryz.underlying23 int_info rfl (by decide) w5.heap.size _ _ _ rfl (World.ownsRow.alloc (own_on HO.out B8.out) (.cells #[.int .i64 Q] 3)) (w8.heap.size + 1) (some ⟨w8.heap.size, 0, none⟩) 1 1 (icells [Q]) rfl (shows_new w8 #[.int .i64 Q] 3 1 1 rfl) (icells_one _) (by simp only [maxLen]; omega) (by omega) (by simp; omega) ?_; intro v9 w9 ho9 hg9 _; replace ho9 := Lib.hid ho9; replace hg9 := Lib.hid hg9))
              go_roundw
              case rel =>
                refine ⟨k + 1, by omega, by go_num, ?_, ?_⟩
                · have h8 := below_on HB.out B8.out
                  exact below_grown (h8.alloc h8.size _) hg9.out (by simp; omega) (fun g hg => HOB.out g hg)
                · show OwnZ _ _ _ _
                  rw [HNX.out]
                  exact OwnZ.snoc (m := [Q]) ho9.out
              case measure => simp [intOf]; omega
            · have hR0' : (R != 0) = true := by rw [bne_iff_ne]; exact hR0
              have HF := Lib.hid (HRM4.out hR0)
              go_wp2_with (first
                | (have _t := ta; at_builtin; refine wpList_app _ rfl (.tmp 51) (.tmp 52) 23 3 (.int .i64 0) 1 8 rfl Tryz.underlying23 int_info rfl (by decide) wr.heap.size _ 0 (icells (ofN [])) rfl (OwnI.made wr wr.heap.size (Nat.le_refl _)) _ Ai l.length ci (icells (ofN (List.range l.length))) rfl (HIS.out _ ((Below.refl _ _).alloc (Nat.le_refl _) _)) (icells_one _) (by simp only [maxLen]; omega) (by omega) (by simp) ?_; intro v6 w6 ho6 hg6 _; have B6 : Hid (Below wr.heap.size wr w6) := (below_grown (B := wr.heap.size) (a := wr) ((Below.refl wr.heap.size wr).alloc (Nat.le_refl _) _) hg6 (by simp) (fun g hg => (World.ownsRow.lt (OwnI.made wr wr.heap.size (Nat.le_refl _)) g hg).1)); have O6 := OwnI.add' (l := []) (m := List.range l.length) rfl List.length_range ho6; rw [List.nil_append] at O6; obtain ⟨A6, c6, e6, hc6, -⟩ := O6.form; subst e6; obtain ⟨g6, e7, hg6b, hg6l, -⟩ := O6.form' (by rw [List.length_range]; omega); subst e7; rw [List.length_range] at O6 hc6 ⊢; have q6 := O6.cell k (by rw [List.length_range]; exact hlt); obtain ⟨q6a, q6b⟩ := q6; have HS6 := Lib.hid (O6.set k l.length); have BS6 := Lib.hid (B6.out.setCell (p := ⟨g6, k, none⟩) hg6b (.int .i64 (l.length : Int))); have tb := Lib.hid trivial; clear hg6 ho6 O6 ta)
                | (have _t := tb; go_at_call 39; refine (HMK.out _ (some ⟨g6, 0, none⟩) c6 BS6.out (by obtain ⟨A', c', e', -, r'⟩ := HS6.out.form; injection e' with e1 e2 e3; subst e1; exact r') hc6).mono ?_; rintro e w8 ⟨rfl, b8⟩; have B8 : Hid (Below wr.heap.size wr w8) := below_on BS6.out b8; have hz8 := B8.out.size; have td := Lib.hid trivial; clear b8 tb)
                | fail)
              go_ret2
              exact cnt_ends HF.out (below_on HB5'.out (below_on HB.out B8.out)) ⟨none, 0, rfl, RdI.nil _ _ _, Nat.le_refl _⟩
          · obtain rfl : k = l.length := by omega
            have hgl := gQs_len l v T
            rw [List.take_of_length_le (by omega)] at HO
            obtain ⟨Ao, co, rfl, hco, hro⟩ := HO.out.form
            rw [hgl] at hco ⊢
            have HTT := Lib.hid fun W (hb : Below wr.heap.size wr W) => HTO.out W Ao co (below_on (below_on HB5'.out HB.out) hb) T HT.out.2 (by rw [HT.out.1]; exact hl6) (hro.up hb)
            have HAA := Lib.hid fun W (hb : Below wr.heap.size wr W) => HAC.out W Ao co T (hro.up hb)
            rw [hgl, decide_eq_true rfl, Bool.true_and] at HAA
            have HBW := Lib.hid (below_on HB5'.out HB.out)
            have HRO2 := Lib.hid hro
            have KW := K5.out.below HB.out K5.out.lt
            have hkw := KW.lt
            have HKR : Hid (∀ W, Below wr.heap.size wr W → Below wr.heap.size wr W ∧ W.cell? ⟨w.heap.size, 0, none⟩ = some (.int .i64 v.a) ∧ W.cell? ⟨w.heap.size, 1, none⟩ = some (.int .i64 v.b) ∧ W.cell? ⟨w.heap.size, 2, none⟩ = some (.int .i64 v.c) ∧ W.cell? ⟨w.heap.size, 3, none⟩ = some (.int .i64 v.d) ∧ W.cell? ⟨w.heap.size, 4, none⟩ = some (.int .i64 v.e) ∧ W.cell? ⟨w.heap.size, 5, none⟩ = some (.int .i64 v.f)) := fun W hb => by
              have K := KW.below hb hkw
              exact ⟨hb, K.cell 0, K.cell 1, K.cell 2, K.cell 3, K.cell 4, K.cell 5⟩
            have HTN : Hid (tot l (gQs l v T) l.length ≠ v → cntK l v = 4 ∧ cntV l v = []) := fun h => cnt_tot HVO.out (by rw [HW5.out]; exact hd0) h
            have HTF : Hid (tot l (gQs l v T) l.length = v → _) := fun h => cnt_fit HVO.out h
            have hne := fun W => neq_vec (tot l (gQs l v T) l.length) v W
            have HGL := Lib.hid hgl
            clear KW hro HO HMI HTO HAC hgl
            generalize tot l (gQs l v T) l.length = t at *
            generalize gQs l v T = qs at *
            by_cases htv : t = v
            · have hd1 : decide (t = v) = true := decide_eq_true htv
              rw [hd1] at hne
              have HF := Lib.hid (HTF.out htv)
              clear htv HTN HTF hd1
              rcases hi : inRange qs with _ | _
              · rw [hi] at HAA HF
                clear hi
                go_wp2_with fail
                go_region_held3 (fun W => Below wr.heap.size wr W ∧ W.cell? ⟨w.heap.size, 0, none⟩ = some (.int .i64 v.a) ∧ W.cell? ⟨w.heap.size, 1, none⟩ = some (.int .i64 v.b) ∧ W.cell? ⟨w.heap.size, 2, none⟩ = some (.int .i64 v.c) ∧ W.cell? ⟨w.heap.size, 3, none⟩ = some (.int .i64 v.d) ∧ W.cell? ⟨w.heap.size, 4, none⟩ = some (.int .i64 v.e) ∧ W.cell? ⟨w.heap.size, 5, none⟩ = some (.int .i64 v.f))
                  ((refine HKR.out _ ?_; first
                    | exact (Below.refl _ _).drew
                    | exact Below.refl _ _
                    | exact HB9.out))
                  ((have hS : Below wr.heap.size wr _ ∧ _ := (by assumption); (go_at_call 35; refine (HTT.out _ hS.1).mono ?_; rintro e w9 ⟨rfl, b9⟩; have HB9 := Lib.hid (below_on hS.1 b9); clear b9)))
                all_goals
                  go_wp2_with (go_at_call 34; refine (HAA.out _ HB9.out).mono ?_; rintro e w10 ⟨rfl, rfl⟩)
                  go_ret2
                  exact cnt_ends HF.out (below_on HBW.out HB9.out) ⟨none, 0, rfl, RdI.nil _ _ _, Nat.le_refl _⟩
              · rw [hi] at HAA
                replace HF : Hid (cntK l v = 0 ∧ cntV l v = qs) := by
                  have h := HF.out
                  rw [hi] at h
                  exact h
                clear hi
                go_wp2_with fail
                go_region_held3 (fun W => Below wr.heap.size wr W ∧ W.cell? ⟨w.heap.size, 0, none⟩ = some (.int .i64 v.a) ∧ W.cell? ⟨w.heap.size, 1, none⟩ = some (.int .i64 v.b) ∧ W.cell? ⟨w.heap.size, 2, none⟩ = some (.int .i64 v.c) ∧ W.cell? ⟨w.heap.size, 3, none⟩ = some (.int .i64 v.d) ∧ W.cell? ⟨w.heap.size, 4, none⟩ = some (.int .i64 v.e) ∧ W.cell? ⟨w.heap.size, 5, none⟩ = some (.int .i64 v.f))
                  ((refine HKR.out _ ?_; first
                    | exact (Below.refl _ _).drew
                    | exact Below.refl _ _
                    | exact HB9.out))
                  ((have hS : Below wr.heap.size wr _ ∧ _ := (by assumption); (go_at_call 35; refine (HTT.out _ hS.1).mono ?_; rintro e w9 ⟨rfl, b9⟩; have HB9 := Lib.hid (below_on hS.1 b9); clear b9)))
                all_goals
                  go_wp2_with (go_at_call 34; refine (HAA.out _ HB9.out).mono ?_; rintro e w10 ⟨rfl, rfl⟩)
                  go_ret2
                  exact cnt_ends HF.out (below_on HBW.out HB9.out) ⟨Ao, co, by rw [HGL.out]; rfl, HRO2.out.up HB9.out, by rw [HGL.out]; exact hco⟩
            · have hd1 : decide (t = v) = false := decide_eq_false htv
              rw [hd1] at hne
              have HF := Lib.hid (HTN.out htv)
              clear htv HTN HTF hd1
              go_wp2_with fail
              go_region_held3 (fun W => Below wr.heap.size wr W ∧ W.cell? ⟨w.heap.size, 0, none⟩ = some (.int .i64 v.a) ∧ W.cell? ⟨w.heap.size, 1, none⟩ = some (.int .i64 v.b) ∧ W.cell? ⟨w.heap.size, 2, none⟩ = some (.int .i64 v.c) ∧ W.cell? ⟨w.heap.size, 3, none⟩ = some (.int .i64 v.d) ∧ W.cell? ⟨w.heap.size, 4, none⟩ = some (.int .i64 v.e) ∧ W.cell? ⟨w.heap.size, 5, none⟩ = some (.int .i64 v.f))
                ((refine HKR.out _ ?_; first
                  | exact (Below.refl _ _).drew
                  | exact Below.refl _ _
                  | exact HB9.out))
                ((have hS : Below wr.heap.size wr _ ∧ _ := (by assumption); (go_at_call 35; refine (HTT.out _ hS.1).mono ?_; rintro e w9 ⟨rfl, b9⟩; have HB9 := Lib.hid (below_on hS.1 b9); clear b9)))
              all_goals
                go_wp2_with fail
                go_ret2
                exact cnt_ends HF.out (below_on HBW.out HB9.out) ⟨none, 0, rfl, RdI.nil _ _ _, Nat.le_refl _⟩

end Go.Proofs.YtipaapplingbnaaGreatDoor
