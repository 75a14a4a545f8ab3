/- Walks: Find, account, add. -/
import Derived.Test.YtipaapplingbnaaDoorCm
namespace Go.Proofs.YtipaapplingbnaaDoor
open Go.RowKit Go.Deep Go.Maps Go.WideMaps

/-- u and n times c. -/
def Vc.addm (u : Vc) (n : Int) (c : Vc) : Vc := ⟨u.a + n * c.a, u.b + n * c.b, u.c + n * c.c, u.d + n * c.d, u.e + n * c.e, u.f + n * c.f⟩
theorem Vc.addm_at (u : Vc) (n : Int) (c : Vc) (j : Nat) : (u.addm n c).at j = u.at j + n * c.at j := by
  rcases (show j = 0 ∨ j = 1 ∨ j = 2 ∨ j = 3 ∨ j = 4 ∨ j = 5 ∨ 6 ≤ j by omega) with rfl | rfl | rfl | rfl | rfl | rfl | h
  · rfl
  · rfl
  · rfl
  · rfl
  · rfl
  · rfl
  · obtain ⟨i, rfl⟩ : ∃ i, j = i + 6 := ⟨j - 6, by omega⟩
    simp [Vc.at]
/-- The first k entries are there. -/
def mixv (u t : Vc) (k : Nat) : Vc := ⟨if 0 < k then t.a else u.a, if 1 < k then t.b else u.b, if 2 < k then t.c else u.c, if 3 < k then t.d else u.d, if 4 < k then t.e else u.e, if 5 < k then t.f else u.f⟩
theorem mixv_zero (u t : Vc) : mixv u t 0 = u := rfl
theorem mixv_six (u t : Vc) : mixv u t 6 = t := rfl
theorem mixv_at (u t : Vc) (k : Nat) (hk : k < 6) : (mixv u t k).at k = u.at k := by
  rcases (show k = 0 ∨ k = 1 ∨ k = 2 ∨ k = 3 ∨ k = 4 ∨ k = 5 by omega) with rfl | rfl | rfl | rfl | rfl | rfl <;> rfl
theorem mixv_set (u t : Vc) (k : Nat) (hk : k < 6) : (mixv u t k).cells.setIfInBounds k (.int .i64 (t.at k)) = (mixv u t (k + 1)).cells := by
  rcases (show k = 0 ∨ k = 1 ∨ k = 2 ∨ k = 3 ∨ k = 4 ∨ k = 5 by omega) with rfl | rfl | rfl | rfl | rfl | rfl <;> rfl

set_option maxRecDepth 100000 in
set_option maxHeartbeats 2000000 in
theorem add_any (w : World) (g : Nat) (u c : Vc) (n : Int) (hg : Blk w g 25 u.cells) (hn : n.natAbs ≤ 600000000000000) (hc : c.ok = true) (hu : ∀ j, j < 6 → (u.at j).natAbs ≤ 1000000000000000000) :
    Calls Tryd.prog 19 #[.pointer (some ⟨g, 0, none⟩), .agg #[.int .i64 c.a, .int .i64 c.b, .int .i64 c.c, .int .i64 c.d, .int .i64 c.e, .int .i64 c.f], .int .i64 n] w
      fun e w' => e = .returned (.tuple #[]) ∧ Only g w w' ∧ Blk w' g 25 (u.addm n c).cells := by
  have HG := Lib.hid hg
  have hgl := hg.lt
  clear hg
  go_enter Tryd.func19, Tryd.ntmps19
  go_wp2_with fail
  go_loopw [9] (fun i wx => ∃ k : Nat, k ≤ 6 ∧ i = .int .i64 k ∧ Hid (Only g w wx) ∧ Hid (Blk wx g 25 (mixv u (u.addm n c) k).cells)) (fun i _ => 6 - (intOf i).toNat)
  case atStart => exact ⟨0, by omega, rfl, Only.of_below ((Below.refl _ _).alloc (Nat.le_refl _) _), HG.out.alloc _⟩
  case round =>
    obtain ⟨k, hk, rfl, HO, HB⟩ := hrel
    by_cases hlt : k < 6
    · have hix := index_vec c k hlt
      have hcl := HB.out.cell k
      rw [Vc.cell _ k hlt, mixv_at _ _ _ hlt] at hcl
      have hfz := HB.out.frozen k
      have hx := (Vc.ok_iff c).1 hc k hlt
      have hux := hu k hlt
      have hpr : (n * c.at k).natAbs ≤ 600000000000000 * 48 := by rw [Int.natAbs_mul]; exact Nat.mul_le_mul hn hx
      have HS := Lib.hid (HB.out.set_ k (.int .i64 ((u.addm n c).at k)))
      rw [mixv_set _ _ _ hlt, Vc.addm_at] at HS
      generalize hy : n * c.at k = y at *
      generalize c.at k = x at *
      generalize u.at k = z at *
      have y1 : -28800000000000000 ≤ y := by omega
      have y2 : y ≤ 28800000000000000 := by omega
      have z1 : -1000000000000000000 ≤ z := by omega
      have z2 : z ≤ 1000000000000000000 := by omega
      clear hpr hux hx
      go_wp2_with fail
      go_region
      go_wp2_with fail
      go_roundw
      case rel => exact ⟨k + 1, by omega, by go_num, (HO.out.setCell _ _).drew, HS.out.drew⟩
      case measure => simp [intOf]; omega
    · obtain rfl : k = 6 := by omega
      rw [mixv_six] at HB
      go_wp2_with fail
      go_end0
      exact ⟨rfl, HO.out, HB.out⟩

/-- Where a name stands. -/
def findI (l : List Cm) (s : List UInt8) : Nat := ((idxOf (nms l) s).getD 0)
noncomputable def findV (l : List Cm) (s : List UInt8) : Int := if validB l then (findI l s : Nat) else 0
noncomputable def findE (l : List Cm) (s : List UInt8) : Int := if validB l then (if (idxOf (nms l) s).isSome then 0 else 4) else 1
theorem idx_some {ns : List (List UInt8)} {s : List UInt8} {i : Nat} (hi : i < ns.length) (hn : ns.Nodup) (h : ns.getD i [] = s) : idxOf ns s = some i := by
  have e : ns = ns.take i ++ s :: ns.drop (i + 1) := by
    have : ns[i] = s := by rw [← h]; simp [List.getD_eq_getElem?_getD, hi]
    rw [← this, List.getElem_cons_drop, List.take_append_drop]
  rw [e] at hn ⊢
  rw [idxOf_at _ _ _ hn, List.length_take]
  congr 1
  omega
theorem idx_none {ns : List (List UInt8)} {s : List UInt8} (h : ∀ i, i < ns.length → ns.getD i [] ≠ s) : idxOf ns s = none := by
  unfold idxOf
  rw [List.findIdx?_eq_none_iff]
  intro x hx
  obtain ⟨i, hi, rfl⟩ := List.mem_iff_getElem.1 hx
  have := h i hi
  simp [List.getD_eq_getElem?_getD, hi] at this
  simpa using this

set_option maxRecDepth 100000 in
set_option maxHeartbeats 2000000 in
theorem find_any (w : World) (A : Option Addr) (c : Nat) (l : List Cm) (s : List UInt8) (hr : RdN w w.heap.size A l) (hs : ∀ x ∈ l, x.nm.length ≤ 9223372036854775807) (hll : l.length ≤ 9223372036854775807) (hsl : s.length ≤ 9223372036854775807) :
    Calls Tryd.prog 17 #[.slice A l.length c, str s] w fun e w' => e = .returned (.tuple #[.int .i64 (findV l s), .int .i64 (findE l s)]) ∧ Below w.heap.size w w' := by
  have HV := Lib.hid (valid_any w A c l hr hs hll)
  unfold findV findE
  rcases hv : validB l with _ | _
  · rw [hv] at HV
    simp only [Bool.false_eq_true, if_false]
    clear hr hs hv
    go_enter Tryd.func17, Tryd.ntmps17
    go_wp2_with (go_at_call 12; refine HV.out.mono ?_; rintro e w1 ⟨rfl, b1⟩; replace b1 := Lib.hid b1)
    go_ret2
    exact ⟨rfl, b1.out⟩
  · rw [hv] at HV
    have hL := validB_iff.1 hv
    have HN := Lib.hid fun (w1 : World) (hb : Below w.heap.size w w1) => names_any w1 A c l (hr.up hb) hL.hi hs
    have HK := Lib.hid (key_str s hsl)
    have hnl : (nms l).length = l.length := by simp [nms]
    have hzz := zeroI
    simp only [if_true]
    by_cases hh : has (namesK (nms l) l.length) (nkey s) = true
    · obtain ⟨i, hi, he⟩ := (namesK_has _ _ _).1 hh
      have hix := idx_some (by omega) hL.nodup he
      have hat := namesK_at (nms l) l.length i hi (fun j h1 h2 e => by
        have hp := List.pairwise_iff_getElem.1 hL.nodup i j (by omega) (by omega) h1
        rw [List.getD_eq_getElem?_getD, List.getD_eq_getElem?_getD, List.getElem?_eq_getElem (by omega), List.getElem?_eq_getElem (by omega)] at e
        exact hp e.symm) (.lit (.int .i64 0))
      rw [he] at hat
      rw [show findI l s = i by unfold findI; rw [hix]; rfl, hix]
      have HAT := Lib.hid hat
      have HH := Lib.hid hh
      clear hr hs hv hL hat hh hix he hnl
      go_enter Tryd.func17, Tryd.ntmps17
      go_wp2_with (first
        | (go_at_call 12; refine HV.out.mono ?_; rintro e w1 ⟨rfl, b1⟩; replace b1 := Lib.hid b1)
        | (go_at_call 23; refine (HN.out _ b1.out).mono ?_; rintro e w2 ⟨b2, g, rfl, hg, hM⟩; replace b2 := Lib.hid b2; replace hM := Lib.hid hM)
        | (at_lookup; refine wpList_lookup_own_ok_int (H := Unit) _ rfl _ _ 59 rfl 9 3 .i64 lawS Tryd.underlying59 Tryd.underlying3 (zeroI _) g l.length _ rfl hM.out _ _ rfl HK.out ?_; intro cc hcc hwc; rw [HAT.out] at hcc; injection hcc with hcc; injection hcc with _ hcc; subst hcc; rw [HH.out]))
      go_ret2
      exact ⟨rfl, below_on b1.out b2.out⟩
    · have hix := idx_none (ns := nms l) (s := s) (fun i hi e => hh ((namesK_has _ _ _).2 ⟨i, by omega, e⟩))
      have hhf : has (namesK (nms l) l.length) (nkey s) = false := by simpa using hh
      rw [show findI l s = 0 by unfold findI; rw [hix]; rfl, hix]
      have HH := Lib.hid hhf
      clear hr hs hv hL hh hix hhf hnl
      go_enter Tryd.func17, Tryd.ntmps17
      go_wp2_with (first
        | (go_at_call 12; refine HV.out.mono ?_; rintro e w1 ⟨rfl, b1⟩; replace b1 := Lib.hid b1)
        | (go_at_call 23; refine (HN.out _ b1.out).mono ?_; rintro e w2 ⟨b2, g, rfl, hg, hM⟩; replace b2 := Lib.hid b2; replace hM := Lib.hid hM)
        | (at_lookup; refine wpList_lookup_own_ok_int (H := Unit) _ rfl _ _ 59 rfl 9 3 .i64 lawS Tryd.underlying59 Tryd.underlying3 (zeroI _) g l.length _ rfl hM.out _ _ rfl HK.out ?_; intro cc hcc hwc; rw [HH.out]; clear hcc hwc))
      go_ret2
      exact ⟨rfl, below_on b1.out b2.out⟩

end Go.Proofs.YtipaapplingbnaaDoor
