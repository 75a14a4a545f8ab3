/- Walks: names (a map from the names to their places). -/
import Derived.Test.YtipaapplingbnaaDoorCd
namespace Go.Proofs.YtipaapplingbnaaDoor
open Go.RowKit Go.Maps Go.WideMaps

def nkey (s : List UInt8) : Lit := .string s
def namesK (ns : List (List UInt8)) (k : Nat) : DataW Unit := (List.range k).foldl (fun D i => D.put (nkey (ns.getD i [])) (.lit (.int .i64 i))) (.map [])
theorem namesK_succ (ns : List (List UInt8)) (k : Nat) : namesK ns (k + 1) = (namesK ns k).put (nkey (ns.getD k [])) (.lit (.int .i64 k)) := by
  simp [namesK, List.range_succ, List.foldl_append]
theorem nkey_ok (s : List UInt8) : WideAt.IsKeyLit (nkey s) := trivial
theorem nkey_inj {s t : List UInt8} (h : nkey s = nkey t) : s = t := by injection h
theorem namesK_tidy (ns : List (List UInt8)) (k : Nat) : Tidy (namesK ns k) := by
  induction k with
  | zero => exact tidy_empty
  | succ k ih => rw [namesK_succ]; exact ih.put (nkey_ok _) _
theorem namesK_has (ns : List (List UInt8)) (k : Nat) (s : List UInt8) : has (namesK ns k) (nkey s) = true ↔ ∃ i, i < k ∧ ns.getD i [] = s := by
  induction k with
  | zero => exact Iff.intro (fun h => by cases h) (fun h => by obtain ⟨i, h, _⟩ := h; omega)
  | succ k ih =>
    rw [namesK_succ]
    by_cases h : s = ns.getD k []
    · rw [h, has_put_same (namesK_tidy ns k).isMap (nkey_ok _)]
      exact ⟨fun _ => ⟨k, by omega, rfl⟩, fun _ => rfl⟩
    · rw [has_put_other (fun e => h (nkey_inj e)), ih]
      constructor
      · rintro ⟨i, h1, h2⟩; exact ⟨i, by omega, h2⟩
      · rintro ⟨i, h1, h2⟩
        refine ⟨i, ?_, h2⟩
        rcases Nat.lt_or_ge i k with h3 | h3
        · exact h3
        · exact absurd (by rw [show i = k by omega] at h2; exact h2.symm) h
theorem namesK_at (ns : List (List UInt8)) (k i : Nat) (hi : i < k) (hn : ∀ j, i < j → j < k → ns.getD j [] ≠ ns.getD i []) (z : DataW Unit) : (namesK ns k).atKey (nkey (ns.getD i [])) z = .lit (.int .i64 i) := by
  induction k with
  | zero => omega
  | succ k ih =>
    rw [namesK_succ]
    by_cases h : i = k
    · rw [h, atKey_put_same (namesK_tidy ns k).isMap (nkey_ok _)]
    · rw [atKey_put_other (fun e => hn k (by omega) (by omega) (nkey_inj e).symm)]
      exact ih (by omega) (fun j h1 h2 => hn j h1 (by omega))
theorem namesK_size (ns : List (List UInt8)) (k : Nat) (hk : k ≤ ns.length) : Maps.size (namesK ns k) ≤ k ∧ (Maps.size (namesK ns k) = k ↔ (ns.take k).Nodup) := by
  induction k with
  | zero => exact ⟨Nat.le_refl _, by simp [namesK, size_eq]⟩
  | succ k ih =>
    obtain ⟨h1, h2⟩ := ih (by omega)
    have hlt : k < ns.length := by omega
    have hg : ns.getD k [] = ns[k] := by simp [List.getD_eq_getElem?_getD, List.getElem?_eq_getElem hlt]
    have hmem : ns[k] ∈ ns.take k ↔ has (namesK ns k) (nkey (ns.getD k [])) = true := by
      rw [namesK_has, hg, List.mem_iff_getElem]
      constructor
      · rintro ⟨i, hi, e⟩
        have hi' : i < k := by rw [List.length_take] at hi; omega
        rw [List.getElem_take] at e
        exact ⟨i, hi', by rw [← e]; simp [List.getD_eq_getElem?_getD, List.getElem?_eq_getElem (show i < ns.length by omega)]⟩
      · rintro ⟨i, hi, e⟩
        refine ⟨i, by rw [List.length_take]; omega, ?_⟩
        rw [List.getElem_take, ← e]
        simp [List.getD_eq_getElem?_getD, List.getElem?_eq_getElem (show i < ns.length by omega)]
    rw [namesK_succ, size_put (namesK_tidy ns k), List.take_succ_eq_append_getElem hlt, List.nodup_append]
    by_cases hh : has (namesK ns k) (nkey (ns.getD k [])) = true
    · rw [if_pos hh]
      refine ⟨by omega, ⟨fun e => by omega, fun ⟨_, _, hd⟩ => ?_⟩⟩
      exact absurd rfl (hd ns[k] (hmem.2 hh) ns[k] (by simp))
    · rw [if_neg hh]
      refine ⟨by omega, ⟨fun e => ⟨h2.1 (by omega), by simp, fun a ha b hb => ?_⟩, fun ⟨hn, _, _⟩ => by rw [h2.2 hn]⟩⟩
      rw [List.mem_singleton] at hb
      subst hb
      rintro rfl
      exact hh (hmem.1 ha)

/-- Block g is the map of the names. -/
def NamesAt (w : World) (g : Nat) (ns : List (List UInt8)) (k : Nat) : Prop := w.ownsMap Tryd.prog 9 (plainElem (H := Unit) Tryd.prog 3) g k (namesK ns k)
theorem NamesAt.up {w w' : World} {g : Nat} {ns : List (List UInt8)} {k : Nat} (h : NamesAt w g ns k) (hb : Below w.heap.size w w') : NamesAt w' g ns k :=
  World.ownsMap.kept (row := none) h (grown_below hb none) (by simp)
theorem lawS : Keyed Tryd.prog 9 := string_keyed Tryd.underlying9
theorem zeroI (w : World) : (zeroValue 3).run Tryd.prog w = .ok (.int .i64 0) w := by kernel_rfl
theorem key_str (s : List UInt8) (hs : s.length ≤ 9223372036854775807) : keyOf Tryd.prog 9 (str s) = some (nkey s) := by
  have := keyOf_string_mk Tryd.underlying9 (s := ⟨s.toArray⟩) (by simpa [ByteArray.size, maxLen] using hs)
  exact this
def nms (l : List Cm) : List (List UInt8) := l.map Cm.nm
theorem nms_at (l : List Cm) (i : Nat) (h : i < l.length) : (nms l).getD i [] = l[i].nm := by simp [nms, List.getD_eq_getElem?_getD, h]

set_option maxRecDepth 100000 in
set_option maxHeartbeats 2000000 in
theorem names_any (w : World) (A : Option Addr) (c : Nat) (l : List Cm) (hr : RdN w w.heap.size A l) (hl : l.length ≤ 6) (hs : ∀ x ∈ l, x.nm.length ≤ 9223372036854775807) :
    Calls Tryd.prog 23 #[.slice A l.length c] w fun e w' => Below w.heap.size w w' ∧ ∃ g, e = .returned (.map (some g)) ∧ w.heap.size ≤ g ∧ NamesAt w' g (nms l) l.length := by
  have hmm := @run_makeMap Tryd.prog
  have HR := Lib.hid hr
  have HS := Lib.hid hs
  clear hr hs
  go_enter Tryd.func23, Tryd.ntmps23
  go_wp2
  go_loopw [9] (fun i wx => ∃ k : Nat, k ≤ l.length ∧ i = .int .i64 k ∧ Below w.heap.size w wx ∧ Hid (NamesAt wx w.heap.size (nms l) k)) (fun i _ => l.length - (intOf i).toNat)
  case atStart => exact ⟨0, Nat.zero_le _, rfl, (Below.refl _ _).alloc (Nat.le_refl _) _, World.ownsMap_made _ _ _ _⟩
  case round =>
    obtain ⟨k, hk, rfl, hB, HM⟩ := hrel
    by_cases hlt : k < l.length
    · obtain ⟨ad, rfl, had, hca⟩ := (HR.out.up hB).at hlt
      obtain ⟨q0, q1, q2, q3, q4, q5, q6⟩ := hca
      have HK := Lib.hid (key_str l[k].nm (HS.out _ (List.getElem_mem hlt)))
      have HE := Lib.hid (nms_at l k hlt)
      generalize l[k] = x at *
      have HM2 := Lib.hid (World.ownsMap.alloc HM.out (.cells x.cells 50))
      have hz := hB.size
      go_wp2_with (at_mapUpdate; refine wpList_mapUpdate_own (H := Unit) _ rfl _ _ _ 59 rfl 9 3 lawS Tryd.underlying59 _ w.heap.size k _ rfl HM2.out (by unfold maxLen; omega) _ _ _ rfl rfl HK.out _ [] (plainElem_int Tryd.underlying3 (WalkArith.wf_i64 (by omega))) ?_; intro w1 hown1 hgrow1; replace hown1 := Lib.hid hown1; replace hgrow1 := Lib.hid hgrow1)
      go_roundw
      case rel => exact ⟨k + 1, by omega, by go_num, below_grown (hB.alloc hB.size _) hgrow1.out (by simp; omega) (fun g e => by cases e; exact Nat.le_refl _), by
        show NamesAt _ _ _ _
        unfold NamesAt
        rw [namesK_succ, HE.out]
        exact hown1.out⟩
      case measure => simp [intOf]; omega
    · obtain rfl : k = l.length := by omega
      go_wp2
      go_ret
      exact ⟨hB, w.heap.size, rfl, Nat.le_refl _, HM.out⟩

end Go.Proofs.YtipaapplingbnaaDoor
