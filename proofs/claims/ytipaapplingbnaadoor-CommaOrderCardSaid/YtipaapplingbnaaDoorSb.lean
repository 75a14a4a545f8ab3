/- Walks: SplitSeq, Cut at a star, Atoi. -/
import Derived.Test.YtipaapplingbnaaDoorSa
import Derived.Lib.AtoiTie
import Derived.Deep.RegionHeld3
namespace Go.Proofs.YtipaapplingbnaaDoor
open Go.RowKit Go.Deep

theorem splitSeq_any (w : World) (s : List UInt8) : Calls Tryd.prog 29 #[str s, .string ⟨#[32]⟩] w fun e w' =>
    e = .returned (.func (.func 59) #[] #[.pointer (some ⟨w.heap.size + 1, 0, none⟩), .pointer (some ⟨w.heap.size, 0, none⟩), .pointer (some ⟨w.heap.size + 2, 0, none⟩)]) ∧
      w' = ((w.alloc (.cells #[str s] 9)).alloc (.cells #[.string ⟨#[32]⟩] 9)).alloc (.cells #[.int .i64 0] 3) := by
  have h42 : Calls Tryd.prog 42 #[str s, .string ⟨#[32]⟩, .int .i64 0] w fun e w' =>
      e = .returned (.func (.func 59) #[] #[.pointer (some ⟨w.heap.size + 1, 0, none⟩), .pointer (some ⟨w.heap.size, 0, none⟩), .pointer (some ⟨w.heap.size + 2, 0, none⟩)]) ∧
      w' = ((w.alloc (.cells #[str s] 9)).alloc (.cells #[.string ⟨#[32]⟩] 9)).alloc (.cells #[.int .i64 0] 3) := by
    go_enter Tryd.func42, Tryd.ntmps42
    go_wp2
    go_ret
    exact ⟨rfl, rfl⟩
  go_enter Tryd.func29, Tryd.ntmps29
  go_wp2_with (go_at_call 42; refine h42.mono ?_; rintro e w1 ⟨rfl, rfl⟩)
  go_ret
  exact ⟨rfl, rfl⟩

/-- What stands before and behind the first star, and whether there is one. -/
def cutP (x : List UInt8) : List UInt8 × List UInt8 × Bool := match cutStar x with
  | some (a, b) => (a, b, true)
  | none => (x, [], false)
theorem cutStar_none {l : List UInt8} (h : Lib.indexByte l 42 = -1) : cutStar l = none := by
  induction l with
  | nil => rfl
  | cons c l ih =>
    have h0 := Lib.indexByte_none h 0
    have hc : c ≠ 42 := fun e => h0 (by simp [e])
    unfold Lib.indexByte at h
    rw [if_neg (by simpa using hc)] at h
    have hl : Lib.indexByte l 42 = -1 := by
      have := Lib.indexByte_ge l 42
      by_cases h1 : Lib.indexByte l 42 = -1
      · exact h1
      · rw [if_neg (by simpa using h1)] at h; omega
    rw [cutStar, if_neg hc, ih hl]
    rfl
theorem cutStar_some {l : List UInt8} {i : Nat} (h : Lib.indexByte l 42 = i) : i < l.length ∧ cutStar l = some (l.take i, l.drop (i + 1)) := by
  obtain ⟨h1, h2⟩ := Lib.indexByte_some h
  have hi : i < l.length := (List.getElem?_eq_some_iff.1 h1).1
  refine ⟨hi, ?_⟩
  have e : l = l.take i ++ 42 :: l.drop (i + 1) := by
    have h3 : l[i] = 42 := (List.getElem?_eq_some_iff.1 h1).2
    rw [← h3, List.getElem_cons_drop, List.take_append_drop]
  conv => lhs; rw [e]
  refine cutStar_entry (fun x hx e2 => ?_) _
  obtain ⟨k, hk, rfl⟩ := List.mem_iff_getElem.1 hx
  rw [List.length_take] at hk
  rw [List.getElem_take] at e2
  exact h2 k (by omega) (by rw [List.getElem?_eq_getElem (by omega), e2])
theorem cutP_len (x : List UInt8) : (cutP x).1.length ≤ x.length ∧ (cutP x).2.1.length ≤ x.length := by
  unfold cutP
  rcases Int.lt_or_le (Lib.indexByte x 42) 0 with h | h
  · rw [cutStar_none (by have := Lib.indexByte_ge x 42; omega)]
    exact ⟨Nat.le_refl _, Nat.zero_le _⟩
  · obtain ⟨i, hi⟩ := Int.eq_ofNat_of_zero_le h
    obtain ⟨h1, h2⟩ := cutStar_some hi
    rw [h2]
    simp
    omega
set_option maxRecDepth 100000 in
set_option maxHeartbeats 2000000 in
theorem cut_any (w : World) (x : List UInt8) (hx : x.length ≤ 9223372036854775807) : Calls Tryd.prog 30 #[str x, .string ⟨#[42]⟩] w fun e w' =>
    e = .returned (.tuple #[str (cutP x).1, str (cutP x).2.1, .bool (cutP x).2.2]) ∧ Below w.heap.size w w' := by
  have hc : Calls Tryd.prog 43 #[str x, .string ⟨#[42]⟩] w fun e w' => e = .returned (.tuple #[str (cutP x).1, str (cutP x).2.1, .bool (cutP x).2.2]) ∧ Below w.heap.size w w' := by
    have hix := Tryd.stringslite_Index_one ⟨x.toArray⟩ 42 w
    simp only at hix
    rcases Int.lt_or_le (Lib.indexByte x 42) 0 with h | h
    · have h1 : Lib.indexByte x 42 = -1 := by have := Lib.indexByte_ge x 42; omega
      rw [h1] at hix
      have HIX := Lib.hid hix
      have HP : Hid (cutP x = (x, [], false)) := by show cutP x = _; unfold cutP; rw [cutStar_none h1]
      rw [HP.out]
      clear hix h h1
      go_enter Tryd.func43, Tryd.ntmps43
      go_wp2_with (go_at_call 62; refine HIX.out.mono ?_; rintro e w' ⟨rfl, rfl⟩)
      refine bodyPost_ret (results_tmp3 rfl _ _ _) rfl ?_
      exact ⟨rfl, Below.refl _ _⟩
    · obtain ⟨i, hi⟩ := Int.eq_ofNat_of_zero_le h
      obtain ⟨hil, hcs⟩ := cutStar_some hi
      rw [hi] at hix
      have HIX := Lib.hid hix
      have HP : Hid (cutP x = (x.take i, x.drop (i + 1), true)) := by show cutP x = _; unfold cutP; rw [hcs]
      rw [HP.out]
      have hex1 : (⟨x.toArray⟩ : ByteArray).extract 0 i = ⟨(x.take i).toArray⟩ := by
        apply ByteArray.ext
        simp [ByteArray.data_extract]
      have hex2 : (⟨x.toArray⟩ : ByteArray).extract (i + 1) x.length = ⟨(x.drop (i + 1)).toArray⟩ := by
        apply ByteArray.ext
        simp [ByteArray.data_extract]
        rw [List.take_of_length_le (by simp)]
      clear hix h hi hcs
      go_enter Tryd.func43, Tryd.ntmps43
      go_wp2_with (go_at_call 62; refine HIX.out.mono ?_; rintro e w' ⟨rfl, rfl⟩)
      have hwi : IntKind.i64.wrap ((i : Int) + 1) = (i : Int) + 1 := IntWalk.i64_in _ (by omega)
      go_region
      go_wp2_with fail
      refine bodyPost_ret (results_tmp3 rfl _ _ _) rfl ?_
      exact ⟨rfl, (Below.refl _ _).drew⟩
  have HC := Lib.hid hc
  clear hc
  go_enter Tryd.func30, Tryd.ntmps30
  go_wp2_with (go_at_call 43; refine HC.out.mono ?_; rintro e w1 ⟨rfl, b1⟩; replace b1 := Lib.hid b1)
  refine bodyPost_ret (results_tmp3 rfl _ _ _) rfl ?_
  exact ⟨rfl, b1.out⟩

/-- strconv's two errors lie there. -/
def ErrV (v : Value) : Prop := v = .nilIface ∨ ∃ te pe, v = .iface te pe
def Errs (w : World) : Prop := (∃ v, w.cell? ⟨1, 0, none⟩ = some v ∧ ErrV v) ∧ (∃ v, w.cell? ⟨2, 0, none⟩ = some v ∧ ErrV v)
theorem Errs.below {w w' : World} (h : Errs w) (hb : Below w.heap.size w w') : Errs w' := by
  obtain ⟨⟨v, h1, h2⟩, u, h3, h4⟩ := h
  exact ⟨⟨v, (hb.cell (World.block_lt_of_cell? w _ h1)).trans h1, h2⟩, u, (hb.cell (World.block_lt_of_cell? w _ h3)).trans h3, h4⟩
def AtoiEnds (w : World) (ds : List UInt8) (e : Ending) (w' : World) : Prop :=
  Below w.heap.size w w' ∧ ((∃ v, Lib.atoiAll ds = .ok v ∧ e = .returned (.tuple #[.int .i64 v, .nilIface])) ∨ ((∀ v, Lib.atoiAll ds ≠ .ok v) ∧ ∃ n p, e = .returned (.tuple #[.int .i64 n, .iface 111 (.pointer (some p))])))
theorem below_bytes (w : World) (e : TypeId) (s : ByteArray) : Below w.heap.size w (Lib.bytesWorld w e s) := by
  have h1 := ((Below.refl w.heap.size w).drew.alloc (Nat.le_refl _) (.cells (Lib.bytesCells w e s) e))
  refine ⟨rfl, rfl, rfl, ?_, fun i hi => ?_⟩
  · simp [Lib.bytesWorld, World.freeze]
  · have := h1.block i hi
    simp only [Lib.bytesWorld, World.freeze]
    rw [if_neg (by decide)]
    simp only
    rw [Array.getElem?_modify, if_neg (by show ¬ w.heap.size = i; omega)]
    exact this
theorem atoi_any (w : World) (ds : List UInt8) (hd : ds.length ≤ 281474976710656) (hE : Errs w) : Calls Tryd.prog 31 #[str ds] w (AtoiEnds w ds) := by
  have hsz : (⟨ds.toArray⟩ : ByteArray).size = ds.length := by simp [ByteArray.size]
  obtain ⟨⟨v1, h1, k1⟩, v2, h2, k2⟩ := hE
  rcases h : Lib.atoiAll ds with v | _ | _
  · refine (Tryd.strconv_Atoi_ok ⟨ds.toArray⟩ (by rw [hsz]; omega) v h w).mono fun e w' ⟨he, hw⟩ => ?_
    refine ⟨?_, .inl ⟨v, h, he⟩⟩
    rcases hw with rfl | ⟨t, rfl⟩
    · exact Below.refl _ _
    · exact below_bytes _ _ _
  · have h0 : ∀ v, Lib.atoiAll ds ≠ .ok v := fun v e => by rw [h] at e; cases e
    have hr : Lib.atoiAll ds ≠ .range := fun e => by rw [h] at e; cases e
    refine (Tryd.strconv_Atoi_syntax ⟨ds.toArray⟩ (by rw [hsz]; omega) h0 hr v1 w h1 k1).mono fun e w' ⟨N, he, _, _, hb⟩ => ?_
    exact ⟨hb, .inr ⟨h0, _, _, he⟩⟩
  · refine (Tryd.strconv_Atoi_range ⟨ds.toArray⟩ (by rw [hsz]; omega) h v2 w h2 k2).mono fun e w' ⟨N, he, _, _, hb⟩ => ?_
    exact ⟨hb, .inr ⟨by rw [h]; simp, _, _, he⟩⟩

end Go.Proofs.YtipaapplingbnaaDoor
