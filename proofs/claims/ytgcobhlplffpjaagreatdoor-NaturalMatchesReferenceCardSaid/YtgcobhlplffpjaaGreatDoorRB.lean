/- Words and plain laws for the reference's Text. -/
import Derived.Test.YtgcobhlplffpjaaGreatDoorMb
import Derived.Test.YtgcobhlplffpjaaGreatDoorR8
namespace Go.Proofs.YtgcobhlplffpjaaGreatDoor
open Go.RowKit Go.Deep

/-- The digits of a number, none for 0. -/
def dgs (x : Nat) : List UInt8 := if x = 0 then [] else Lib.decDigits x
theorem dgs_step {x : Nat} (h : 0 < x) : dgs x = dgs (x / 10) ++ [UInt8.ofNat (48 + x % 10)] := by
  unfold dgs
  rw [if_neg (by omega)]
  by_cases h1 : x < 10
  · rw [if_pos (by omega), decDigits_small h1, Nat.mod_eq_of_lt h1]; rfl
  · rw [if_neg (by omega), decDigits_big (by omega)]
structure TxtAt (v x : Nat) (ds : List UInt8) : Prop where
  txt : dgs v = dgs x ++ ds.reverse
  len : x * 2 ^ ds.length ≤ v
theorem TxtAt.start (v : Nat) : TxtAt v v [] := ⟨by simp, by simp⟩
theorem TxtAt.next {v x : Nat} {ds : List UInt8} (h : TxtAt v x ds) (hx : 0 < x) : TxtAt v (x / 10) (ds ++ [UInt8.ofNat (48 + x % 10)]) where
  txt := by rw [h.txt, dgs_step hx]; simp
  len := by
    have h1 := h.len
    rw [List.length_append, List.length_singleton, Nat.pow_succ]
    have h2 : x / 10 * (2 ^ ds.length * 2) ≤ x * 2 ^ ds.length := by
      rw [Nat.mul_comm (2 ^ ds.length) 2, ← Nat.mul_assoc]
      exact Nat.mul_le_mul_right _ (by omega)
    omega
theorem TxtAt.few {v x : Nat} {ds : List UInt8} (h : TxtAt v x ds) (hx : 0 < x) (hv : (limbs v).length ≤ 640) : ds.length < 20480 := by
  have h1 : v < pw 640 := limbs_len.1 hv
  have h2 : 2 ^ ds.length ≤ v := Nat.le_trans (Nat.le_mul_of_pos_left _ hx) h.len
  have h3 : ∀ k c, 32 * c = k → pw c = 2 ^ k := fun k c hk => by unfold pw; rw [← hk, Nat.pow_mul]
  rw [h3 20480 640 (by omega)] at h1
  exact (Nat.pow_lt_pow_iff_right (by omega)).1 (Nat.lt_of_le_of_lt h2 h1)
theorem TxtAt.done {v : Nat} {ds : List UInt8} (h : TxtAt v 0 ds) : Lib.decDigits v = if ds.length = 0 then [48] else ds.reverse := by
  have h1 := h.txt
  unfold dgs at h1
  rw [if_pos rfl, List.nil_append] at h1
  by_cases h0 : ds.length = 0
  · rw [if_pos h0]
    obtain rfl := List.eq_nil_of_length_eq_zero h0
    by_cases hv : v = 0
    · subst hv; rw [decDigits_small (by omega)]; rfl
    · rw [if_neg hv] at h1
      have := decDigits_pos v
      rw [h1] at this
      simp at this
  · rw [if_neg h0]
    by_cases hv : v = 0
    · rw [if_pos hv] at h1
      have := congrArg List.length h1
      simp at this
      omega
    · rw [if_neg hv] at h1; exact h1

theorem OwnU.cell {w : World} {base g n c : Nat} {l : List Nat} (h : OwnU w base (.slice (some ⟨g, 0, none⟩) n c) l) (j : Nat) (hj : j < l.length) : w.cell? ⟨g, j, none⟩ = some (.int .u32 ((l.getD j 0 : Nat) : Int)) ∧ w.frozen? ⟨g, j, none⟩ = false := by
  refine ⟨?_, ?_⟩
  · obtain ⟨A, c', e, _, hr⟩ := h.form
    injection e with e1 e2 e3
    subst e1
    obtain ⟨ad, e, _, hc⟩ := hr (by omega)
    obtain rfl := Option.some.inj e
    have := hc j hj
    rwa [show (⟨g, 0, none⟩ : Addr).add j = ⟨g, j, none⟩ from by unfold Addr.add; split <;> simp_all] at this
  · rcases h.2 with ⟨_, h0⟩ | ⟨g', cap, cur, hv, hb, hg, _⟩
    · omega
    · injection hv with hv _ _
      injection hv with hv
      injection hv with hv _ _
      subst hv
      exact frozen_of_row w _ j cur _ hg
theorem OwnU.set {w : World} {base g n c : Nat} {l : List Nat} (h : OwnU w base (.slice (some ⟨g, 0, none⟩) n c) l) (j y : Nat) :
    OwnU (w.setCell ⟨g, j, none⟩ (.int .u32 (y : Int))) base (.slice (some ⟨g, 0, none⟩) n c) (l.set j y) := by
  unfold OwnU at *
  rw [List.length_set]
  refine ⟨by rw [ucells_length, List.length_set, Nat.mul_one], ?_⟩
  rcases h.2 with ⟨h0, h1⟩ | ⟨g', cap, cur, hv, hb, hg, hc1, hc2, hc3, ht⟩
  · cases h0
  · refine Or.inr ⟨g', cap, cur.setIfInBounds j (.int .u32 (y : Int)), hv, hb, ?_, hc1, hc2, by rw [Array.size_setIfInBounds]; exact hc3, ?_⟩
    · injection hv with hv _ _
      injection hv with hv
      injection hv with hv _ _
      subst hv
      exact heap_setCell_same w _ j cur _ _ hg
    · rw [Array.toList_setIfInBounds, List.take_set, ht]
      simp [ucells, List.map_set]
theorem OwnU.cut {w : World} {base n c : Nat} {A : Option Addr} {l : List Nat} (h : OwnU w base (.slice A n c) l) (k : Nat) (hk : k ≤ l.length) : OwnU w base (.slice A k c) (l.take k) := by
  unfold OwnU at *
  have e : (l.take k).length = k := by rw [List.length_take]; omega
  rw [e]
  refine ⟨by rw [ucells_length, e, Nat.mul_one], ?_⟩
  rcases h.2 with ⟨h0, h1⟩ | ⟨g, cap, cur, hv, hb, hg, hc1, hc2, hc3, ht⟩
  · injection h0 with h0 h2 h3
    subst h0
    subst h3
    exact .inl ⟨by rw [show k = 0 by omega], by omega⟩
  · injection hv with hv h2 h3
    subst hv
    subst h3
    refine Or.inr ⟨g, c, cur, rfl, hb, hg, by omega, hc2, hc3, ?_⟩
    rw [Nat.mul_one] at ht ⊢
    have : ucells (l.take k) = (ucells l).take k := by simp [ucells]
    rw [this, ← ht, List.take_take, Nat.min_eq_left hk]
theorem OwnU.lt {w : World} {base : Nat} {v : Value} {l : List Nat} (h : OwnU w base v l) : ∀ g, v.ownBlock = some g → base ≤ g ∧ g < w.heap.size := fun g hg => World.ownsRow.lt h g hg
theorem OwnU.kept {w w' : World} {base : Nat} {v : Value} {l : List Nat} {r : Option Nat} (h : OwnU w base v l) (hg : w.grownBy w' r) (hne : v.ownBlock = none ∨ v.ownBlock ≠ r) : OwnU w' base v l := World.ownsRow.kept h hg hne
theorem OwnU.form' {w : World} {base n c : Nat} {A : Option Addr} {l : List Nat} (h : OwnU w base (.slice A n c) l) (hp : 0 < l.length) : ∃ g, A = some ⟨g, 0, none⟩ ∧ base ≤ g ∧ g < w.heap.size ∧ l.length ≤ c := by
  rcases h.2 with ⟨-, h0⟩ | ⟨g, cap, cur, hv, hb, hg, hc, -⟩
  · omega
  · injection hv with h1 h2 h3
    subst h1
    subst h3
    exact ⟨g, rfl, hb, (Array.getElem?_eq_some_iff.1 hg).1, hc⟩
theorem Only.grown {g : Nat} {w w' : World} (h : Only g w w') : w.grownBy w' (some g) := ⟨h.os, h.tape, h.output, h.size, fun k hk hne => h.block k (fun e => hne (by rw [e])) hk⟩

/-- The division of the row in place, from above down to limb k. -/
structure DivIn (base g c : Nat) (l : List Nat) (k r : Nat) (wx : World) (m : List Nat) : Prop where
  len : m.length = l.length
  lim : Lim m
  own : OwnU wx base (.slice (some ⟨g, 0, none⟩) l.length c) m
  top : m.drop k = shortQ 10 (l.drop k)
  low : m.take k = l.take k
  rem : r = val (l.drop k) % 10
def DivInRel (wr : World) (base g c : Nat) (l : List Nat) (r i : Value) (wx : World) : Prop :=
  ∃ (k ρ : Nat) (z : Int), k ≤ l.length ∧ i = .int .i64 z ∧ z = (k : Int) - 1 ∧ r = .int .u64 ρ ∧ ρ < 10 ∧ Only g wr wx ∧ ∃ m, Hid (DivIn base g c l k ρ wx m)
theorem DivIn.start {base g c : Nat} {l : List Nat} {w : World} (h : OwnU w base (.slice (some ⟨g, 0, none⟩) l.length c) l) (hl : Lim l) : DivIn base g c l l.length 0 w l :=
  ⟨rfl, hl, h, by rw [List.drop_of_length_le (Nat.le_refl _)]; rfl, rfl, by rw [List.drop_of_length_le (Nat.le_refl _), val, Nat.zero_mod]⟩
theorem DivIn.cell {base g c : Nat} {l : List Nat} {k r : Nat} {wx : World} {m : List Nat} (h : DivIn base g c l (k + 1) r wx m) (hk : k < l.length) : wx.cell? ⟨g, k, none⟩ = some (.int .u32 ((l.getD k 0 : Nat) : Int)) ∧ wx.frozen? ⟨g, k, none⟩ = false := by
  have := h.own.cell k (by rw [h.len]; exact hk)
  have e : m.getD k 0 = l.getD k 0 := by
    have := congrArg (fun q => q.getD k 0) h.low
    simpa [List.getD_eq_getElem?_getD, List.getElem?_take] using this
  rwa [e] at this
theorem DivIn.next {base g c : Nat} {l : List Nat} {k r : Nat} {wx : World} {m : List Nat} (h : DivIn base g c l (k + 1) r wx m) (hk : k < l.length) (hq : (r * 4294967296 + l.getD k 0) / 10 < 4294967296) :
    DivIn base g c l k ((r * 4294967296 + l.getD k 0) % 10) (wx.setCell ⟨g, k, none⟩ (.int .u32 (((r * 4294967296 + l.getD k 0) / 10 : Nat) : Int))) (m.set k ((r * 4294967296 + l.getD k 0) / 10)) where
  len := by rw [List.length_set]; exact h.len
  lim := h.lim.set _ _ hq
  own := h.own.set _ _
  top := by
    have hl := h.len
    rw [drop_cons _ k (by rw [List.length_set]; omega), drop_cons l k hk, getD_set _ _ _ _ (by omega), if_pos rfl, List.drop_set_of_lt (by omega), h.top, h.rem]
    rfl
  low := by
    have h1 := congrArg (List.take k) h.low
    rw [List.take_take, List.take_take, Nat.min_eq_left (by omega)] at h1
    rw [List.take_set_of_le (by omega)]
    exact h1
  rem := by rw [h.rem, val_drop_mod l k 10 hk]

end Go.Proofs.YtgcobhlplffpjaaGreatDoor
