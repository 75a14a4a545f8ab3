/- Walks: lower. -/
import Derived.Test.YtgcobhlplffpjaaGreatDoorNh
namespace Go.Proofs.YtgcobhlplffpjaaGreatDoor
open Go.RowKit

structure LowAt (g : Nat) (l : List Nat) (K M i : Nat) (wx : World) (m : List Nat) : Prop where
  len : m.length = l.length
  arr : Arr wx g m
  eqn : ∀ j, j < i → m.getD j 0 = (lowerL K M l).getD j 0
def LowRel (w : World) (l : List Nat) (K M : Nat) (i : Value) (wx : World) : Prop :=
  ∃ k : Nat, k ≤ l.length ∧ i = .int .i64 k ∧ Below w.heap.size w wx ∧ ∃ m, Hid (LowAt w.heap.size l K M k wx m)
theorem LowAt.start (w : World) (l : List Nat) (K M : Nat) : LowAt w.heap.size l K M 0 (w.alloc (.cells (madeCells #[.int .u32 0] l.length) 30)) (zeros l.length) where
  len := zeros_length _
  arr := Arr.made w _
  eqn := fun _ hj => absurd hj (Nat.not_lt_zero _)
theorem LowAt.next {g : Nat} {l : List Nat} {K M i v : Nat} {wx wy : World} {m : List Nat} (h : LowAt g l K M i wx m) (hi : i < l.length) (hv : v = (lowerL K M l).getD i 0) (ha : Arr wy g (m.set i v)) : LowAt g l K M (i + 1) wy (m.set i v) where
  len := by rw [List.length_set]; exact h.len
  arr := ha
  eqn := fun j hj => by
    rw [getD_set _ _ _ _ (by have := h.len; omega)]
    split
    · rename_i e; rw [e]; exact hv
    · exact h.eqn j (by omega)
theorem LowAt.old {g : Nat} {l : List Nat} {K M k : Nat} {wx : World} {m : List Nat} (h : LowAt g l K M k wx m) (j : Nat) (hj : j < l.length) : wx.cell? ⟨g, j, none⟩ = some (.int .u32 ((m.getD j 0 : Nat) : Int)) :=
  h.arr.cell (i := j) (by have := h.len; omega)
theorem list_ext {l m : List Nat} (hl : l.length = m.length) (h : ∀ j, j < l.length → l.getD j 0 = m.getD j 0) : l = m := by
  refine List.ext_getElem hl fun j h1 h2 => ?_
  have := h j h1
  rwa [List.getD_eq_getElem?_getD, List.getD_eq_getElem?_getD, List.getElem?_eq_getElem h1, List.getElem?_eq_getElem h2] at this
theorem lower_bits (x y s : Nat) (hs : s ≤ 31) (hx : x < 4294967296) :
    (x : Int) / 2 ^ s = ((x / 2 ^ s : Nat) : Int) ∧ x / 2 ^ s < 4294967296 ∧ (y : Int) * 4294967296 / 2 ^ s % 4294967296 = ((y % 2 ^ s * 2 ^ (32 - s) : Nat) : Int) ∧
    bits .or .u32 ((x / 2 ^ s : Nat) : Int) ((y % 2 ^ s * 2 ^ (32 - s) : Nat) : Int) = ((x / 2 ^ s + y % 2 ^ s * 2 ^ (32 - s) : Nat) : Int) := by
  have hK : 2 ^ s * 2 ^ (32 - s) = 4294967296 := by rw [← Nat.pow_add, show s + (32 - s) = 32 by omega]
  have hk0 : 0 < 2 ^ s := Nat.two_pow_pos s
  have e : ((2 : Int) ^ s) = ((2 ^ s : Nat) : Int) := by rw [Int.natCast_pow]; rfl
  have h1 : x / 2 ^ s < 2 ^ (32 - s) := by rw [Nat.div_lt_iff_lt_mul hk0, Nat.mul_comm, hK]; exact hx
  have h2 : y * 4294967296 / 2 ^ s % 4294967296 = y % 2 ^ s * 2 ^ (32 - s) := by
    have : y * 4294967296 / 2 ^ s = y * 2 ^ (32 - s) := by
      rw [← hK, ← Nat.mul_assoc, Nat.mul_right_comm, Nat.mul_div_cancel _ hk0]
    rw [this]
    conv => lhs; rw [← hK]
    rw [Nat.mul_mod_mul_right]
  have h3 : y % 2 ^ s * 2 ^ (32 - s) < 4294967296 := by rw [← h2]; exact Nat.mod_lt _ (by omega)
  have hle : x / 2 ^ s ≤ x := Nat.div_le_self _ _
  refine ⟨by rw [e]; rfl, by omega, by rw [e, ← h2]; rfl, ?_⟩
  rw [u32_or_nat _ _ (by omega) h3, Nat.or_comm, Nat.mul_comm (y % 2 ^ s), ← Nat.two_pow_add_eq_or_of_lt h1, Nat.add_comm]

set_option maxRecDepth 100000 in
set_option maxHeartbeats 1000000 in
theorem lower_any (w : World) (A1 : Option Addr) (c1 s : Nat) (l : List Nat) (ra : RdW w w.heap.size A1 l) (la : Lim l) (na : l.length ≤ 100000) (hs : s ≤ 31) :
    Calls Tryz.prog 92 #[.slice A1 l.length c1, .int .i64 s] w fun e w' => Below w.heap.size w w' ∧ ∃ (g : Nat) (m : List Nat), e = .returned (.slice (some ⟨g, 0, none⟩) l.length l.length) ∧ w.heap.size ≤ g ∧ Arr w' g m ∧ m.length = l.length ∧ Lim m ∧ val m = val l / 2 ^ s := by
  have RA := Lib.hid ra; clear ra
  have LA := Lib.hid la; clear la
  have hmk := make_limbs l.length (by omega)
  have hK0 : 0 < 2 ^ s := Nat.two_pow_pos s
  have hK : 2 ^ s * 2 ^ (32 - s) = 4294967296 := by rw [← Nat.pow_add, show s + (32 - s) = 32 by omega]
  have HK := Lib.hid (And.intro hK0 hK)
  clear hK hK0
  go_enter Tryz.func92, Tryz.ntmps92
  go_wp2
  go_loopw [13] (fun i wx => LowRel w l (2 ^ s) (2 ^ (32 - s)) i wx) (fun i _ => l.length - (intOf i).toNat)
  case atStart => exact ⟨0, Nat.zero_le _, rfl, (Below.refl _ _).alloc (Nat.le_refl _) _, _, LowAt.start w l _ _⟩
  case round =>
    obtain ⟨i, hi, rfl, hB, m, HS⟩ := hrel
    by_cases hlt : i < l.length
    · obtain ⟨ad, rfl, had, hcell⟩ := RA.out (by omega)
      have hx := (hB.cell (p := ad.add i) (by rw [add_block]; exact had)).trans (hcell i hlt)
      have xl := LA.out.getD i
      have hfz := HS.out.arr.frozen i
      have hc0 := HS.out.old i (by omega)
      have hget := lowerL_get (2 ^ s) (2 ^ (32 - s)) l i hlt
      have hlim : i < m.length := by rw [HS.out.len]; exact hlt
      obtain ⟨b1, b2, b3, b4⟩ := lower_bits (l.getD i 0) (l.getD (i + 1) 0) s hs xl
      by_cases hlt2 : i + 1 < l.length
      · have hy0 := (hB.cell (p := ad.add (i + 1)) (by rw [add_block]; exact had)).trans (hcell (i + 1) hlt2)
        rw [if_pos hlt2] at hget
        have yl := LA.out.getD (i + 1)
        obtain ⟨u, hu⟩ : ∃ u, u = l.getD i 0 / 2 ^ s + l.getD (i + 1) 0 % 2 ^ s * 2 ^ (32 - s) := ⟨_, rfl⟩
        rw [← hu] at hget b4
        have A1 := HS.out.arr.set i (l.getD i 0 / 2 ^ s) hlim
        have A2 := A1.set i u (by rw [List.length_set]; exact hlim)
        have hfz1 := A1.frozen i
        have hc1 := A1.cell (i := i) (by rw [List.length_set]; exact hlim)
        rw [getD_set _ _ _ _ hlim, if_pos rfl] at hc1
        rw [List.set_set] at A2
        have hy1 : (wr.setCell ⟨w.heap.size, i, none⟩ (.int .u32 ((l.getD i 0 / 2 ^ s : Nat) : Int))).cell? (ad.add (i + 1)) = some (.int .u32 ((l.getD (i + 1) 0 : Nat) : Int)) := by
          rw [(((Below.refl w.heap.size wr).setCell (p := ⟨w.heap.size, i, none⟩) (Nat.le_refl _) _).cell (p := ad.add (i + 1)) (by rw [add_block]; exact had))]
          exact hy0
        have ead : ad.add (i + 1) = ⟨ad.block, ad.off + (i + 1), none⟩ := by simp [Addr.add]
        rw [ead] at hy0 hy1
        clear ead
        have HN := Lib.hid (HS.out.next (v := u) hlt hget.symm (A2.below (Below.refl _ _).drew (by have := A2.lt; exact this)))
        clear hcell HS A1 A2 hget hu hlim
        generalize l.getD i 0 / 2 ^ s = v at *
        generalize l.getD (i + 1) 0 % 2 ^ s * 2 ^ (32 - s) = z at *
        generalize l.getD i 0 = x at *
        generalize l.getD (i + 1) 0 = y at *
        go_wp2
        have hyw : IntKind.u64.wrap (IntKind.u64.wrap (y : Int) * 4294967296) = (y : Int) * 4294967296 := by rw [IntKind.wrap_u64, IntKind.wrap_u64]; omega
        have HE := Lib.hid (show bits .or .u32 (v : Int) (IntKind.u64.wrap (IntKind.u64.wrap (y : Int) * 4294967296) / 2 ^ s % 4294967296) = (u : Int) by rw [hyw, b3, b4])
        clear hyw yl
        go_region
        go_wp2
        rw [HE.out]
        refine ⟨⟨i + 1, by omega, by go_num, ((hB.setCell (Nat.le_refl _) _).setCell (Nat.le_refl _) _).drew, _, HN⟩, by simp [intOf]; omega⟩
      · rw [if_neg hlt2, Nat.add_zero] at hget
        have A1 := HS.out.arr.set i (l.getD i 0 / 2 ^ s) hlim
        have HN := Lib.hid (HS.out.next hlt hget.symm A1)
        have hlt3 : ¬ ((i : Int) + 1 < (l.length : Int)) := by omega
        clear hcell HS A1 hget hlim b3 b4
        generalize l.getD i 0 / 2 ^ s = v at *
        generalize l.getD i 0 = x at *
        go_wp2
        go_roundw
        case rel => exact ⟨i + 1, by omega, by go_num, hB.setCell (Nat.le_refl _) _, _, HN⟩
        case measure => simp [intOf]; omega
    · have hm : m = lowerL (2 ^ s) (2 ^ (32 - s)) l := list_ext (by rw [HS.out.len, lowerL_length]) fun j hj => HS.out.eqn j (by rw [HS.out.len] at hj; omega)
      have HM := Lib.hid (And.intro (show Lim m by rw [hm]; exact lowerL_lim _ _ HK.out.1 HK.out.2 l LA.out) (show val m = val l / 2 ^ s by rw [hm, lowerL_val _ _ HK.out.1 HK.out.2]))
      clear hm
      go_wp2
      go_ret
      exact ⟨hB, w.heap.size, m, rfl, Nat.le_refl _, HS.out.arr, HS.out.len, HM.out.1, HM.out.2⟩

end Go.Proofs.YtgcobhlplffpjaaGreatDoor
