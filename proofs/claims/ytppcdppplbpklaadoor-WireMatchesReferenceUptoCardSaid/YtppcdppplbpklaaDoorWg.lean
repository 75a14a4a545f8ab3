/- Walks: the frame with which bytes begin. -/
import Derived.Test.YtppcdppplbpklaaDoorWa
import Derived.Test.YtppcdppplbpklaaDoorWe
namespace Go.Proofs.YtppcdppplbpklaaDoor
open Go.RowKit

def beOf (l : List UInt8) : Nat := l.foldl (fun a x => a * 256 + x.toNat) 0
/-- Why there is no frame; 0 if there is one. -/
def frameErr (l : List UInt8) : Nat :=
  if l.length = 0 then 12
  else if (l.getD 0 0).toNat < 4 ∨ 11 < (l.getD 0 0).toNat then 8
  else if l.length < (l.getD 0 0).toNat + 5 then 12
  else if beOf ((l.drop ((l.getD 0 0).toNat + 1)).take 4) ≠ crcSum (l.take ((l.getD 0 0).toNat + 1)) then 13
  else 0
def bodyOf (l : List UInt8) : List UInt8 := (l.drop 1).take (l.getD 0 0).toNat

theorem beOf_snoc (l : List UInt8) (x : UInt8) : beOf (l ++ [x]) = beOf l * 256 + x.toNat := by simp [beOf, List.foldl_append]
theorem beOf_lt (l : List UInt8) : beOf l < 256 ^ l.length := by
  have key : ∀ (l : List UInt8) (a k : Nat), a < 256 ^ k → l.foldl (fun a x => a * 256 + x.toNat) a < 256 ^ (k + l.length) := by
    intro l
    induction l with
    | nil => intro a k h; simpa using h
    | cons x r ih =>
      intro a k h
      have := x.toNat_lt
      have h2 := ih (a * 256 + x.toNat) (k + 1) (by rw [Nat.pow_succ]; omega)
      rw [List.length_cons, show k + (r.length + 1) = k + 1 + r.length from by omega]
      exact h2
  have := key l 0 0 (by simp)
  simpa [beOf] using this
theorem or_be (c x k : Nat) (hc : c < 256 ^ k) (hk : k < 4) (hx : x < 256) : bits .or .u32 ((c : Int) * 256) (x : Int) = ((c * 256 + x : Nat) : Int) := by
  have h1 : 256 ^ k ≤ 256 ^ 3 := Nat.pow_le_pow_right (by omega) (by omega)
  have := u32_or_nat (c * 256) x (by omega) (by omega)
  rw [Nat.or_comm, or_low 8 x c (by omega)] at this
  rw [show c * 256 + x = x + c * 2 ^ 8 from by omega, ← this, Int.natCast_mul]
  rfl

def FrameEnd (w : World) (B : Nat) (l : List UInt8) : Nat → Ending → World → Prop
  | 0, e, w' => w = w' ∧ ∃ (A' : Option Addr) (c' : Nat), e = .returned (.tuple #[.slice A' (bodyOf l).length c', .nilIface]) ∧ (bodyOf l).length ≤ c' ∧ RdB w B A' (bodyOf l)
  | k + 1, e, w' => w = w' ∧ ∃ q : Int, e = .returned (.tuple #[.slice none 0 0, faultV q (k + 1)])

set_option maxRecDepth 100000 in
set_option maxHeartbeats 1000000 in
theorem frame_any (w : World) (B : Nat) (A : Option Addr) (c : Nat) (l : List UInt8) (h : RdB w B A l) (hlen : l.length ≤ maxLen) (hc : l.length ≤ c) (hn : Nibs w) :
    Calls Tryd.prog 33 #[.slice A l.length c] w fun e w' => FrameEnd w B l (frameErr l) e w' := by
  unfold maxLen at hlen
  by_cases h0 : l.length = 0
  · have HT := Lib.hid (show frameErr l = 12 by simp only [frameErr, h0, if_true])
    have HL := Lib.hid h0
    have h0' : ((l.length : Int) == 0) = true := by rw [h0]; rfl
    clear h0
    go_enter Tryd.func33, Tryd.ntmps33
    go_wp2
    go_ret2
    rw [HT.out]
    exact ⟨rfl, _, rfl⟩
  · have h0' : ((l.length : Int) == 0) = false := beq_eq_false_iff_ne.2 (by omega)
    obtain ⟨ad, rfl, had, hcell⟩ := h (by omega)
    have d0 := hcell 0 (by omega)
    change w.cell? ad = _ at d0
    have x0 := (l.getD 0 0).toNat_lt
    have hl0 : 0 < l.length := by omega
    have HD := Lib.hid hcell
    have HS := Lib.hid h.shows
    clear hcell h
    obtain ⟨n, Hn⟩ : ∃ n, (l.getD 0 0).toNat = n := ⟨_, rfl⟩
    rw [Hn] at d0 x0
    have HFE := Lib.hid (show frameErr l = if n < 4 ∨ 11 < n then 8 else if l.length < n + 5 then 12 else if beOf ((l.drop (n + 1)).take 4) ≠ crcSum (l.take (n + 1)) then 13 else 0 by
      simp only [frameErr, h0, if_false, Hn])
    have HB := Lib.hid (show bodyOf l = (l.drop 1).take n by simp only [bodyOf, Hn])
    clear Hn h0
    have HN := Lib.hid hn; clear hn
    by_cases hn1 : n < 4 ∨ 11 < n
    · have HT := Lib.hid (show frameErr l = 8 by rw [HFE.out, if_pos hn1])
      clear HFE
      by_cases hn2 : n < 4
      all_goals
        go_enter Tryd.func33, Tryd.ntmps33
        go_wp2
        go_ret2
        rw [HT.out]
        exact ⟨rfl, _, rfl⟩
    · by_cases hn3 : l.length < n + 5
      · have HT := Lib.hid (show frameErr l = 12 by rw [HFE.out, if_neg hn1, if_pos hn3])
        clear HFE
        have hn4 : 4 ≤ n := by omega
        have hn5 : n ≤ 11 := by omega
        clear hn1
        go_enter Tryd.func33, Tryd.ntmps33
        go_wp2
        go_ret2
        rw [HT.out]
        exact ⟨rfl, _, rfl⟩
      · have hn4 : 4 ≤ n := by omega
        have hn5 : n ≤ 11 := by omega
        have HFE2 := Lib.hid (HFE.out.trans (by rw [if_neg hn1, if_neg hn3] : _ = if beOf ((l.drop (n + 1)).take 4) ≠ crcSum (l.take (n + 1)) then 13 else 0))
        clear hn1 HFE
        have hn6 : n + 5 ≤ l.length := by omega
        have c1 : ¬ c = 1 := by omega
        have c2 : ¬ c = n + 1 := by omega
        clear hn3
        go_enter Tryd.func33, Tryd.ntmps33
        go_wp2_with fail
        go_loop [5, 43] (fun a i => ∃ k acc : Nat, k ≤ 4 ∧ i = .int .i64 k ∧ a = .int .u32 acc ∧ acc < 256 ^ k ∧ Hid (acc = beOf (((l.drop (n + 1)).take 4).take k))) (fun _ i => 4 - (intOf i).toNat)
        case atStart => exact ⟨0, 0, Nat.zero_le _, rfl, rfl, by omega, rfl⟩
        case round =>
          obtain ⟨k, acc, hk, rfl, rfl, hacc, HA⟩ := hrel
          by_cases hk4 : k < 4
          · have hx := HD.out (1 + n + k) (by omega)
            rw [← add_add'] at hx
            have hxb := (l.getD (1 + n + k) 0).toNat_lt
            have HA' := Lib.hid (show acc * 256 + (l.getD (1 + n + k) 0).toNat = beOf (((l.drop (n + 1)).take 4).take (k + 1)) by
              have hl : k < ((l.drop (n + 1)).take 4).length := by simp; omega
              rw [take_snoc _ k hl, beOf_snoc, ← HA.out]
              congr 2
              rw [List.getD_eq_getElem?_getD, List.getD_eq_getElem?_getD, List.getElem?_take, if_pos hk4, List.getElem?_drop, show n + 1 + k = 1 + n + k from by omega])
            clear HA
            generalize (l.getD (1 + n + k) 0).toNat = x at *
            have hob := or_be acc x k hacc hk4 hxb
            have hacc3 : acc < 16777216 := Nat.lt_of_lt_of_le hacc (Nat.pow_le_pow_right (n := 256) (i := k) (j := 3) (by omega) (by omega))
            have hacc' : acc * 256 + x < 256 ^ (k + 1) := by rw [Nat.pow_succ]; omega
            generalize acc * 256 + x = acc' at *
            go_wp2
            all_goals
              go_round
              case rel => exact ⟨k + 1, acc', by omega, by go_num, rfl, hacc', HA'⟩
              case measure => simp [intOf]; omega
          · have hk5 : k = 4 := by omega
            have hs := sum_any w B (some ad) c (l.take (n + 1)) (by
              have h := HS.out.head (k := n + 1) (by omega)
              rw [Nat.mul_one] at h
              have e : bcells (l.take (n + 1)) = (bcells l).take (n + 1) := by simp [bcells, List.map_take]
              have e2 : (l.take (n + 1)).length = n + 1 := by rw [List.length_take]; omega
              exact Shows.bytes (by rw [e, e2]; exact h)) (by rw [List.length_take]; simp only [maxLen]; omega) HN.out
            rw [show (l.take (n + 1)).length = 1 + n from by rw [List.length_take]; omega] at hs
            have HSum := Lib.hid hs; clear hs
            have HA' := Lib.hid (show acc = beOf ((l.drop (n + 1)).take 4) by rw [HA.out, hk5, List.take_take, Nat.min_self])
            have hkk : ¬ (k : Int) < 4 := by omega
            clear hk5 HA
            by_cases hq : acc = crcSum (l.take (n + 1))
            · have HT := Lib.hid (show frameErr l = 0 by rw [HFE2.out, ← HA'.out, if_neg (by simpa using hq)])
              have q1 : ((acc : Int) != ((crcSum (l.take (n + 1)) : Nat) : Int)) = false := by simp [hq]
              clear hq HFE2
              generalize crcSum (l.take (n + 1)) = sm at *
              go_wp2_with (go_at_call 16; refine HSum.out.mono ?_; rintro e w2 ⟨rfl, rfl⟩)
              go_ret2
              rw [HT.out]
              have e0 : (bodyOf l).length = 1 + n - 1 := by rw [HB.out, List.length_take, List.length_drop]; omega
              refine ⟨rfl, some ⟨ad.block, ad.off + 1, none⟩, c - 1, by rw [e0]; rfl, by omega, fun _ => ⟨_, rfl, had, fun j hj => ?_⟩⟩
              have hj' : j < n := by omega
              have hx := HD.out (1 + j) (by omega)
              rw [← add_add'] at hx
              have e1 : (bodyOf l).getD j 0 = l.getD (1 + j) 0 := by
                rw [HB.out, List.getD_eq_getElem?_getD, List.getD_eq_getElem?_getD, List.getElem?_take, if_pos hj', List.getElem?_drop]
              rw [e1]
              exact hx
            · have HT := Lib.hid (show frameErr l = 13 by rw [HFE2.out, ← HA'.out, if_pos hq])
              have q1 : ((acc : Int) != ((crcSum (l.take (n + 1)) : Nat) : Int)) = true := by simp; omega
              clear hq HFE2
              generalize crcSum (l.take (n + 1)) = sm at *
              go_wp2_with (go_at_call 16; refine HSum.out.mono ?_; rintro e w2 ⟨rfl, rfl⟩)
              go_ret2
              rw [HT.out]
              exact ⟨rfl, _, rfl⟩
end Go.Proofs.YtppcdppplbpklaaDoor
