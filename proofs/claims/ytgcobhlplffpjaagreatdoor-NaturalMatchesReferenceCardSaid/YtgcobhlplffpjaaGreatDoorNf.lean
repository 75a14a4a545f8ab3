/- Walks: product. -/
import Derived.Test.YtgcobhlplffpjaaGreatDoorNe
namespace Go.Proofs.YtgcobhlplffpjaaGreatDoor
open Go.RowKit

structure MulAt (g n : Nat) (a b : List Nat) (i : Nat) (wx : World) (m : List Nat) : Prop where
  len : m.length = n
  lim : Lim m
  arr : Arr wx g m
  eqn : val m = val (a.take i) * val b
  zer : ∀ j, i + b.length ≤ j → m.getD j 0 = 0
structure MulIn (g n : Nat) (a b : List Nat) (i x j c : Nat) (wx : World) (m : List Nat) : Prop where
  len : m.length = n
  lim : Lim m
  arr : Arr wx g m
  eqn : val m + c * pw (i + j) = val (a.take i) * val b + pw i * (x * val (b.take j))
  zer : ∀ k, i + b.length ≤ k → m.getD k 0 = 0
def MulRel (w : World) (n : Nat) (a b : List Nat) (i : Value) (wx : World) : Prop :=
  ∃ k : Nat, k ≤ a.length ∧ i = .int .i64 k ∧ Below w.heap.size w wx ∧ ∃ m, Hid (MulAt w.heap.size n a b k wx m)
def MulRelIn (w : World) (n : Nat) (a b : List Nat) (i x : Nat) (c j : Value) (wx : World) : Prop :=
  ∃ k cy : Nat, k ≤ b.length ∧ j = .int .i64 k ∧ c = .int .u64 cy ∧ cy < 4294967296 ∧ Below w.heap.size w wx ∧ ∃ m, Hid (MulIn w.heap.size n a b i x k cy wx m)
theorem MulAt.start (w : World) (a b : List Nat) : MulAt w.heap.size (a.length + b.length) a b 0 (w.alloc (.cells (madeCells #[.int .u32 0] (a.length + b.length)) 30)) (zeros (a.length + b.length)) where
  len := zeros_length _
  lim := Lim.zeros _
  arr := Arr.made w _
  eqn := by rw [zeros, val_zeros, List.take_zero, val, Nat.zero_mul]
  zer := fun j _ => by
    rw [zeros, List.getD_eq_getElem?_getD, List.getElem?_replicate]
    split <;> rfl
theorem MulAt.enter {g n : Nat} {a b : List Nat} {i : Nat} {wx : World} {m : List Nat} (h : MulAt g n a b i wx m) (x : Nat) : MulIn g n a b i x 0 0 wx m where
  len := h.len
  lim := h.lim
  arr := h.arr
  eqn := by rw [h.eqn, List.take_zero, val]; simp
  zer := h.zer
theorem MulIn.next {g n : Nat} {a b : List Nat} {i x j c t : Nat} {wx : World} {m : List Nat} (h : MulIn g n a b i x j c wx m) (hj : j < b.length) (hi : i + b.length < n) (ht : x * b.getD j 0 + m.getD (i + j) 0 + c = t) :
    MulIn g n a b i x (j + 1) (t / 4294967296) (wx.setCell ⟨g, i + j, none⟩ (.int .u32 ((t % 4294967296 : Nat) : Int))) (m.set (i + j) (t % 4294967296)) where
  len := by rw [List.length_set]; exact h.len
  lim := h.lim.set _ _ (by omega)
  arr := h.arr.set _ _ (by have := h.len; omega)
  eqn := by
    have h1 := val_set m (i + j) (t % 4294967296) (by have := h.len; omega)
    have h2 := mul_step (val m) _ (pw (i + j)) x (b.getD j 0) (m.getD (i + j) 0) c t ht h1
    have h3 := h.eqn
    rw [show i + (j + 1) = i + j + 1 from rfl, pw_succ, h2, val_take_next, Nat.mul_add x, Nat.mul_add (pw i), ← Nat.add_assoc, ← h3, pw_add]
    have h4 : pw i * (x * (pw j * b.getD j 0)) = pw i * pw j * (x * b.getD j 0) := by
      rw [← Nat.mul_assoc x, Nat.mul_comm x (pw j), Nat.mul_assoc (pw j), Nat.mul_assoc]
    rw [h4]
    omega
  zer := fun k hk => by
    rw [getD_set _ _ _ _ (by have := h.len; omega), if_neg (by omega)]
    exact h.zer k hk
theorem MulIn.leave {g n : Nat} {a b : List Nat} {i j c : Nat} {wx : World} {m : List Nat} (h : MulIn g n a b i (a.getD i 0) j c wx m) (hj : j = b.length) (hi : i + b.length < n) (hc : c < 4294967296) :
    MulAt g n a b (i + 1) (wx.setCell ⟨g, i + b.length, none⟩ (.int .u32 (c : Int))) (m.set (i + b.length) c) where
  len := by rw [List.length_set]; exact h.len
  lim := h.lim.set _ _ hc
  arr := h.arr.set _ _ (by have := h.len; omega)
  eqn := by
    have h1 := val_set m (i + b.length) c (by have := h.len; omega)
    rw [h.zer _ (Nat.le_refl _), Nat.mul_zero, Nat.add_zero] at h1
    have h3 := h.eqn
    rw [hj, List.take_length] at h3
    rw [h1, Nat.mul_comm (pw (i + b.length)) c, h3, val_take_next, Nat.add_mul, Nat.mul_assoc]
  zer := fun k hk => by
    rw [getD_set _ _ _ _ (by have := h.len; omega), if_neg (by omega)]
    exact h.zer k (by omega)
theorem MulIn.old {g n : Nat} {a b : List Nat} {i x j c : Nat} {wx : World} {m : List Nat} (h : MulIn g n a b i x j c wx m) (k : Nat) (hk : k < n) : wx.cell? ⟨g, k, none⟩ = some (.int .u32 ((m.getD k 0 : Nat) : Int)) :=
  h.arr.cell (i := k) (by have := h.len; omega)
theorem mul_bound {x y : Nat} (hx : x < 4294967296) (hy : y < 4294967296) : x * y ≤ 18446744065119617025 := Nat.mul_le_mul (show x ≤ 4294967295 by omega) (show y ≤ 4294967295 by omega)

set_option maxRecDepth 100000 in
set_option maxHeartbeats 1000000 in
theorem product_any (w : World) (A1 A2 : Option Addr) (c1 c2 : Nat) (a b : List Nat) (ra : RdW w w.heap.size A1 a) (rb : RdW w w.heap.size A2 b) (la : Lim a) (lb : Lim b) (na : a.length ≤ 100000) (nb : b.length ≤ 100000) :
    Calls Tryz.prog 39 #[.slice A1 a.length c1, .slice A2 b.length c2] w (Gives w (val a * val b)) := by
  have RA := Lib.hid ra; clear ra
  have RB := Lib.hid rb; clear rb
  have LA := Lib.hid la; clear la
  have LB := Lib.hid lb; clear lb
  have hmk := make_limbs' ((a.length : Int) + (b.length : Int)) (a.length + b.length) (by omega) (by omega)
  obtain ⟨n, hn⟩ : ∃ n, a.length + b.length = n := ⟨_, rfl⟩
  have HST := Lib.hid (MulAt.start w a b)
  rw [hn] at hmk HST
  go_enter Tryz.func39, Tryz.ntmps39
  go_wp2
  go_loopw [20] (fun i wx => MulRel w n a b i wx) (fun i _ => a.length - (intOf i).toNat)
  case atStart => exact ⟨0, Nat.zero_le _, rfl, (Below.refl _ _).alloc (Nat.le_refl _) _, _, HST⟩
  case round =>
    obtain ⟨i, hi, rfl, hB, m, HS⟩ := hrel
    by_cases hlt : i < a.length
    · obtain ⟨ad, rfl, had, hcell⟩ := RA.out (by omega)
      have hx := (hB.cell (p := ad.add i) (by rw [add_block]; exact had)).trans (hcell i hlt)
      have xl := LA.out.getD i
      have HLV := Lib.hid fun (j c : Nat) (wx : World) (m : List Nat) (h : MulIn w.heap.size n a b i (a.getD i 0) j c wx m) (hj : j = b.length) hc => h.leave hj (by omega) hc
      have HS2 := Lib.hid (HS.out.enter (a.getD i 0))
      clear hcell HS
      generalize a.getD i 0 = x at *
      go_wp2
      go_loopw [8, 27] (fun c j wx => MulRelIn w n a b i x c j wx) (fun _ j _ => b.length - (intOf j).toNat)
      case atStart => exact ⟨0, 0, Nat.zero_le _, rfl, rfl, by omega, hB, _, HS2⟩
      case round =>
        clear hB HS2 hx
        obtain ⟨j, cy, hj, rfl, rfl, hcy, hB, m, HS⟩ := hrel
        by_cases hjt : j < b.length
        · obtain ⟨bd, rfl, hbd, hcell⟩ := RB.out (by omega)
          have hy := (hB.cell (p := bd.add j) (by rw [add_block]; exact hbd)).trans (hcell j hjt)
          have yl := LB.out.getD j
          have cl := HS.out.lim.getD (i + j)
          have hfz := HS.out.arr.frozen (i + j)
          have hcl := HS.out.old (i + j) (by omega)
          obtain ⟨p, hp⟩ : ∃ p, x * b.getD j 0 = p := ⟨_, rfl⟩
          obtain ⟨t, ht⟩ : ∃ t, p + m.getD (i + j) 0 + cy = t := ⟨_, rfl⟩
          have HN := Lib.hid (HS.out.next hjt (by omega) (t := t) (by rw [hp, ht]))
          have hpb := mul_bound xl yl
          rw [hp] at hpb
          have hp' : (x : Int) * ((b.getD j 0 : Nat) : Int) = (p : Int) := by rw [← hp, Int.natCast_mul]
          clear hcell hp
          generalize b.getD j 0 = y at *
          generalize m.getD (i + j) 0 = c at *
          have ht' : (p : Int) + (c : Int) + (cy : Int) = (t : Int) := by omega
          have htb : t ≤ 18446744073709551615 := by omega
          have h1 : (t : Int) % 4294967296 = ((t % 4294967296 : Nat) : Int) := by omega
          have h2 : (t : Int) / 4294967296 = ((t / 4294967296 : Nat) : Int) := by omega
          have hq2 : t / 4294967296 < 4294967296 := by omega
          generalize t % 4294967296 = q1 at *
          generalize t / 4294967296 = q2 at *
          clear ht
          go_wp2
          refine ⟨⟨j + 1, q2, by omega, by go_num, rfl, hq2, hB.setCell (Nat.le_refl _) _, _, HN⟩, by simp [intOf]; omega⟩
        · have hjl : j = b.length := by omega
          have hfz := HS.out.arr.frozen (i + b.length)
          have hcl := HS.out.old (i + b.length) (by omega)
          rw [HS.out.zer _ (Nat.le_refl _)] at hcl
          have HN := Lib.hid (HLV.out j cy wr m HS.out hjl hcy)
          clear HS HLV
          subst hjl
          go_wp2
          go_roundw
          case rel => exact ⟨i + 1, by omega, by go_num, hB.setCell (Nat.le_refl _) _, _, HN⟩
          case measure => simp [intOf]; omega
    · have hil : i = a.length := by omega
      have hv : val m = val a * val b := by rw [HS.out.eqn, hil, List.take_length]
      have hf := form_any _ _ _ n _ (HS.out.arr.rd HS.out.arr.lt) (by rw [HS.out.len]; omega) (by rw [HS.out.len]; exact Nat.le_refl _) HS.out.lim
      have HF := Lib.hid fun e w' h => formed_gives (e := e) (w2 := w') h hB HS.out.arr HS.out.lim hv
      rw [HS.out.len] at hf
      have HG := Lib.hid hf
      clear hf hv HS
      subst hil
      go_wp2_with (go_at_call 44; refine HG.out.mono ?_; intro e w' he; replace he := HF.out e w' he)
      · go_ret
        exact he
      · exact ⟨rfl, he⟩
      · exact absurd he (Gives.in_time _ _ _)

end Go.Proofs.YtgcobhlplffpjaaGreatDoor
