/- Walks: difference. -/
import Derived.Test.YtgcobhlplffpjaaGreatDoorNd
namespace Go.Proofs.YtgcobhlplffpjaaGreatDoor
open Go.RowKit

/-- What difference hands back. -/
def GivesDiff (w : World) (x y : Nat) (e : Ending) (w' : World) : Prop := if y ≤ x then Gives w (x - y) e w' else e = failed 3 ∧ Below w.heap.size w w'

structure DiffAt (g : Nat) (n : Nat) (a b : List Nat) (k c : Nat) (wx : World) (m : List Nat) : Prop where
  len : m.length = n
  lim : Lim m
  arr : Arr wx g m
  eqn : val m + val (b.take k) = val (a.take k) + c * pw k
  zer : ∀ j, k ≤ j → m.getD j 0 = 0
def DiffRel (g : Nat) (w : World) (a b : List Nat) (c i : Value) (wx : World) : Prop :=
  ∃ k cy : Nat, k ≤ a.length ∧ i = .int .i64 k ∧ c = .int .u32 cy ∧ cy ≤ 1 ∧ Below w.heap.size w wx ∧ ∃ m, Hid (DiffAt g a.length a b k cy wx m)
theorem DiffAt.start (w : World) (a b : List Nat) : DiffAt w.heap.size a.length a b 0 0 (w.alloc (.cells (madeCells #[.int .u32 0] a.length) 30)) (zeros a.length) where
  len := zeros_length _
  lim := Lim.zeros _
  arr := Arr.made w _
  eqn := by rw [zeros, val_zeros]; rfl
  zer := fun j _ => by
    rw [zeros, List.getD_eq_getElem?_getD, List.getElem?_replicate]
    split <;> rfl
theorem DiffAt.next {g n : Nat} {a b : List Nat} {k c d c' : Nat} {wx : World} {m : List Nat} (h : DiffAt g n a b k c wx m) (hk : k < n) (hd : d < 4294967296) (he : a.getD k 0 + 4294967296 * c' = b.getD k 0 + c + d) :
    DiffAt g n a b (k + 1) c' (wx.setCell ⟨g, k, none⟩ (.int .u32 (d : Int))) (m.set k d) where
  len := by rw [List.length_set]; exact h.len
  lim := h.lim.set k _ hd
  arr := h.arr.set k _ (by have := h.len; omega)
  eqn := by
    have h1 := val_set m k d (by have := h.len; omega)
    rw [h.zer k (Nat.le_refl _), Nat.mul_zero, Nat.add_zero] at h1
    rw [h1, val_take_next, val_take_next, pw_succ]
    have h2 : pw k * (a.getD k 0 + 4294967296 * c') = pw k * (b.getD k 0 + c + d) := by rw [he]
    have h3 := h.eqn
    have h4 : c' * (4294967296 * pw k) = pw k * (4294967296 * c') := by rw [Nat.mul_comm c', Nat.mul_comm 4294967296 (pw k), Nat.mul_assoc]
    rw [Nat.mul_add, Nat.mul_add, Nat.mul_add, Nat.mul_comm (pw k) c] at h2
    rw [h4]
    omega
  zer := fun j hj => by
    rw [getD_set _ _ _ _ (by have := h.len; omega), if_neg (by omega)]
    exact h.zer j (by omega)
theorem DiffAt.old {g n : Nat} {a b : List Nat} {k c : Nat} {wx : World} {m : List Nat} (h : DiffAt g n a b k c wx m) (j : Nat) (hj : k ≤ j ∧ j < n) : wx.cell? ⟨g, j, none⟩ = some (.int .u32 0) := by
  have h1 := h.arr.cell (i := j) (by have := h.len; omega)
  rw [h.zer j hj.1] at h1
  exact h1
theorem DiffAt.last {g : Nat} {a b : List Nat} {k c : Nat} {wx : World} {m : List Nat} (h : DiffAt g a.length a b k c wx m) (hk : k = a.length) (hb : b.length ≤ a.length) (hv : val b ≤ val a) :
    Arr wx g m ∧ Lim m ∧ val m = val a - val b ∧ m.length = a.length := by
  refine ⟨h.arr, h.lim, ?_, h.len⟩
  have h2 := h.eqn
  rw [hk, List.take_length, List.take_of_length_le hb] at h2
  have h3 := val_lt h.lim
  rw [h.len] at h3
  rcases Nat.eq_zero_or_pos c with h0 | h0
  · subst h0; omega
  · have : 1 * pw a.length ≤ c * pw a.length := Nat.mul_le_mul_right _ h0
    omega

set_option maxRecDepth 100000 in
set_option maxHeartbeats 1000000 in
theorem difference_any (w : World) (A1 A2 : Option Addr) (c1 c2 : Nat) (a b : List Nat) (ra : RdW w w.heap.size A1 a) (rb : RdW w w.heap.size A2 b) (la : Lim a) (lb : Lim b) (ua : Norm a) (ub : Norm b) (na : a.length ≤ 100000) (nb : b.length ≤ 100000) :
    Calls Tryz.prog 43 #[.slice A1 a.length c1, .slice A2 b.length c2] w (GivesDiff w (val a) (val b)) := by
  have HC := Lib.hid (compare_any w A1 A2 c1 c2 a b ra rb la lb ua ub nb)
  have RA := Lib.hid ra; clear ra
  have RB := Lib.hid rb; clear rb
  have LA := Lib.hid la; clear la
  have LB := Lib.hid lb; clear lb
  by_cases hv : val b ≤ val a
  case neg =>
    have hc : cmpI (val a) (val b) = -1 := by rw [cmpI, if_pos (by omega)]
    rw [hc] at HC
    have HV := Lib.hid hv
    clear hv hc ua ub
    go_enter Tryz.func43, Tryz.ntmps43
    go_wp2_with (go_at_call 53; refine HC.out.mono ?_; rintro e w1 ⟨rfl, hB⟩)
    refine ⟨rfl, ?_⟩
    unfold GivesDiff
    rw [if_neg HV.out]
    exact ⟨rfl, hB⟩
  have hc : cmpI (val a) (val b) = 0 ∨ cmpI (val a) (val b) = 1 := by
    unfold cmpI
    rw [if_neg (by omega)]
    split <;> simp
  have hyx : b.length ≤ a.length := norm_len LA.out ub hv
  have HGD : Hid (∀ e w', Gives w (val a - val b) e w' → GivesDiff w (val a) (val b) e w') := fun e w' h => by
    unfold GivesDiff
    rw [if_pos hv]
    exact h
  have HV := Lib.hid hv
  clear hv
  generalize cmpI (val a) (val b) = r at *
  have hmk := make_limbs a.length (by omega)
  go_enter Tryz.func43, Tryz.ntmps43
  have hr : ¬ r < 0 := by omega
  clear hc ua ub
  go_wp2_with (go_at_call 53; refine HC.out.mono ?_; rintro e w1 ⟨rfl, hB1⟩)
  go_loopw [6, 21] (fun c i wx => DiffRel w1.heap.size w a b c i wx) (fun _ i _ => a.length - (intOf i).toNat)
  case atStart => exact ⟨0, 0, Nat.zero_le _, rfl, rfl, by omega, hB1.alloc hB1.size _, _, DiffAt.start w1 a b⟩
  case round =>
    have hg := hB1.size
    obtain ⟨k, cy, hk, rfl, rfl, hcy, hB, m, HS⟩ := hrel
    by_cases hlt : k < a.length
    · obtain ⟨ad, rfl, had, hcell⟩ := RA.out (by omega)
      have hx := (hB.cell (p := ad.add k) (by rw [add_block]; exact had)).trans (hcell k hlt)
      have xl := LA.out.getD k
      have yl := LB.out.getD k
      have hfz := HS.out.arr.frozen k
      have hcl := HS.out.old k (by omega)
      have HN := Lib.hid fun (d c' : Nat) (hd : d < 4294967296) he => HS.out.next (d := d) (c' := c') hlt hd he
      have HA := Lib.hid (sub32_any wr (a.getD k 0) (b.getD k 0) cy xl yl hcy)
      clear hcell
      by_cases hy : k < b.length
      · obtain ⟨bd, rfl, hbd, hcell⟩ := RB.out (by omega)
        have hyc := (hB.cell (p := bd.add k) (by rw [add_block]; exact hbd)).trans (hcell k hy)
        clear hcell
        generalize a.getD k 0 = xk at *
        generalize b.getD k 0 = yk at *
        go_wp2_with (go_at_call 66; refine HA.out.mono ?_; rintro e w' ⟨d, c', rfl, hd, hc', he, rfl⟩; replace HN := Lib.hid (HN.out d c' hd he); replace he := Lib.hid he)
        go_roundw
        case rel => exact ⟨k + 1, c', by omega, by go_num, rfl, hc', hB.setCell hg _, _, HN⟩
        case measure => simp [intOf]; omega
      · have hy0 : b.getD k 0 = 0 := by rw [List.getD_eq_getElem?_getD, List.getElem?_eq_none (by omega)]; rfl
        rw [hy0] at HN HA
        clear hy0 yl
        generalize a.getD k 0 = xk at *
        go_wp2_with (go_at_call 66; refine HA.out.mono ?_; rintro e w' ⟨d, c', rfl, hd, hc', he, rfl⟩; replace HN := Lib.hid (HN.out d c' hd he); replace he := Lib.hid he)
        go_roundw
        case rel => exact ⟨k + 1, c', by omega, by go_num, rfl, hc', hB.setCell hg _, _, HN⟩
        case measure => simp [intOf]; omega
    · have hkl : k = a.length := by omega
      obtain ⟨ha, hl, hv, hn⟩ := HS.out.last hkl hyx HV.out
      have hf := form_any _ _ _ a.length _ (ha.rd ha.lt) (by omega) (by omega) hl
      have HF := Lib.hid fun e w' h => HGD.out e w' (formed_gives (e := e) (w2 := w') h hB ha hl hv)
      rw [hn] at hf
      have HG := Lib.hid hf
      clear hf ha hl hv hn HS
      subst hkl
      go_wp2_with (go_at_call 44; refine HG.out.mono ?_; intro e w' he; replace he := HF.out e w' he)
      · go_ret
        exact he
      · exact ⟨rfl, he⟩
      · unfold GivesDiff at he
        rw [if_pos HV.out] at he
        exact absurd he (Gives.in_time _ _ _)

end Go.Proofs.YtgcobhlplffpjaaGreatDoor
