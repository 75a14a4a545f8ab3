/- Walks: sum and difference. -/
import Derived.Test.YtgcobhlplffpjaaGreatDoorNb
namespace Go.Proofs.YtgcobhlplffpjaaGreatDoor
open Go.RowKit

/-- A number handed back, or the panic at more than 640 limbs. -/
def Gives (w : World) (v : Nat) (e : Ending) (w' : World) : Prop :=
  Below w.heap.size w w' ∧ if (limbs v).length ≤ 640 then ∃ A, e = .returned (.slice A (limbs v).length (limbs v).length) ∧ RdW w' w'.heap.size A (limbs v) else e = failed 2

theorem Gives.in_time (w : World) (v : Nat) (w' : World) : ¬ Gives w v .outgrown w' := by
  rintro ⟨-, h⟩
  split at h
  · obtain ⟨A, h, -⟩ := h; cases h
  · cases h
theorem formed_gives {w w1 w2 : World} {g : Nat} {l : List Nat} {e : Ending} {v : Nat} (h : Formed w1 (some ⟨g, 0, none⟩) l e w2) (hb : Below w.heap.size w w1) (ha : Arr w1 g l) (hl : Lim l) (hv : val l = v) : Gives w v e w2 := by
  subst hv
  unfold Formed at h
  rw [trim_limbs hl] at h
  split at h
  · rename_i h6
    obtain ⟨rfl, rfl⟩ := h
    refine ⟨hb, ?_⟩
    rw [if_pos h6]
    refine ⟨_, rfl, ?_⟩
    rw [← trim_limbs hl, (trim_take l).1]
    exact (ha.rd ha.lt).take _
  · rename_i h6
    obtain ⟨rfl, rfl⟩ := h
    refine ⟨hb, ?_⟩
    rw [if_neg h6]
theorem val_take_next (l : List Nat) (k : Nat) : val (l.take (k + 1)) = val (l.take k) + pw k * l.getD k 0 := by
  rcases Nat.lt_or_ge k l.length with h | h
  · exact val_take_snoc l k h
  · rw [List.take_of_length_le (by omega), List.take_of_length_le h, List.getD_eq_getElem?_getD, List.getElem?_eq_none h]; simp

/-- The limbs below k hold the numbers' lower parts' sum. -/
structure SumAt (g : Nat) (n : Nat) (a b : List Nat) (k c : Nat) (wx : World) (m : List Nat) : Prop where
  len : m.length = n + 1
  lim : Lim m
  arr : Arr wx g m
  eqn : val m + c * pw k = val (a.take k) + val (b.take k)
  zer : ∀ j, k ≤ j → m.getD j 0 = 0
def SumRel (w : World) (a b : List Nat) (c i : Value) (wx : World) : Prop :=
  ∃ k cy : Nat, k ≤ a.length ∧ i = .int .i64 k ∧ c = .int .u32 cy ∧ cy ≤ 1 ∧ Below w.heap.size w wx ∧ ∃ m, Hid (SumAt w.heap.size a.length a b k cy wx m)
theorem SumAt.start (w : World) (a b : List Nat) : SumAt w.heap.size a.length a b 0 0 (w.alloc (.cells (madeCells #[.int .u32 0] (a.length + 1)) 30)) (zeros (a.length + 1)) where
  len := zeros_length _
  lim := Lim.zeros _
  arr := Arr.made w _
  eqn := by rw [zeros, val_zeros]; rfl
  zer := fun j _ => by
    rw [zeros, List.getD_eq_getElem?_getD, List.getElem?_replicate]
    split <;> rfl
theorem SumAt.next {g n : Nat} {a b : List Nat} {k c : Nat} {wx : World} {m : List Nat} (h : SumAt g n a b k c wx m) (hk : k < n) :
    SumAt g n a b (k + 1) ((a.getD k 0 + b.getD k 0 + c) / 4294967296) (wx.setCell ⟨g, k, none⟩ (.int .u32 (((a.getD k 0 + b.getD k 0 + c) % 4294967296 : Nat) : Int))) (m.set k ((a.getD k 0 + b.getD k 0 + c) % 4294967296)) where
  len := by rw [List.length_set]; exact h.len
  lim := h.lim.set k _ (by omega)
  arr := h.arr.set k _ (by have := h.len; omega)
  eqn := by
    have h1 := val_set m k ((a.getD k 0 + b.getD k 0 + c) % 4294967296) (by have := h.len; omega)
    rw [h.zer k (Nat.le_refl _), Nat.mul_zero, Nat.add_zero] at h1
    rw [h1, val_take_next, val_take_next, pw_succ]
    have h2 := sum_step (val m) (pw k) (a.getD k 0) (b.getD k 0) c _ rfl
    have h3 := h.eqn
    rw [Nat.mul_comm _ (4294967296 * pw k)]
    omega
  zer := fun j hj => by
    rw [getD_set _ _ _ _ (by have := h.len; omega), if_neg (by omega)]
    exact h.zer j (by omega)
theorem SumAt.old {g n : Nat} {a b : List Nat} {k c : Nat} {wx : World} {m : List Nat} (h : SumAt g n a b k c wx m) (j : Nat) (hj : k ≤ j ∧ j ≤ n) : wx.cell? ⟨g, j, none⟩ = some (.int .u32 0) := by
  have h1 := h.arr.cell (i := j) (by have := h.len; omega)
  rw [h.zer j hj.1] at h1
  exact h1
theorem SumAt.last {g : Nat} {a b : List Nat} {k c : Nat} {wx : World} {m : List Nat} (h : SumAt g a.length a b k c wx m) (hk : k = a.length) (hb : b.length ≤ a.length) (hc : c ≤ 1) :
    Arr (wx.setCell ⟨g, k, none⟩ (.int .u32 (c : Int))) g (m.set k c) ∧ Lim (m.set k c) ∧ val (m.set k c) = val a + val b ∧ (m.set k c).length = a.length + 1 := by
  have hl := h.len
  refine ⟨h.arr.set k c (by omega), h.lim.set k c (by omega), ?_, by rw [List.length_set]; omega⟩
  have h1 := val_set m k c (by omega)
  rw [h.zer k (Nat.le_refl _), Nat.mul_zero, Nat.add_zero] at h1
  rw [h1]
  have h2 := h.eqn
  rw [hk, List.take_length, List.take_of_length_le hb] at h2
  rw [hk, Nat.mul_comm]
  exact h2

set_option maxRecDepth 100000 in
set_option maxHeartbeats 1000000 in
theorem sum_any (w : World) (A1 A2 : Option Addr) (c1 c2 : Nat) (a b : List Nat) (ra : RdW w w.heap.size A1 a) (rb : RdW w w.heap.size A2 b) (la : Lim a) (lb : Lim b) (na : a.length ≤ 100000) (nb : b.length ≤ 100000) :
    Calls Tryz.prog 41 #[.slice A1 a.length c1, .slice A2 b.length c2] w (Gives w (val a + val b)) := by
  have RA := Lib.hid ra; clear ra
  have RB := Lib.hid rb; clear rb
  have LA := Lib.hid la; clear la
  have LB := Lib.hid lb; clear lb
  by_cases hab : a.length < b.length
  · have hyx : a.length ≤ b.length := by omega
    rw [Nat.add_comm (val a)]
    have hmk := make_limbs' ((b.length : Int) + 1) (b.length + 1) (by omega) (by omega)
    go_enter Tryz.func41, Tryz.ntmps41
    go_wp2
    go_loopw [6, 23] (fun c i wx => SumRel w b a c i wx) (fun _ i _ => b.length - (intOf i).toNat)
    case atStart => exact ⟨0, 0, Nat.zero_le _, rfl, rfl, by omega, (Below.refl _ _).alloc (Nat.le_refl _) _, _, SumAt.start w b a⟩
    case round =>
      obtain ⟨k, cy, hk, rfl, rfl, hcy, hB, m, HS⟩ := hrel
      by_cases hlt : k < b.length
      · obtain ⟨ad, rfl, had, hcell⟩ := RB.out (by omega)
        have hx := (hB.cell (p := ad.add k) (by rw [add_block]; exact had)).trans (hcell k hlt)
        have xl := LB.out.getD k
        have yl := LA.out.getD k
        have hfz := HS.out.arr.frozen k
        have hcl := HS.out.old k (by omega)
        have HN := Lib.hid (HS.out.next hlt)
        have HA := Lib.hid (add32_any wr (b.getD k 0) (a.getD k 0) cy xl yl hcy)
        have hq2 : (b.getD k 0 + a.getD k 0 + cy) / 4294967296 ≤ 1 := by omega
        clear hcell
        by_cases hy : k < a.length
        · obtain ⟨bd, rfl, hbd, hcell⟩ := RA.out (by omega)
          have hyc := (hB.cell (p := bd.add k) (by rw [add_block]; exact hbd)).trans (hcell k hy)
          clear hcell
          generalize b.getD k 0 = xk at *
          generalize a.getD k 0 = yk at *
          generalize (xk + yk + cy) % 4294967296 = q1 at *
          generalize (xk + yk + cy) / 4294967296 = q2 at *
          go_wp2_with (go_at_call 65; refine HA.out.mono ?_; rintro e w' ⟨rfl, rfl⟩)
          go_roundw
          case rel => exact ⟨k + 1, q2, by omega, by go_num, rfl, hq2, hB.setCell (Nat.le_refl _) _, _, HN⟩
          case measure => simp [intOf]; omega
        · have hy0 : a.getD k 0 = 0 := by rw [List.getD_eq_getElem?_getD, List.getElem?_eq_none (by omega)]; rfl
          rw [hy0] at HN HA hq2 yl
          clear hy0
          generalize b.getD k 0 = xk at *
          generalize (xk + 0 + cy) % 4294967296 = q1 at *
          generalize (xk + 0 + cy) / 4294967296 = q2 at *
          go_wp2_with (go_at_call 65; refine HA.out.mono ?_; rintro e w' ⟨rfl, rfl⟩)
          go_roundw
          case rel => exact ⟨k + 1, q2, by omega, by go_num, rfl, hq2, hB.setCell (Nat.le_refl _) _, _, HN⟩
          case measure => simp [intOf]; omega
      · have hkl : k = b.length := by omega
        have hfz := HS.out.arr.frozen k
        have hcl := HS.out.old k (by omega)
        obtain ⟨ha, hl, hv, hn⟩ := HS.out.last hkl hyx hcy
        have hf := form_any _ _ _ (b.length + 1) _ (ha.rd ha.lt) (by omega) (by omega) hl
        have HF := Lib.hid fun e w' h => formed_gives (e := e) (w2 := w') h (hB.setCell (a := w) (p := ⟨w.heap.size, k, none⟩) (Nat.le_refl _) (.int .u32 (cy : Int))) ha hl hv
        rw [hn] at hf
        have HG := Lib.hid hf
        clear hf ha hl hv hn HS
        subst hkl
        go_wp2_with (go_at_call 44; refine HG.out.mono ?_; intro e w' he; replace he := HF.out e w' he)
        · go_ret
          exact he
        · exact ⟨rfl, he⟩
        · exact absurd he (Gives.in_time _ _ _)
  · have hyx : b.length ≤ a.length := by omega
    have hmk := make_limbs' ((a.length : Int) + 1) (a.length + 1) (by omega) (by omega)
    go_enter Tryz.func41, Tryz.ntmps41
    go_wp2
    go_loopw [6, 23] (fun c i wx => SumRel w a b c i wx) (fun _ i _ => a.length - (intOf i).toNat)
    case atStart => exact ⟨0, 0, Nat.zero_le _, rfl, rfl, by omega, (Below.refl _ _).alloc (Nat.le_refl _) _, _, SumAt.start w a b⟩
    case round =>
      obtain ⟨k, cy, hk, rfl, rfl, hcy, hB, m, HS⟩ := hrel
      by_cases hlt : k < a.length
      · obtain ⟨ad, rfl, had, hcell⟩ := RA.out (by omega)
        have hx := (hB.cell (p := ad.add k) (by rw [add_block]; exact had)).trans (hcell k hlt)
        have xl := LA.out.getD k
        have yl := LB.out.getD k
        have hfz := HS.out.arr.frozen k
        have hcl := HS.out.old k (by omega)
        have HN := Lib.hid (HS.out.next hlt)
        have HA := Lib.hid (add32_any wr (a.getD k 0) (b.getD k 0) cy xl yl hcy)
        have hq2 : (a.getD k 0 + b.getD k 0 + cy) / 4294967296 ≤ 1 := by omega
        clear hcell
        by_cases hy : k < b.length
        · obtain ⟨bd, rfl, hbd, hcell⟩ := RB.out (by omega)
          have hyc := (hB.cell (p := bd.add k) (by rw [add_block]; exact hbd)).trans (hcell k hy)
          clear hcell
          generalize a.getD k 0 = xk at *
          generalize b.getD k 0 = yk at *
          generalize (xk + yk + cy) % 4294967296 = q1 at *
          generalize (xk + yk + cy) / 4294967296 = q2 at *
          go_wp2_with (go_at_call 65; refine HA.out.mono ?_; rintro e w' ⟨rfl, rfl⟩)
          go_roundw
          case rel => exact ⟨k + 1, q2, by omega, by go_num, rfl, hq2, hB.setCell (Nat.le_refl _) _, _, HN⟩
          case measure => simp [intOf]; omega
        · have hy0 : b.getD k 0 = 0 := by rw [List.getD_eq_getElem?_getD, List.getElem?_eq_none (by omega)]; rfl
          rw [hy0] at HN HA hq2 yl
          clear hy0
          generalize a.getD k 0 = xk at *
          generalize (xk + 0 + cy) % 4294967296 = q1 at *
          generalize (xk + 0 + cy) / 4294967296 = q2 at *
          go_wp2_with (go_at_call 65; refine HA.out.mono ?_; rintro e w' ⟨rfl, rfl⟩)
          go_roundw
          case rel => exact ⟨k + 1, q2, by omega, by go_num, rfl, hq2, hB.setCell (Nat.le_refl _) _, _, HN⟩
          case measure => simp [intOf]; omega
      · have hkl : k = a.length := by omega
        have hfz := HS.out.arr.frozen k
        have hcl := HS.out.old k (by omega)
        obtain ⟨ha, hl, hv, hn⟩ := HS.out.last hkl hyx hcy
        have hf := form_any _ _ _ (a.length + 1) _ (ha.rd ha.lt) (by omega) (by omega) hl
        have HF := Lib.hid fun e w' h => formed_gives (e := e) (w2 := w') h (hB.setCell (a := w) (p := ⟨w.heap.size, k, none⟩) (Nat.le_refl _) (.int .u32 (cy : Int))) ha hl hv
        rw [hn] at hf
        have HG := Lib.hid hf
        clear hf ha hl hv hn HS
        subst hkl
        go_wp2_with (go_at_call 44; refine HG.out.mono ?_; intro e w' he; replace he := HF.out e w' he)
        · go_ret
          exact he
        · exact ⟨rfl, he⟩
        · exact absurd he (Gives.in_time _ _ _)

end Go.Proofs.YtgcobhlplffpjaaGreatDoor
