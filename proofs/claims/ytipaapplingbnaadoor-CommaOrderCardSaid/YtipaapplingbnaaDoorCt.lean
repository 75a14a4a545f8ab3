/- Words: rows of vectors and of integers that are written; the first mask; what Counts answers. -/
import Derived.Test.YtipaapplingbnaaDoorCs
namespace Go.Proofs.YtipaapplingbnaaDoor
open Go.RowKit Go.Deep

theorem rset (l : List Vc) (k : Nat) (v : Vc) (hk : k < l.length) :
    ((((((rcells Vc.cs l).set (k * 6) (.int .i64 v.a)).set (k * 6 + 1) (.int .i64 v.b)).set (k * 6 + 2) (.int .i64 v.c)).set (k * 6 + 3) (.int .i64 v.d)).set (k * 6 + 4) (.int .i64 v.e)).set (k * 6 + 5) (.int .i64 v.f) = rcells Vc.cs (l.set k v) := by
  induction l generalizing k with
  | nil => simp at hk
  | cons x l ih =>
    cases k with
    | zero => rfl
    | succ k =>
      have h1 := ih k (by simpa using hk)
      have e : rcells Vc.cs (x :: l) = x.cs ++ rcells Vc.cs l := rfl
      have e2 : rcells Vc.cs ((x :: l).set (k + 1) v) = x.cs ++ rcells Vc.cs (l.set k v) := rfl
      rw [e, e2, ← h1]
      have hs : ∀ (m : List Value) (p : Nat) (u : Value), (x.cs ++ m).set (6 + p) u = x.cs ++ m.set p u := fun m p u => by
        rw [List.set_append_right _ _ (by rw [Vc.cs_len]; omega), Vc.cs_len, show 6 + p - 6 = p by omega]
      rw [show (k + 1) * 6 = 6 + k * 6 by omega, show 6 + k * 6 + 1 = 6 + (k * 6 + 1) by omega, show 6 + k * 6 + 2 = 6 + (k * 6 + 2) by omega, show 6 + k * 6 + 3 = 6 + (k * 6 + 3) by omega, show 6 + k * 6 + 4 = 6 + (k * 6 + 4) by omega, show 6 + k * 6 + 5 = 6 + (k * 6 + 5) by omega]
      rw [hs, hs, hs, hs, hs, hs]
/-- Block g is a row of the vectors l. -/
def VRow (w : World) (g : Nat) (l : List Vc) : Prop := Blk w g 25 (rcells Vc.cs l).toArray
theorem VRow.cell {w : World} {g : Nat} {l : List Vc} (h : VRow w g l) (k j : Nat) (hk : k < l.length) (hj : j < 6) : w.cell? ⟨g, k * 6 + j, none⟩ = some (.int .i64 (l[k].at j)) := by
  rw [Blk.cell h, List.getElem?_toArray, rcells_at Vc.cs 6 Vc.cs_len l k j hk hj]
  have := l[k].cell j hj
  rwa [← Array.getElem?_toList] at this
theorem VRow.frozen {w : World} {g : Nat} {l : List Vc} (h : VRow w g l) (i : Nat) : w.frozen? ⟨g, i, none⟩ = false := Blk.frozen h i
theorem VRow.rd {w : World} {g : Nat} {l : List Vc} (h : VRow w g l) : RdV w w.heap.size (some ⟨g, 0, none⟩) l := by
  refine ⟨rcells_length Vc.cs 6 Vc.cs_len l, fun _ => ⟨_, rfl, Blk.lt h, fun j hj => ?_⟩⟩
  rw [show (⟨g, 0, none⟩ : Addr).add j = ⟨g, j, none⟩ from by unfold Addr.add; split <;> simp_all, Blk.cell h, List.getElem?_toArray]
theorem VRow.put {w : World} {g : Nat} {l : List Vc} (h : VRow w g l) (k : Nat) (v : Vc) (hk : k < l.length) :
    VRow ((((((w.setCell ⟨g, k * 6, none⟩ (.int .i64 v.a)).setCell ⟨g, k * 6 + 1, none⟩ (.int .i64 v.b)).setCell ⟨g, k * 6 + 2, none⟩ (.int .i64 v.c)).setCell ⟨g, k * 6 + 3, none⟩ (.int .i64 v.d)).setCell ⟨g, k * 6 + 4, none⟩ (.int .i64 v.e)).setCell ⟨g, k * 6 + 5, none⟩ (.int .i64 v.f)) g (l.set k v) := by
  have := (((((Blk.set_ h (k * 6) (.int .i64 v.a)).set_ (k * 6 + 1) (.int .i64 v.b)).set_ (k * 6 + 2) (.int .i64 v.c)).set_ (k * 6 + 3) (.int .i64 v.d)).set_ (k * 6 + 4) (.int .i64 v.e)).set_ (k * 6 + 5) (.int .i64 v.f)
  simp only [List.setIfInBounds_toArray] at this
  rw [rset l k v hk] at this
  exact this
theorem made_zero (N : Nat) (z : Array Value) (hz : ∀ i, i < z.size → z[i]! = .int .i64 0) (hs : 0 < z.size) : madeCells z N = (List.replicate N (Value.int .i64 0)).toArray := by
  refine Array.ext (by simp [size_madeCells]) fun i h1 h2 => ?_
  simp [madeCells]
  exact hz _ (Nat.mod_lt _ hs)
theorem rcells_zero (n : Nat) : rcells Vc.cs (List.replicate n zeroV) = List.replicate (n * 6) (Value.int .i64 0) := by
  induction n with
  | zero => rfl
  | succ n ih =>
    have e : rcells Vc.cs (List.replicate (n + 1) zeroV) = zeroV.cs ++ rcells Vc.cs (List.replicate n zeroV) := rfl
    rw [e, ih, show (n + 1) * 6 = 6 + n * 6 by omega, ← List.replicate_append_replicate]
    rfl
theorem make_vecs (n : Nat) (hn : n ≤ 6) (w : World) : (Instr.makeSlice 38 (.int .i64 (n : Int)) (.int .i64 (n : Int))).run Tryd.prog w = .ok (.slice (some ⟨w.heap.size, 0, none⟩) n n) (w.alloc (.cells (rcells Vc.cs (List.replicate n zeroV)).toArray 25)) := by
  obtain ⟨i0, hi, hz0, hz1, hz2⟩ := info_parts vec_info
  have hr := run_make (P := Tryd.prog) w 38 25 i0 _ Tryd.underlying38 hi hz0 .i64 .i64 n n (by omega) (Int.le_refl _) (by rw [hz2]; omega) (by omega)
  simp only [Int.toNat_natCast, hz1] at hr
  rw [made_zero _ _ (fun i h => by
    have h6 : i < 6 := h
    rcases (show i = 0 ∨ i = 1 ∨ i = 2 ∨ i = 3 ∨ i = 4 ∨ i = 5 by omega) with rfl | rfl | rfl | rfl | rfl | rfl <;> rfl) (by simp [Value.cells])] at hr
  rw [hr, rcells_zero]
/-- Block g is a row of the integers l. -/
def IRow (w : World) (g : Nat) (l : List Int) : Prop := Blk w g 3 (icells l).toArray
theorem IRow.cell {w : World} {g : Nat} {l : List Int} (h : IRow w g l) (k : Nat) (hk : k < l.length) : w.cell? ⟨g, k, none⟩ = some (.int .i64 (l.getD k 0)) := by
  rw [Blk.cell h, List.getElem?_toArray, icells_at l k hk]
theorem IRow.frozen {w : World} {g : Nat} {l : List Int} (h : IRow w g l) (i : Nat) : w.frozen? ⟨g, i, none⟩ = false := Blk.frozen h i
theorem IRow.put {w : World} {g : Nat} {l : List Int} (h : IRow w g l) (k : Nat) (x : Int) : IRow (w.setCell ⟨g, k, none⟩ (.int .i64 x)) g (l.set k x) := by
  have := Blk.set_ h k (.int .i64 x)
  simp only [List.setIfInBounds_toArray] at this
  unfold IRow
  rw [show icells (l.set k x) = (icells l).set k (.int .i64 x) by simp [icells, List.map_set]]
  exact this
theorem IRow.rd {w : World} {g : Nat} {l : List Int} (h : IRow w g l) : RdI w w.heap.size (some ⟨g, 0, none⟩) l := by
  refine ⟨by rw [icells_length, Nat.mul_one], fun _ => ⟨_, rfl, Blk.lt h, fun j hj => ?_⟩⟩
  rw [show (⟨g, 0, none⟩ : Addr).add j = ⟨g, j, none⟩ from by unfold Addr.add; split <;> simp_all, Blk.cell h, List.getElem?_toArray]
theorem make_ints (n : Nat) (hn : n ≤ 1000) (w : World) : (Instr.makeSlice 23 (.int .i64 (n : Int)) (.int .i64 (n : Int))).run Tryd.prog w = .ok (.slice (some ⟨w.heap.size, 0, none⟩) n n) (w.alloc (.cells (icells (List.replicate n 0)).toArray 3)) := by
  have := run_make_row' (P := Tryd.prog) 23 3 (.int .i64 0) 8 Tryd.underlying23 int_info rfl .i64 .i64 n (by omega) (by omega) w
  rw [made_zero _ _ (fun i h => by
    obtain rfl : i = 0 := by have : i < 1 := h; omega
    rfl) (by simp)] at this
  rw [this]
  simp [icells]

/-- Masks of lists of columns. -/
theorem mask_bools : ∀ b0 b1 b2 b3 b4 b5 : Bool, ∃ m : Fin 64, m.val.testBit 0 = b0 ∧ m.val.testBit 1 = b1 ∧ m.val.testBit 2 = b2 ∧ m.val.testBit 3 = b3 ∧ m.val.testBit 4 = b4 ∧ m.val.testBit 5 = b5 := by
  intro b0 b1 b2 b3 b4 b5
  have h0 := Bool.toNat_le b0; have h1 := Bool.toNat_le b1; have h2 := Bool.toNat_le b2; have h3 := Bool.toNat_le b3; have h4 := Bool.toNat_le b4; have h5 := Bool.toNat_le b5
  refine ⟨⟨b0.toNat + 2 * b1.toNat + 4 * b2.toNat + 8 * b3.toNat + 16 * b4.toNat + 32 * b5.toNat, by omega⟩, ?_⟩
  simp only []
  clear h0 h1 h2 h3 h4 h5
  revert b0 b1 b2 b3 b4 b5
  decide +kernel
theorem cols_range (m : Nat) : cols m = (List.range 6).filter fun c => m.testBit c := by
  unfold cols colsFrom
  rw [List.range_eq_range']
theorem mask_of {T : List Nat} (hn : T.Nodup) (hT : ∀ c ∈ T, c < 6) : ∃ m, m < 64 ∧ (cols m).Perm T := by
  obtain ⟨m, h0, h1, h2, h3, h4, h5⟩ := mask_bools (decide (0 ∈ T)) (decide (1 ∈ T)) (decide (2 ∈ T)) (decide (3 ∈ T)) (decide (4 ∈ T)) (decide (5 ∈ T))
  refine ⟨m.val, m.isLt, ?_⟩
  have hb : ∀ c, c < 6 → m.val.testBit c = decide (c ∈ T) := fun c hc => by
    rcases (show c = 0 ∨ c = 1 ∨ c = 2 ∨ c = 3 ∨ c = 4 ∨ c = 5 by omega) with rfl | rfl | rfl | rfl | rfl | rfl <;> assumption
  rw [cols_range]
  refine (List.perm_ext_iff_of_nodup (List.nodup_range.filter _) hn).2 fun c => ?_
  rw [List.mem_filter, List.mem_range]
  constructor
  · rintro ⟨h, hc⟩
    rw [hb c h] at hc
    exact of_decide_eq_true hc
  · intro hc
    exact ⟨hT c hc, by rw [hb c (hT c hc)]; exact decide_eq_true hc⟩
/-- The first mask whose minor is not 0. -/
structure First (rs : List (Nat → Int)) (m0 : Nat) : Prop where
  lt : m0 < 64
  len : (cols m0).length = rs.length
  ne : Dt rs (cols m0) ≠ 0
  least : ∀ m, m < m0 → (cols m).length = rs.length → Dt rs (cols m) = 0
theorem first_of {rs : List (Nat → Int)} (h : Indep 6 rs) : ∃ m0, First rs m0 := by
  obtain ⟨T, hT, hd⟩ := h
  have hn : T.Nodup := Classical.byContradiction fun hn => hd ((Alt.Dt rs).twice hn)
  obtain ⟨m, hm, hp⟩ := mask_of hn hT
  have hd2 : Dt rs (cols m) ≠ 0 := fun e => hd (((Alt.Dt rs).perm hp).1 e)
  have : ∀ n m, m ≤ n → m < 64 → Dt rs (cols m) ≠ 0 → ∃ m0, First rs m0 := by
    intro n
    induction n with
    | zero =>
      intro m h1 h2 h3
      exact ⟨m, h2, (Dt_len h3).symm, h3, fun k hk => by omega⟩
    | succ n ih =>
      intro m h1 h2 h3
      by_cases hx : ∃ k, k < m ∧ (cols k).length = rs.length ∧ Dt rs (cols k) ≠ 0
      · obtain ⟨k, hk, _, hk3⟩ := hx
        exact ih k (by omega) (by omega) hk3
      · exact ⟨m, h2, (Dt_len h3).symm, h3, fun k hk hl => Classical.byContradiction fun he => hx ⟨k, hk, hl, he⟩⟩
  exact this m m (Nat.le_refl _) hm hd2

/-- The account whose interval is v. -/
def MakesV (l : List Cm) (cs : List Int) (v : Vc) : Prop := cs.length = l.length ∧ ∀ j, comb cs (l.map fun x => x.v.at) j = v.at j
structure Counted (l : List Cm) (v : Vc) (lst : List Int) (k : Int) : Prop where
  ok : k = 0 ↔ (ValidL l ∧ v.ok = true ∧ ∃ cs, MakesV l cs v ∧ inRange cs = true)
  arg : k = 1 ↔ ¬ (ValidL l ∧ v.ok = true)
  range : k = 3 ↔ (ValidL l ∧ v.ok = true ∧ ∃ cs, MakesV l cs v ∧ inRange cs = false)
  none : k = 4 ↔ (ValidL l ∧ v.ok = true ∧ ¬ ∃ cs, MakesV l cs v)
  list : (k = 0 → MakesV l lst v ∧ inRange lst = true) ∧ (k ≠ 0 → lst = [])
theorem makes_inj {l : List Cm} (h : ValidL l) {cs ds : List Int} {v : Vc} (h1 : MakesV l cs v) (h2 : MakesV l ds v) : cs = ds :=
  comb_inj h.ind (by simpa using h1.1) (by simpa using h2.1) (fun j => by rw [h1.2, h2.2])

end Go.Proofs.YtipaapplingbnaaDoor
