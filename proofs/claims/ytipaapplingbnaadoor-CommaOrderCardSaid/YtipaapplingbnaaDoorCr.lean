/- Walks: comma.determinant. -/
import Derived.Test.YtipaapplingbnaaDoorCq
namespace Go.Proofs.YtipaapplingbnaaDoor
open Go.RowKit Go.Deep

/-- What the closure has captured: the rows and itself. -/
structure EnvD (w : World) (B gr ge : Nat) (Ar : Option Addr) (cr : Nat) (rows : List Vc) : Prop where
  hr : w.cell? ⟨gr, 0, none⟩ = some (.slice Ar rows.length cr)
  he : w.cell? ⟨ge, 0, none⟩ = some (.func (.func 33) #[] #[.pointer (some ⟨gr, 0, none⟩), .pointer (some ⟨ge, 0, none⟩)])
  rr : RdV w B Ar rows
  br : gr < B
  be : ge < B
theorem EnvD.on {w w' : World} {B C gr ge : Nat} {Ar : Option Addr} {cr : Nat} {rows : List Vc} (h : EnvD w B gr ge Ar cr rows) (hb : Below C w w') (hC : B ≤ C) : EnvD w' B gr ge Ar cr rows :=
  ⟨(hb.cell (p := ⟨gr, 0, none⟩) (by have := h.br; simp; omega)).trans h.hr, (hb.cell (p := ⟨ge, 0, none⟩) (by have := h.be; simp; omega)).trans h.he, h.rr.same fun p hp => hb.cell (by omega), h.br, h.be⟩
/-- The rows from i on. -/
def rowsD (rows : List Vc) (i : Nat) : List (Nat → Int) := (rows.drop i).map Vc.at
theorem rowsD_cons (rows : List Vc) (i : Nat) (h : i < rows.length) : rowsD rows i = rows[i].at :: rowsD rows (i + 1) := by
  unfold rowsD
  rw [List.drop_eq_getElem_cons h]
  rfl
theorem det_bound {rows : List Vc} (hok : ∀ v ∈ rows, v.ok = true) (i : Nat) (cs : List Nat) (hc : ∀ c ∈ cs, c < 6) (hl : cs.length ≤ 6) : (Dt (rowsD rows i) cs).natAbs ≤ 288 ^ (rows.length - i) := by
  have := Dt_bound 48 6 (rowsD rows i) cs hl (fun r hr c hcs => by
    obtain ⟨v, hv, rfl⟩ := List.mem_map.1 hr
    exact (Vc.ok_iff v).1 (hok v (List.mem_of_mem_drop hv)) c (hc c hcs))
  rwa [show (rowsD rows i).length = rows.length - i by simp [rowsD]] at this
structure DetAt (rows : List Vc) (i m j : Nat) (v : Int) (r : Nat → Int) : Prop where
  part : Part r (Dt (rowsD rows (i + 1))) 48 (288 ^ (rows.length - (i + 1))) (colsTo m j) (colsFrom m j) v
def DetRel (w : World) (rows : List Vc) (i m : Nat) (r : Nat → Int) (s sn x : Value) (wx : World) : Prop :=
  ∃ (j : Nat) (v : Int), j ≤ 6 ∧ x = .int .i64 j ∧ s = .int .i64 v ∧ sn = .int .i64 (sg (colsTo m j).length) ∧ Below w.heap.size w wx ∧ Hid (DetAt rows i m j v r)
theorem det_step {rows : List Vc} {i m j : Nat} {v : Int} {r : Nat → Int} (hok : ∀ v ∈ rows, v.ok = true) (h6 : rows.length ≤ 6) (hi : i < rows.length) (hm : m < 64) (hj : j < 6) (hr : (r j).natAbs ≤ 48) (hb : m.testBit j = true) (h : DetAt rows i m j v r) :
    DetAt rows i m (j + 1) (v + sg (colsTo m j).length * r j * Dt (rowsD rows (i + 1)) (cols (m - 2 ^ j))) r ∧ v.natAbs ≤ 600000000000000 ∧ (Dt (rowsD rows (i + 1)) (cols (m - 2 ^ j))).natAbs ≤ 1981355655168 ∧ sg (colsTo m (j + 1)).length = - sg (colsTo m j).length ∧ (cols (m - 2 ^ j)).length + 1 = (cols m).length := by
  obtain ⟨f1, f2, f3, f4, -, -⟩ := (cols_facts ⟨m, hm⟩ ⟨j, hj⟩).1 hb
  simp only at f1 f2 f3 f4
  obtain ⟨-, -, -, -, e1, e2⟩ := cols_ends ⟨m - 2 ^ j, f4⟩
  simp only at e1 e2
  have hb2 := det_bound hok (i + 1) (cols (m - 2 ^ j)) e1 e2
  have h5 : 288 ^ (rows.length - (i + 1)) ≤ 1981355655168 := pow288 (by omega)
  have hp := h.part
  rw [f1] at hp
  have hn := hp.next hr (by rw [← f3]; exact hb2)
  have hs := h.part.small
  have hl : (colsTo m j).length ≤ 6 := by
    have := List.length_filter_le (fun c => m.testBit c) (List.range j)
    rw [List.length_range] at this
    unfold colsTo
    omega
  refine ⟨⟨by rw [f2, f3]; exact hn⟩, ?_, by omega, by rw [f2, List.length_append, List.length_singleton, sg_succ], ?_⟩
  · have : 48 * (colsTo m j).length * 288 ^ (rows.length - (i + 1)) ≤ 288 * 1981355655168 := Nat.mul_le_mul (by omega) h5
    omega
  · obtain ⟨-, g2, g3, g4, -, -⟩ := cols_ends ⟨m, hm⟩
    have hspl : (colsTo m j).length + (colsFrom m j).length = (cols m).length := by
      have : colsTo m j ++ colsFrom m j = cols m := by
        have : ∀ m : Fin 64, ∀ j : Fin 6, colsTo m.val j.val ++ colsFrom m.val j.val = cols m.val := by decide +kernel
        exact this ⟨m, hm⟩ ⟨j, hj⟩
      rw [← this, List.length_append]
    rw [f3, List.length_append, ← hspl, f1, List.length_cons]
    omega

set_option maxRecDepth 100000 in
set_option maxHeartbeats 1000000 in
theorem expandD_end (w : World) (B gr ge : Nat) (Ar : Option Addr) (cr : Nat) (rows : List Vc) (m : Nat) (hE : EnvD w B gr ge Ar cr rows) (hav : (cols m).length = 0) :
    Calls Tryd.prog 33 #[.int .i64 (rows.length : Nat), .int .i64 m, .pointer (some ⟨gr, 0, none⟩), .pointer (some ⟨ge, 0, none⟩)] w
      fun e w' => e = .returned (.int .i64 (Dt (rowsD rows rows.length) (cols m))) ∧ Below w.heap.size w w' := by
  have h1 := hE.hr
  have hd : Dt (rowsD rows rows.length) (cols m) = 1 := by
    have : cols m = [] := List.eq_nil_of_length_eq_zero hav
    rw [this]
    unfold rowsD
    rw [List.drop_length]
    rfl
  rw [hd]
  clear hE hd hav
  go_enter Tryd.func33, Tryd.ntmps33
  go_wp2_with fail
  go_ret
  exact ⟨rfl, Below.refl _ _⟩

set_option maxRecDepth 100000 in
set_option maxHeartbeats 4000000 in
theorem expandD_any (n : Nat) : ∀ (w : World) (B gr ge : Nat) (Ar : Option Addr) (cr : Nat) (rows : List Vc) (i m : Nat), EnvD w B gr ge Ar cr rows → B ≤ w.heap.size → rows.length ≤ 6 → (∀ v ∈ rows, v.ok = true) → m < 64 → i ≤ rows.length → rows.length - i ≤ n → (cols m).length + i = rows.length →
    Calls Tryd.prog 33 #[.int .i64 i, .int .i64 m, .pointer (some ⟨gr, 0, none⟩), .pointer (some ⟨ge, 0, none⟩)] w
      fun e w' => e = .returned (.int .i64 (Dt (rowsD rows i) (cols m))) ∧ Below w.heap.size w w' := by
  induction n with
  | zero =>
    intro w B gr ge Ar cr rows i m hE hBw hr6 hok hm hi hn hav
    obtain rfl : i = rows.length := by omega
    exact expandD_end w B gr ge Ar cr rows m hE (by omega)
  | succ n ih =>
    intro w B gr ge Ar cr rows i m hE hBw hr6 hok hm hi hn hav
    by_cases hlt : i < rows.length
    · have h1 := hE.hr
      have hne : ((i : Int) == (rows.length : Int)) = false := by rw [beq_eq_false_iff_ne]; omega
      obtain ⟨ar, rfl, har, hca, -⟩ := hE.rr.at hlt
      obtain ⟨q0, q1, q2, q3, q4, q5⟩ := hca
      have hrok := hok _ (List.getElem_mem hlt)
      have HRD := Lib.hid (rowsD_cons rows i hlt)
      have HE := Lib.hid hE
      generalize rows[i] = r at *
      clear hE
      go_enter Tryd.func33, Tryd.ntmps33
      go_wp2_with fail
      go_loopw [7, 8, 19] (fun s sn x wx => DetRel w rows i m r.at s sn x wx) (fun _ _ x _ => 6 - (intOf x).toNat)
      case atStart =>
        obtain ⟨e1, e2, e3, -, -, -⟩ := cols_ends ⟨m, hm⟩
        simp only at e1 e3
        exact ⟨0, 0, by omega, rfl, rfl, by rw [e3]; rfl, Below.refl _ _, ⟨by rw [e3, ← e1]; exact Part.start _ _ _ _ _⟩⟩
      case round =>
        obtain ⟨j, v, hj, rfl, rfl, rfl, hB, HD⟩ := hrel
        by_cases hj6 : j < 6
        · have hix := index_vec r j hj6
          have hx48 := (Vc.ok_iff r).1 hrok j hj6
          rcases hbt : m.testBit j with _ | _
          · obtain ⟨f1, f2, f3⟩ := (cols_facts ⟨m, hm⟩ ⟨j, hj6⟩).2 hbt
            simp only at f1 f2 f3
            have HN : Hid (DetAt rows i m (j + 1) v r.at) := ⟨by rw [f2, ← f1]; exact HD.out.part⟩
            have HS := Lib.hid (show (colsTo m (j + 1)).length = (colsTo m j).length by rw [f2])
            clear f1 f2 hbt
            generalize r.at j = x at *
            go_wp2_with fail
            go_roundw
            case rel => exact ⟨j + 1, v, by omega, by go_num, rfl, by rw [HS.out], hB, HN⟩
            case measure => simp [intOf]; omega
          · obtain ⟨s1, s2, s3, s4, s5⟩ := det_step hok hr6 hlt hm hj6 hx48 hbt HD.out
            obtain ⟨-, -, -, f4, f5, f6⟩ := (cols_facts ⟨m, hm⟩ ⟨j, hj6⟩).1 hbt
            simp only at f4 f5 f6
            have hs0 := sg_cases (colsTo m j).length
            replace s4 := Lib.hid s4
            generalize hS : sg (colsTo m j).length = S at *
            generalize hX : r.at j = X at *
            by_cases hX0 : X = 0
            · subst hX0
              rw [Int.mul_zero, Int.zero_mul, Int.add_zero] at s1
              have HN : Hid (DetAt rows i m (j + 1) v r.at) := s1
              clear s1 s2 s3 s5 HD hS hX f4 f6 hbt
              go_wp2_with fail
              go_roundw
              case rel => exact ⟨j + 1, v, by omega, by go_num, rfl, by rw [s4.out], hB, HN⟩
              case measure => simp [intOf]; omega
            · have hsz := hB.size
              have HEW := Lib.hid (HE.out.on hB hBw)
              have HIH := Lib.hid (ih wr.drew B gr ge (some ar) cr rows (i + 1) (m - 2 ^ j) ⟨HEW.out.hr, HEW.out.he, HEW.out.rr, HEW.out.br, HEW.out.be⟩ (by simpa using Nat.le_trans hBw hsz) hr6 hok f4 (by omega) (by omega) (by omega))
              have q10 := HEW.out.he
              generalize hD : Dt (rowsD rows (i + 1)) (cols (m - 2 ^ j)) = D at *
              clear hD
              have hX0' : (X != 0) = true := by rw [bne_iff_ne]; exact hX0
              have hSX : ∃ Y1, S * X = Y1 ∧ -48 ≤ Y1 ∧ Y1 ≤ 48 := ⟨_, rfl, by rcases hs0 with rfl | rfl <;> omega, by rcases hs0 with rfl | rfl <;> omega⟩
              obtain ⟨Y1, y1, y2, y3⟩ := hSX
              rw [y1] at s1
              have hYD : ∃ Y2, Y1 * D = Y2 ∧ -95105071448064 ≤ Y2 ∧ Y2 ≤ 95105071448064 := by
                refine ⟨_, rfl, ?_⟩
                have h1 : (Y1 * D).natAbs ≤ 48 * 1981355655168 := by rw [Int.natAbs_mul]; exact Nat.mul_le_mul (by omega) s3
                omega
              obtain ⟨Y2, z1, z2, z3⟩ := hYD
              rw [z1] at s1
              have v1 : -600000000000000 ≤ v := by omega
              have v2 : v ≤ 600000000000000 := by omega
              have hs1 : -1 ≤ S := by omega
              have hs2 : S ≤ 1 := by omega
              have HN : Hid (DetAt rows i m (j + 1) (v + Y2) r.at) := s1
              have hpw : (1 : Int) * 2 ^ j = 2 ^ j := Int.one_mul _
              have hwr : ∀ t : Int, -9223372036854775808 ≤ t → t ≤ 9223372036854775807 → IntKind.i64.wrap t = t := fun t h1 h2 => IntWalk.i64_in t ⟨h1, h2⟩
              have wi := hwr ((i : Int) + 1) (by omega) (by omega)
              have w2' : IntKind.i64.wrap ((2 : Int) ^ j) = 2 ^ j := hwr _ (by rcases (show j = 0 ∨ j = 1 ∨ j = 2 ∨ j = 3 ∨ j = 4 ∨ j = 5 by omega) with rfl | rfl | rfl | rfl | rfl | rfl <;> decide) (by rcases (show j = 0 ∨ j = 1 ∨ j = 2 ∨ j = 3 ∨ j = 4 ∨ j = 5 by omega) with rfl | rfl | rfl | rfl | rfl | rfl <;> decide)
              have wy1 := hwr Y1 (by omega) (by omega)
              have wy2 := hwr Y2 (by omega) (by omega)
              have wv := hwr (v + Y2) (by omega) (by omega)
              clear s1 s2 s3 s5 HD hX0 hs0 hS ih hX hbt f4 hwr
              generalize m - 2 ^ j = m' at *
              go_wp2_with fail
              go_region_with (go_at_call 33; refine HIH.out.mono ?_; rintro e w2 ⟨rfl, b2⟩; replace b2 := Lib.hid b2)
              all_goals
                go_wp2_with fail
                go_roundw
                case rel => exact ⟨j + 1, v + Y2, by omega, by go_num, rfl, by rw [s4.out], below_on hB.drew b2.out, HN⟩
                case measure => simp [intOf]; omega
        · obtain rfl : j = 6 := by omega
          obtain ⟨-, g2, -, g4, -, -⟩ := cols_ends ⟨m, hm⟩
          simp only at g2 g4
          have hp := HD.out.part
          rw [g2, g4] at hp
          have hd : Dt (rowsD rows i) (cols m) = v := by rw [HRD.out, Dt_cons]; exact hp.done
          have HDD := Lib.hid hd
          clear hp hd
          go_wp2_with fail
          go_ret
          exact ⟨by rw [HDD.out]; rfl, hB⟩
    · obtain rfl : i = rows.length := by omega
      exact expandD_end w B gr ge Ar cr rows m hE (by omega)

end Go.Proofs.YtipaapplingbnaaDoor
