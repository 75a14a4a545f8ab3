/- Walks: the examples of the chapter. -/
import Derived.Test.YtipaapplingbnaaDoorHb
import Derived.Test.YtipaapplingbnaaDoorHa
import Derived.Test.YtipaapplingbnaaDoorSd
namespace Go.Proofs.YtipaapplingbnaaDoor
open Go.RowKit Go.Deep

abbrev C0 : Array Value := #[str syn0, .int .i64 (-4), .int .i64 4, .int .i64 (-1), .int .i64 0, .int .i64 0, .int .i64 0, str sch0, .int .i64 (-15), .int .i64 8, .int .i64 1, .int .i64 0, .int .i64 0, .int .i64 0]
theorem rd0 (w : World) (t : TypeId) : RdN (w.alloc (.cells C0 t)) (w.alloc (.cells C0 t)).heap.size (some ⟨w.heap.size, 0, none⟩) L0 := by
  rw [World.size_alloc]
  exact shows_new w C0 t 2 7 rfl
theorem names0 : ∀ x ∈ L0, x.nm.length ≤ 9223372036854775807 := by decide
theorem ints0 (w : World) (t : TypeId) (a b : Int) : RdI (w.alloc (.cells #[.int .i64 a, .int .i64 b] t)) (w.alloc (.cells #[.int .i64 a, .int .i64 b] t)).heap.size (some ⟨w.heap.size, 0, none⟩) [a, b] := by
  rw [World.size_alloc]
  exact shows_new w #[.int .i64 a, .int .i64 b] t 2 1 rfl
theorem ints1 (w : World) (o : Obj) (t : TypeId) (a b : Int) : RdI ((w.alloc o).alloc (.cells #[.int .i64 a, .int .i64 b] t)) ((w.alloc o).alloc (.cells #[.int .i64 a, .int .i64 b] t)).heap.size (some ⟨w.heap.size + 1, 0, none⟩) [a, b] := by
  have h := ints0 (w.alloc o) t a b
  rw [show (w.alloc o).heap.size = w.heap.size + 1 from World.size_alloc _ _] at h
  exact h
theorem takes0 (w : World) (t : TypeId) : RdT (w.alloc (.cells #[.int .i64 1, .int .i64 0, .int .i64 1, .int .i64 0, .int .i64 2, .int .i64 1, .int .i64 (-1), .int .i64 0] t)) (w.alloc (.cells #[.int .i64 1, .int .i64 0, .int .i64 1, .int .i64 0, .int .i64 2, .int .i64 1, .int .i64 (-1), .int .i64 0] t)).heap.size (some ⟨w.heap.size, 0, none⟩) T0 := by
  rw [World.size_alloc]
  exact shows_new w #[.int .i64 1, .int .i64 0, .int .i64 1, .int .i64 0, .int .i64 2, .int .i64 1, .int .i64 (-1), .int .i64 0] t 2 4 rfl
abbrev V0 : Array Value := #[.int .i64 0, .int .i64 0, .int .i64 0, .int .i64 0, .int .i64 0, .int .i64 0, .int .i64 (-4), .int .i64 4, .int .i64 (-1), .int .i64 0, .int .i64 0, .int .i64 0, .int .i64 11, .int .i64 (-4), .int .i64 (-2), .int .i64 0, .int .i64 0, .int .i64 0]
theorem vecs0 (w : World) (t : TypeId) : RdV (w.alloc (.cells V0 t)) (w.alloc (.cells V0 t)).heap.size (some ⟨w.heap.size, 0, none⟩) [⟨0, 0, 0, 0, 0, 0⟩, ⟨-4, 4, -1, 0, 0, 0⟩, ⟨11, -4, -2, 0, 0, 0⟩] := by
  rw [World.size_alloc]
  exact shows_new w V0 t 3 6 rfl
theorem cnt_ends0 {w : World} {v : Vc} {l : List Int} {k : Int} {e : Ending} {w' : World} (h : CntEnds w L0 v e w') (hk : cntK L0 v = k ∧ cntV L0 v = l) : Below w.heap.size w w' ∧ ∃ A c, e = .returned (.tuple #[.slice A l.length c, .int .i64 k]) ∧ RdI w' w'.heap.size A l := by
  unfold CntEnds at h
  rw [hk.1, hk.2] at h
  obtain ⟨hb, A, c, h1, h2, -⟩ := h
  exact ⟨hb, A, c, h1, h2⟩

theorem up_al {w W : World} {A : Option Addr} {l : List Int} (h : RdI w w.heap.size A l) (hb : Below w.heap.size w W) : RdI W W.heap.size A l := h.up hb
set_option maxRecDepth 100000 in
set_option maxHeartbeats 8000000 in
theorem head_any (w : World) (hT : Tab w) (hE : Errs w) : Calls Tryd.prog 8 #[] w fun e w' => e = .returned (.bool true) ∧ Below w.heap.size w w' := by
  have hn : L0.length ≤ 9223372036854775807 := by decide
  obtain ⟨wA, hA⟩ : ∃ wA, wA = w.alloc (.cells C0 50) := ⟨_, rfl⟩
  have hw : Below w.heap.size w wA := by rw [hA]; exact (Below.refl w.heap.size w).alloc (Nat.le_refl _) _
  have hL : RdN wA wA.heap.size (some ⟨w.heap.size, 0, none⟩) L0 := by rw [hA]; exact rd0 w _
  have hTA := hT.below hw
  have hEA := hE.below hw
  have HC1 := Lib.hid fun W (hb : Below wA.heap.size wA W) => (counts_any W _ 2 L0 ⟨-19, 12, 0, 0, 0, 0⟩ (hL.up hb) names0 hn).mono fun e w' h => cnt_ends0 h cnt1
  have HC2 := Lib.hid fun W (hb : Below wA.heap.size wA W) => (counts_any W _ 2 L0 ⟨7, 0, -3, 0, 0, 0⟩ (hL.up hb) names0 hn).mono fun e w' h => cnt_ends0 h cnt2
  have HC3 := Lib.hid fun W (hb : Below wA.heap.size wA W) => (counts_any W _ 2 L0 ⟨1, 0, 0, 0, 0, 0⟩ (hL.up hb) names0 hn).mono fun e w' h => cnt_ends0 h cnt3
  have HTX : Hid (∀ W, Below wA.heap.size wA W → ∀ Ac, RdI W W.heap.size Ac [2, -1] → Calls Tryd.prog 15 #[.slice (some ⟨w.heap.size, 0, none⟩) 2 2, .slice Ac 2 2] W fun e w' => e = .returned (.tuple #[str S0, .int .i64 0]) ∧ Below W.heap.size W w') := fun W hb Ac hr => by
    have := text_any W _ Ac 2 2 L0 [2, -1] (hL.up hb) names0 hn hr (by decide) (hTA.below hb)
    rw [textV0.1, textV0.2] at this
    exact this
  have HPA : Hid (∀ W, Below wA.heap.size wA W → Calls Tryd.prog 16 #[.slice (some ⟨w.heap.size, 0, none⟩) 2 2, str S0] W fun e w' => Below W.heap.size W w' ∧ ∃ A c, e = .returned (.tuple #[.slice A 2 c, .int .i64 0]) ∧ RdI w' w'.heap.size A [2, -1]) := fun W hb => by
    have := parse_any W _ 2 L0 S0 (hL.up hb) names0 hn (by decide) (hTA.below hb) (hEA.below hb)
    unfold ParseEnds at this
    rw [parse0.1, parse0.2] at this
    exact this
  have HWK : Hid (∀ W, Below wA.heap.size wA W → ∀ At, RdT W W.heap.size At T0 → Calls Tryd.prog 13 #[.slice (some ⟨w.heap.size, 0, none⟩) 2 2, .slice At 2 2] W fun e w' => Below W.heap.size W w' ∧ ∃ A c, e = .returned (.tuple #[.slice A 3 c, .int .i64 0]) ∧ RdV w' w'.heap.size A [⟨0, 0, 0, 0, 0, 0⟩, ⟨-4, 4, -1, 0, 0, 0⟩, ⟨11, -4, -2, 0, 0, 0⟩]) := fun W hb At hr => by
    have := walk_any W _ At 2 2 L0 T0 (hL.up hb) names0 hn hr (by decide)
    unfold WalkEnds at this
    rw [walk0.1, walk0.2] at this
    exact this
  have HFI : Hid (∀ W, Below wA.heap.size wA W → Calls Tryd.prog 17 #[.slice (some ⟨w.heap.size, 0, none⟩) 2 2, str sch0] W fun e w' => e = .returned (.tuple #[.int .i64 1, .int .i64 0]) ∧ Below W.heap.size W w') := fun W hb => by
    have := find_any W _ 2 L0 sch0 (hL.up hb) names0 hn (by decide)
    rw [find0.1, find0.2] at this
    exact this
  have HSU : Hid (∀ W, Below wA.heap.size wA W → ∀ Ac, RdI W W.heap.size Ac [2, -1] → Calls Tryd.prog 9 #[.slice (some ⟨w.heap.size, 0, none⟩) 2 2, .slice Ac 2 2] W fun e w' => e = .returned (.tuple #[.agg #[.int .i64 7, .int .i64 0, .int .i64 (-3), .int .i64 0, .int .i64 0, .int .i64 0], .int .i64 0]) ∧ Below W.heap.size W w') := fun W hb Ac hr => by
    have := sum_any W _ Ac 2 2 L0 [2, -1] (hL.up hb) names0 hn hr (by decide)
    rw [sum0.1, sum0.2] at this
    exact this
  have HIN := Lib.hid fun W A B c d x y (h1 : RdI W W.heap.size A [x, y]) (h2 : RdI W W.heap.size B [x, y]) => (ints_any W A B c d [x, y] [x, y] h1 h2 (by simp)).mono fun e w' h => (show e = .returned (.bool true) ∧ Below W.heap.size W w' from by rw [decide_eq_true rfl] at h; exact h)
  have HSA := Lib.hid fun W A B c d (l : List Vc) (hl : l.length ≤ 100) (h1 : RdV W W.heap.size A l) (h2 : RdV W W.heap.size B l) => (same_any W A B c d l l h1 h2 (by omega)).mono fun e w' h => (show e = .returned (.bool true) ∧ Below W.heap.size W w' from by rw [decide_eq_true rfl] at h; exact h)
  have HA := Lib.hid hA
  have HW := Lib.hid hw
  have tok1 := Lib.hid trivial
  have hS : (S0 == [115, 121, 110, 116, 111, 110, 105, 99, 42, 50, 32, 115, 99, 104, 105, 115, 109, 97, 42, 45, 49]) = true := by decide
  have heq : ∀ W, (binOp .eql 25 (.agg #[.int .i64 7, .int .i64 0, .int .i64 (-3), .int .i64 0, .int .i64 0, .int .i64 0]) (.agg #[.int .i64 7, .int .i64 0, .int .i64 (-3), .int .i64 0, .int .i64 0, .int .i64 0])).run Tryd.prog W = .ok (.bool true) W := fun W => (eql_vec ⟨7, 0, -3, 0, 0, 0⟩ ⟨7, 0, -3, 0, 0, 0⟩ W).trans (by rw [decide_eq_true rfl])
  clear hT hE hL hTA hEA hA hw hn
  go_enter Tryd.func8, Tryd.ntmps8
  go_wp2_with (first
    | (have _t := tok1; go_at_call 10; refine (HC1.out _ (by rw [HA.out]; exact Below.refl _ _)).mono ?_; rintro e w2 ⟨b, A1, c1, rfl, r1⟩; have h2 : Below wA.heap.size wA w2 := (by rw [HA.out] at *; exact b); replace h2 := Lib.hid h2; replace r1 := Lib.hid r1; clear b; have tok2 := Lib.hid trivial; clear tok1)
    | (have _t := tok2; go_at_call 10; refine (HC2.out _ h2.out).mono ?_; rintro e w3 ⟨b, A2, c2, rfl, r2⟩; have h3 := Lib.hid (below_on h2.out b); replace r1 := Lib.hid (up_al r1.out b); replace r2 := Lib.hid r2; clear b; have tok3 := Lib.hid trivial; clear tok2)
    | (have _t := tok3; go_at_call 10; refine (HC3.out _ h3.out).mono ?_; rintro e w4 ⟨b, A3, c3, rfl, -⟩; have h4 := Lib.hid (below_on h3.out b); replace r1 := Lib.hid (up_al r1.out b); replace r2 := Lib.hid (up_al r2.out b); clear b tok3)
    | (go_at_call 15; refine (HTX.out _ (below_al h4.out _) _ (ints0 w4 _ 2 (-1))).mono ?_; rintro e w5 ⟨rfl, b'⟩; have b := below_on ((Below.refl w4.heap.size w4).alloc (Nat.le_refl _) _) b'; have h5 := Lib.hid (below_on h4.out b); replace r1 := Lib.hid (up_al r1.out b); replace r2 := Lib.hid (up_al r2.out b); clear b b')
    | (go_at_call 16; refine (HPA.out _ h5.out).mono ?_; rintro e w6 ⟨b, A3, c3, rfl, r3⟩; have h6 := Lib.hid (below_on h5.out b); replace r1 := Lib.hid (up_al r1.out b); replace r2 := Lib.hid (up_al r2.out b); replace r3 := Lib.hid r3; clear b)
    | (go_at_call 13; refine (HWK.out _ (below_al h6.out _) _ (takes0 w6 _)).mono ?_; rintro e w7 ⟨b', A4, c4, rfl, r4⟩; have b := below_on ((Below.refl w6.heap.size w6).alloc (Nat.le_refl _) _) b'; have h7 := Lib.hid (below_on h6.out b); replace r1 := Lib.hid (up_al r1.out b); replace r2 := Lib.hid (up_al r2.out b); replace r3 := Lib.hid (up_al r3.out b); replace r4 := Lib.hid r4; clear b b')
    | (go_at_call 17; refine (HFI.out _ h7.out).mono ?_; rintro e w8 ⟨rfl, b⟩; have h8 := Lib.hid (below_on h7.out b); replace r1 := Lib.hid (up_al r1.out b); replace r2 := Lib.hid (up_al r2.out b); replace r3 := Lib.hid (up_al r3.out b); replace r4 := Lib.hid (r4.out.up b); clear b)
    | (go_at_call 9; refine (HSU.out _ (below_al h8.out _) _ (ints0 w8 _ 2 (-1))).mono ?_; rintro e w9 ⟨rfl, b'⟩; have b := below_on ((Below.refl w8.heap.size w8).alloc (Nat.le_refl _) _) b'; have h9 := Lib.hid (below_on h8.out b); replace r1 := Lib.hid (up_al r1.out b); replace r2 := Lib.hid (up_al r2.out b); replace r3 := Lib.hid (up_al r3.out b); replace r4 := Lib.hid (r4.out.up b); have tok4 := Lib.hid trivial; clear b b')
    | (have _t := tok4; go_at_call 11; have b1 := below_al (below_al (Below.refl w9.heap.size w9) (.cells #[.int .i64 7, .int .i64 0, .int .i64 (-3), .int .i64 0, .int .i64 0, .int .i64 0] 25)) (.cells #[.int .i64 1, .int .i64 1] 3); refine (HIN.out _ _ _ c1 2 1 1 (up_al r1.out b1) (ints1 _ _ _ 1 1)).mono ?_; rintro e w10 ⟨rfl, b'⟩; have b := below_on b1 b'; have h10 := Lib.hid (below_on h9.out b); have kv := Lib.hid (Blk.below ((Blk.new w9 25 #[.int .i64 7, .int .i64 0, .int .i64 (-3), .int .i64 0, .int .i64 0, .int .i64 0]).alloc (.cells #[.int .i64 1, .int .i64 1] 3)) b' ((Blk.new w9 25 #[.int .i64 7, .int .i64 0, .int .i64 (-3), .int .i64 0, .int .i64 0, .int .i64 0]).alloc (.cells #[.int .i64 1, .int .i64 1] 3)).lt); replace r2 := Lib.hid (up_al r2.out b); replace r3 := Lib.hid (up_al r3.out b); replace r4 := Lib.hid (r4.out.up b); have tok5 := Lib.hid trivial; clear b b' b1 tok4)
    | (have _t := tok5; go_at_call 11; have b1 := below_al (Below.refl w10.heap.size w10) (.cells #[.int .i64 2, .int .i64 (-1)] 3); refine (HIN.out _ _ _ c2 2 2 (-1) (up_al r2.out b1) (ints0 _ _ 2 (-1))).mono ?_; rintro e w11 ⟨rfl, b'⟩; have b := below_on b1 b'; have h11 := Lib.hid (below_on h10.out b); replace kv := Lib.hid (kv.out.below b kv.out.lt); replace r3 := Lib.hid (up_al r3.out b); replace r4 := Lib.hid (r4.out.up b); have tok6 := Lib.hid trivial; clear b b' b1 tok5)
    | (have _t := tok6; go_at_call 11; have b1 := below_al (Below.refl w11.heap.size w11) (.cells #[.int .i64 2, .int .i64 (-1)] 3); refine (HIN.out _ _ _ c3 2 2 (-1) (up_al r3.out b1) (ints0 _ _ 2 (-1))).mono ?_; rintro e w12 ⟨rfl, b'⟩; have b := below_on b1 b'; have h12 := Lib.hid (below_on h11.out b); replace kv := Lib.hid (kv.out.below b kv.out.lt); replace r4 := Lib.hid (r4.out.up b); clear b b' b1 tok6)
    | (go_at_call 14; have b1 := below_al (Below.refl w12.heap.size w12) (.cells V0 25); refine (HSA.out _ _ _ c4 3 _ (by decide) (r4.out.up b1) (vecs0 _ _)).mono ?_; rintro e w13 ⟨rfl, b'⟩; have b := below_on b1 b'; have h13 := Lib.hid (below_on h12.out b); replace kv := Lib.hid (kv.out.below b kv.out.lt); have v0 := kv.out.cell 0; have v1 := kv.out.cell 1; have v2 := kv.out.cell 2; have v3 := kv.out.cell 3; have v4 := kv.out.cell 4; have v5 := kv.out.cell 5; simp at v0 v1 v2 v3 v4 v5; clear b b' b1))
  go_ret
  exact ⟨rfl, HW.out.trans (h13.out.mono HW.out.size)⟩

end Go.Proofs.YtipaapplingbnaaDoor
