/- Texts of the Notation chapter, together: Hd. -/
import Derived.Test.YtcjhihmaegagdaaGreatDoorK4
import Derived.Test.YtcjhihmaegagdaaGreatDoorG9
import Derived.Test.YtcjhihmaegagdaaGreatDoorK1
import Derived.Test.YtcjhihmaegagdaaGreatDoorK2
set_option maxRecDepth 100000
set_option maxHeartbeats 8000000
set_option linter.unusedSimpArgs false
set_option linter.unusedVariables false
set_option linter.unusedSectionVars false
set_option linter.unnecessarySimpa false
namespace Go.Proofs.YtcjhihmaegagdaaGreatDoor
open Go.RowKit Go.Deep
theorem head_any (w : World) (hM : MaxL w) (hP : Primes w) (hT : Tab w) : Calls Tryz.prog 11 #[] w fun e w' => e = .returned (.bool true) ∧ Below w.heap.size w w' := by
 have HLX : Hid (∀ W, Calls Tryz.prog 12 #[str [97, 116, 32, 51, 47, 50, 59]] W fun e w' => Below W.heap.size W w' ∧ ∃ A c, e = .returned (.tuple #[.slice A 5 c, .int .i64 0, .int .i64 0]) ∧ RdT w' w'.heap.size A tokA) := hid fun W => by
  have h := lex_any W srcA (by decide)
  unfold LexEnds at h
  rw [lexA_a.1, lexA_a.2.1, lexA_a.2.2] at h
  exact h.mono fun e w' ⟨a, A, c, b, d, _⟩ => ⟨a, A, c, b, d⟩
 have HPA : Hid (∀ W, Below w.heap.size w W → ∀ (x : List UInt8), x.length ≤ 1000 → Calls Tryz.prog 15 #[str x] W fun e w' => Below W.heap.size W w' ∧ ∃ An cn Ap cp Aq cq, e = .returned (.tuple #[.agg #[.int .i64 (parseS x).voices, .slice An (parseS x).notes.length cn, .slice Ap (parseS x).pairs.length cp, .slice Aq (parseS x).cad.length cq], .int .i64 (parseP x : Nat), .int .i64 (parseE x : Nat)]) ∧ ScrV w' (.agg #[.int .i64 (parseS x).voices, .slice An (parseS x).notes.length cn, .slice Ap (parseS x).pairs.length cp, .slice Aq (parseS x).cad.length cq]) (parseS x)) := hid fun W hb x hx => by
  have h := parse_any W x (by omega) (hM.below hb) (hP.below hb)
  unfold PEnds at h
  refine h.mono fun e w' ⟨b, v, e1, e2⟩ => ⟨b, ?_⟩
  obtain ⟨An, cn, Ap, cp, Aq, cq, rfl, -⟩ := e2.ex
  exact ⟨An, cn, Ap, cp, Aq, cq, e1, e2⟩
 have HPB : Hid (∀ W, Below w.heap.size w W → Calls Tryz.prog 15 #[str srcB] W fun e w' => Below W.heap.size W w' ∧ ∃ An cn Ap cp Aq cq, e = .returned (.tuple #[.agg #[.int .i64 2, .slice An 2 cn, .slice Ap 1 cp, .slice Aq 0 cq], .int .i64 0, .int .i64 0]) ∧ ScrV w' (.agg #[.int .i64 2, .slice An 2 cn, .slice Ap 1 cp, .slice Aq 0 cq]) scrB) := hid fun W hb => by
  have h := HPA.out W hb srcB (by decide)
  rw [parse_b.1, parse_b.2.1, parse_b.2.2] at h
  exact h
 have HPX : Hid (∀ W, Below w.heap.size w W → ∀ (x : List UInt8) (p k : Nat), x.length ≤ 1000 → parseP x = p → parseE x = k → Calls Tryz.prog 15 #[str x] W fun e w' => Below W.heap.size W w' ∧ ∃ V An n cn Ap m cp Aq o cq, e = .returned (.tuple #[.agg #[.int .i64 V, .slice An n cn, .slice Ap m cp, .slice Aq o cq], .int .i64 (p : Nat), .int .i64 (k : Nat)])) := hid fun W hb x p k hx h1 h2 => by
  have h := HPA.out W hb x hx
  rw [h1, h2] at h
  exact h.mono fun e w' ⟨b, An, cn, Ap, cp, Aq, cq, e1, _⟩ => ⟨b, _, An, _, cn, Ap, _, cp, Aq, _, cq, e1⟩
 have HPR : Hid (∀ W v, Below w.heap.size w W → ScrV W v scrB → Calls Tryz.prog 18 #[v] W fun e w' => e = .returned (.tuple #[str outB, .int .i64 0]) ∧ Below W.heap.size W w') := hid fun W v hb hv => by
  have h := print_any W _ v scrB hv (hT.below hb)
  rw [print_b.1, print_b.2] at h
  exact h
 go_enter Tryz.func11, Tryz.ntmps11
 go_upto_region 4 with (go_at_call 12; refine (HLX.out _).mono ?_; rintro e w1 ⟨b1, A1, c1, rfl, r1⟩; replace b1 := hid b1; replace r1 := hid r1)
 obtain ⟨w2, hw2⟩ : ∃ w2, w2 = (w1.alloc (.cells #[.int .i64 1, .int .i64 0, .int .i64 0, .string ⟨#[97, 116]⟩, .int .i64 2, .int .i64 3, .int .i64 3, .string ⟨#[51]⟩, .int .i64 3, .int .i64 4, .int .i64 0, .string ⟨#[47]⟩, .int .i64 2, .int .i64 5, .int .i64 2, .string ⟨#[50]⟩, .int .i64 3, .int .i64 6, .int .i64 0, .string ⟨#[59]⟩] 40)).alloc (.cells #[.int .i64 (-2), .int .i64 0, .int .i64 1, .int .i64 0, .int .i64 0, .int .i64 0] 53) := ⟨_, rfl⟩
 rw [← hw2]
 have x12 : Below w1.heap.size w1 w2 := by rw [hw2]; exact ((Below.refl w1.heap.size w1).alloc (Nat.le_refl _) _).alloc (by simp) _
 have B2 := hid (below_on b1.out x12)
 have r1' := r1.out.up x12
 have ra : RdT w2 w2.heap.size (some ⟨w1.heap.size, 0, none⟩) tokA := by
  have h0 : RdT (w1.alloc (.cells #[.int .i64 1, .int .i64 0, .int .i64 0, .string ⟨#[97, 116]⟩, .int .i64 2, .int .i64 3, .int .i64 3, .string ⟨#[51]⟩, .int .i64 3, .int .i64 4, .int .i64 0, .string ⟨#[47]⟩, .int .i64 2, .int .i64 5, .int .i64 2, .string ⟨#[50]⟩, .int .i64 3, .int .i64 6, .int .i64 0, .string ⟨#[59]⟩] 40)) (w1.alloc (.cells #[.int .i64 1, .int .i64 0, .int .i64 0, .string ⟨#[97, 116]⟩, .int .i64 2, .int .i64 3, .int .i64 3, .string ⟨#[51]⟩, .int .i64 3, .int .i64 4, .int .i64 0, .string ⟨#[47]⟩, .int .i64 2, .int .i64 5, .int .i64 2, .string ⟨#[50]⟩, .int .i64 3, .int .i64 6, .int .i64 0, .string ⟨#[59]⟩] 40)).heap.size (some ⟨w1.heap.size, 0, none⟩) tokA := by
   rw [World.size_alloc]
   exact shows_new w1 #[.int .i64 1, .int .i64 0, .int .i64 0, .string ⟨#[97, 116]⟩, .int .i64 2, .int .i64 3, .int .i64 3, .string ⟨#[51]⟩, .int .i64 3, .int .i64 4, .int .i64 0, .string ⟨#[47]⟩, .int .i64 2, .int .i64 5, .int .i64 2, .string ⟨#[50]⟩, .int .i64 3, .int .i64 6, .int .i64 0, .string ⟨#[59]⟩] 40 5 4 rfl
  rw [hw2]
  exact h0.up ((Below.refl _ _).alloc (Nat.le_refl _) _)
 have vb : Blk w2 (w1.heap.size + 1) 53 #[.int .i64 (-2), .int .i64 0, .int .i64 1, .int .i64 0, .int .i64 0, .int .i64 0] := by
  have h0 := Blk.new (w1.alloc (.cells #[.int .i64 1, .int .i64 0, .int .i64 0, .string ⟨#[97, 116]⟩, .int .i64 2, .int .i64 3, .int .i64 3, .string ⟨#[51]⟩, .int .i64 3, .int .i64 4, .int .i64 0, .string ⟨#[47]⟩, .int .i64 2, .int .i64 5, .int .i64 2, .string ⟨#[50]⟩, .int .i64 3, .int .i64 6, .int .i64 0, .string ⟨#[59]⟩] 40)) 53 #[.int .i64 (-2), .int .i64 0, .int .i64 1, .int .i64 0, .int .i64 0, .int .i64 0]
  rw [World.size_alloc] at h0
  rw [hw2]
  exact h0
 have R1 := hid r1'
 have RA := hid ra
 have VB := hid vb
 generalize w1.heap.size = g1 at *
 clear hw2 x12 r1' ra vb r1 b1
 go_upto_region 5 with (go_at_call 15; refine (show Calls _ _ #[str srcB] _ _ from ?_); refine (HPB.out _ B2.out).mono ?_; rintro e w3 ⟨b3, An, cn, Ap, cp, Aq, cq, rfl, q3⟩; replace b3 := hid b3; replace q3 := hid q3)
 obtain ⟨w4, hw4⟩ : ∃ w4, w4 = w3.alloc (.cells #[.int .i64 2, .slice An 2 cn, .slice Ap 1 cp, .slice Aq 0 cq] 26) := ⟨_, rfl⟩
 rw [← hw4]
 have B34 : Hid (Below w3.heap.size w3 w4) := hid (by rw [hw4]; exact (Below.refl _ _).alloc (Nat.le_refl _) _)
 have S4 : Hid (Blk w4 w3.heap.size 26 #[.int .i64 2, .slice An 2 cn, .slice Ap 1 cp, .slice Aq 0 cq]) := hid (by rw [hw4]; exact Blk.new _ _ _)
 have B24 := hid (below_on b3.out B34.out)
 have B4 := hid (below_on B2.out B24.out)
 have R14 := hid (R1.out.up B24.out)
 have RA4 := hid (RA.out.up B24.out)
 have VB4 := hid (VB.out.below B24.out VB.out.lt)
 have Q4 := hid (ScrV.up q3.out B34.out)
 generalize w3.heap.size = g3 at *
 clear R1 RA VB q3 B34 B24 b3 B2 hw4
 go_upto_region 6 with (refine wpList_get rfl 53 (.tmp 5) rfl _ rfl 53 #[.int .i64 (-2), .int .i64 0, .int .i64 1, .int .i64 0, .int .i64 0, .int .i64 0] _ (by first | exact VB4.out | exact VB4.out.alloc _ | exact (VB4.out.alloc _).alloc _) Tryz.underlying53 rfl (by kernel_rfl) ?_; try simp only [Act.put, sS])
 have b45 : Hid (Below w4.heap.size w4 (((w4.alloc (.cells #[.int .i64 0, .int .i64 0, .int .i64 4, .int .i64 0, .int .i64 0, .int .i64 0, .int .i64 0, .int .i64 0, .int .i64 0, .bool false, .int .i64 1, .int .i64 0, .int .i64 4, .int .i64 (-2), .int .i64 0, .int .i64 1, .int .i64 0, .int .i64 0, .int .i64 0, .bool false] 55)).alloc (.cells #[.int .i64 0, .int .i64 1, .int .i64 (-2), .int .i64 0, .int .i64 1, .int .i64 0, .int .i64 0, .int .i64 0, .int .i64 0] 57)).alloc (.cells #[.int .i64 2, .slice (some ⟨w4.heap.size, 0, none⟩) 2 2, .slice (some ⟨w4.heap.size + 1, 0, none⟩) 1 1, .slice none 0 0] 26))) := hid ((((Below.refl _ _).alloc (Nat.le_refl _) _).alloc (by simp) _).alloc (by simp; omega) _)
 have t5 : Hid (ScrV (((w4.alloc (.cells #[.int .i64 0, .int .i64 0, .int .i64 4, .int .i64 0, .int .i64 0, .int .i64 0, .int .i64 0, .int .i64 0, .int .i64 0, .bool false, .int .i64 1, .int .i64 0, .int .i64 4, .int .i64 (-2), .int .i64 0, .int .i64 1, .int .i64 0, .int .i64 0, .int .i64 0, .bool false] 55)).alloc (.cells #[.int .i64 0, .int .i64 1, .int .i64 (-2), .int .i64 0, .int .i64 1, .int .i64 0, .int .i64 0, .int .i64 0, .int .i64 0] 57)).alloc (.cells #[.int .i64 2, .slice (some ⟨w4.heap.size, 0, none⟩) 2 2, .slice (some ⟨w4.heap.size + 1, 0, none⟩) 1 1, .slice none 0 0] 26)) (.agg #[.int .i64 2, .slice (some ⟨w4.heap.size, 0, none⟩) 2 2, .slice (some ⟨w4.heap.size + 1, 0, none⟩) 1 1, .slice none 0 0]) scrB) := hid (by
  have hn : RdN (w4.alloc (.cells #[.int .i64 0, .int .i64 0, .int .i64 4, .int .i64 0, .int .i64 0, .int .i64 0, .int .i64 0, .int .i64 0, .int .i64 0, .bool false, .int .i64 1, .int .i64 0, .int .i64 4, .int .i64 (-2), .int .i64 0, .int .i64 1, .int .i64 0, .int .i64 0, .int .i64 0, .bool false] 55)) (w4.alloc (.cells #[.int .i64 0, .int .i64 0, .int .i64 4, .int .i64 0, .int .i64 0, .int .i64 0, .int .i64 0, .int .i64 0, .int .i64 0, .bool false, .int .i64 1, .int .i64 0, .int .i64 4, .int .i64 (-2), .int .i64 0, .int .i64 1, .int .i64 0, .int .i64 0, .int .i64 0, .bool false] 55)).heap.size (some ⟨w4.heap.size, 0, none⟩) scrB.notes := by
   rw [World.size_alloc]
   exact shows_new w4 #[.int .i64 0, .int .i64 0, .int .i64 4, .int .i64 0, .int .i64 0, .int .i64 0, .int .i64 0, .int .i64 0, .int .i64 0, .bool false, .int .i64 1, .int .i64 0, .int .i64 4, .int .i64 (-2), .int .i64 0, .int .i64 1, .int .i64 0, .int .i64 0, .int .i64 0, .bool false] 55 2 10 rfl
  have hp : RdP ((w4.alloc (.cells #[.int .i64 0, .int .i64 0, .int .i64 4, .int .i64 0, .int .i64 0, .int .i64 0, .int .i64 0, .int .i64 0, .int .i64 0, .bool false, .int .i64 1, .int .i64 0, .int .i64 4, .int .i64 (-2), .int .i64 0, .int .i64 1, .int .i64 0, .int .i64 0, .int .i64 0, .bool false] 55)).alloc (.cells #[.int .i64 0, .int .i64 1, .int .i64 (-2), .int .i64 0, .int .i64 1, .int .i64 0, .int .i64 0, .int .i64 0, .int .i64 0] 57)) ((w4.alloc (.cells #[.int .i64 0, .int .i64 0, .int .i64 4, .int .i64 0, .int .i64 0, .int .i64 0, .int .i64 0, .int .i64 0, .int .i64 0, .bool false, .int .i64 1, .int .i64 0, .int .i64 4, .int .i64 (-2), .int .i64 0, .int .i64 1, .int .i64 0, .int .i64 0, .int .i64 0, .bool false] 55)).alloc (.cells #[.int .i64 0, .int .i64 1, .int .i64 (-2), .int .i64 0, .int .i64 1, .int .i64 0, .int .i64 0, .int .i64 0, .int .i64 0] 57)).heap.size (some ⟨w4.heap.size + 1, 0, none⟩) scrB.pairs := by
   have h0 := shows_new (w4.alloc (.cells #[.int .i64 0, .int .i64 0, .int .i64 4, .int .i64 0, .int .i64 0, .int .i64 0, .int .i64 0, .int .i64 0, .int .i64 0, .bool false, .int .i64 1, .int .i64 0, .int .i64 4, .int .i64 (-2), .int .i64 0, .int .i64 1, .int .i64 0, .int .i64 0, .int .i64 0, .bool false] 55)) #[.int .i64 0, .int .i64 1, .int .i64 (-2), .int .i64 0, .int .i64 1, .int .i64 0, .int .i64 0, .int .i64 0, .int .i64 0] 57 1 9 rfl
   rw [World.size_alloc]
   rw [World.size_alloc] at h0 ⊢
   exact h0
  refine ⟨⟨_, 2, _, 1, none, 0, rfl, (hn.up ((Below.refl _ _).alloc (Nat.le_refl _) _)).up ((Below.refl _ _).alloc (Nat.le_refl _) _), hp.up ((Below.refl _ _).alloc (Nat.le_refl _) _), Shows.nil_⟩, Nat.le_refl _, by decide, by decide, by decide⟩)
 have s5 : Hid (Blk (((w4.alloc (.cells #[.int .i64 0, .int .i64 0, .int .i64 4, .int .i64 0, .int .i64 0, .int .i64 0, .int .i64 0, .int .i64 0, .int .i64 0, .bool false, .int .i64 1, .int .i64 0, .int .i64 4, .int .i64 (-2), .int .i64 0, .int .i64 1, .int .i64 0, .int .i64 0, .int .i64 0, .bool false] 55)).alloc (.cells #[.int .i64 0, .int .i64 1, .int .i64 (-2), .int .i64 0, .int .i64 1, .int .i64 0, .int .i64 0, .int .i64 0, .int .i64 0] 57)).alloc (.cells #[.int .i64 2, .slice (some ⟨w4.heap.size, 0, none⟩) 2 2, .slice (some ⟨w4.heap.size + 1, 0, none⟩) 1 1, .slice none 0 0] 26)) (w4.heap.size + 2) 26 #[.int .i64 2, .slice (some ⟨w4.heap.size, 0, none⟩) 2 2, .slice (some ⟨w4.heap.size + 1, 0, none⟩) 1 1, .slice none 0 0]) := hid (by
  have h0 := Blk.new ((w4.alloc (.cells #[.int .i64 0, .int .i64 0, .int .i64 4, .int .i64 0, .int .i64 0, .int .i64 0, .int .i64 0, .int .i64 0, .int .i64 0, .bool false, .int .i64 1, .int .i64 0, .int .i64 4, .int .i64 (-2), .int .i64 0, .int .i64 1, .int .i64 0, .int .i64 0, .int .i64 0, .bool false] 55)).alloc (.cells #[.int .i64 0, .int .i64 1, .int .i64 (-2), .int .i64 0, .int .i64 1, .int .i64 0, .int .i64 0, .int .i64 0, .int .i64 0] 57)) 26 #[.int .i64 2, .slice (some ⟨w4.heap.size, 0, none⟩) 2 2, .slice (some ⟨w4.heap.size + 1, 0, none⟩) 1 1, .slice none 0 0]
  rw [World.size_alloc, World.size_alloc] at h0
  exact h0)
 generalize (((w4.alloc (.cells #[.int .i64 0, .int .i64 0, .int .i64 4, .int .i64 0, .int .i64 0, .int .i64 0, .int .i64 0, .int .i64 0, .int .i64 0, .bool false, .int .i64 1, .int .i64 0, .int .i64 4, .int .i64 (-2), .int .i64 0, .int .i64 1, .int .i64 0, .int .i64 0, .int .i64 0, .bool false] 55)).alloc (.cells #[.int .i64 0, .int .i64 1, .int .i64 (-2), .int .i64 0, .int .i64 1, .int .i64 0, .int .i64 0, .int .i64 0, .int .i64 0] 57)).alloc (.cells #[.int .i64 2, .slice (some ⟨w4.heap.size, 0, none⟩) 2 2, .slice (some ⟨w4.heap.size + 1, 0, none⟩) 1 1, .slice none 0 0] 26)) = w5 at b45 t5 s5 ⊢
 have T5 := t5
 have S5 := s5
 have B5 := hid (below_on B4.out b45.out)
 have R15 := hid (R14.out.up b45.out)
 have RA5 := hid (RA4.out.up b45.out)
 have Q5 := hid (ScrV.up Q4.out b45.out)
 have S45 := hid (S4.out.below b45.out S4.out.lt)
 generalize w4.heap.size = g4 at *
 clear t5 s5 b45 B4 R14 RA4 Q4 S4 VB4
 have z0 := S5.out.cell 0
 have z1 := S5.out.cell 1
 have z2 := S5.out.cell 2
 have z3 := S5.out.cell 3
 go_upto_region 7 with (go_at_call 18; refine (HPR.out _ _ B5.out T5.out).mono ?_; rintro e w6 ⟨rfl, b6⟩; replace b6 := hid b6)
 have B6 := hid (below_on B5.out b6.out)
 have R16 := hid (R15.out.up b6.out)
 have RA6 := hid (RA5.out.up b6.out)
 have Q6 := hid (ScrV.up Q5.out b6.out)
 have T6 := hid (ScrV.up T5.out b6.out)
 have S56 := hid (S5.out.below b6.out S5.out.lt)
 have S46 := hid (S45.out.below b6.out S45.out.lt)
 clear z0 z1 z2 z3 B5 R15 RA5 Q5 T5 S5 S45 b6
 go_upto_region 8 with (go_at_call 15; refine (show Calls _ _ #[str srcC] _ _ from ?_); refine (HPX.out _ B6.out srcC 17 10 (by decide) parse_c.1 parse_c.2).mono ?_; rintro e w7 ⟨b7, V6, An6, n6, cn6, Ap6, m6, cp6, Aq6, o6, cq6, rfl⟩; replace b7 := hid b7)
 have a7 : Hid (Below w7.heap.size w7 (w7.alloc (.cells #[.int .i64 V6, .slice An6 n6 cn6, .slice Ap6 m6 cp6, .slice Aq6 o6 cq6] 26))) := hid ((Below.refl _ _).alloc (Nat.le_refl _) _)
 generalize (w7.alloc (.cells #[.int .i64 V6, .slice An6 n6 cn6, .slice Ap6 m6 cp6, .slice Aq6 o6 cq6] 26)) = w8 at a7 ⊢
 have c7 := hid (below_on b7.out a7.out)
 have B8 := hid (below_on B6.out c7.out)
 have R18 := hid (R16.out.up c7.out)
 have RA8 := hid (RA6.out.up c7.out)
 have Q8 := hid (ScrV.up Q6.out c7.out)
 have T8 := hid (ScrV.up T6.out c7.out)
 have S58 := hid (S56.out.below c7.out S56.out.lt)
 have S48 := hid (S46.out.below c7.out S46.out.lt)
 clear B6 R16 RA6 Q6 T6 S56 S46 a7 b7 c7
 go_upto_region 9 with (go_at_call 15; refine (show Calls _ _ #[str srcD] _ _ from ?_); refine (HPX.out _ B8.out srcD 15 11 (by decide) parse_d.1 parse_d.2).mono ?_; rintro e w9 ⟨b9, V8, An8, n8, cn8, Ap8, m8, cp8, Aq8, o8, cq8, rfl⟩; replace b9 := hid b9)
 have a9 : Hid (Below w9.heap.size w9 (w9.alloc (.cells #[.int .i64 V8, .slice An8 n8 cn8, .slice Ap8 m8 cp8, .slice Aq8 o8 cq8] 26))) := hid ((Below.refl _ _).alloc (Nat.le_refl _) _)
 generalize (w9.alloc (.cells #[.int .i64 V8, .slice An8 n8 cn8, .slice Ap8 m8 cp8, .slice Aq8 o8 cq8] 26)) = w10 at a9 ⊢
 have c9 := hid (below_on b9.out a9.out)
 have B10 := hid (below_on B8.out c9.out)
 have R110 := hid (R18.out.up c9.out)
 have RA10 := hid (RA8.out.up c9.out)
 have Q10 := hid (ScrV.up Q8.out c9.out)
 have T10 := hid (ScrV.up T8.out c9.out)
 have S510 := hid (S58.out.below c9.out S58.out.lt)
 have S410 := hid (S48.out.below c9.out S48.out.lt)
 clear B8 R18 RA8 Q8 T8 S58 S48 a9 b9 c9
 go_upto_region 10 with (go_at_call 15; refine (show Calls _ _ #[str srcE] _ _ from ?_); refine (HPX.out _ B10.out srcE 41 9 (by decide) parse_e.1 parse_e.2).mono ?_; rintro e w11 ⟨b11, V10, An10, n10, cn10, Ap10, m10, cp10, Aq10, o10, cq10, rfl⟩; replace b11 := hid b11)
 have a11 : Hid (Below w11.heap.size w11 (w11.alloc (.cells #[.int .i64 V10, .slice An10 n10 cn10, .slice Ap10 m10 cp10, .slice Aq10 o10 cq10] 26))) := hid ((Below.refl _ _).alloc (Nat.le_refl _) _)
 generalize (w11.alloc (.cells #[.int .i64 V10, .slice An10 n10 cn10, .slice Ap10 m10 cp10, .slice Aq10 o10 cq10] 26)) = w12 at a11 ⊢
 have c11 := hid (below_on b11.out a11.out)
 have B12 := hid (below_on B10.out c11.out)
 have R112 := hid (R110.out.up c11.out)
 have RA12 := hid (RA10.out.up c11.out)
 have Q12 := hid (ScrV.up Q10.out c11.out)
 have T12 := hid (ScrV.up T10.out c11.out)
 have S512 := hid (S510.out.below c11.out S510.out.lt)
 have S412 := hid (S410.out.below c11.out S410.out.lt)
 clear B10 R110 RA10 Q10 T10 S510 S410 a11 b11 c11
 have D12 := S412.out.lt
 go_upto_region 11 with (first
  | (go_at_call 14; refine (tokens_any w12 w12.heap.size w12.heap.size A1 (some ⟨g1, 0, none⟩) c1 5 tokA tokA true R112.out (Nat.le_refl _) RA12.out (Nat.le_refl _) (by decide) (by decide)).mono ?_; rintro e w13 ⟨he, b⟩; rw [decide_eq_true rfl] at he; subst he; have b13 := hid b; have B13 := hid (below_on B12.out b13.out); have x13 := hid (S412.out.below b S412.out.lt); have y13 := hid (S512.out.below b S512.out.lt); have Q13 := hid (ScrV.up Q12.out b); have T13 := hid (ScrV.up T12.out b); have x0 := x13.out.cell 0; have x1 := x13.out.cell 1; have x2 := x13.out.cell 2; have x3 := x13.out.cell 3; have y0 := y13.out.cell 0; have y1 := y13.out.cell 1; have y2 := y13.out.cell 2; have y3 := y13.out.cell 3; clear b)
  | (go_at_call 17; refine (equal_any w13 _ _ _ _ scrB scrB Q13.out T13.out).mono ?_; rintro e w14 ⟨he, b⟩; rw [decide_eq_true rfl] at he; subst he; have B14 := hid (below_on B13.out b); clear b))
 clear x0 x1 x2 x3 y0 y1 y2 y3 x13 y13 Q13 T13 B13 b13 Q12 T12 S412 S512 R112 RA12 D12
 go_wp2
 go_ret
 exact ⟨rfl, B14.out⟩
end Go.Proofs.YtcjhihmaegagdaaGreatDoor
