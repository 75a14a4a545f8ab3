/- The tied card of NotationLayout: for every source that can be read as data, where the package-level variables hold what the program's text lays into them, NotationLayout returns true and its arguments read as before. -/
import Derived.Test.YtcjhihmaegagdaaGreatDoorTie
import Derived.Test.YtcjhihmaegagdaaGreatDoorCards
import Derived.Test.YtcjhihmaegagdaaGreatDoorK5
import Derived.ProofKit
import Derived.LaidMore
import Derived.LaidHandle
import Derived.OpenShut
import Derived.SizedLaws
import Derived.JoinedOf
import Derived.ChangeSame
import Derived.ChangeVars
import Derived.RowKitTokens
import Derived.Stop.Joined
import Derived.Lib.LaidTab
import Derived.SevenTiedAt
import Derived.Lay
import Derived.LaidSub
import Derived.MakeChecks
import Derived.Deep.Slices
import Derived.HandedShaped
import Derived.Shelf.Vars
import Derived.Test.YtcjhihmaegagdaaGreatDoorK4
import Derived.Test.YtcjhihmaegagdaaGreatDoorG9
set_option maxRecDepth 100000
set_option maxHeartbeats 8000000
set_option linter.unusedSimpArgs false
set_option linter.unusedVariables false
set_option linter.unusedSectionVars false
set_option linter.unnecessarySimpa false
namespace Go.Proofs.YtcjhihmaegagdaaGreatDoor
open Go.ChangeShapes Go.WideShapes Go.ChangeAt Go.RowKit
open Go.ChangeMaps (open_string)
theorem own0 : ownKnob Tryz.prog.godebug = none := by kernel_rfl
theorem laidOut0 : laidOutB Tryz.prog = true := by kernel_rfl
theorem g_pow10 : Tryz.prog.globalNamed "internal/strconv.uint64pow10" = some 4 := by kernel_rfl
theorem ty_pow10 : (Tryz.prog.globals[4]?).map (·.type) = some 209 := by kernel_rfl
theorem g_primes : Tryz.prog.globalNamed "schisma/pitch.primes" = some 3 := by kernel_rfl
theorem ty_primes : (Tryz.prog.globals[3]?).map (·.type) = some 52 := by kernel_rfl
abbrev Laid0 : List (String × DataW Unit) := [("math/bits.deBruijn32tab", Rows.laid_math_bits_deBruijn32tab), ("math/bits.deBruijn64tab", Rows.laid_math_bits_deBruijn64tab), ("internal/strconv.uint64pow10", Rows.laid_internal_strconv_uint64pow10), ("unicode/utf8.acceptRanges", Rows.laid_unicode_utf8_acceptRanges), ("strconv.ErrRange", Rows.laid_strconv_ErrRange), ("strconv.ErrSyntax", Rows.laid_strconv_ErrSyntax), ("schisma/pitch.primes", Rows.laid_schisma_pitch_primes), ("unicode/utf8.first", Rows.laid_unicode_utf8_first)]
theorem tab_of_laid {W : World} (h : laidMetH Tryz.prog Laid0 W) : Tab W := by
 have h1 := laidMetH.filter (fun x => x.1 == "internal/strconv.uint64pow10") h
 have h2 : laidMetH Tryz.prog [("internal/strconv.uint64pow10", Rows.laid_internal_strconv_uint64pow10)] W := h1
 rw [MakeChecks.laidMetH_plain _ _ _ (by kernel_rfl)] at h2
 have ht : Tryz.prog.cellsOf 209 = 20 := by kernel_rfl
 have hc : Tryz.prog.cellsOf 166 = 1 := by kernel_rfl
 exact Lib.tabIs_of_head (rest := []) g_pow10 ty_pow10 Tryz.underlying209 Tryz.underlying166 hc ht h2
theorem primes_of_laid {W : World} (h : laidMetH Tryz.prog Laid0 W) : Primes W := by
 have h1 := laidMetH.filter (fun x => x.1 == "schisma/pitch.primes") h
 have h2 : laidMetH Tryz.prog [("schisma/pitch.primes", Rows.laid_schisma_pitch_primes)] W := h1
 rw [MakeChecks.laidMetH_plain _ _ _ (by kernel_rfl)] at h2
 have ht : Tryz.prog.cellsOf 52 = 6 := by kernel_rfl
 have hc : Tryz.prog.cellsOf 3 = 1 := by kernel_rfl
 have h3 : Lib.TabIs Tryz.prog W "schisma/pitch.primes" .i64 [2, 3, 5, 7, 11, 13] := Lib.tabIs_of_head (rest := []) g_primes ty_primes Tryz.underlying52 Tryz.underlying3 hc ht h2
 intro j hj
 rw [h3.cell g_primes j hj]
 have : j = 0 ∨ j = 1 ∨ j = 2 ∨ j = 3 ∨ j = 4 ∨ j = 5 := by omega
 rcases this with rfl | rfl | rfl | rfl | rfl | rfl <;> rfl
theorem maxl_of_shape {W : World} (h : W.ShapedOpen Tryz.prog) : MaxL W :=
 cell_of_shapedOpen_int (t := 3) (zero := #[.int .i64 0]) h (of_decide_eq_true (by kernel_rfl)) (by kernel_rfl) rfl (by kernel_rfl) (by kernel_rfl) Tryz.underlying3
theorem returns_and_shaped {H : Type} {enc : TypeId × Value → H} {a : Assume} {C : Checked} {os : Os} {f : FuncId} {fn : Func} {s : ChangeSpec} {conds : List PathCond} {apart fresh handsOn again : Bool} {X : World → Array Value → Prop}
  (hX : ∀ (w w' : World) (args : Array Value), w.heap = w'.heap → X w args → X w' args)
  (own : ownKnob C.prog.godebug = none) (started : os.Started) (noInit : C.prog.inits.idxOf? f = none) (hfn : C.prog.funcs[f]? = some fn)
  (witness : ∃ (w : World) (tape : Tape) (i : Input), w.os = os ∧ (w.forCall tape i).Shaped C.prog ∧ i.vars = [] ∧ Input.okWide C.prog (w.forCall tape i) .any w.heap.size f i ∧
   ((s.pre enc C.prog fn conds apart (w.forCall tape i).memory i.args ∧ X (w.forCall tape i).memory i.args) ∧ sizedMet enc C.prog fn (OpenSpec.ofChange s) apart (w.forCall tape i).memory i.args) ∧ a.holds C.prog (lone (Frame.enter C.prog f i.args .normal) [] (w.forCall tape i)))
  (contract : ∀ (W : World) (base : Nat) (args : Array Value) (ds gs : List (DataW H)) (before : List MemPlace),
   (∀ (j : Nat) t v, fn.params[j]? = some t → args[j]? = some v → Value.okWide C.prog W .any base t v) →
   DataW.Whole enc C.prog fn.params.toList s.vars apart W args.toList ds gs before →
   conds.all (PathCond.test C.prog ⟨fn.params.toList, ds, s.plain.varTypes C.prog, gs⟩) = true →
   (DataW.weightsEach C.prog (fn.params.toList ++ s.plain.varTypes C.prog) (ds ++ gs)).all (· ≤ reachBytes) = true → X W args →
   W.ShapedOpen C.prog →
   a.holds C.prog (lone (Frame.enter C.prog f args .normal) [] W) →
   Calls C.prog f args W fun e W' => ∃ v, e = .returned v ∧ s.post enc C.prog fn apart fresh handsOn again W args v W') :
  ReturnsInHanded a C os f .any (fun w args => (s.pre enc C.prog fn conds apart w args ∧ X w args) ∧ sizedMet enc C.prog fn (OpenSpec.ofChange s) apart w args) (s.post enc C.prog fn apart fresh handsOn again) := by
 refine returnsInHanded_of_calls own started noInit witness ?_
 intro w tape i _ hsh _ hok hpre hholds
 obtain ⟨_, _, _, fn', hfn', _, _, _, _, hval⟩ := hok
 have e : fn' = fn := Option.some.inj (hfn'.symm.trans hfn)
 subst e
 obtain ⟨⟨⟨ds, gs, before, hw, hc⟩, hx⟩, hz⟩ := hpre
 have hw' := DataW.Whole.of_heap (w' := w.forCall tape i) (by rfl) hw
 refine (contract (w.forCall tape i) w.heap.size i.args ds gs before hval hw' hc (hz.weights hw) (hX _ _ _ (by rfl) hx) hsh hholds).mono fun e W' ⟨v, he, hp⟩ => ?_
 subst he
 exact ChangeSpec.post_blind hp
theorem laid_met0 (os : Os) (args : Array Value) : laidMetH Tryz.prog Laid0 ((World.laidAll Tryz.prog os Laid0).forCall (fun _ _ => 0) ⟨#[], args, []⟩).memory := by
 rw [MakeChecks.laidMetH_plain _ _ _ (by kernel_rfl)]
 exact laidMet_laidAll _ (by kernel_rfl) (by kernel_rfl)
section
variable {H : Type} {enc : TypeId × Value → H} {w : World} {base : Nat} {sp : Nat → Bool} {held : Bool}
theorem open_str {r : Reach} {b0 : Nat} {v : Value} {d : DataW H} {ps : List MemPlace} (hval : Value.okWide Tryz.prog w r b0 9 v) (hd : DataW.Trod enc Tryz.prog w base sp held 9 v d ps) :
  ∃ l : List UInt8, v = str l ∧ ps = [] ∧ l.length ≤ 9223372036854775807 ∧ d = .lit (.string l) := by
 obtain ⟨s, rfl, rfl, rfl, hs⟩ := open_string Tryz.underlying9 hval hd
 refine ⟨s.data.toList, rfl, rfl, ?_, rfl⟩
 rw [Array.length_toList]
 unfold maxLen at hs
 exact hs
end
end Go.Proofs.YtcjhihmaegagdaaGreatDoor
namespace Go.Proofs.YtcjhihmaegagdaaGreatDoor
open Go.RowKit Go.Deep
theorem layout_any (w : World) (s : List UInt8) (hs : s.length ≤ 4611686018427387904) (hM : MaxL w) (hP : Primes w) (hT : Tab w) : Calls Tryz.prog 7 #[str s] w fun e w' => e = .returned (.bool true) ∧ Below w.heap.size w w' := by
 have HHD := hid (head_any w hM hP hT)
 have HPA : Hid (∀ W, Below w.heap.size w W → ∀ (x : List UInt8), x.length ≤ 4611686018427387904 → ∀ c p k, parseS x = c → parseP x = p → parseE x = k → Calls Tryz.prog 15 #[str x] W fun e w' => Below W.heap.size W w' ∧ ∃ V An n cn Ap m cp Aq o cq, e = .returned (.tuple #[.agg #[.int .i64 V, .slice An n cn, .slice Ap m cp, .slice Aq o cq], .int .i64 (p : Nat), .int .i64 (k : Nat)]) ∧ ScrV w' (.agg #[.int .i64 V, .slice An n cn, .slice Ap m cp, .slice Aq o cq]) c) := hid fun W hb x hx c p k h1 h2 h3 => by
  have h := parse_any W x hx (hM.below hb) (hP.below hb)
  unfold PEnds at h
  rw [h1, h2, h3] at h
  refine h.mono fun e w' ⟨b, v, e1, e2⟩ => ⟨b, ?_⟩
  obtain ⟨An, cn, Ap, cp, Aq, cq, rfl, -⟩ := e2.ex
  exact ⟨_, An, _, cn, Ap, _, cp, Aq, _, cq, e1, e2⟩
 have HLX : Hid (∀ W (x : List UInt8), x.length ≤ 4611686018427387904 → ∀ ts p k, lexT x = ts → lexP x = p → lexE x = k → Calls Tryz.prog 12 #[str x] W fun e w' => Below W.heap.size W w' ∧ ∃ A c, e = .returned (.tuple #[.slice A ts.length c, .int .i64 (p : Nat), .int .i64 (k : Nat)]) ∧ RdT w' w'.heap.size A ts) := hid fun W x hx ts p k h1 h2 h3 => by
  have h := lex_any W x (by omega)
  unfold LexEnds at h
  rw [h1, h2, h3] at h
  exact h.mono fun e w' ⟨b, A, c, e1, e2, _⟩ => ⟨b, A, c, e1, e2⟩
 obtain ⟨ts, hts⟩ : ∃ ts, lexT s = ts := ⟨_, rfl⟩
 obtain ⟨q, hq⟩ : ∃ q, lexP s = q := ⟨_, rfl⟩
 obtain ⟨E, hE⟩ : ∃ E, lexE s = E := ⟨_, rfl⟩
 obtain ⟨c, hc⟩ : ∃ c, parseS s = c := ⟨_, rfl⟩
 obtain ⟨p, hp⟩ : ∃ p, parseP s = p := ⟨_, rfl⟩
 obtain ⟨k, hk⟩ : ∃ k, parseE s = k := ⟨_, rfl⟩
 have HS := hid hs
 have H0 := hid (And.intro hts (And.intro hq hE))
 have H1 := hid (And.intro hc (And.intro hp hk))
 have HBAD : Hid (E ≠ 0 → k = E) := hid fun h => by rw [← hk, ← hE]; exact (parse_lexerr (by rw [hE]; exact h)).1
 have HTL : Hid (ts.length ≤ 8000 ∧ (joinL ts 10).length ≤ 16000) := hid (by rw [← hts]; exact ⟨lexT_len s, joinT_len s 10⟩)
 have HGOOD : Hid (E = 0 → if 8000 < (joinL ts 10).length then parseE (joinL ts 10) = 2 else parseE (joinL ts 10) = k ∧ parseS (joinL ts 10) = c) := hid fun h => by
  rw [← hts, ← hk, ← hc]
  exact layout_law s (by rw [hE]; exact h)
 clear hM hP hT hc hp hk hs hts hq hE
 go_enter Tryz.func7, Tryz.ntmps7
 go_upto_region 4 with (first
  | (go_at_call 11; refine HHD.out.mono ?_; rintro e w1 ⟨rfl, b1⟩; replace b1 := hid b1)
  | (go_at_call 12; refine (HLX.out _ s HS.out ts q E H0.out.1 H0.out.2.1 H0.out.2.2).mono ?_; rintro e w2 ⟨b2, A, cA, rfl, r2⟩; replace b2 := hid b2; replace r2 := hid r2)
  | (go_at_call 15; refine (HPA.out _ (below_on b1.out b2.out) s HS.out c p k H1.out.1 H1.out.2.1 H1.out.2.2).mono ?_; rintro e w3 ⟨b3, V0, An0, n0, cn0, Ap0, m0, cp0, Aq0, o0, cq0, rfl, q3⟩; replace b3 := hid b3; replace q3 := hid q3))
 obtain ⟨g, hg⟩ : ∃ g, g = w3.heap.size := ⟨_, rfl⟩
 have aw4 : Hid (Below w3.heap.size w3 (w3.alloc (.cells #[.int .i64 V0, .slice An0 n0 cn0, .slice Ap0 m0 cp0, .slice Aq0 o0 cq0] 26))) := hid ((Below.refl _ _).alloc (Nat.le_refl _) _)
 have sw4 : Hid (Blk (w3.alloc (.cells #[.int .i64 V0, .slice An0 n0 cn0, .slice Ap0 m0 cp0, .slice Aq0 o0 cq0] 26)) w3.heap.size 26 #[.int .i64 V0, .slice An0 n0 cn0, .slice Ap0 m0 cp0, .slice Aq0 o0 cq0]) := hid (Blk.new _ _ _)
 rw [← hg] at sw4 ⊢
 clear hg
 generalize (w3.alloc (.cells #[.int .i64 V0, .slice An0 n0 cn0, .slice Ap0 m0 cp0, .slice Aq0 o0 cq0] 26)) = w4 at aw4 sw4 ⊢
 have B4 := hid (below_on (below_on (below_on b1.out b2.out) b3.out) aw4.out)
 by_cases h0 : E = 0
 case neg =>
  obtain rfl := HBAD.out h0
  have hk1 : ((k : Int) != 0) = true := by rw [bne_iff_ne]; omega
  clear h0
  go_wp2_with fail
  go_ret
  exact ⟨rfl, B4.out⟩
 subst h0
 have HG := hid (HGOOD.out rfl)
 have r4 := hid (RdT.up (RdT.up r2.out b3.out) aw4.out)
 have q4 := hid (ScrV.up q3.out aw4.out)
 clear HGOOD HBAD b1 b2 b3 r2 q3 aw4 H0 H1 HS
 go_upto_region 7 with (go_at_call 21; refine (join_any w4 _ A cA ts 10 r4.out (Nat.le_refl _) (by have := HTL.out.1; omega) (by have := HTL.out.2; omega)).mono ?_; rintro e w5 ⟨rfl, b5⟩; replace b5 := hid b5)
 obtain ⟨j, hj⟩ : ∃ j, j = joinL ts 10 := ⟨_, rfl⟩
 rw [← hj] at HTL HG ⊢
 have B5 := hid (below_on B4.out b5.out)
 have q5 := hid (ScrV.up q4.out b5.out)
 have s5 := hid (sw4.out.below b5.out sw4.out.lt)
 have hszj : (⟨j.toArray⟩ : ByteArray).size = j.length := by simp [ByteArray.size]
 clear hj B4 q4 sw4 b5 r4
 obtain ⟨c2, hc2⟩ : ∃ c2, parseS j = c2 := ⟨_, rfl⟩
 obtain ⟨p2, hp2⟩ : ∃ p2, parseP j = p2 := ⟨_, rfl⟩
 obtain ⟨k2, hk2⟩ : ∃ k2, parseE j = k2 := ⟨_, rfl⟩
 have H2 := hid (And.intro hc2 (And.intro hp2 hk2))
 rw [hc2, hk2] at HG
 clear hc2 hp2 hk2
 go_upto_region 8 with (go_at_call 15; refine (HPA.out _ B5.out j (by have := HTL.out.2; omega) c2 p2 k2 H2.out.1 H2.out.2.1 H2.out.2.2).mono ?_; rintro e w6 ⟨b6, V1, An1, n1, cn1, Ap1, m1, cp1, Aq1, o1, cq1, rfl, q6⟩; replace b6 := hid b6; replace q6 := hid q6)
 obtain ⟨g2, hg2⟩ : ∃ g2, g2 = w6.heap.size := ⟨_, rfl⟩
 have aw7 : Hid (Below w6.heap.size w6 (w6.alloc (.cells #[.int .i64 V1, .slice An1 n1 cn1, .slice Ap1 m1 cp1, .slice Aq1 o1 cq1] 26))) := hid ((Below.refl _ _).alloc (Nat.le_refl _) _)
 have sw7 : Hid (Blk (w6.alloc (.cells #[.int .i64 V1, .slice An1 n1 cn1, .slice Ap1 m1 cp1, .slice Aq1 o1 cq1] 26)) w6.heap.size 26 #[.int .i64 V1, .slice An1 n1 cn1, .slice Ap1 m1 cp1, .slice Aq1 o1 cq1]) := hid (Blk.new _ _ _)
 rw [← hg2] at sw7 ⊢
 clear hg2
 generalize (w6.alloc (.cells #[.int .i64 V1, .slice An1 n1 cn1, .slice Ap1 m1 cp1, .slice Aq1 o1 cq1] 26)) = w7 at aw7 sw7 ⊢
 have b57 := hid (below_on b6.out aw7.out)
 have B7 := hid (below_on B5.out b57.out)
 have q7 := hid (ScrV.up q5.out b57.out)
 have r7 := hid (ScrV.up q6.out aw7.out)
 have s7 := hid (s5.out.below b57.out s5.out.lt)
 clear B5 q5 s5 b6 q6 aw7 b57 H2
 by_cases hlong : 8000 < j.length
 ·
  have hq : decide ((8000 : Int) < (j.length : Int)) = true := by rw [decide_eq_true_eq]; omega
  have HK := HG.out
  rw [if_pos hlong] at HK
  subst HK
  clear hlong HG
  go_wp2_with fail
  go_ret
  exact ⟨rfl, B7.out⟩
 have hq : decide ((8000 : Int) < (j.length : Int)) = false := by rw [decide_eq_false_iff_not]; omega
 have HK := HG.out
 rw [if_neg hlong] at HK
 obtain ⟨rfl, rfl⟩ := HK
 clear hlong HG
 have x0 := s7.out.cell 0; have x1 := s7.out.cell 1; have x2 := s7.out.cell 2; have x3 := s7.out.cell 3; have y0 := sw7.out.cell 0; have y1 := sw7.out.cell 1; have y2 := sw7.out.cell 2; have y3 := sw7.out.cell 3
 go_wp2_with (go_at_call 17; refine (equal_any w7 _ _ _ _ c2 c2 q7.out r7.out).mono ?_; rintro e w8 ⟨he, b⟩; rw [decide_eq_true rfl] at he; subst he; have B8 := hid (below_on B7.out b); clear b)
 go_ret
 exact ⟨rfl, B8.out⟩
end Go.Proofs.YtcjhihmaegagdaaGreatDoor
namespace Go.Proofs.YtcjhihmaegagdaaGreatDoor
open Go.ChangeShapes Go.WideShapes Go.ChangeAt Go.RowKit
theorem notationLayout_lifted (os : Os) (started : os.Started) (H : Type) (enc : TypeId × Value → H) :
  ReturnsInHanded {} Tryz.checked os 7 .any (fun w args => (Rows.notationLayoutSpec.pre enc Tryz.prog Tryz.f7 [] false w args ∧ laidMetH Tryz.prog Laid0 w) ∧ sizedMet enc Tryz.prog Tryz.f7 (OpenSpec.ofChange Rows.notationLayoutSpec) false w args)
   (Rows.notationLayoutSpec.post enc Tryz.prog Tryz.f7 false true false false) := by
 refine returns_and_shaped (C := Tryz.checked) (X := fun w _ => laidMetH Tryz.prog Laid0 w) (fun _ _ _ hh h => h.of_heap hh) own0 started (by kernel_rfl) Tryz.func7
  (ChangeSpec.witness_shaped (enc := enc) (C := Tryz.checked) (os := os) (X := fun w _ => laidMetH Tryz.prog Laid0 w) false (World.laidAll Tryz.prog os Laid0) #[.string ⟨#[]⟩] 8 (World.laidAll_os _ _ _) (World.shaped_of_ZipB (by kernel_rfl) (by kernel_rfl)) (by kernel_rfl) (by kernel_rfl) (by kernel_rfl) (laid_met0 os _)) ?_
 intro W base args ds gs before hval0 hW _ hsz0 hL hshape _
 have hval : ∀ (j : Nat) t v, Tryz.f7.params[j]? = some t → args[j]? = some v → Value.okWide Tryz.prog W .any base t v := hval0
 have hW' := hW
 obtain ⟨p, q, hA0, hV, rfl, _, _⟩ := hW
 have hA : DataW.TrodAll enc Tryz.prog W 0 (fun _ => true) true Tryz.f7.params.toList args.toList ds p := hA0
 rw [Tryz.params7] at hA hval
 have hsz : (DataW.weightsEach Tryz.prog (Tryz.f7.params.toList ++ Rows.notationLayoutSpec.plain.varTypes Tryz.prog) (ds ++ gs)).all (· ≤ reachBytes) = true := hsz0
 clear hsz0
 rw [Tryz.params7] at hsz
 obtain ⟨v0, vs0, d0, ds0, p0, q0, hargs, rfl, rfl, h0, t0⟩ := trodAll_cons hA
 obtain ⟨rfl, rfl, rfl⟩ := trodAll_nil t0
 obtain rfl : args = #[v0] := Array.toList_inj.1 hargs
 obtain ⟨rfl, rfl⟩ := trodVars_none hV
 obtain ⟨s, rfl, rfl, -, e0⟩ := open_str (hval 0 _ v0 rfl rfl) h0
 have n0 : s.length ≤ 140737488351232 := sized_string (j := 0) (t := 9) hsz rfl (by rw [e0]; rfl)
 clear hA0 hval0 hA
 simp only [List.append_nil] at hW'
 have hlt := hW'.lt
 refine (layout_any W s (by omega) (maxl_of_shape hshape) (primes_of_laid hL) (tab_of_laid hL)).mono fun e W' ⟨he, hb⟩ => ?_
 subst he
 exact ⟨_, rfl, _, _, _, [], _, [], hW', trodAll_mk1 (shut_bool Tryz.underlying4 true), trodAll_mk1 (Below.trod laidOut0 (by kernel_rfl) (of_decide_eq_true (by kernel_rfl)) h0 hb (fun x hx => hlt x (by (try simp at hx) <;> (try simp [hx])))), rfl, hb.frame _, fun h => by cases h⟩
theorem notationLayout_said : Rows.NotationLayoutSaid :=
 OpenClaim.holds_of_wide 7 Tryz.f7 rfl rfl rfl rfl rfl rfl rfl ⟨rfl, rfl, rfl, rfl, rfl⟩ rfl rfl rfl rfl rfl (by kernel_rfl) Tryz.func7 (by kernel_rfl)
  (of_decide_eq_true (by kernel_rfl)) (by unfold Func.isWrapper; first | (rw [if_pos (by decide +kernel)]; kernel_rfl) | (rw [if_neg (by decide +kernel)]; exact ⟨rfl, rfl⟩))
  (fun os started H enc _ => notationLayout_lifted os started H enc)
theorem notationLayout_card : Rows.NotationLayoutCardSaid :=
 Claim7.holds_tied_plain_at .later [] [.data, .data, .data, .data, .sentinel, .sentinel, .data, .pinned] true Rows.notationLayoutCard.stood.harness Rows.notationLayoutCard.stood.looks
  notationLayout_said (fun _ h => by cases h) (by kernel_rfl) (fun _ h => by cases h) notationLayout_row_tie rfl ⟨rfl, rfl⟩ (by kernel_rfl) rfl
  (fun f fn hf hfn => by
   obtain rfl : f = 7 := Option.some.inj ((show Tryz.prog.funcNamed "schisma/schismalaw20.NotationLayout" = some 7 by kernel_rfl).symm.trans hf) |>.symm
   obtain rfl : fn = Tryz.f7 := (Option.some.inj (Tryz.func7.symm.trans hfn)).symm
   exact ⟨by kernel_rfl, fun j t ht => by
    rw [Tryz.params7] at ht
    have hm : t ∈ [9] := by
     have := Array.mem_of_getElem? ht
     simpa using this
    have hall : ([9].all fun u => !Tryz.prog.wantsStandIn u) = true := by kernel_rfl
    exact (show Tryz.prog.wantsStandIn t = false by simpa using List.all_eq_true.1 hall t hm)⟩)
  (by kernel_rfl)
end Go.Proofs.YtcjhihmaegagdaaGreatDoor
