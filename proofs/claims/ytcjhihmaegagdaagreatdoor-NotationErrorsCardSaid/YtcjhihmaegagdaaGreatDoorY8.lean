/- The tied card of NotationErrors: for every two sources that can be read as data, where the package-level variables hold what the program's text lays into them, NotationErrors returns true and its arguments read as before. -/
import Derived.Test.YtcjhihmaegagdaaGreatDoorTie
import Derived.Test.YtcjhihmaegagdaaGreatDoorCards
import Derived.Test.YtcjhihmaegagdaaGreatDoorK5
import Derived.ProofKit
import Derived.LaidMore
import Derived.LaidHandle
import Derived.OpenShut
import Derived.SizedLaws
import Derived.JoinedOf
import Derived.ChangeSame
import Derived.ChangeVars
import Derived.RowKitTokens
import Derived.Stop.Joined
import Derived.Lib.LaidTab
import Derived.SevenTiedAt
import Derived.Lay
import Derived.LaidSub
import Derived.MakeChecks
import Derived.Deep.Slices
import Derived.HandedShaped
import Derived.Shelf.Vars
import Derived.Test.YtcjhihmaegagdaaGreatDoorK4
import Derived.Test.YtcjhihmaegagdaaGreatDoorG9
set_option maxRecDepth 100000
set_option maxHeartbeats 8000000
set_option linter.unusedSimpArgs false
set_option linter.unusedVariables false
set_option linter.unusedSectionVars false
set_option linter.unnecessarySimpa false
namespace Go.Proofs.YtcjhihmaegagdaaGreatDoor
open Go.ChangeShapes Go.WideShapes Go.ChangeAt Go.RowKit
open Go.ChangeMaps (open_string)
theorem own0 : ownKnob Tryz.prog.godebug = none := by kernel_rfl
theorem laidOut0 : laidOutB Tryz.prog = true := by kernel_rfl
theorem g_pow10 : Tryz.prog.globalNamed "internal/strconv.uint64pow10" = some 4 := by kernel_rfl
theorem ty_pow10 : (Tryz.prog.globals[4]?).map (·.type) = some 209 := by kernel_rfl
theorem g_primes : Tryz.prog.globalNamed "schisma/pitch.primes" = some 3 := by kernel_rfl
theorem ty_primes : (Tryz.prog.globals[3]?).map (·.type) = some 52 := by kernel_rfl
abbrev Laid0 : List (String × DataW Unit) := [("math/bits.deBruijn32tab", Rows.laid_math_bits_deBruijn32tab), ("math/bits.deBruijn64tab", Rows.laid_math_bits_deBruijn64tab), ("internal/strconv.uint64pow10", Rows.laid_internal_strconv_uint64pow10), ("unicode/utf8.acceptRanges", Rows.laid_unicode_utf8_acceptRanges), ("strconv.ErrRange", Rows.laid_strconv_ErrRange), ("strconv.ErrSyntax", Rows.laid_strconv_ErrSyntax), ("schisma/pitch.primes", Rows.laid_schisma_pitch_primes), ("unicode/utf8.first", Rows.laid_unicode_utf8_first)]
theorem tab_of_laid {W : World} (h : laidMetH Tryz.prog Laid0 W) : Tab W := by
 have h1 := laidMetH.filter (fun x => x.1 == "internal/strconv.uint64pow10") h
 have h2 : laidMetH Tryz.prog [("internal/strconv.uint64pow10", Rows.laid_internal_strconv_uint64pow10)] W := h1
 rw [MakeChecks.laidMetH_plain _ _ _ (by kernel_rfl)] at h2
 have ht : Tryz.prog.cellsOf 209 = 20 := by kernel_rfl
 have hc : Tryz.prog.cellsOf 166 = 1 := by kernel_rfl
 exact Lib.tabIs_of_head (rest := []) g_pow10 ty_pow10 Tryz.underlying209 Tryz.underlying166 hc ht h2
theorem primes_of_laid {W : World} (h : laidMetH Tryz.prog Laid0 W) : Primes W := by
 have h1 := laidMetH.filter (fun x => x.1 == "schisma/pitch.primes") h
 have h2 : laidMetH Tryz.prog [("schisma/pitch.primes", Rows.laid_schisma_pitch_primes)] W := h1
 rw [MakeChecks.laidMetH_plain _ _ _ (by kernel_rfl)] at h2
 have ht : Tryz.prog.cellsOf 52 = 6 := by kernel_rfl
 have hc : Tryz.prog.cellsOf 3 = 1 := by kernel_rfl
 have h3 : Lib.TabIs Tryz.prog W "schisma/pitch.primes" .i64 [2, 3, 5, 7, 11, 13] := Lib.tabIs_of_head (rest := []) g_primes ty_primes Tryz.underlying52 Tryz.underlying3 hc ht h2
 intro j hj
 rw [h3.cell g_primes j hj]
 have : j = 0 ∨ j = 1 ∨ j = 2 ∨ j = 3 ∨ j = 4 ∨ j = 5 := by omega
 rcases this with rfl | rfl | rfl | rfl | rfl | rfl <;> rfl
theorem maxl_of_shape {W : World} (h : W.ShapedOpen Tryz.prog) : MaxL W :=
 cell_of_shapedOpen_int (t := 3) (zero := #[.int .i64 0]) h (of_decide_eq_true (by kernel_rfl)) (by kernel_rfl) rfl (by kernel_rfl) (by kernel_rfl) Tryz.underlying3
theorem returns_and_shaped {H : Type} {enc : TypeId × Value → H} {a : Assume} {C : Checked} {os : Os} {f : FuncId} {fn : Func} {s : ChangeSpec} {conds : List PathCond} {apart fresh handsOn again : Bool} {X : World → Array Value → Prop}
  (hX : ∀ (w w' : World) (args : Array Value), w.heap = w'.heap → X w args → X w' args)
  (own : ownKnob C.prog.godebug = none) (started : os.Started) (noInit : C.prog.inits.idxOf? f = none) (hfn : C.prog.funcs[f]? = some fn)
  (witness : ∃ (w : World) (tape : Tape) (i : Input), w.os = os ∧ (w.forCall tape i).Shaped C.prog ∧ i.vars = [] ∧ Input.okWide C.prog (w.forCall tape i) .any w.heap.size f i ∧
   ((s.pre enc C.prog fn conds apart (w.forCall tape i).memory i.args ∧ X (w.forCall tape i).memory i.args) ∧ sizedMet enc C.prog fn (OpenSpec.ofChange s) apart (w.forCall tape i).memory i.args) ∧ a.holds C.prog (lone (Frame.enter C.prog f i.args .normal) [] (w.forCall tape i)))
  (contract : ∀ (W : World) (base : Nat) (args : Array Value) (ds gs : List (DataW H)) (before : List MemPlace),
   (∀ (j : Nat) t v, fn.params[j]? = some t → args[j]? = some v → Value.okWide C.prog W .any base t v) →
   DataW.Whole enc C.prog fn.params.toList s.vars apart W args.toList ds gs before →
   conds.all (PathCond.test C.prog ⟨fn.params.toList, ds, s.plain.varTypes C.prog, gs⟩) = true →
   (DataW.weightsEach C.prog (fn.params.toList ++ s.plain.varTypes C.prog) (ds ++ gs)).all (· ≤ reachBytes) = true → X W args →
   W.ShapedOpen C.prog →
   a.holds C.prog (lone (Frame.enter C.prog f args .normal) [] W) →
   Calls C.prog f args W fun e W' => ∃ v, e = .returned v ∧ s.post enc C.prog fn apart fresh handsOn again W args v W') :
  ReturnsInHanded a C os f .any (fun w args => (s.pre enc C.prog fn conds apart w args ∧ X w args) ∧ sizedMet enc C.prog fn (OpenSpec.ofChange s) apart w args) (s.post enc C.prog fn apart fresh handsOn again) := by
 refine returnsInHanded_of_calls own started noInit witness ?_
 intro w tape i _ hsh _ hok hpre hholds
 obtain ⟨_, _, _, fn', hfn', _, _, _, _, hval⟩ := hok
 have e : fn' = fn := Option.some.inj (hfn'.symm.trans hfn)
 subst e
 obtain ⟨⟨⟨ds, gs, before, hw, hc⟩, hx⟩, hz⟩ := hpre
 have hw' := DataW.Whole.of_heap (w' := w.forCall tape i) (by rfl) hw
 refine (contract (w.forCall tape i) w.heap.size i.args ds gs before hval hw' hc (hz.weights hw) (hX _ _ _ (by rfl) hx) hsh hholds).mono fun e W' ⟨v, he, hp⟩ => ?_
 subst he
 exact ChangeSpec.post_blind hp
theorem laid_met0 (os : Os) (args : Array Value) : laidMetH Tryz.prog Laid0 ((World.laidAll Tryz.prog os Laid0).forCall (fun _ _ => 0) ⟨#[], args, []⟩).memory := by
 rw [MakeChecks.laidMetH_plain _ _ _ (by kernel_rfl)]
 exact laidMet_laidAll _ (by kernel_rfl) (by kernel_rfl)
section
variable {H : Type} {enc : TypeId × Value → H} {w : World} {base : Nat} {sp : Nat → Bool} {held : Bool}
theorem open_str {r : Reach} {b0 : Nat} {v : Value} {d : DataW H} {ps : List MemPlace} (hval : Value.okWide Tryz.prog w r b0 9 v) (hd : DataW.Trod enc Tryz.prog w base sp held 9 v d ps) :
  ∃ l : List UInt8, v = str l ∧ ps = [] ∧ l.length ≤ 9223372036854775807 ∧ d = .lit (.string l) := by
 obtain ⟨s, rfl, rfl, rfl, hs⟩ := open_string Tryz.underlying9 hval hd
 refine ⟨s.data.toList, rfl, rfl, ?_, rfl⟩
 rw [Array.length_toList]
 unfold maxLen at hs
 exact hs
end
end Go.Proofs.YtcjhihmaegagdaaGreatDoor
namespace Go.Proofs.YtcjhihmaegagdaaGreatDoor
open Go.RowKit Go.Deep
theorem str_three (f s : List UInt8) : (Value.string ((({ data := f.toArray } : ByteArray) ++ { data := #[10] }) ++ { data := s.toArray })) = str (f ++ 10 :: s) := by
 have : ((({ data := f.toArray } : ByteArray) ++ { data := #[10] }) ++ { data := s.toArray }) = ⟨(f ++ 10 :: s).toArray⟩ := by
  apply ByteArray.ext
  simp [ByteArray.data_append]
 rw [this]
theorem errors_any (w : World) (f s : List UInt8) (hf : f.length ≤ 140737488355328) (hs : s.length ≤ 140737488355328) (hM : MaxL w) (hP : Primes w) (hT : Tab w) : Calls Tryz.prog 8 #[str f, str s] w fun e w' => e = .returned (.bool true) ∧ Below w.heap.size w w' := by
 have HHD := hid (head_any w hM hP hT)
 have HPA : Hid (∀ W, Below w.heap.size w W → ∀ (x : List UInt8), x.length ≤ 4611686018427387904 → ∀ c p k, parseS x = c → parseP x = p → parseE x = k → Calls Tryz.prog 15 #[str x] W fun e w' => Below W.heap.size W w' ∧ ∃ V An n cn Ap m cp Aq o cq, e = .returned (.tuple #[.agg #[.int .i64 V, .slice An n cn, .slice Ap m cp, .slice Aq o cq], .int .i64 (p : Nat), .int .i64 (k : Nat)]) ∧ ScrV w' (.agg #[.int .i64 V, .slice An n cn, .slice Ap m cp, .slice Aq o cq]) c) := hid fun W hb x hx c p k h1 h2 h3 => by
  have h := parse_any W x hx (hM.below hb) (hP.below hb)
  unfold PEnds at h
  rw [h1, h2, h3] at h
  refine h.mono fun e w' ⟨b, v, e1, e2⟩ => ⟨b, ?_⟩
  obtain ⟨An, cn, Ap, cp, Aq, cq, rfl, -⟩ := e2.ex
  exact ⟨_, An, _, cn, Ap, _, cp, Aq, _, cq, e1, e2⟩
 have HLX : Hid (∀ W (x : List UInt8), x.length ≤ 4611686018427387904 → ∀ ts p k, lexT x = ts → lexP x = p → lexE x = k → Calls Tryz.prog 12 #[str x] W fun e w' => Below W.heap.size W w' ∧ ∃ A c, e = .returned (.tuple #[.slice A ts.length c, .int .i64 (p : Nat), .int .i64 (k : Nat)]) ∧ RdT w' w'.heap.size A ts) := hid fun W x hx ts p k h1 h2 h3 => by
  have h := lex_any W x (by omega)
  unfold LexEnds at h
  rw [h1, h2, h3] at h
  exact h.mono fun e w' ⟨b, A, c, e1, e2, _⟩ => ⟨b, A, c, e1, e2⟩
 have HFS : Hid (f.length ≤ 140737488355328 ∧ s.length ≤ 140737488355328) := hid ⟨hf, hs⟩
 have hc1 : ¬ 9223372036854775807 < f.length + 1 := by omega
 have hc2 : ¬ 9223372036854775807 < f.length + 1 + s.length := by omega
 obtain ⟨ts, hts⟩ : ∃ ts, lexT s = ts := ⟨_, rfl⟩
 obtain ⟨q, hq⟩ : ∃ q, lexP s = q := ⟨_, rfl⟩
 obtain ⟨E, hE⟩ : ∃ E, lexE s = E := ⟨_, rfl⟩
 obtain ⟨tf, htf⟩ : ∃ tf, lexT f = tf := ⟨_, rfl⟩
 obtain ⟨qf, hqf⟩ : ∃ qf, lexP f = qf := ⟨_, rfl⟩
 obtain ⟨F, hF⟩ : ∃ F, lexE f = F := ⟨_, rfl⟩
 obtain ⟨b, hb⟩ : ∃ b, f ++ 10 :: s = b := ⟨_, rfl⟩
 obtain ⟨tb, htb⟩ : ∃ tb, lexT b = tb := ⟨_, rfl⟩
 obtain ⟨qb, hqb⟩ : ∃ qb, lexP b = qb := ⟨_, rfl⟩
 obtain ⟨G, hG⟩ : ∃ G, lexE b = G := ⟨_, rfl⟩
 obtain ⟨th, hth⟩ : ∃ th, lexT (s.take q) = th := ⟨_, rfl⟩
 obtain ⟨qh, hqh⟩ : ∃ qh, lexP (s.take q) = qh := ⟨_, rfl⟩
 obtain ⟨cf, hcf⟩ : ∃ cf, parseS f = cf := ⟨_, rfl⟩
 obtain ⟨pf, hpf⟩ : ∃ pf, parseP f = pf := ⟨_, rfl⟩
 obtain ⟨kf, hkf⟩ : ∃ kf, parseE f = kf := ⟨_, rfl⟩
 obtain ⟨cb, hcb⟩ : ∃ cb, parseS b = cb := ⟨_, rfl⟩
 obtain ⟨pb, hpb⟩ : ∃ pb, parseP b = pb := ⟨_, rfl⟩
 obtain ⟨kb, hkb⟩ : ∃ kb, parseE b = kb := ⟨_, rfl⟩
 have hbl : b.length = f.length + 1 + s.length := by rw [← hb]; simp; omega
 have H0 := hid (And.intro hts (And.intro hq hE))
 have H1 := hid (And.intro htf (And.intro hqf hF))
 have H3 := hid (And.intro htb (And.intro hqb hG))
 have H2 := hid (And.intro (And.intro hcf (And.intro hpf hkf)) (And.intro hcb (And.intro hpb hkb)))
 have HBS : Hid (b.length ≤ 8000 → E = 0 ∨ (E = 10 ∧ ts = [] ∧ q ≤ s.length ∧ lexE (s.take q) = 0 ∧ (F = 0 → G = 10 ∧ q + f.length + 1 = qb ∧ tb = []))) := hid fun hl => by
  rcases lexE_cases (s := s) (by omega) with ⟨h1, -⟩ | ⟨h1, -⟩
  ·
   exact Or.inl (by rw [← hE]; exact h1)
  refine Or.inr ⟨by rw [← hE]; exact h1, ?_, ?_, ?_, fun h0 => ?_⟩
  ·
   rw [← hts]; exact lexT_err (by rw [h1]; decide)
  ·
   rw [← hq]; exact lexP_le s
  ·
   rw [← hq]; exact front_law s h1
  have hm := moved_law f s (by rw [hb]; exact hl) (by rw [hF]; exact h0) h1
  rw [hb] at hm
  refine ⟨by rw [← hG]; exact hm.1, by rw [← hqb, hm.2, hq], ?_⟩
  rw [← htb]; exact lexT_err (by rw [hm.1]; decide)
 have HPE : Hid (b.length ≤ 8000 → kf = 0 → kb = 0 ∨ f.length + 1 ≤ pb) := hid fun hl h0 => by
  have := behind_law f s (by rw [hb]; exact hl) (by rw [hkf]; exact h0)
  rw [hb, hkb, hpb] at this
  exact this
 have HTH := hid (And.intro hth hqh)
 have HBL := hid hbl
 have hszb : (⟨b.toArray⟩ : ByteArray).size = b.length := by simp [ByteArray.size]
 have h3 := str_three f s
 rw [hb] at h3
 clear hM hP hT hts hq hE htf hqf hF htb hqb hG hth hqh hcf hpf hkf hcb hpb hkb hb hbl hf hs
 go_enter Tryz.func8, Tryz.ntmps8
 go_upto_region 5 with (first
  | (go_at_call 11; refine HHD.out.mono ?_; rintro e w1 ⟨rfl, b1⟩; replace b1 := hid b1)
  | (go_at_call 12; with_reducible refine (HLX.out _ s (by have := HFS.out; omega) ts q E H0.out.1 H0.out.2.1 H0.out.2.2).mono ?_; rintro e w2 ⟨b2, Aw2, cw2, rfl, rw2⟩; replace b2 := hid b2; clear rw2)
  | (go_at_call 12; with_reducible refine (HLX.out _ f (by have := HFS.out; omega) tf qf F H1.out.1 H1.out.2.1 H1.out.2.2).mono ?_; rintro e w3 ⟨b3, Aw3, cw3, rfl, rw3⟩; replace b3 := hid b3; clear rw3))
 have B3 := hid (below_on (below_on b1.out b2.out) b3.out)
 clear b1 b2 b3 hc1 hc2
 clear h3
 by_cases hlong : 8000 < b.length
 ·
  have hq : decide ((8000 : Int) < (b.length : Int)) = true := by rw [decide_eq_true_eq]; omega
  clear hlong
  go_wp2_with fail
  go_ret
  exact ⟨rfl, B3.out⟩
 have hq : decide ((8000 : Int) < (b.length : Int)) = false := by rw [decide_eq_false_iff_not]; omega
 replace HBS := hid (HBS.out (by omega))
 replace HPE := hid (HPE.out (by omega))
 replace HFS : Hid (f.length ≤ 8000 ∧ s.length ≤ 8000 ∧ b.length ≤ 8000) := hid (by have := HBL.out; omega)
 clear hlong
 go_upto_region 8 with (go_at_call 12; with_reducible refine (HLX.out _ b (by have := HFS.out; omega) tb qb G H3.out.1 H3.out.2.1 H3.out.2.2).mono ?_; rintro e w4 ⟨b4, Aw4, cw4, rfl, rw4⟩; replace b4 := hid b4; clear rw4)
 have B4 := hid (below_on B3.out b4.out)
 clear B3 b4 H0 H1 H3 hq hszb
 rcases HBS.out with rfl | ⟨rfl, rfl, hql, hle, hFG⟩
 ·
  clear HBS HTH
  go_upto_region 14 with (go_at_call 15; refine (HPA.out _ B4.out f (by have := HFS.out; omega) cf pf kf H2.out.1.1 H2.out.1.2.1 H2.out.1.2.2).mono ?_; rintro e w5 ⟨b5, V0, An0, n0, cn0, Ap0, m0, cp0, Aq0, o0, cq0, rfl, q5⟩; replace b5 := hid b5; clear q5)
  obtain ⟨g1, hg1⟩ : ∃ g1, g1 = w5.heap.size := ⟨_, rfl⟩
  have aw6 : Hid (Below w5.heap.size w5 (w5.alloc (.cells #[.int .i64 V0, .slice An0 n0 cn0, .slice Ap0 m0 cp0, .slice Aq0 o0 cq0] 26))) := hid ((Below.refl _ _).alloc (Nat.le_refl _) _)
  have sw6 : Hid (Blk (w5.alloc (.cells #[.int .i64 V0, .slice An0 n0 cn0, .slice Ap0 m0 cp0, .slice Aq0 o0 cq0] 26)) w5.heap.size 26 #[.int .i64 V0, .slice An0 n0 cn0, .slice Ap0 m0 cp0, .slice Aq0 o0 cq0]) := hid (Blk.new _ _ _)
  rw [← hg1] at sw6 ⊢
  clear hg1
  generalize (w5.alloc (.cells #[.int .i64 V0, .slice An0 n0 cn0, .slice Ap0 m0 cp0, .slice Aq0 o0 cq0] 26)) = w6 at aw6 sw6 ⊢
  have B6 := hid (below_on (below_on B4.out b5.out) aw6.out)
  clear B4 b5 aw6 sw6
  go_upto_region 15 with (go_at_call 15; refine (HPA.out _ B6.out b (by have := HFS.out; omega) cb pb kb H2.out.2.1 H2.out.2.2.1 H2.out.2.2.2).mono ?_; rintro e w7 ⟨b7, V1, An1, n1, cn1, Ap1, m1, cp1, Aq1, o1, cq1, rfl, q7⟩; replace b7 := hid b7; clear q7)
  obtain ⟨g2, hg2⟩ : ∃ g2, g2 = w7.heap.size := ⟨_, rfl⟩
  have aw8 : Hid (Below w7.heap.size w7 (w7.alloc (.cells #[.int .i64 V1, .slice An1 n1 cn1, .slice Ap1 m1 cp1, .slice Aq1 o1 cq1] 26))) := hid ((Below.refl _ _).alloc (Nat.le_refl _) _)
  have sw8 : Hid (Blk (w7.alloc (.cells #[.int .i64 V1, .slice An1 n1 cn1, .slice Ap1 m1 cp1, .slice Aq1 o1 cq1] 26)) w7.heap.size 26 #[.int .i64 V1, .slice An1 n1 cn1, .slice Ap1 m1 cp1, .slice Aq1 o1 cq1]) := hid (Blk.new _ _ _)
  rw [← hg2] at sw8 ⊢
  clear hg2
  generalize (w7.alloc (.cells #[.int .i64 V1, .slice An1 n1 cn1, .slice Ap1 m1 cp1, .slice Aq1 o1 cq1] 26)) = w8 at aw8 sw8 ⊢
  have B8 := hid (below_on (below_on B6.out b7.out) aw8.out)
  clear B6 b7 aw8 sw8 H2
  by_cases hk1 : kf = 0
  case neg =>
   have hq1 : ((kf : Int) != 0) = true := by rw [bne_iff_ne]; omega
   clear hk1
   go_wp2_with fail
   go_ret
   exact ⟨rfl, B8.out⟩
  subst hk1
  by_cases hk2 : kb = 0
  ·
   subst hk2
   go_wp2_with fail
   go_ret
   exact ⟨rfl, B8.out⟩
  have hk3 : f.length + 1 ≤ pb := by
   rcases HPE.out rfl with h | h
   ·
    exact absurd h hk2
   exact h
  have hq2 : ((kb : Int) == 0) = false := by rw [beq_eq_false_iff_ne]; omega
  have hq3 : decide ((f.length : Int) + 1 ≤ (pb : Int)) = true := by rw [decide_eq_true_eq]; omega
  have hfl8 := HFS.out.1
  clear hk2 hk3
  go_wp2_with fail
  go_ret
  exact ⟨rfl, B8.out⟩
 have HFG := hid hFG
 have HQL : Hid (s.length ≤ 8000 ∧ lexE (s.take q) = 0) := hid ⟨by have := HFS.out; omega, hle⟩
 have hat : decide ((s.length : Int) < (q : Int)) = false := by rw [decide_eq_false_iff_not]; omega
 have hex := ext_to s q
 have HU : Hid ((s.take q).length ≤ 8000) := hid (by have := HFS.out; rw [List.length_take]; omega)
 have H4 : Hid (lexT (s.take q) = th ∧ lexP (s.take q) = qh ∧ lexE (s.take q) = 0) := hid ⟨HTH.out.1, HTH.out.2, hle⟩
 clear hFG hle HBS HTH
 obtain ⟨u, hu⟩ : ∃ u, u = s.take q := ⟨_, rfl⟩
 rw [← hu] at hex HU H4
 clear hu
 have B4' := B4
 clear B4
 by_cases hF0 : F = 0
 ·
  subst hF0
  obtain ⟨rfl, hqb, rfl⟩ := HFG.out rfl
  have hmv : (q : Int) + (f.length : Int) + 1 = (qb : Int) := by omega
  have hb8 := HFS.out
  obtain ⟨hb8f, hb8s, -⟩ := hb8
  clear hqb HFG
  go_upto_region 13 with (go_at_call 12; with_reducible refine (HLX.out _ u (by have := HU.out; omega) th qh 0 H4.out.1 H4.out.2.1 H4.out.2.2).mono ?_; rintro e w9 ⟨b9, Aw9, cw9, rfl, rw9⟩; replace b9 := hid b9; clear rw9)
  have B4 := hid (below_on B4'.out b9.out)
  clear B4' b9 hat hex hmv HQL HU H4 hb8f hb8s
  go_upto_region 14 with (go_at_call 15; refine (HPA.out _ B4.out f (by have := HFS.out; omega) cf pf kf H2.out.1.1 H2.out.1.2.1 H2.out.1.2.2).mono ?_; rintro e w5 ⟨b5, V0, An0, n0, cn0, Ap0, m0, cp0, Aq0, o0, cq0, rfl, q5⟩; replace b5 := hid b5; clear q5)
  obtain ⟨g1, hg1⟩ : ∃ g1, g1 = w5.heap.size := ⟨_, rfl⟩
  have aw6 : Hid (Below w5.heap.size w5 (w5.alloc (.cells #[.int .i64 V0, .slice An0 n0 cn0, .slice Ap0 m0 cp0, .slice Aq0 o0 cq0] 26))) := hid ((Below.refl _ _).alloc (Nat.le_refl _) _)
  have sw6 : Hid (Blk (w5.alloc (.cells #[.int .i64 V0, .slice An0 n0 cn0, .slice Ap0 m0 cp0, .slice Aq0 o0 cq0] 26)) w5.heap.size 26 #[.int .i64 V0, .slice An0 n0 cn0, .slice Ap0 m0 cp0, .slice Aq0 o0 cq0]) := hid (Blk.new _ _ _)
  rw [← hg1] at sw6 ⊢
  clear hg1
  generalize (w5.alloc (.cells #[.int .i64 V0, .slice An0 n0 cn0, .slice Ap0 m0 cp0, .slice Aq0 o0 cq0] 26)) = w6 at aw6 sw6 ⊢
  have B6 := hid (below_on (below_on B4.out b5.out) aw6.out)
  clear B4 b5 aw6 sw6
  go_upto_region 15 with (go_at_call 15; refine (HPA.out _ B6.out b (by have := HFS.out; omega) cb pb kb H2.out.2.1 H2.out.2.2.1 H2.out.2.2.2).mono ?_; rintro e w7 ⟨b7, V1, An1, n1, cn1, Ap1, m1, cp1, Aq1, o1, cq1, rfl, q7⟩; replace b7 := hid b7; clear q7)
  obtain ⟨g2, hg2⟩ : ∃ g2, g2 = w7.heap.size := ⟨_, rfl⟩
  have aw8 : Hid (Below w7.heap.size w7 (w7.alloc (.cells #[.int .i64 V1, .slice An1 n1 cn1, .slice Ap1 m1 cp1, .slice Aq1 o1 cq1] 26))) := hid ((Below.refl _ _).alloc (Nat.le_refl _) _)
  have sw8 : Hid (Blk (w7.alloc (.cells #[.int .i64 V1, .slice An1 n1 cn1, .slice Ap1 m1 cp1, .slice Aq1 o1 cq1] 26)) w7.heap.size 26 #[.int .i64 V1, .slice An1 n1 cn1, .slice Ap1 m1 cp1, .slice Aq1 o1 cq1]) := hid (Blk.new _ _ _)
  rw [← hg2] at sw8 ⊢
  clear hg2
  generalize (w7.alloc (.cells #[.int .i64 V1, .slice An1 n1 cn1, .slice Ap1 m1 cp1, .slice Aq1 o1 cq1] 26)) = w8 at aw8 sw8 ⊢
  have B8 := hid (below_on (below_on B6.out b7.out) aw8.out)
  clear B6 b7 aw8 sw8 H2
  by_cases hk1 : kf = 0
  case neg =>
   have hq1 : ((kf : Int) != 0) = true := by rw [bne_iff_ne]; omega
   clear hk1
   go_wp2_with fail
   go_ret
   exact ⟨rfl, B8.out⟩
  subst hk1
  by_cases hk2 : kb = 0
  ·
   subst hk2
   go_wp2_with fail
   go_ret
   exact ⟨rfl, B8.out⟩
  have hk3 : f.length + 1 ≤ pb := by
   rcases HPE.out rfl with h | h
   ·
    exact absurd h hk2
   exact h
  have hq2 : ((kb : Int) == 0) = false := by rw [beq_eq_false_iff_ne]; omega
  have hq3 : decide ((f.length : Int) + 1 ≤ (pb : Int)) = true := by rw [decide_eq_true_eq]; omega
  have hfl8 := HFS.out.1
  clear hk2 hk3
  go_wp2_with fail
  go_ret
  exact ⟨rfl, B8.out⟩
 have hF1 : ((F : Int) != 0) = true := by rw [bne_iff_ne]; omega
 clear hF0 HFG
 go_upto_region 13 with (go_at_call 12; with_reducible refine (HLX.out _ u (by have := HU.out; omega) th qh 0 H4.out.1 H4.out.2.1 H4.out.2.2).mono ?_; rintro e w9 ⟨b9, Aw9, cw9, rfl, rw9⟩; replace b9 := hid b9; clear rw9)
 have B4 := hid (below_on B4'.out b9.out)
 clear B4' b9 hat hex HQL HU H4 hF1
 go_upto_region 14 with (go_at_call 15; refine (HPA.out _ B4.out f (by have := HFS.out; omega) cf pf kf H2.out.1.1 H2.out.1.2.1 H2.out.1.2.2).mono ?_; rintro e w5 ⟨b5, V0, An0, n0, cn0, Ap0, m0, cp0, Aq0, o0, cq0, rfl, q5⟩; replace b5 := hid b5; clear q5)
 obtain ⟨g1, hg1⟩ : ∃ g1, g1 = w5.heap.size := ⟨_, rfl⟩
 have aw6 : Hid (Below w5.heap.size w5 (w5.alloc (.cells #[.int .i64 V0, .slice An0 n0 cn0, .slice Ap0 m0 cp0, .slice Aq0 o0 cq0] 26))) := hid ((Below.refl _ _).alloc (Nat.le_refl _) _)
 have sw6 : Hid (Blk (w5.alloc (.cells #[.int .i64 V0, .slice An0 n0 cn0, .slice Ap0 m0 cp0, .slice Aq0 o0 cq0] 26)) w5.heap.size 26 #[.int .i64 V0, .slice An0 n0 cn0, .slice Ap0 m0 cp0, .slice Aq0 o0 cq0]) := hid (Blk.new _ _ _)
 rw [← hg1] at sw6 ⊢
 clear hg1
 generalize (w5.alloc (.cells #[.int .i64 V0, .slice An0 n0 cn0, .slice Ap0 m0 cp0, .slice Aq0 o0 cq0] 26)) = w6 at aw6 sw6 ⊢
 have B6 := hid (below_on (below_on B4.out b5.out) aw6.out)
 clear B4 b5 aw6 sw6
 go_upto_region 15 with (go_at_call 15; refine (HPA.out _ B6.out b (by have := HFS.out; omega) cb pb kb H2.out.2.1 H2.out.2.2.1 H2.out.2.2.2).mono ?_; rintro e w7 ⟨b7, V1, An1, n1, cn1, Ap1, m1, cp1, Aq1, o1, cq1, rfl, q7⟩; replace b7 := hid b7; clear q7)
 obtain ⟨g2, hg2⟩ : ∃ g2, g2 = w7.heap.size := ⟨_, rfl⟩
 have aw8 : Hid (Below w7.heap.size w7 (w7.alloc (.cells #[.int .i64 V1, .slice An1 n1 cn1, .slice Ap1 m1 cp1, .slice Aq1 o1 cq1] 26))) := hid ((Below.refl _ _).alloc (Nat.le_refl _) _)
 have sw8 : Hid (Blk (w7.alloc (.cells #[.int .i64 V1, .slice An1 n1 cn1, .slice Ap1 m1 cp1, .slice Aq1 o1 cq1] 26)) w7.heap.size 26 #[.int .i64 V1, .slice An1 n1 cn1, .slice Ap1 m1 cp1, .slice Aq1 o1 cq1]) := hid (Blk.new _ _ _)
 rw [← hg2] at sw8 ⊢
 clear hg2
 generalize (w7.alloc (.cells #[.int .i64 V1, .slice An1 n1 cn1, .slice Ap1 m1 cp1, .slice Aq1 o1 cq1] 26)) = w8 at aw8 sw8 ⊢
 have B8 := hid (below_on (below_on B6.out b7.out) aw8.out)
 clear B6 b7 aw8 sw8 H2
 by_cases hk1 : kf = 0
 case neg =>
  have hq1 : ((kf : Int) != 0) = true := by rw [bne_iff_ne]; omega
  clear hk1
  go_wp2_with fail
  go_ret
  exact ⟨rfl, B8.out⟩
 subst hk1
 by_cases hk2 : kb = 0
 ·
  subst hk2
  go_wp2_with fail
  go_ret
  exact ⟨rfl, B8.out⟩
 have hk3 : f.length + 1 ≤ pb := by
  rcases HPE.out rfl with h | h
  ·
   exact absurd h hk2
  exact h
 have hq2 : ((kb : Int) == 0) = false := by rw [beq_eq_false_iff_ne]; omega
 have hq3 : decide ((f.length : Int) + 1 ≤ (pb : Int)) = true := by rw [decide_eq_true_eq]; omega
 have hfl8 := HFS.out.1
 clear hk2 hk3
 go_wp2_with fail
 go_ret
 exact ⟨rfl, B8.out⟩
end Go.Proofs.YtcjhihmaegagdaaGreatDoor
namespace Go.Proofs.YtcjhihmaegagdaaGreatDoor
open Go.ChangeShapes Go.WideShapes Go.ChangeAt Go.RowKit
theorem notationErrors_lifted (os : Os) (started : os.Started) (H : Type) (enc : TypeId × Value → H) :
  ReturnsInHanded {} Tryz.checked os 8 .any (fun w args => (Rows.notationErrorsSpec.pre enc Tryz.prog Tryz.f8 [] false w args ∧ laidMetH Tryz.prog Laid0 w) ∧ sizedMet enc Tryz.prog Tryz.f8 (OpenSpec.ofChange Rows.notationErrorsSpec) false w args)
   (Rows.notationErrorsSpec.post enc Tryz.prog Tryz.f8 false true false false) := by
 refine returns_and_shaped (C := Tryz.checked) (X := fun w _ => laidMetH Tryz.prog Laid0 w) (fun _ _ _ hh h => h.of_heap hh) own0 started (by kernel_rfl) Tryz.func8
  (ChangeSpec.witness_shaped (enc := enc) (C := Tryz.checked) (os := os) (X := fun w _ => laidMetH Tryz.prog Laid0 w) false (World.laidAll Tryz.prog os Laid0) #[.string ⟨#[]⟩, .string ⟨#[]⟩] 8 (World.laidAll_os _ _ _) (World.shaped_of_ZipB (by kernel_rfl) (by kernel_rfl)) (by kernel_rfl) (by kernel_rfl) (by kernel_rfl) (laid_met0 os _)) ?_
 intro W base args ds gs before hval0 hW _ hsz0 hL hshape _
 have hval : ∀ (j : Nat) t v, Tryz.f8.params[j]? = some t → args[j]? = some v → Value.okWide Tryz.prog W .any base t v := hval0
 have hW' := hW
 obtain ⟨p, q, hA0, hV, rfl, _, _⟩ := hW
 have hA : DataW.TrodAll enc Tryz.prog W 0 (fun _ => true) true Tryz.f8.params.toList args.toList ds p := hA0
 rw [Tryz.params8] at hA hval
 have hsz : (DataW.weightsEach Tryz.prog (Tryz.f8.params.toList ++ Rows.notationErrorsSpec.plain.varTypes Tryz.prog) (ds ++ gs)).all (· ≤ reachBytes) = true := hsz0
 clear hsz0
 rw [Tryz.params8] at hsz
 obtain ⟨v0, vs0, d0, ds0, p0, q0, hargs, rfl, rfl, h0, t0⟩ := trodAll_cons hA
 obtain ⟨v1, vs1, d1, ds1, p1, q1, rfl, rfl, rfl, h1, t1⟩ := trodAll_cons t0
 obtain ⟨rfl, rfl, rfl⟩ := trodAll_nil t1
 obtain rfl : args = #[v0, v1] := Array.toList_inj.1 hargs
 obtain ⟨rfl, rfl⟩ := trodVars_none hV
 obtain ⟨f, rfl, rfl, -, e0⟩ := open_str (hval 0 _ v0 rfl rfl) h0
 have n0 : f.length ≤ 140737488351232 := sized_string (j := 0) (t := 9) hsz rfl (by rw [e0]; rfl)
 obtain ⟨s, rfl, rfl, -, e1⟩ := open_str (hval 1 _ v1 rfl rfl) h1
 have n1 : s.length ≤ 140737488351232 := sized_string (j := 1) (t := 9) hsz rfl (by rw [e1]; rfl)
 clear hA0 hval0 hA
 simp only [List.append_nil] at hW'
 have hlt := hW'.lt
 refine (errors_any W f s (by omega) (by omega) (maxl_of_shape hshape) (primes_of_laid hL) (tab_of_laid hL)).mono fun e W' ⟨he, hb⟩ => ?_
 subst he
 exact ⟨_, rfl, _, _, _, [], _, [], hW', trodAll_mk1 (shut_bool Tryz.underlying4 true), trodAll_mk2 (Below.trod laidOut0 (by kernel_rfl) (of_decide_eq_true (by kernel_rfl)) h0 hb (fun x hx => hlt x (by (try simp at hx) <;> (try simp [hx])))) (Below.trod laidOut0 (by kernel_rfl) (of_decide_eq_true (by kernel_rfl)) h1 hb (fun x hx => hlt x (by (try simp at hx) <;> (try simp [hx])))), rfl, hb.frame _, fun h => by cases h⟩
theorem notationErrors_said : Rows.NotationErrorsSaid :=
 OpenClaim.holds_of_wide 8 Tryz.f8 rfl rfl rfl rfl rfl rfl rfl ⟨rfl, rfl, rfl, rfl, rfl⟩ rfl rfl rfl rfl rfl (by kernel_rfl) Tryz.func8 (by kernel_rfl)
  (of_decide_eq_true (by kernel_rfl)) (by unfold Func.isWrapper; first | (rw [if_pos (by decide +kernel)]; kernel_rfl) | (rw [if_neg (by decide +kernel)]; exact ⟨rfl, rfl⟩))
  (fun os started H enc _ => notationErrors_lifted os started H enc)
theorem notationErrors_card : Rows.NotationErrorsCardSaid :=
 Claim7.holds_tied_plain_at .later [] [.data, .data, .data, .data, .sentinel, .sentinel, .data, .pinned] true Rows.notationErrorsCard.stood.harness Rows.notationErrorsCard.stood.looks
  notationErrors_said (fun _ h => by cases h) (by kernel_rfl) (fun _ h => by cases h) notationErrors_row_tie rfl ⟨rfl, rfl⟩ (by kernel_rfl) rfl
  (fun f fn hf hfn => by
   obtain rfl : f = 8 := Option.some.inj ((show Tryz.prog.funcNamed "schisma/schismalaw20.NotationErrors" = some 8 by kernel_rfl).symm.trans hf) |>.symm
   obtain rfl : fn = Tryz.f8 := (Option.some.inj (Tryz.func8.symm.trans hfn)).symm
   exact ⟨by kernel_rfl, fun j t ht => by
    rw [Tryz.params8] at ht
    have hm : t ∈ [9] := by
     have := Array.mem_of_getElem? ht
     simpa using this
    have hall : ([9].all fun u => !Tryz.prog.wantsStandIn u) = true := by kernel_rfl
    exact (show Tryz.prog.wantsStandIn t = false by simpa using List.all_eq_true.1 hall t hm)⟩)
  (by kernel_rfl)
end Go.Proofs.YtcjhihmaegagdaaGreatDoor
