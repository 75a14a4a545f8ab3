/- The tied card of NotationTokens: for every source that can be read as data, where the package-level variables hold what the program's text lays into them, NotationTokens returns true and its arguments read as before. -/
import Derived.Test.YtcjhihmaegagdaaGreatDoorTie
import Derived.Test.YtcjhihmaegagdaaGreatDoorCards
import Derived.Test.YtcjhihmaegagdaaGreatDoorK5
import Derived.ProofKit
import Derived.LaidMore
import Derived.LaidHandle
import Derived.OpenShut
import Derived.SizedLaws
import Derived.JoinedOf
import Derived.ChangeSame
import Derived.ChangeVars
import Derived.RowKitTokens
import Derived.Stop.Joined
import Derived.Lib.LaidTab
import Derived.SevenTiedAt
import Derived.Lay
import Derived.LaidSub
import Derived.MakeChecks
import Derived.Deep.Slices
import Derived.HandedShaped
import Derived.Shelf.Vars
import Derived.Test.YtcjhihmaegagdaaGreatDoorK4
import Derived.Test.YtcjhihmaegagdaaGreatDoorG9
set_option maxRecDepth 100000
set_option maxHeartbeats 8000000
set_option linter.unusedSimpArgs false
set_option linter.unusedVariables false
set_option linter.unusedSectionVars false
set_option linter.unnecessarySimpa false
namespace Go.Proofs.YtcjhihmaegagdaaGreatDoor
open Go.ChangeShapes Go.WideShapes Go.ChangeAt Go.RowKit
open Go.ChangeMaps (open_string)
theorem own0 : ownKnob Tryz.prog.godebug = none := by kernel_rfl
theorem laidOut0 : laidOutB Tryz.prog = true := by kernel_rfl
theorem g_pow10 : Tryz.prog.globalNamed "internal/strconv.uint64pow10" = some 4 := by kernel_rfl
theorem ty_pow10 : (Tryz.prog.globals[4]?).map (·.type) = some 209 := by kernel_rfl
theorem g_primes : Tryz.prog.globalNamed "schisma/pitch.primes" = some 3 := by kernel_rfl
theorem ty_primes : (Tryz.prog.globals[3]?).map (·.type) = some 52 := by kernel_rfl
abbrev Laid0 : List (String × DataW Unit) := [("math/bits.deBruijn32tab", Rows.laid_math_bits_deBruijn32tab), ("math/bits.deBruijn64tab", Rows.laid_math_bits_deBruijn64tab), ("internal/strconv.uint64pow10", Rows.laid_internal_strconv_uint64pow10), ("unicode/utf8.acceptRanges", Rows.laid_unicode_utf8_acceptRanges), ("strconv.ErrRange", Rows.laid_strconv_ErrRange), ("strconv.ErrSyntax", Rows.laid_strconv_ErrSyntax), ("schisma/pitch.primes", Rows.laid_schisma_pitch_primes), ("unicode/utf8.first", Rows.laid_unicode_utf8_first)]
theorem tab_of_laid {W : World} (h : laidMetH Tryz.prog Laid0 W) : Tab W := by
 have h1 := laidMetH.filter (fun x => x.1 == "internal/strconv.uint64pow10") h
 have h2 : laidMetH Tryz.prog [("internal/strconv.uint64pow10", Rows.laid_internal_strconv_uint64pow10)] W := h1
 rw [MakeChecks.laidMetH_plain _ _ _ (by kernel_rfl)] at h2
 have ht : Tryz.prog.cellsOf 209 = 20 := by kernel_rfl
 have hc : Tryz.prog.cellsOf 166 = 1 := by kernel_rfl
 exact Lib.tabIs_of_head (rest := []) g_pow10 ty_pow10 Tryz.underlying209 Tryz.underlying166 hc ht h2
theorem primes_of_laid {W : World} (h : laidMetH Tryz.prog Laid0 W) : Primes W := by
 have h1 := laidMetH.filter (fun x => x.1 == "schisma/pitch.primes") h
 have h2 : laidMetH Tryz.prog [("schisma/pitch.primes", Rows.laid_schisma_pitch_primes)] W := h1
 rw [MakeChecks.laidMetH_plain _ _ _ (by kernel_rfl)] at h2
 have ht : Tryz.prog.cellsOf 52 = 6 := by kernel_rfl
 have hc : Tryz.prog.cellsOf 3 = 1 := by kernel_rfl
 have h3 : Lib.TabIs Tryz.prog W "schisma/pitch.primes" .i64 [2, 3, 5, 7, 11, 13] := Lib.tabIs_of_head (rest := []) g_primes ty_primes Tryz.underlying52 Tryz.underlying3 hc ht h2
 intro j hj
 rw [h3.cell g_primes j hj]
 have : j = 0 ∨ j = 1 ∨ j = 2 ∨ j = 3 ∨ j = 4 ∨ j = 5 := by omega
 rcases this with rfl | rfl | rfl | rfl | rfl | rfl <;> rfl
theorem maxl_of_shape {W : World} (h : W.ShapedOpen Tryz.prog) : MaxL W :=
 cell_of_shapedOpen_int (t := 3) (zero := #[.int .i64 0]) h (of_decide_eq_true (by kernel_rfl)) (by kernel_rfl) rfl (by kernel_rfl) (by kernel_rfl) Tryz.underlying3
theorem returns_and_shaped {H : Type} {enc : TypeId × Value → H} {a : Assume} {C : Checked} {os : Os} {f : FuncId} {fn : Func} {s : ChangeSpec} {conds : List PathCond} {apart fresh handsOn again : Bool} {X : World → Array Value → Prop}
  (hX : ∀ (w w' : World) (args : Array Value), w.heap = w'.heap → X w args → X w' args)
  (own : ownKnob C.prog.godebug = none) (started : os.Started) (noInit : C.prog.inits.idxOf? f = none) (hfn : C.prog.funcs[f]? = some fn)
  (witness : ∃ (w : World) (tape : Tape) (i : Input), w.os = os ∧ (w.forCall tape i).Shaped C.prog ∧ i.vars = [] ∧ Input.okWide C.prog (w.forCall tape i) .any w.heap.size f i ∧
   ((s.pre enc C.prog fn conds apart (w.forCall tape i).memory i.args ∧ X (w.forCall tape i).memory i.args) ∧ sizedMet enc C.prog fn (OpenSpec.ofChange s) apart (w.forCall tape i).memory i.args) ∧ a.holds C.prog (lone (Frame.enter C.prog f i.args .normal) [] (w.forCall tape i)))
  (contract : ∀ (W : World) (base : Nat) (args : Array Value) (ds gs : List (DataW H)) (before : List MemPlace),
   (∀ (j : Nat) t v, fn.params[j]? = some t → args[j]? = some v → Value.okWide C.prog W .any base t v) →
   DataW.Whole enc C.prog fn.params.toList s.vars apart W args.toList ds gs before →
   conds.all (PathCond.test C.prog ⟨fn.params.toList, ds, s.plain.varTypes C.prog, gs⟩) = true →
   (DataW.weightsEach C.prog (fn.params.toList ++ s.plain.varTypes C.prog) (ds ++ gs)).all (· ≤ reachBytes) = true → X W args →
   W.ShapedOpen C.prog →
   a.holds C.prog (lone (Frame.enter C.prog f args .normal) [] W) →
   Calls C.prog f args W fun e W' => ∃ v, e = .returned v ∧ s.post enc C.prog fn apart fresh handsOn again W args v W') :
  ReturnsInHanded a C os f .any (fun w args => (s.pre enc C.prog fn conds apart w args ∧ X w args) ∧ sizedMet enc C.prog fn (OpenSpec.ofChange s) apart w args) (s.post enc C.prog fn apart fresh handsOn again) := by
 refine returnsInHanded_of_calls own started noInit witness ?_
 intro w tape i _ hsh _ hok hpre hholds
 obtain ⟨_, _, _, fn', hfn', _, _, _, _, hval⟩ := hok
 have e : fn' = fn := Option.some.inj (hfn'.symm.trans hfn)
 subst e
 obtain ⟨⟨⟨ds, gs, before, hw, hc⟩, hx⟩, hz⟩ := hpre
 have hw' := DataW.Whole.of_heap (w' := w.forCall tape i) (by rfl) hw
 refine (contract (w.forCall tape i) w.heap.size i.args ds gs before hval hw' hc (hz.weights hw) (hX _ _ _ (by rfl) hx) hsh hholds).mono fun e W' ⟨v, he, hp⟩ => ?_
 subst he
 exact ChangeSpec.post_blind hp
theorem laid_met0 (os : Os) (args : Array Value) : laidMetH Tryz.prog Laid0 ((World.laidAll Tryz.prog os Laid0).forCall (fun _ _ => 0) ⟨#[], args, []⟩).memory := by
 rw [MakeChecks.laidMetH_plain _ _ _ (by kernel_rfl)]
 exact laidMet_laidAll _ (by kernel_rfl) (by kernel_rfl)
section
variable {H : Type} {enc : TypeId × Value → H} {w : World} {base : Nat} {sp : Nat → Bool} {held : Bool}
theorem open_str {r : Reach} {b0 : Nat} {v : Value} {d : DataW H} {ps : List MemPlace} (hval : Value.okWide Tryz.prog w r b0 9 v) (hd : DataW.Trod enc Tryz.prog w base sp held 9 v d ps) :
  ∃ l : List UInt8, v = str l ∧ ps = [] ∧ l.length ≤ 9223372036854775807 ∧ d = .lit (.string l) := by
 obtain ⟨s, rfl, rfl, rfl, hs⟩ := open_string Tryz.underlying9 hval hd
 refine ⟨s.data.toList, rfl, rfl, ?_, rfl⟩
 rw [Array.length_toList]
 unfold maxLen at hs
 exact hs
end
end Go.Proofs.YtcjhihmaegagdaaGreatDoor
namespace Go.Proofs.YtcjhihmaegagdaaGreatDoor
open Go.RowKit Go.Deep
theorem same_at {l m : List Tok} (h : Same l m) : l.map (tokAt false) = m.map (tokAt false) := by
 have e : ∀ l : List Tok, l.map (tokAt false) = (l.map Tok.key).map fun k => ⟨k.kind, 0, k.n, k.text⟩ := fun l => by
  rw [List.map_map]; rfl
 rw [e, e, show l.map Tok.key = m.map Tok.key from h]
theorem ext_tok (s : List UInt8) (p n : Nat) (u : List UInt8) (h : (s.drop p).take n = u) : (⟨s.toArray⟩ : ByteArray).extract p (p + n) = ⟨u.toArray⟩ := by
 apply ByteArray.ext
 simp [ByteArray.data_extract, List.extract_eq_take_drop, h]
theorem tokens_law_any (w : World) (s : List UInt8) (hs : s.length ≤ 4611686018427387904) (hM : MaxL w) (hP : Primes w) (hT : Tab w) : Calls Tryz.prog 4 #[str s] w fun e w' => e = .returned (.bool true) ∧ Below w.heap.size w w' := by
 have HHD := hid (head_any w hM hP hT)
 have HLX : Hid (∀ W (x : List UInt8), x.length ≤ 4611686018427387904 → ∀ ts p k, lexT x = ts → lexP x = p → lexE x = k → Calls Tryz.prog 12 #[str x] W fun e w' => Below W.heap.size W w' ∧ ∃ A c, e = .returned (.tuple #[.slice A ts.length c, .int .i64 (p : Nat), .int .i64 (k : Nat)]) ∧ RdT w' w'.heap.size A ts) := hid fun W x hx ts p k h1 h2 h3 => by
  have h := lex_any W x (by omega)
  unfold LexEnds at h
  rw [h1, h2, h3] at h
  exact h.mono fun e w' ⟨b, A, c, e1, e2, _⟩ => ⟨b, A, c, e1, e2⟩
 have hsz : (⟨s.toArray⟩ : ByteArray).size = s.length := by simp [ByteArray.size]
 obtain ⟨ts, hts⟩ : ∃ ts, lexT s = ts := ⟨_, rfl⟩
 obtain ⟨q, hq⟩ : ∃ q, lexP s = q := ⟨_, rfl⟩
 obtain ⟨E, hE⟩ : ∃ E, lexE s = E := ⟨_, rfl⟩
 have HS := hid hs
 have H0 := hid (And.intro hts (And.intro hq hE))
 have HBAD : Hid (E ≠ 0 → ts = [] ∧ q ≤ s.length) := hid fun h => ⟨by rw [← hts]; exact lexT_err (by rw [hE]; exact h), by rw [← hq]; exact lexP_le s⟩
 have HGOOD : Hid (E = 0 → s.length ≤ 8000 ∧ StandL s 0 ts ∧ (¬ 8000 < (joinL ts 32).length → lexE (joinL ts 32) = 0 ∧ Same ts (lexT (joinL ts 32)))) := hid fun h => by
  rw [← hts]
  exact ⟨(lexE_ok (by rw [hE]; exact h)).1, stand_tokens (by rw [hE]; exact h), fun hl => join_lex 32 (Or.inl rfl) s (by omega)⟩
 have HTL : Hid (ts.length ≤ 8000 ∧ (joinL ts 32).length ≤ 16000) := hid (by rw [← hts]; exact ⟨lexT_len s, joinT_len s 32⟩)
 clear hM hP hT hts hq hE hs
 go_enter Tryz.func4, Tryz.ntmps4
 go_upto_region 3 with (first
  | (go_at_call 11; refine HHD.out.mono ?_; rintro e w1 ⟨rfl, b1⟩; replace b1 := hid b1)
  | (go_at_call 12; refine (HLX.out _ s HS.out ts q E H0.out.1 H0.out.2.1 H0.out.2.2).mono ?_; rintro e w2 ⟨b2, A, cA, rfl, r2⟩; replace b2 := hid b2; replace r2 := hid r2))
 have B2 := hid (below_on b1.out b2.out)
 clear b1 b2 H0 HS
 by_cases h0 : E = 0
 case neg =>
  obtain ⟨rfl, hql⟩ := HBAD.out h0
  have hk1 : ((E : Int) != 0) = true := by rw [bne_iff_ne]; omega
  have hp1 : decide ((q : Int) ≤ (s.length : Int)) = true := by rw [decide_eq_true_eq]; omega
  have hp0 : decide ((0 : Int) ≤ (q : Int)) = true := by rw [decide_eq_true_eq]; omega
  clear h0 HBAD HGOOD
  go_wp2_with fail
  go_ret
  exact ⟨rfl, B2.out⟩
 subst h0
 obtain ⟨hs8, hst, hjl⟩ := HGOOD.out rfl
 have HS8 := hid hs8
 have HST := hid hst
 have HJL := hid hjl
 obtain ⟨n, hn⟩ : ∃ n, n = ts.length := ⟨_, rfl⟩
 have HN := hid hn
 have hn8 : n ≤ 8000 := by rw [hn]; exact HTL.out.1
 rw [← hn]
 clear HBAD HGOOD hs8 hst hjl hn
 go_upto_region 7 with (fail)
 rw [show ((0 : Nat) : Int) = 0 from rfl]
 go_loopw [7, 8] (fun e i wx => ∃ (j : Nat), j ≤ n ∧ i = .int .i64 j ∧ e = .int .i64 (endT ts j : Nat) ∧ Hid (Below w2.heap.size w2 wx)) (fun _ i _ => n - (intOf i).toNat)
 case atStart => exact ⟨0, Nat.zero_le _, rfl, rfl, hid (Below.refl _ _)⟩
 case round =>
  obtain ⟨j, hj, rfl, rfl, HB⟩ := hrel
  by_cases hlt : j < n
  ·
   have hjl : j < ts.length := by rw [← HN.out]; exact hlt
   obtain ⟨ad, rfl, lx⟩ := rdt_load r2.out (Nat.le_refl _) HB.out (i := j) hjl
   have lx0 := lx _ (Below.refl _ _)
   obtain ⟨x, hx⟩ : ∃ x, x = ts.getD j tok0 := ⟨_, rfl⟩
   have hxe : x = ts[j] := by rw [hx, List.getD_eq_getElem?_getD, List.getElem?_eq_getElem hjl]; rfl
   rw [← hx] at lx0
   obtain ⟨a1, a2, a3, a4, a5⟩ := stand_at s ts 0 HST.out j hjl
   rw [if_zero] at a1 a5
   rw [← hxe] at a1 a2 a3 a4 a5
   have HEN : Hid (x.pos + x.text.length = endT ts (j + 1)) := hid (by rw [hx]; rfl)
   have HA := hid (And.intro a1 (And.intro a2 (And.intro a3 (And.intro a4 a5))))
   obtain ⟨en, hen⟩ : ∃ en, en = endT ts j := ⟨_, rfl⟩
   rw [← hen] at HA ⊢
   clear hx hxe lx a1 a2 a3 a4 a5 hjl hen
   go_upto_region 10 with (first | (refine wpList_lda rfl 40 (.tmp 47) rfl _ x.cells rfl lx0 ?_; try simp only [Act.put, sS]) | (refine wpList_put rfl 40 (.tmp 9) (.tmp 48) rfl wr.heap.size x.cells rfl rfl 40 tok0.cells (Blk.new wr _ _) size_T rfl x.all_one ?_; intro w4 b4 g4 z4; replace b4 := hid b4; replace g4 := hid g4; replace z4 := hid z4; try simp only [Act.put, sS]))
   have B4 : Hid (Below wr.heap.size wr w4) := hid (((Below.refl _ _).alloc (Nat.le_refl _) _).grown g4.out (by simp) (fun b e => by injection e with e; omega))
   have W4 := hid (below_on HB.out B4.out)
   clear lx0 g4 z4 B4 HB
   obtain ⟨g, hg⟩ : ∃ g, g = wr.heap.size := ⟨_, rfl⟩
   rw [← hg] at b4 ⊢
   clear hg
   obtain ⟨kd, p, nn, u⟩ := x
   have HA' : Hid (en ≤ p ∧ p + u.length ≤ s.length ∧ u ≠ [] ∧ (s.drop p).take u.length = u ∧ gapA (sseg s en p) = true) := HA
   have HEN' : Hid (p + u.length = endT ts (j + 1)) := HEN
   have k1 : w4.cell? ⟨g, 1, none⟩ = some (.int .i64 (p : Nat)) := b4.out.cell 1
   have k3 : w4.cell? ⟨g, 3, none⟩ = some (str u) := b4.out.cell 3
   have h1 := HA'.out.1
   have h2 := HA'.out.2.1
   have h3 : 0 < u.length := List.length_pos_iff.2 HA'.out.2.2.1
   have hex := ext_tok s p u.length u HA'.out.2.2.2.1
   have HGP : Hid (∀ W, Calls Tryz.prog 20 #[str s, .int .i64 (en : Int), .int .i64 (p : Int)] W fun e w' => e = .returned (.bool true) ∧ w' = W) := hid fun W => gap_any W s en p (by have := HS8.out; omega) h1 (by omega) HA'.out.2.2.2.2
   have hsb := HS8.out
   have d1 : decide ((p : Int) < (en : Int)) = false := by rw [decide_eq_false_iff_not]; omega
   have d2 : decide ((s.length : Int) < (p : Int)) = false := by rw [decide_eq_false_iff_not]; omega
   have d3 : decide ((s.length : Int) - (p : Int) < (u.length : Int)) = false := by rw [decide_eq_false_iff_not]; omega
   have d4 : ((u.length : Int) == 0) = false := by rw [beq_eq_false_iff_ne]; omega
   have d5 : IntKind.i64.wrap ((p : Int) + (u.length : Int)) = ((p + u.length : Nat) : Int) := by rw [IntKind.wrap_i64]; omega
   have HU : Hid (0 < u.length) := hid h3
   clear HA HEN b4 h3
   go_upto_region 12 with (fail)
   go_quiet ((go_at_call 20; exact Calls.quiet_of_same (HGP.out _)))
   have h12 : p ≤ s.length := by omega
   clear hex HGP d1 d2 d3 d4 d5 HA'
   go_wp2
   go_roundw
   case rel => exact ⟨j + 1, by omega, by go_num, (by rw [← HEN'.out]; rfl), hid ⟨W4.out.os, W4.out.tape, W4.out.output, W4.out.size, W4.out.block⟩⟩
   case measure => simp [intOf]; omega
  obtain rfl : j = n := by omega
  have hl := stand_last s ts 0 HST.out
  rw [← HN.out, if_zero] at hl
  obtain ⟨en, hen⟩ : ∃ en, en = endT ts j := ⟨_, rfl⟩
  rw [← hen] at hl ⊢
  have BW := hid (below_on B2.out HB.out)
  have rW := hid (RdT.up r2.out HB.out)
  have HGP : Hid (∀ W, Calls Tryz.prog 20 #[str s, .int .i64 (en : Int), .int .i64 (s.length : Int)] W fun e w' => e = .returned (.bool true) ∧ w' = W) := hid fun W => gap_any W s en s.length (by have := HS8.out; omega) hl.1 (Nat.le_refl _) hl.2
  clear hen hl B2 HB r2 HST
  rw [HN.out] at hj hn8 ⊢
  go_upto_region 16 with (go_at_call 21; refine (join_any wr _ A cA ts 32 rW.out (Nat.le_refl _) (by have := HTL.out.1; omega) (by have := HTL.out.2; omega)).mono ?_; rintro e w5 ⟨rfl, b5⟩; replace b5 := hid b5)
  obtain ⟨jn, hjn⟩ : ∃ jn, jn = joinL ts 32 := ⟨_, rfl⟩
  rw [← hjn] at HTL HJL ⊢
  have B5 := hid (below_on BW.out b5.out)
  have r5 := hid (RdT.up rW.out b5.out)
  have hszj : (⟨jn.toArray⟩ : ByteArray).size = jn.length := by simp [ByteArray.size]
  obtain ⟨tj, htj⟩ : ∃ tj, lexT jn = tj := ⟨_, rfl⟩
  obtain ⟨qj, hqj⟩ : ∃ qj, lexP jn = qj := ⟨_, rfl⟩
  obtain ⟨Ej, hEj⟩ : ∃ Ej, lexE jn = Ej := ⟨_, rfl⟩
  have H1 := hid (And.intro htj (And.intro hqj hEj))
  have HTJ : Hid (tj.length ≤ 8000) := hid (by rw [← htj]; exact lexT_len jn)
  have HLONG : Hid (8000 < jn.length → Ej = 2) := hid fun h => by rw [← hEj]; exact lexE_long h
  rw [htj, hEj] at HJL
  clear hjn BW b5 rW htj hqj hEj HN hj hn8 hlt
  go_upto_region 17 with (go_at_call 12; refine (HLX.out _ jn (by have := HTL.out.2; omega) tj qj Ej H1.out.1 H1.out.2.1 H1.out.2.2).mono ?_; rintro e w6 ⟨b6, A6, c6, rfl, r6⟩; replace b6 := hid b6; replace r6 := hid r6)
  have B6 := hid (below_on B5.out b6.out)
  have s6 := hid (RdT.up r5.out b6.out)
  clear B5 r5 b6 H1
  by_cases hlong : 8000 < jn.length
  ·
   have hq : decide ((8000 : Int) < (jn.length : Int)) = true := by rw [decide_eq_true_eq]; omega
   obtain rfl := HLONG.out hlong
   clear hlong
   go_wp2_with fail
   go_ret
   exact ⟨rfl, B6.out⟩
  have hq : decide ((8000 : Int) < (jn.length : Int)) = false := by rw [decide_eq_false_iff_not]; omega
  obtain ⟨rfl, hsm⟩ := HJL.out hlong
  have HSM := hid (same_at hsm)
  clear hlong hsm
  go_wp2_with (first
   | (go_at_call 20; refine (HGP.out _).mono ?_; rintro e w7 ⟨rfl, hw7⟩; rw [hw7]; clear hw7)
   | (go_at_call 14; refine (tokens_any w6 _ _ A A6 cA c6 ts tj false s6.out (Nat.le_refl _) r6.out (Nat.le_refl _) (by have := HTL.out.1; omega) (by have := HTJ.out; omega)).mono ?_; rintro e w8 ⟨he, b⟩; rw [decide_eq_true HSM.out] at he; subst he; have B8 := hid (below_on B6.out b); clear b))
  go_ret
  exact ⟨rfl, B8.out⟩
end Go.Proofs.YtcjhihmaegagdaaGreatDoor
namespace Go.Proofs.YtcjhihmaegagdaaGreatDoor
open Go.ChangeShapes Go.WideShapes Go.ChangeAt Go.RowKit
theorem notationTokens_lifted (os : Os) (started : os.Started) (H : Type) (enc : TypeId × Value → H) :
  ReturnsInHanded {} Tryz.checked os 4 .any (fun w args => (Rows.notationTokensSpec.pre enc Tryz.prog Tryz.f4 [] false w args ∧ laidMetH Tryz.prog Laid0 w) ∧ sizedMet enc Tryz.prog Tryz.f4 (OpenSpec.ofChange Rows.notationTokensSpec) false w args)
   (Rows.notationTokensSpec.post enc Tryz.prog Tryz.f4 false true false false) := by
 refine returns_and_shaped (C := Tryz.checked) (X := fun w _ => laidMetH Tryz.prog Laid0 w) (fun _ _ _ hh h => h.of_heap hh) own0 started (by kernel_rfl) Tryz.func4
  (ChangeSpec.witness_shaped (enc := enc) (C := Tryz.checked) (os := os) (X := fun w _ => laidMetH Tryz.prog Laid0 w) false (World.laidAll Tryz.prog os Laid0) #[.string ⟨#[]⟩] 8 (World.laidAll_os _ _ _) (World.shaped_of_ZipB (by kernel_rfl) (by kernel_rfl)) (by kernel_rfl) (by kernel_rfl) (by kernel_rfl) (laid_met0 os _)) ?_
 intro W base args ds gs before hval0 hW _ hsz0 hL hshape _
 have hval : ∀ (j : Nat) t v, Tryz.f4.params[j]? = some t → args[j]? = some v → Value.okWide Tryz.prog W .any base t v := hval0
 have hW' := hW
 obtain ⟨p, q, hA0, hV, rfl, _, _⟩ := hW
 have hA : DataW.TrodAll enc Tryz.prog W 0 (fun _ => true) true Tryz.f4.params.toList args.toList ds p := hA0
 rw [Tryz.params4] at hA hval
 have hsz : (DataW.weightsEach Tryz.prog (Tryz.f4.params.toList ++ Rows.notationTokensSpec.plain.varTypes Tryz.prog) (ds ++ gs)).all (· ≤ reachBytes) = true := hsz0
 clear hsz0
 rw [Tryz.params4] at hsz
 obtain ⟨v0, vs0, d0, ds0, p0, q0, hargs, rfl, rfl, h0, t0⟩ := trodAll_cons hA
 obtain ⟨rfl, rfl, rfl⟩ := trodAll_nil t0
 obtain rfl : args = #[v0] := Array.toList_inj.1 hargs
 obtain ⟨rfl, rfl⟩ := trodVars_none hV
 obtain ⟨s, rfl, rfl, -, e0⟩ := open_str (hval 0 _ v0 rfl rfl) h0
 have n0 : s.length ≤ 140737488351232 := sized_string (j := 0) (t := 9) hsz rfl (by rw [e0]; rfl)
 clear hA0 hval0 hA
 simp only [List.append_nil] at hW'
 have hlt := hW'.lt
 refine (tokens_law_any W s (by omega) (maxl_of_shape hshape) (primes_of_laid hL) (tab_of_laid hL)).mono fun e W' ⟨he, hb⟩ => ?_
 subst he
 exact ⟨_, rfl, _, _, _, [], _, [], hW', trodAll_mk1 (shut_bool Tryz.underlying4 true), trodAll_mk1 (Below.trod laidOut0 (by kernel_rfl) (of_decide_eq_true (by kernel_rfl)) h0 hb (fun x hx => hlt x (by (try simp at hx) <;> (try simp [hx])))), rfl, hb.frame _, fun h => by cases h⟩
theorem notationTokens_said : Rows.NotationTokensSaid :=
 OpenClaim.holds_of_wide 4 Tryz.f4 rfl rfl rfl rfl rfl rfl rfl ⟨rfl, rfl, rfl, rfl, rfl⟩ rfl rfl rfl rfl rfl (by kernel_rfl) Tryz.func4 (by kernel_rfl)
  (of_decide_eq_true (by kernel_rfl)) (by unfold Func.isWrapper; first | (rw [if_pos (by decide +kernel)]; kernel_rfl) | (rw [if_neg (by decide +kernel)]; exact ⟨rfl, rfl⟩))
  (fun os started H enc _ => notationTokens_lifted os started H enc)
theorem notationTokens_card : Rows.NotationTokensCardSaid :=
 Claim7.holds_tied_plain_at .later [] [.data, .data, .data, .data, .sentinel, .sentinel, .data, .pinned] true Rows.notationTokensCard.stood.harness Rows.notationTokensCard.stood.looks
  notationTokens_said (fun _ h => by cases h) (by kernel_rfl) (fun _ h => by cases h) notationTokens_row_tie rfl ⟨rfl, rfl⟩ (by kernel_rfl) rfl
  (fun f fn hf hfn => by
   obtain rfl : f = 4 := Option.some.inj ((show Tryz.prog.funcNamed "schisma/schismalaw20.NotationTokens" = some 4 by kernel_rfl).symm.trans hf) |>.symm
   obtain rfl : fn = Tryz.f4 := (Option.some.inj (Tryz.func4.symm.trans hfn)).symm
   exact ⟨by kernel_rfl, fun j t ht => by
    rw [Tryz.params4] at ht
    have hm : t ∈ [9] := by
     have := Array.mem_of_getElem? ht
     simpa using this
    have hall : ([9].all fun u => !Tryz.prog.wantsStandIn u) = true := by kernel_rfl
    exact (show Tryz.prog.wantsStandIn t = false by simpa using List.all_eq_true.1 hall t hm)⟩)
  (by kernel_rfl)
end Go.Proofs.YtcjhihmaegagdaaGreatDoor
