/- The tied card of NotationMatchesReference: for every source and score that can be read as data, where the package-level variables hold what the program's text lays into them, NotationMatchesReference returns true and its arguments read as before. -/
import Derived.Test.YtcjhihmaegagdaaGreatDoorG1
import Derived.Test.YtcjhihmaegagdaaGreatDoorTie
import Derived.Test.YtcjhihmaegagdaaGreatDoorCards
import Derived.Test.YtcjhihmaegagdaaGreatDoorK5
import Derived.ProofKit
import Derived.LaidMore
import Derived.LaidHandle
import Derived.OpenShut
import Derived.SizedLaws
import Derived.JoinedOf
import Derived.ChangeSame
import Derived.ChangeVars
import Derived.RowKitTokens
import Derived.Stop.Joined
import Derived.Lib.LaidTab
import Derived.SevenTiedAt
import Derived.Lay
import Derived.LaidSub
import Derived.MakeChecks
import Derived.Deep.Slices
import Derived.HandedShaped
import Derived.Shelf.Vars
import Derived.Test.YtcjhihmaegagdaaGreatDoorZ9
import Derived.Test.YtcjhihmaegagdaaGreatDoorZA
import Derived.Test.YtcjhihmaegagdaaGreatDoorK3
set_option maxRecDepth 100000
set_option maxHeartbeats 8000000
set_option linter.unusedSimpArgs false
set_option linter.unusedVariables false
set_option linter.unusedSectionVars false
set_option linter.unnecessarySimpa false
namespace Go.Proofs.YtcjhihmaegagdaaGreatDoor
open Go.ChangeShapes Go.WideShapes Go.ChangeAt Go.RowKit
open Go.ChangeMaps (open_string)
theorem zOr : ownKnob Tryz.prog.godebug = none := by kernel_rfl
theorem zFC : laidOutB Tryz.prog = true := by kernel_rfl
theorem zK1 : Tryz.prog.globalNamed "internal/strconv.uint64pow10" = some 4 := by kernel_rfl
theorem zJr : (Tryz.prog.globals[4]?).map (·.type) = some 209 := by kernel_rfl
theorem zFT : Tryz.prog.globalNamed "schisma/pitch.primes" = some 3 := by kernel_rfl
theorem zIV : (Tryz.prog.globals[3]?).map (·.type) = some 52 := by kernel_rfl
abbrev zCl : List (String × DataW Unit) := [("math/bits.deBruijn32tab", Rows.laid_math_bits_deBruijn32tab), ("math/bits.deBruijn64tab", Rows.laid_math_bits_deBruijn64tab), ("internal/strconv.uint64pow10", Rows.laid_internal_strconv_uint64pow10), ("unicode/utf8.acceptRanges", Rows.laid_unicode_utf8_acceptRanges), ("strconv.ErrRange", Rows.laid_strconv_ErrRange), ("strconv.ErrSyntax", Rows.laid_strconv_ErrSyntax), ("schisma/pitch.primes", Rows.laid_schisma_pitch_primes), ("unicode/utf8.first", Rows.laid_unicode_utf8_first)]
theorem zFS {W : World} (h : laidMetH Tryz.prog zCl W) : Tab W := by
 have h1 := laidMetH.filter (fun x => x.1 == "internal/strconv.uint64pow10") h;have h2 : laidMetH Tryz.prog [("internal/strconv.uint64pow10", Rows.laid_internal_strconv_uint64pow10)] W := h1;rw [MakeChecks.laidMetH_plain _ _ _ (by kernel_rfl)] at h2;have ht : Tryz.prog.cellsOf 209 = 20 := by kernel_rfl
 have hc : Tryz.prog.cellsOf 166 = 1 := by kernel_rfl
 exact Lib.tabIs_of_head (rest := []) zK1 zJr Tryz.underlying209 Tryz.underlying166 hc ht h2
theorem zCZ {W : World} (h : laidMetH Tryz.prog zCl W) : yJ W := by
 have h1 := laidMetH.filter (fun x => x.1 == "schisma/pitch.primes") h;have h2 : laidMetH Tryz.prog [("schisma/pitch.primes", Rows.laid_schisma_pitch_primes)] W := h1;rw [MakeChecks.laidMetH_plain _ _ _ (by kernel_rfl)] at h2;have ht : Tryz.prog.cellsOf 52 = 6 := by kernel_rfl
 have hc : Tryz.prog.cellsOf 3 = 1 := by kernel_rfl
 have h3 : Lib.TabIs Tryz.prog W "schisma/pitch.primes" .i64 [2, 3, 5, 7, 11, 13] := Lib.tabIs_of_head (rest := []) zFT zIV Tryz.underlying52 Tryz.underlying3 hc ht h2;intro j hj;rw [h3.cell zFT j hj];have : j = 0 ∨ j = 1 ∨ j = 2 ∨ j = 3 ∨ j = 4 ∨ j = 5 := by omega
 rcases this with rfl | rfl | rfl | rfl | rfl | rfl <;> rfl
theorem zD7 {W : World} (h : W.ShapedOpen Tryz.prog) : qr W :=
 cell_of_shapedOpen_int (t := 3) (zero := #[.int .i64 0]) h (of_decide_eq_true (by kernel_rfl)) (by kernel_rfl) rfl (by kernel_rfl) (by kernel_rfl) Tryz.underlying3
theorem zBk {H : Type} {enc : TypeId × Value → H} {a : Assume} {C : Checked} {os : Os} {f : FuncId} {fn : Func} {s : ChangeSpec} {conds : List PathCond} {apart fresh handsOn again : Bool} {X : World → Array Value → Prop}
 (hX : ∀ (w w' : World) (args : Array Value), w.heap = w'.heap → X w args → X w' args)
 (own : ownKnob C.prog.godebug = none) (started : os.Started) (noInit : C.prog.inits.idxOf? f = none) (hfn : C.prog.funcs[f]? = some fn)
 (witness : ∃ (w : World) (tape : Tape) (i : Input), w.os = os ∧ (w.forCall tape i).Shaped C.prog ∧ i.vars = [] ∧ Input.okWide C.prog (w.forCall tape i) .any w.heap.size f i ∧
  ((s.pre enc C.prog fn conds apart (w.forCall tape i).memory i.args ∧ X (w.forCall tape i).memory i.args) ∧ sizedMet enc C.prog fn (OpenSpec.ofChange s) apart (w.forCall tape i).memory i.args) ∧ a.holds C.prog (lone (Frame.enter C.prog f i.args .normal) [] (w.forCall tape i)))
 (contract : ∀ (W : World) (base : Nat) (args : Array Value) (ds gs : List (DataW H)) (before : List MemPlace),
  (∀ (j : Nat) t v, fn.params[j]? = some t → args[j]? = some v → Value.okWide C.prog W .any base t v) →
  DataW.Whole enc C.prog fn.params.toList s.vars apart W args.toList ds gs before →
  conds.all (PathCond.test C.prog ⟨fn.params.toList, ds, s.plain.varTypes C.prog, gs⟩) = true →
  (DataW.weightsEach C.prog (fn.params.toList ++ s.plain.varTypes C.prog) (ds ++ gs)).all (· ≤ reachBytes) = true → X W args →
  W.ShapedOpen C.prog →
  a.holds C.prog (lone (Frame.enter C.prog f args .normal) [] W) →
  Calls C.prog f args W fun e W' => ∃ v, e = .returned v ∧ s.post enc C.prog fn apart fresh handsOn again W args v W') :
 ReturnsInHanded a C os f .any (fun w args => (s.pre enc C.prog fn conds apart w args ∧ X w args) ∧ sizedMet enc C.prog fn (OpenSpec.ofChange s) apart w args) (s.post enc C.prog fn apart fresh handsOn again) := by
 refine returnsInHanded_of_calls own started noInit witness ?_;intro w tape i _ hsh _ hok hpre hholds;obtain ⟨_, _, _, fn', hfn', _, _, _, _, hval⟩ := hok;have e : fn' = fn := Option.some.inj (hfn'.symm.trans hfn);subst e;obtain ⟨⟨⟨ds, gs, before, hw, hc⟩, hx⟩, hz⟩ := hpre;have hw' := DataW.Whole.of_heap (w' := w.forCall tape i) (by rfl) hw;refine (contract (w.forCall tape i) w.heap.size i.args ds gs before hval hw' hc (hz.weights hw) (hX _ _ _ (by rfl) hx) hsh hholds).mono fun e W' ⟨v, he, hp⟩ => ?_
 subst he;exact ChangeSpec.post_blind hp
theorem zI7 (os : Os) (args : Array Value) : laidMetH Tryz.prog zCl ((World.laidAll Tryz.prog os zCl).forCall (fun _ _ => 0) ⟨#[], args, []⟩).memory := by
 rw [MakeChecks.laidMetH_plain _ _ _ (by kernel_rfl)];exact laidMet_laidAll _ (by kernel_rfl) (by kernel_rfl)
section
variable {H : Type} {enc : TypeId × Value → H} {w : World} {base : Nat} {sp : Nat → Bool} {held : Bool}
theorem zKC {r : Reach} {b0 : Nat} {v : Value} {d : DataW H} {ps : List MemPlace} (hval : Value.okWide Tryz.prog w r b0 9 v) (hd : DataW.Trod enc Tryz.prog w base sp held 9 v d ps) :
 ∃ l : List UInt8, v = str l ∧ ps = [] ∧ l.length ≤ 9223372036854775807 ∧ d = .lit (.string l) := by
 obtain ⟨s, rfl, rfl, rfl, hs⟩ := open_string Tryz.underlying9 hval hd;refine ⟨s.data.toList, rfl, rfl, ?_, rfl⟩;rw [Array.length_toList];unfold maxLen at hs;exact hs
end
open Go.ChangeShapes Go.WideShapes Go.ChangeAt Go.RowKit
section
variable {H : Type} {enc : TypeId × Value → H} {w : World} {base : Nat} {sp : Nat → Bool} {held : Bool}
theorem zAG {fuel : Nat} {cs : List Value} {x : DataW H × List MemPlace} (h : DataW.trod enc Tryz.prog w base sp held fuel 53 cs = some x) : ∃ v : Vc, cs = v.cells.toList := by
 have hc6 : Tryz.prog.cellsOf 53 = 6 := by kernel_rfl
 have hc1 : Tryz.prog.cellsOf 3 = 1 := by kernel_rfl
 have hlen : cs.length = 6 := by
  cases fuel with
  | zero => simp [DataW.trod] at h
  | succ fuel =>
   simp only [DataW.trod, Tryz.underlying53, hc6] at h;split at h
   · assumption
   cases h
 match cs, hlen with
 | [c0, c1, c2, c3, c4, c5], _ =>
 obtain ⟨xs, m, _, hx, _, hl, hel⟩ := DataW.trod_array Tryz.underlying53 h
 match xs, hl with
 | [x0, x1, x2, x3, x4, x5], _ =>
 have h0 := hel 0 (by omega);have h1 := hel 1 (by omega);have h2 := hel 2 (by omega);have h3 := hel 3 (by omega);have h4 := hel 4 (by omega);have h5 := hel 5 (by omega);simp [hc1] at h0 h1 h2 h3 h4 h5;obtain ⟨a0, e0, rfl, _⟩ := DataW.trod_int Tryz.underlying3 h0;obtain ⟨a1, e1, rfl, _⟩ := DataW.trod_int Tryz.underlying3 h1;obtain ⟨a2, e2, rfl, _⟩ := DataW.trod_int Tryz.underlying3 h2;obtain ⟨a3, e3, rfl, _⟩ := DataW.trod_int Tryz.underlying3 h3;obtain ⟨a4, e4, rfl, _⟩ := DataW.trod_int Tryz.underlying3 h4;obtain ⟨a5, e5, rfl, _⟩ := DataW.trod_int Tryz.underlying3 h5;simp at e0 e1 e2 e3 e4 e5;subst e0 e1 e2 e3 e4 e5;exact ⟨⟨a0, a1, a2, a3, a4, a5⟩, rfl⟩
theorem zCB {fuel : Nat} {cs : List Value} {x : DataW H × List MemPlace} (h : DataW.trod enc Tryz.prog w base sp held fuel 55 cs = some x) : ∃ n : Nte, cs = n.cs := by
 have hc1 : Tryz.prog.cellsOf 3 = 1 := by kernel_rfl
 have hcB : Tryz.prog.cellsOf 4 = 1 := by kernel_rfl
 have hcV : Tryz.prog.cellsOf 53 = 6 := by kernel_rfl
 have hcN : Tryz.prog.cellsOf 55 = 10 := by kernel_rfl
 obtain ⟨ys, n, _, rfl, hlen, hl, hf⟩ := DataW.trod_struct Tryz.underlying55 h;rw [hcN] at hlen
 match cs, hlen with
 | [c0, c1, c2, c3, c4, c5, c6, c7, c8, c9], _ =>
 match ys, hl with
 | [y0, y1, y2, y3, y4], _ =>
 have h0 := hf 0 _ rfl;have h1 := hf 1 _ rfl;have h2 := hf 2 _ rfl;have h3 := hf 3 _ rfl;have h4 := hf 4 _ rfl;simp [hc1, hcB, hcV] at h0 h1 h2 h3 h4;obtain ⟨a0, e0, rfl, _⟩ := DataW.trod_int Tryz.underlying3 h0;obtain ⟨a1, e1, rfl, _⟩ := DataW.trod_int Tryz.underlying3 h1;obtain ⟨a2, e2, rfl, _⟩ := DataW.trod_int Tryz.underlying3 h2;obtain ⟨u, hu⟩ := zAG h3;obtain ⟨b, e4, -⟩ := DataW.trod_bool Tryz.underlying4 h4;simp at e0 e1 e2 e4;subst e0 e1 e2 e4;simp only [Vc.cells, List.cons.injEq] at hu;exact ⟨⟨a0, a1, a2, u, b⟩, by simp [Nte.cs, hu]⟩
theorem zCA {fuel : Nat} {cs : List Value} {x : DataW H × List MemPlace} (h : DataW.trod enc Tryz.prog w base sp held fuel 57 cs = some x) : ∃ n : Par, cs = n.cs := by
 have hc1 : Tryz.prog.cellsOf 3 = 1 := by kernel_rfl
 have hcV : Tryz.prog.cellsOf 53 = 6 := by kernel_rfl
 have hcN : Tryz.prog.cellsOf 57 = 9 := by kernel_rfl
 obtain ⟨ys, n, _, rfl, hlen, hl, hf⟩ := DataW.trod_struct Tryz.underlying57 h;rw [hcN] at hlen
 match cs, hlen with
 | [c0, c1, c2, c3, c4, c5, c6, c7, c8], _ =>
 match ys, hl with
 | [y0, y1, y2, y3], _ =>
 have h0 := hf 0 _ rfl;have h1 := hf 1 _ rfl;have h2 := hf 2 _ rfl;have h3 := hf 3 _ rfl;simp [hc1, hcV] at h0 h1 h2 h3;obtain ⟨a0, e0, rfl, _⟩ := DataW.trod_int Tryz.underlying3 h0;obtain ⟨a1, e1, rfl, _⟩ := DataW.trod_int Tryz.underlying3 h1;obtain ⟨u, hu⟩ := zAG h2;obtain ⟨a3, e3, rfl, _⟩ := DataW.trod_int Tryz.underlying3 h3;simp at e0 e1 e3;subst e0 e1 e3;simp only [Vc.cells, List.cons.injEq] at hu;exact ⟨⟨a0, a1, u, a3⟩, by simp [Par.cs, hu]⟩
theorem zAd {α : Type} [Inhabited α] {t e : TypeId} (k : Nat) (hk0 : 0 < k) (ht : Tryz.prog.underlying t = some (.slice e)) (hk : Tryz.prog.cellsOf e = k) (cf : α → List Value) (hcf : ∀ x, (cf x).length = k)
 (hop : ∀ {fuel : Nat} {cs : List Value} {x : DataW H × List MemPlace}, DataW.trod enc Tryz.prog w 0 (fun _ => true) held fuel e cs = some x → ∃ c : α, cs = cf c)
 {fuel : Nat} {cs : List Value} {x : DataW H × List MemPlace} (hf : DataW.trod enc Tryz.prog w 0 (fun _ => true) held fuel t cs = some x) :
 ∃ (l : List α) (A : Option Addr) (c : Nat), cs = [.slice A l.length c] ∧ zQ w w.heap.size k A l.length (zW cf l) ∧ (l = [] ∨ ∃ el sp, x.1 = .slice el sp ∧ el.length = l.length) := by
 rcases Go.Deep.open_slice ht hf with ⟨hcs, hx⟩ | ⟨ad, len, cap, m, n, D, Pl, hcs, _, hl, hm, hmm, hx, hi⟩
 · exact ⟨[], none, 0, hcs, zQ.nil_, Or.inl rfl⟩
 simp only [if_true] at hmm;rw [hk] at hi
 obtain ⟨M, hM⟩ := Go.Deep.choose_lt (α := α) (n := len) (p := fun i c => ∀ j, j < k → w.cell? ((ad.add (i * k)).add j) = (cf c)[j]?) (fun i hil => by
  obtain ⟨cs', h1, h2⟩ := hi i (by omega);obtain ⟨_, _, h3⟩ := World.cells?_some h1;obtain ⟨c, rfl⟩ := hop h2;exact ⟨c, h3⟩)
 have hlen : ((List.range len).map M).length = len := by simp
 refine ⟨(List.range len).map M, some ad, cap, by rw [hlen, hcs], ?_, Or.inr ⟨_, _, by rw [hx], by rw [hlen]; simp⟩⟩;rw [hlen];refine ⟨by rw [xQ cf k hcf, hlen], fun hpos => ⟨ad, rfl, ?_, fun j hj => ?_⟩⟩
 · have h0 := hM 0 hpos 0 hk0;rw [show (ad.add (0 * k)).add 0 = ad from by simp [Addr.add]] at h0;have hl0 : 0 < (cf (M 0)).length := by rw [hcf]; exact hk0
   rw [List.getElem?_eq_getElem hl0] at h0;exact World.block_lt_of_cell? w _ h0
 rw [xQ cf k hcf, hlen] at hj;have hq : j / k < len := (Nat.div_lt_iff_lt_mul hk0).2 hj;have h0 := hM (j / k) hq (j % k) (Nat.mod_lt _ hk0);have hdm : j / k * k + j % k = j := Nat.div_add_mod' j k;rw [zBu, hdm] at h0;rw [h0];have := zAX cf k hcf ((List.range len).map M) (j / k) (j % k) (by rw [hlen]; exact hq) (Nat.mod_lt _ hk0);rw [hdm] at this;rw [this];simp
theorem zDT {t e : TypeId} (hu : Tryz.prog.underlying t = some (.slice e)) (b : Nat) (hb : Tryz.prog.bytesOf e = b) (hb0 : 0 < b) {α : Type} {l : List α} {d : DataW H} (h : l = [] ∨ ∃ el sp, d = .slice el sp ∧ el.length = l.length) (hw : ∀ n ∈ d.weights Tryz.prog t, n ≤ reachBytes) : l.length ≤ 4611686018427387904 := by
 rcases h with rfl | ⟨el, sp, rfl, h⟩
 · simp
 have := hw ((el.length + sp.length) * Tryz.prog.bytesOf e) (by simp [DataW.weights, hu]);rw [hb] at this;have h1 : el.length + sp.length ≤ (el.length + sp.length) * b := Nat.le_mul_of_pos_right _ hb0;have h2 : reachBytes ≤ 4611686018427387904 := by decide
 omega
theorem zG2 {r : Reach} {b0 : Nat} {v : Value} {d : DataW H} {ps : List MemPlace} (hval : Value.okWide Tryz.prog w r b0 26 v) (hd : DataW.Trod enc Tryz.prog w 0 (fun _ => true) held 26 v d ps) (hw : ∀ n ∈ d.weights Tryz.prog 26, n ≤ reachBytes) :
 ∃ s : Scr, xq w v s := by
 obtain ⟨cs, rfl, hsz⟩ := okWide_struct Tryz.underlying26 hval;obtain ⟨fuel, hf⟩ := hd;have hc1 : Tryz.prog.cellsOf 3 = 1 := by kernel_rfl
 have hcn : Tryz.prog.cellsOf 22 = 1 := by kernel_rfl
 have hcp : Tryz.prog.cellsOf 23 = 1 := by kernel_rfl
 have hcq : Tryz.prog.cellsOf 24 = 1 := by kernel_rfl
 have hcS : Tryz.prog.cellsOf 26 = 4 := by kernel_rfl
 obtain ⟨ys, n, _, hx, hlen, hl, hf⟩ := DataW.trod_struct Tryz.underlying26 hf;rw [hcS] at hlen hsz;obtain ⟨cs⟩ := cs;change cs.length = 4 at hlen
 match cs, hlen with
 | [c0, c1, c2, c3], _ =>
 match ys, hl with
 | [y0, y1, y2, y3], _ =>
 have h0 := hf 0 _ rfl;have h1 := hf 1 _ rfl;have h2 := hf 2 _ rfl;have h3 := hf 3 _ rfl;simp [hc1, hcn, hcp, hcq, Value.cells] at h0 h1 h2 h3;obtain rfl : d = .agg [y0.1, y1.1, y2.1, y3.1] := congrArg Prod.fst hx
 have hwe : ∀ n, n ∈ DataW.weightsEach Tryz.prog [3, 22, 23, 24] [y0.1, y1.1, y2.1, y3.1] → n ≤ reachBytes := fun n hn => hw n (by
  have e : (DataW.agg [y0.1, y1.1, y2.1, y3.1]).weights Tryz.prog 26 = DataW.weightsEach Tryz.prog [3, 22, 23, 24] [y0.1, y1.1, y2.1, y3.1] := by
   simp only [DataW.weights, Tryz.underlying26];rfl
  rw [e]; exact hn)
 obtain ⟨V, e0, -⟩ := DataW.trod_int Tryz.underlying3 h0;have hi1 : Inhabited Nte := ⟨zF⟩
 have hi2 : Inhabited Par := ⟨⟨0, 0, vc0, 0⟩⟩
 have hi3 : Inhabited Itg := ⟨⟨0⟩⟩
 obtain ⟨l1, A1, k1, e1, s1, z1⟩ := zAd 10 (by omega) Tryz.underlying22 (by kernel_rfl) Nte.cs Nte.cs_len (fun h => zCB h) h1;obtain ⟨l2, A2, k2, e2, s2, z2⟩ := zAd 9 (by omega) Tryz.underlying23 (by kernel_rfl) Par.cs Par.cs_len (fun h => zCA h) h2
 obtain ⟨l3, A3, k3, e3, s3, z3⟩ := zAd 1 (by omega) Tryz.underlying24 (by kernel_rfl) Itg.cs Itg.cs_len (fun {fuel cs x} h => by
  have hlen : cs.length = 1 := by
   cases fuel with
   | zero => simp [DataW.trod] at h
   | succ fuel =>
    rcases cs with _ | ⟨c0, _ | ⟨c1, l⟩⟩
    · simp [DataW.trod, Tryz.underlying3] at h
    · rfl
    simp [DataW.trod, Tryz.underlying3] at h
  match cs, hlen with
  | [c0], _ =>
  obtain ⟨a0, e0, -⟩ := DataW.trod_int Tryz.underlying3 h;exact ⟨⟨a0⟩, e0⟩) h3
 have n1 := zDT Tryz.underlying22 80 (by kernel_rfl) (by omega) z1 (fun n hn => hwe n (by simp only [DataW.weightsEach, List.mem_append]; exact Or.inr (Or.inl hn)));have n2 := zDT Tryz.underlying23 72 (by kernel_rfl) (by omega) z2 (fun n hn => hwe n (by simp only [DataW.weightsEach, List.mem_append]; exact Or.inr (Or.inr (Or.inl hn))));have n3 := zDT Tryz.underlying24 8 (by kernel_rfl) (by omega) z3 (fun n hn => hwe n (by simp only [DataW.weightsEach, List.mem_append]; exact Or.inr (Or.inr (Or.inr (Or.inl hn)))));simp only [List.cons.injEq, and_true] at e0 e1 e2 e3;subst e0 e1 e2 e3
 have e3 : itg (l3.map Itg.x) = l3 := by
  unfold itg;rw [List.map_map];exact (List.map_congr_left (fun _ _ => rfl)).trans (List.map_id l3)
 have e4 : (l3.map Itg.x).length = l3.length := by simp
 refine ⟨⟨V, l1, l2, l3.map Itg.x⟩, ⟨⟨A1, k1, A2, k2, A3, k3, by rw [e4], s1, s2, ?_⟩, Nat.le_refl _, n1, n2, by rw [e4]; exact n3⟩⟩;rw [e3];exact s3
end
open Go.RowKit Go.Deep
theorem zFW (w : World) (x : List UInt8) (v : Value) (s : Scr) (hx : x.length ≤ 4611686018427387904) (hv : xq w v s) (hM : qr w) (hP : yJ w) (hT : Tab w) : Calls Tryz.prog 3 #[str x, v] w fun e w' => e = .returned (.bool true) ∧ Below w.heap.size w w' := by
 have HHD : Hid (∀ W, Below w.heap.size w W → Calls Tryz.prog 11 #[] W fun e w' => e = .returned (.bool true) ∧ Below W.heap.size W w') := hid fun W hb => zKq W (hM.below hb) (hP.below hb) (hT.below hb)
 have HPA : Hid (∀ W, Below w.heap.size w W → ∀ (x : List UInt8), x.length ≤ 4611686018427387904 → ∀ c p k, yV x = c → y6 x = p → yx x = k → Calls Tryz.prog 15 #[str x] W fun e w' => Below W.heap.size W w' ∧ ∃ V An n cn Ap m cp Aq o cq, e = .returned (.tuple #[.agg #[.int .i64 V, .slice An n cn, .slice Ap m cp, .slice Aq o cq], .int .i64 (p : Nat), .int .i64 (k : Nat)]) ∧ xq w' (.agg #[.int .i64 V, .slice An n cn, .slice Ap m cp, .slice Aq o cq]) c) := hid fun W hb x hx c p k h1 h2 h3 => by
  have h := zEt W x hx (hM.below hb) (hP.below hb);exact zNv
 have HPR : Hid (∀ W v c, Below w.heap.size w W → xq W v c → ∀ t k, kE c = t → kJ c = k → Calls Tryz.prog 18 #[v] W fun e w' => e = .returned (.tuple #[str t, .int .i64 (k : Nat)]) ∧ Below W.heap.size W w') := hid fun W v c hb hv t k h1 h2 => by
  have h := zEx W _ v c hv (hT.below hb);rw [h1, h2] at h;exact h
 have HLX : Hid (∀ W (x : List UInt8), x.length ≤ 4611686018427387904 → ∀ ts p k, jG x = ts → zBc x = p → kP x = k → Calls Tryz.prog 12 #[str x] W fun e w' => Below W.heap.size W w' ∧ ∃ A c, e = .returned (.tuple #[.slice A ts.length c, .int .i64 (p : Nat), .int .i64 (k : Nat)]) ∧ RdT w' w'.heap.size A ts) := hid fun W x hx ts p k h1 h2 h3 => by
  have h := zE4 W x (by omega);exact zOn
 have HRL : Hid (∀ W (x : List UInt8), x.length ≤ 4611686018427387904 → ∀ ts p k, jG x = ts → zBc x = p → kP x = k → Calls Tryz.prog 13 #[str x] W fun e w' => Below W.heap.size W w' ∧ ∃ A c, e = .returned (.tuple #[.slice A ts.length c, .int .i64 (p : Nat), .int .i64 (k : Nat)]) ∧ RdT w' w'.heap.size A ts) := hid fun W x hx ts p k h1 h2 h3 => by
  have h := zGj W x (by omega);exact zOn
 have HRA : Hid (∀ W, Below w.heap.size w W → ∀ (x : List UInt8), x.length ≤ 4611686018427387904 → ∀ c p k, yV x = c → y6 x = p → yx x = k → Calls Tryz.prog 16 #[str x] W fun e w' => Below W.heap.size W w' ∧ ∃ V An n cn Ap m cp Aq o cq, e = .returned (.tuple #[.agg #[.int .i64 V, .slice An n cn, .slice Ap m cp, .slice Aq o cq], .int .i64 (p : Nat), .int .i64 (k : Nat)]) ∧ xq w' (.agg #[.int .i64 V, .slice An n cn, .slice Ap m cp, .slice Aq o cq]) c) := hid fun W hb x hx c p k h1 h2 h3 => by
  have h := zHM W x hx;exact zNv
 have HRR : Hid (∀ W v c, Below w.heap.size w W → xq W v c → ∀ t k, kE c = t → kJ c = k → Calls Tryz.prog 19 #[v] W fun e w' => e = .returned (.tuple #[str t, .int .i64 (k : Nat)]) ∧ Below W.heap.size W w') := hid fun W v c hb hv t k h1 h2 => by
  have h := zHd W _ v c hv;rw [h1, h2] at h;exact h
 obtain ⟨t, ht⟩ : ∃ t, kE s = t := ⟨_, rfl⟩
 obtain ⟨k, hk⟩ : ∃ k, kJ s = k := ⟨_, rfl⟩
 obtain ⟨ts, hts⟩ : ∃ ts, jG x = ts := ⟨_, rfl⟩
 obtain ⟨q, hq⟩ : ∃ q, zBc x = q := ⟨_, rfl⟩
 obtain ⟨E, hE⟩ : ∃ E, kP x = E := ⟨_, rfl⟩
 obtain ⟨c, hc⟩ : ∃ c, yV x = c := ⟨_, rfl⟩
 obtain ⟨p2, hp2⟩ : ∃ p2, y6 x = p2 := ⟨_, rfl⟩
 obtain ⟨k2, hk2⟩ : ∃ k2, yx x = k2 := ⟨_, rfl⟩
 have HTL : Hid (ts.length ≤ 8000) := hid (by rw [← hts]; exact kz x);have H0 := hid (And.intro ht hk);have H1 := hid (And.intro hts (And.intro hq hE));have H2 := hid (And.intro hc (And.intro hp2 hk2))
 obtain ⟨V0, An0, n0, cn0, Ap0, m0, cp0, Aq0, o0, cq0, rfl⟩ : ∃ V An n cn Ap m cp Aq o cq, v = .agg #[.int .i64 V, .slice An n cn, .slice Ap m cp, .slice Aq o cq] := by
  obtain ⟨An, cn, Ap, cp, Aq, cq, rfl, -⟩ := hv.ex;exact ⟨_, _, _, _, _, _, _, _, _, _, rfl⟩
 have HV := hid hv;clear hM hP hT hv ht hk hts hq hE hc hp2 hk2;go_enter Tryz.func3, Tryz.ntmps3
 go_upto_region 1 with (fail)
 obtain ⟨g0, hg0⟩ : ∃ g, g = w.heap.size := ⟨_, rfl⟩
 have aw0 : Hid (Below w.heap.size w (w.alloc (.cells #[.int .i64 V0, .slice An0 n0 cn0, .slice Ap0 m0 cp0, .slice Aq0 o0 cq0] 26))) := hid ((Below.refl _ _).alloc (Nat.le_refl _) _);have sw0 : Hid (Blk (w.alloc (.cells #[.int .i64 V0, .slice An0 n0 cn0, .slice Ap0 m0 cp0, .slice Aq0 o0 cq0] 26)) w.heap.size 26 #[.int .i64 V0, .slice An0 n0 cn0, .slice Ap0 m0 cp0, .slice Aq0 o0 cq0]) := hid (Blk.new _ _ _);rw [← hg0] at sw0 ⊢;clear hg0;generalize (w.alloc (.cells #[.int .i64 V0, .slice An0 n0 cn0, .slice Ap0 m0 cp0, .slice Aq0 o0 cq0] 26)) = w0 at aw0 sw0 ⊢;have q0 := hid (xq.up HV.out aw0.out);go_upto_region 4 with (first | (go_at_call 11; refine (HHD.out _ aw0.out).mono ?_; rintro e w1 ⟨rfl, b1⟩; replace b1 := hid b1) | (go_at_call 12; refine (HLX.out _ x (by omega) ts q E H1.out.1 H1.out.2.1 H1.out.2.2).mono ?_; rintro e w2 ⟨b2, A, cA, rfl, rA⟩; replace b2 := hid b2; replace rA := hid rA) | (go_at_call 13; refine (HRL.out _ x (by omega) ts q E H1.out.1 H1.out.2.1 H1.out.2.2).mono ?_; rintro e w3 ⟨b3, D, cD, rfl, rD⟩; replace b3 := hid b3; replace rD := hid rD))
 have B3 := hid (zB (zB (zB aw0.out b1.out) b2.out) b3.out);have q3 := hid (xq.up q0.out (zB (zB b1.out b2.out) b3.out));have s3 := hid (sw0.out.below (zB (zB b1.out b2.out) b3.out) sw0.out.lt);have r3 := hid (RdT.up rA.out b3.out);clear rA b1 b2 b3 aw0 sw0 q0;go_upto_region 5 with (go_at_call 14; refine (zDi w3 _ _ A D cA cD ts ts true r3.out (Nat.le_refl _) rD.out (Nat.le_refl _) (by have := HTL.out; omega) (by have := HTL.out; omega)).mono ?_; rintro e w4 ⟨he, b⟩; rw [decide_eq_true rfl] at he; subst he; have B4 := hid (zB B3.out b); have q4 := hid (xq.up q3.out b); have s4 := hid (s3.out.below b s3.out.lt); clear b)
 clear B3 q3 s3 r3 rD;go_upto_region 6 with (go_at_call 15; refine (HPA.out _ B4.out x (by omega) c p2 k2 H2.out.1 H2.out.2.1 H2.out.2.2).mono ?_; rintro e w5 ⟨b5, V1, An1, n1, cn1, Ap1, m1, cp1, Aq1, o1, cq1, rfl, q5⟩; replace b5 := hid b5; replace q5 := hid q5)
 obtain ⟨g1, hg1⟩ : ∃ g1, g1 = w5.heap.size := ⟨_, rfl⟩
 have aw6 : Hid (Below w5.heap.size w5 (w5.alloc (.cells #[.int .i64 V1, .slice An1 n1 cn1, .slice Ap1 m1 cp1, .slice Aq1 o1 cq1] 26))) := hid ((Below.refl _ _).alloc (Nat.le_refl _) _);have sw6 : Hid (Blk (w5.alloc (.cells #[.int .i64 V1, .slice An1 n1 cn1, .slice Ap1 m1 cp1, .slice Aq1 o1 cq1] 26)) w5.heap.size 26 #[.int .i64 V1, .slice An1 n1 cn1, .slice Ap1 m1 cp1, .slice Aq1 o1 cq1]) := hid (Blk.new _ _ _);rw [← hg1] at sw6 ⊢;clear hg1;generalize (w5.alloc (.cells #[.int .i64 V1, .slice An1 n1 cn1, .slice Ap1 m1 cp1, .slice Aq1 o1 cq1] 26)) = w6 at aw6 sw6 ⊢;have B6 := hid (zB (zB B4.out b5.out) aw6.out);have q6 := hid (xq.up q4.out (zB b5.out aw6.out));have s6 := hid (s4.out.below (zB b5.out aw6.out) s4.out.lt);have p6 := hid (xq.up q5.out aw6.out);clear B4 q4 s4 b5 aw6 q5;go_upto_region 7 with (go_at_call 16; refine (HRA.out _ B6.out x (by omega) c p2 k2 H2.out.1 H2.out.2.1 H2.out.2.2).mono ?_; rintro e w7 ⟨b7, V2, An2, n2, cn2, Ap2, m2, cp2, Aq2, o2, cq2, rfl, q7⟩; replace b7 := hid b7; replace q7 := hid q7)
 obtain ⟨g2, hg2⟩ : ∃ g2, g2 = w7.heap.size := ⟨_, rfl⟩
 have aw8 : Hid (Below w7.heap.size w7 (w7.alloc (.cells #[.int .i64 V2, .slice An2 n2 cn2, .slice Ap2 m2 cp2, .slice Aq2 o2 cq2] 26))) := hid ((Below.refl _ _).alloc (Nat.le_refl _) _);have sw8 : Hid (Blk (w7.alloc (.cells #[.int .i64 V2, .slice An2 n2 cn2, .slice Ap2 m2 cp2, .slice Aq2 o2 cq2] 26)) w7.heap.size 26 #[.int .i64 V2, .slice An2 n2 cn2, .slice Ap2 m2 cp2, .slice Aq2 o2 cq2]) := hid (Blk.new _ _ _);rw [← hg2] at sw8 ⊢;clear hg2;generalize (w7.alloc (.cells #[.int .i64 V2, .slice An2 n2 cn2, .slice Ap2 m2 cp2, .slice Aq2 o2 cq2] 26)) = w8 at aw8 sw8 ⊢;have b68 := hid (zB b7.out aw8.out);have B8 := hid (zB B6.out b68.out);have q8 := hid (xq.up q6.out b68.out);have s8 := hid (s6.out.below b68.out s6.out.lt);have p8 := hid (xq.up p6.out b68.out);have o8 := hid (xq.up q7.out aw8.out);have sx := hid (sw6.out.below b68.out sw6.out.lt);clear B6 q6 s6 b7 aw8 q7 p6 sw6 b68;have x0 := sx.out.cell 0; have x1 := sx.out.cell 1; have x2 := sx.out.cell 2; have x3 := sx.out.cell 3; have y0 := sw8.out.cell 0; have y1 := sw8.out.cell 1; have y2 := sw8.out.cell 2; have y3 := sw8.out.cell 3;go_upto_region 8 with (go_at_call 17; refine (zEm w8 _ _ _ _ c c p8.out o8.out).mono ?_; rintro e w9 ⟨he, b⟩; rw [decide_eq_true rfl] at he; subst he; have B9 := hid (zB B8.out b); have q9 := hid (xq.up q8.out b); have s9 := hid (s8.out.below b s8.out.lt); clear b)
 clear x0 x1 x2 x3 y0 y1 y2 y3 B8 q8 s8 p8 o8 sx sw8;go_upto_region 9 with (first | ((with_reducible show wpList _ _ _ (Oper.mk _ (Op.load _ _) _ _ _ _ :: _) _ _); refine zp 26 s9.out Tryz.underlying26 yy ?_) | (go_at_call 18; refine (HPR.out _ _ s B9.out q9.out t k H0.out.1 H0.out.2).mono ?_; rintro e wa ⟨rfl, ba⟩; replace ba := hid ba))
 have Ba := hid (zB B9.out ba.out);have qa := hid (xq.up q9.out ba.out);have sa := hid (s9.out.below ba.out s9.out.lt);clear B9 q9 s9 ba;go_wp2_with (first | ((with_reducible show wpList _ _ _ (Oper.mk _ (Op.load _ _) _ _ _ _ :: _) _ _); refine zp 26 sa.out Tryz.underlying26 yy ?_) | (go_at_call 19; refine (HRR.out _ _ s Ba.out qa.out t k H0.out.1 H0.out.2).mono ?_; rintro e wb ⟨rfl, bb⟩; replace bb := hid bb))
 go_ret;exact ⟨rfl, zB Ba.out bb.out⟩
open Go.ChangeShapes Go.WideShapes Go.ChangeAt Go.RowKit
theorem kR (os : Os) (started : os.Started) (H : Type) (enc : TypeId × Value → H) :
 ReturnsInHanded {} Tryz.checked os 3 .any (fun w args => (Rows.notationMatchesReferenceSpec.pre enc Tryz.prog Tryz.f3 [] false w args ∧ laidMetH Tryz.prog zCl w) ∧ sizedMet enc Tryz.prog Tryz.f3 (OpenSpec.ofChange Rows.notationMatchesReferenceSpec) false w args)
  (Rows.notationMatchesReferenceSpec.post enc Tryz.prog Tryz.f3 false true false false) := by
 refine zBk (C := Tryz.checked) (X := fun w _ => laidMetH Tryz.prog zCl w) (fun _ _ _ hh h => h.of_heap hh) zOr started (by kernel_rfl) Tryz.func3
  (ChangeSpec.witness_shaped (enc := enc) (C := Tryz.checked) (os := os) (X := fun w _ => laidMetH Tryz.prog zCl w) false (World.laidAll Tryz.prog os zCl) #[.string ⟨#[]⟩, .agg #[.int .i64 0, .slice none 0 0, .slice none 0 0, .slice none 0 0]] 8 (World.laidAll_os _ _ _) (World.shaped_of_ZipB (by kernel_rfl) (by kernel_rfl)) (by kernel_rfl) (by kernel_rfl) (by kernel_rfl) (zI7 os _)) ?_
 intro W base args ds gs before hval0 hW _ hsz0 hL hshape _
 have hval : ∀ (j : Nat) t v, Tryz.f3.params[j]? = some t → args[j]? = some v → Value.okWide Tryz.prog W .any base t v := hval0
 have hW' := hW
 obtain ⟨p, q, hA0, hV, rfl, _, _⟩ := hW
 have hA : DataW.TrodAll enc Tryz.prog W 0 (fun _ => true) true Tryz.f3.params.toList args.toList ds p := hA0
 rw [Tryz.params3] at hA hval
 have hsz : (DataW.weightsEach Tryz.prog (Tryz.f3.params.toList ++ Rows.notationMatchesReferenceSpec.plain.varTypes Tryz.prog) (ds ++ gs)).all (· ≤ reachBytes) = true := hsz0
 clear hsz0
 rw [Tryz.params3] at hsz
 obtain ⟨v0, vs0, d0, ds0, p0, q0, hargs, rfl, rfl, h0, t0⟩ := trodAll_cons hA
 obtain ⟨v1, vs1, d1, ds1, p1, q1, rfl, rfl, rfl, h1, t1⟩ := trodAll_cons t0
 obtain ⟨rfl, rfl, rfl⟩ := trodAll_nil t1
 obtain rfl : args = #[v0, v1] := Array.toList_inj.1 hargs
 obtain ⟨rfl, rfl⟩ := trodVars_none hV
 obtain ⟨t, rfl, rfl, -, e0⟩ := zKC (hval 0 _ v0 rfl rfl) h0
 have n0 : t.length ≤ 140737488351232 := sized_string (j := 0) (t := 9) hsz rfl (by rw [e0]; rfl)
 obtain ⟨s, sv⟩ := zG2 (hval 1 _ v1 rfl rfl) h1 (fun n hn => of_decide_eq_true (List.all_eq_true.1 hsz n (DataW.weights_mem_each (j := 1) rfl rfl n hn)))
 clear hA0 hval0 hA
 simp only [List.append_nil] at hW'
 have hlt := hW'.lt
 refine (zFW W t v1 s (by omega) sv (zD7 hshape) (zCZ hL) (zFS hL)).mono fun e W' ⟨he, hb⟩ => ?_
 subst he
 exact ⟨_, rfl, _, _, _, [], _, [], hW', trodAll_mk1 (shut_bool Tryz.underlying4 true), trodAll_mk2 (Below.trod zFC (by kernel_rfl) (of_decide_eq_true (by kernel_rfl)) h0 hb (fun x hx => hlt x (by (try simp at hx) <;> (try simp [hx])))) (Below.trod zFC (by kernel_rfl) (of_decide_eq_true (by kernel_rfl)) h1 hb (fun x hx => hlt x (by (try simp at hx) <;> (try simp [hx])))), rfl, hb.frame _, fun h => by cases h⟩
theorem jC : Rows.NotationMatchesReferenceSaid :=
 OpenClaim.holds_of_wide 3 Tryz.f3 rfl rfl rfl rfl rfl rfl rfl ⟨rfl, rfl, rfl, rfl, rfl⟩ rfl rfl rfl rfl rfl (by kernel_rfl) Tryz.func3 (by kernel_rfl)
  (of_decide_eq_true (by kernel_rfl)) (by unfold Func.isWrapper; first | (rw [if_pos (by decide +kernel)]; kernel_rfl) | (rw [if_neg (by decide +kernel)]; exact ⟨rfl, rfl⟩))
  (fun os started H enc _ => kR os started H enc)
theorem notationMatchesReference_card : Rows.NotationMatchesReferenceCardSaid :=
 Claim7.holds_tied_plain_at .later [] [.data, .data, .data, .data, .sentinel, .sentinel, .data, .pinned] true Rows.notationMatchesReferenceCard.stood.harness Rows.notationMatchesReferenceCard.stood.looks
  jC (fun _ h => by cases h) (by kernel_rfl) (fun _ h => by cases h) notationMatchesReference_row_tie rfl ⟨rfl, rfl⟩ (by kernel_rfl) rfl
  (fun f fn hf hfn => by
   obtain rfl : f = 3 := Option.some.inj ((show Tryz.prog.funcNamed "schisma/schismalaw20.NotationMatchesReference" = some 3 by kernel_rfl).symm.trans hf) |>.symm;obtain rfl : fn = Tryz.f3 := (Option.some.inj (Tryz.func3.symm.trans hfn)).symm
   exact ⟨by kernel_rfl, fun j t ht => by
    rw [Tryz.params3] at ht
    have hm : t ∈ [9, 26] := by
     have := Array.mem_of_getElem? ht;simpa using this
    (have hall : ([9, 26].all fun u => !Tryz.prog.wantsStandIn u) = true := by kernel_rfl);exact (show Tryz.prog.wantsStandIn t = false by simpa using List.all_eq_true.1 hall t hm)⟩)
  (by kernel_rfl)
end Go.Proofs.YtcjhihmaegagdaaGreatDoor
