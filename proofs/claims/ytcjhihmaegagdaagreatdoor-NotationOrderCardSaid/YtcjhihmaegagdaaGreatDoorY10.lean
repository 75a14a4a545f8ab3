/- The tied card of NotationOrder: for every score and byte that can be read as data, where the package-level variables hold what the program's text lays into them, NotationOrder returns true and its arguments read as before. -/
import Derived.Test.YtcjhihmaegagdaaGreatDoorTie
import Derived.Test.YtcjhihmaegagdaaGreatDoorCards
import Derived.Test.YtcjhihmaegagdaaGreatDoorK5
import Derived.ProofKit
import Derived.LaidMore
import Derived.LaidHandle
import Derived.OpenShut
import Derived.SizedLaws
import Derived.JoinedOf
import Derived.ChangeSame
import Derived.ChangeVars
import Derived.RowKitTokens
import Derived.Stop.Joined
import Derived.Lib.LaidTab
import Derived.SevenTiedAt
import Derived.Lay
import Derived.LaidSub
import Derived.MakeChecks
import Derived.Deep.Slices
import Derived.HandedShaped
import Derived.Shelf.Vars
import Derived.Test.YtcjhihmaegagdaaGreatDoorK4
import Derived.Test.YtcjhihmaegagdaaGreatDoorK2
import Derived.Test.YtcjhihmaegagdaaGreatDoorG9
set_option maxRecDepth 100000
set_option maxHeartbeats 8000000
set_option linter.unusedSimpArgs false
set_option linter.unusedVariables false
set_option linter.unusedSectionVars false
set_option linter.unnecessarySimpa false
namespace Go.Proofs.YtcjhihmaegagdaaGreatDoor
open Go.ChangeShapes Go.WideShapes Go.ChangeAt Go.RowKit
open Go.ChangeMaps (open_string)
theorem own0 : ownKnob Tryz.prog.godebug = none := by kernel_rfl
theorem laidOut0 : laidOutB Tryz.prog = true := by kernel_rfl
theorem g_pow10 : Tryz.prog.globalNamed "internal/strconv.uint64pow10" = some 4 := by kernel_rfl
theorem ty_pow10 : (Tryz.prog.globals[4]?).map (·.type) = some 209 := by kernel_rfl
theorem g_primes : Tryz.prog.globalNamed "schisma/pitch.primes" = some 3 := by kernel_rfl
theorem ty_primes : (Tryz.prog.globals[3]?).map (·.type) = some 52 := by kernel_rfl
abbrev Laid0 : List (String × DataW Unit) := [("math/bits.deBruijn32tab", Rows.laid_math_bits_deBruijn32tab), ("math/bits.deBruijn64tab", Rows.laid_math_bits_deBruijn64tab), ("internal/strconv.uint64pow10", Rows.laid_internal_strconv_uint64pow10), ("unicode/utf8.acceptRanges", Rows.laid_unicode_utf8_acceptRanges), ("strconv.ErrRange", Rows.laid_strconv_ErrRange), ("strconv.ErrSyntax", Rows.laid_strconv_ErrSyntax), ("schisma/pitch.primes", Rows.laid_schisma_pitch_primes), ("unicode/utf8.first", Rows.laid_unicode_utf8_first)]
theorem tab_of_laid {W : World} (h : laidMetH Tryz.prog Laid0 W) : Tab W := by
 have h1 := laidMetH.filter (fun x => x.1 == "internal/strconv.uint64pow10") h
 have h2 : laidMetH Tryz.prog [("internal/strconv.uint64pow10", Rows.laid_internal_strconv_uint64pow10)] W := h1
 rw [MakeChecks.laidMetH_plain _ _ _ (by kernel_rfl)] at h2
 have ht : Tryz.prog.cellsOf 209 = 20 := by kernel_rfl
 have hc : Tryz.prog.cellsOf 166 = 1 := by kernel_rfl
 exact Lib.tabIs_of_head (rest := []) g_pow10 ty_pow10 Tryz.underlying209 Tryz.underlying166 hc ht h2
theorem primes_of_laid {W : World} (h : laidMetH Tryz.prog Laid0 W) : Primes W := by
 have h1 := laidMetH.filter (fun x => x.1 == "schisma/pitch.primes") h
 have h2 : laidMetH Tryz.prog [("schisma/pitch.primes", Rows.laid_schisma_pitch_primes)] W := h1
 rw [MakeChecks.laidMetH_plain _ _ _ (by kernel_rfl)] at h2
 have ht : Tryz.prog.cellsOf 52 = 6 := by kernel_rfl
 have hc : Tryz.prog.cellsOf 3 = 1 := by kernel_rfl
 have h3 : Lib.TabIs Tryz.prog W "schisma/pitch.primes" .i64 [2, 3, 5, 7, 11, 13] := Lib.tabIs_of_head (rest := []) g_primes ty_primes Tryz.underlying52 Tryz.underlying3 hc ht h2
 intro j hj
 rw [h3.cell g_primes j hj]
 have : j = 0 ∨ j = 1 ∨ j = 2 ∨ j = 3 ∨ j = 4 ∨ j = 5 := by omega
 rcases this with rfl | rfl | rfl | rfl | rfl | rfl <;> rfl
theorem maxl_of_shape {W : World} (h : W.ShapedOpen Tryz.prog) : MaxL W :=
 cell_of_shapedOpen_int (t := 3) (zero := #[.int .i64 0]) h (of_decide_eq_true (by kernel_rfl)) (by kernel_rfl) rfl (by kernel_rfl) (by kernel_rfl) Tryz.underlying3
theorem returns_and_shaped {H : Type} {enc : TypeId × Value → H} {a : Assume} {C : Checked} {os : Os} {f : FuncId} {fn : Func} {s : ChangeSpec} {conds : List PathCond} {apart fresh handsOn again : Bool} {X : World → Array Value → Prop}
  (hX : ∀ (w w' : World) (args : Array Value), w.heap = w'.heap → X w args → X w' args)
  (own : ownKnob C.prog.godebug = none) (started : os.Started) (noInit : C.prog.inits.idxOf? f = none) (hfn : C.prog.funcs[f]? = some fn)
  (witness : ∃ (w : World) (tape : Tape) (i : Input), w.os = os ∧ (w.forCall tape i).Shaped C.prog ∧ i.vars = [] ∧ Input.okWide C.prog (w.forCall tape i) .any w.heap.size f i ∧
   ((s.pre enc C.prog fn conds apart (w.forCall tape i).memory i.args ∧ X (w.forCall tape i).memory i.args) ∧ sizedMet enc C.prog fn (OpenSpec.ofChange s) apart (w.forCall tape i).memory i.args) ∧ a.holds C.prog (lone (Frame.enter C.prog f i.args .normal) [] (w.forCall tape i)))
  (contract : ∀ (W : World) (base : Nat) (args : Array Value) (ds gs : List (DataW H)) (before : List MemPlace),
   (∀ (j : Nat) t v, fn.params[j]? = some t → args[j]? = some v → Value.okWide C.prog W .any base t v) →
   DataW.Whole enc C.prog fn.params.toList s.vars apart W args.toList ds gs before →
   conds.all (PathCond.test C.prog ⟨fn.params.toList, ds, s.plain.varTypes C.prog, gs⟩) = true →
   (DataW.weightsEach C.prog (fn.params.toList ++ s.plain.varTypes C.prog) (ds ++ gs)).all (· ≤ reachBytes) = true → X W args →
   W.ShapedOpen C.prog →
   a.holds C.prog (lone (Frame.enter C.prog f args .normal) [] W) →
   Calls C.prog f args W fun e W' => ∃ v, e = .returned v ∧ s.post enc C.prog fn apart fresh handsOn again W args v W') :
  ReturnsInHanded a C os f .any (fun w args => (s.pre enc C.prog fn conds apart w args ∧ X w args) ∧ sizedMet enc C.prog fn (OpenSpec.ofChange s) apart w args) (s.post enc C.prog fn apart fresh handsOn again) := by
 refine returnsInHanded_of_calls own started noInit witness ?_
 intro w tape i _ hsh _ hok hpre hholds
 obtain ⟨_, _, _, fn', hfn', _, _, _, _, hval⟩ := hok
 have e : fn' = fn := Option.some.inj (hfn'.symm.trans hfn)
 subst e
 obtain ⟨⟨⟨ds, gs, before, hw, hc⟩, hx⟩, hz⟩ := hpre
 have hw' := DataW.Whole.of_heap (w' := w.forCall tape i) (by rfl) hw
 refine (contract (w.forCall tape i) w.heap.size i.args ds gs before hval hw' hc (hz.weights hw) (hX _ _ _ (by rfl) hx) hsh hholds).mono fun e W' ⟨v, he, hp⟩ => ?_
 subst he
 exact ChangeSpec.post_blind hp
theorem laid_met0 (os : Os) (args : Array Value) : laidMetH Tryz.prog Laid0 ((World.laidAll Tryz.prog os Laid0).forCall (fun _ _ => 0) ⟨#[], args, []⟩).memory := by
 rw [MakeChecks.laidMetH_plain _ _ _ (by kernel_rfl)]
 exact laidMet_laidAll _ (by kernel_rfl) (by kernel_rfl)
section
variable {H : Type} {enc : TypeId × Value → H} {w : World} {base : Nat} {sp : Nat → Bool} {held : Bool}
theorem open_str {r : Reach} {b0 : Nat} {v : Value} {d : DataW H} {ps : List MemPlace} (hval : Value.okWide Tryz.prog w r b0 9 v) (hd : DataW.Trod enc Tryz.prog w base sp held 9 v d ps) :
  ∃ l : List UInt8, v = str l ∧ ps = [] ∧ l.length ≤ 9223372036854775807 ∧ d = .lit (.string l) := by
 obtain ⟨s, rfl, rfl, rfl, hs⟩ := open_string Tryz.underlying9 hval hd
 refine ⟨s.data.toList, rfl, rfl, ?_, rfl⟩
 rw [Array.length_toList]
 unfold maxLen at hs
 exact hs
end
end Go.Proofs.YtcjhihmaegagdaaGreatDoor
namespace Go.Proofs.YtcjhihmaegagdaaGreatDoor
open Go.ChangeShapes Go.WideShapes Go.ChangeAt Go.RowKit
section
variable {H : Type} {enc : TypeId × Value → H} {w : World} {base : Nat} {sp : Nat → Bool} {held : Bool}
theorem open_vec_cells {fuel : Nat} {cs : List Value} {x : DataW H × List MemPlace} (h : DataW.trod enc Tryz.prog w base sp held fuel 53 cs = some x) : ∃ v : Vc, cs = v.cells.toList := by
 have hc6 : Tryz.prog.cellsOf 53 = 6 := by kernel_rfl
 have hc1 : Tryz.prog.cellsOf 3 = 1 := by kernel_rfl
 have hlen : cs.length = 6 := by
  cases fuel with
  | zero => simp [DataW.trod] at h
  | succ fuel =>
   simp only [DataW.trod, Tryz.underlying53, hc6] at h
   split at h
   ·
    assumption
   cases h
 match cs, hlen with
 | [c0, c1, c2, c3, c4, c5], _ =>
 obtain ⟨xs, m, _, hx, _, hl, hel⟩ := DataW.trod_array Tryz.underlying53 h
 match xs, hl with
 | [x0, x1, x2, x3, x4, x5], _ =>
 have h0 := hel 0 (by omega)
 have h1 := hel 1 (by omega)
 have h2 := hel 2 (by omega)
 have h3 := hel 3 (by omega)
 have h4 := hel 4 (by omega)
 have h5 := hel 5 (by omega)
 simp [hc1] at h0 h1 h2 h3 h4 h5
 obtain ⟨a0, e0, rfl, _⟩ := DataW.trod_int Tryz.underlying3 h0
 obtain ⟨a1, e1, rfl, _⟩ := DataW.trod_int Tryz.underlying3 h1
 obtain ⟨a2, e2, rfl, _⟩ := DataW.trod_int Tryz.underlying3 h2
 obtain ⟨a3, e3, rfl, _⟩ := DataW.trod_int Tryz.underlying3 h3
 obtain ⟨a4, e4, rfl, _⟩ := DataW.trod_int Tryz.underlying3 h4
 obtain ⟨a5, e5, rfl, _⟩ := DataW.trod_int Tryz.underlying3 h5
 simp at e0 e1 e2 e3 e4 e5
 subst e0 e1 e2 e3 e4 e5
 exact ⟨⟨a0, a1, a2, a3, a4, a5⟩, rfl⟩
theorem open_note_cells {fuel : Nat} {cs : List Value} {x : DataW H × List MemPlace} (h : DataW.trod enc Tryz.prog w base sp held fuel 55 cs = some x) : ∃ n : Nte, cs = n.cs := by
 have hc1 : Tryz.prog.cellsOf 3 = 1 := by kernel_rfl
 have hcB : Tryz.prog.cellsOf 4 = 1 := by kernel_rfl
 have hcV : Tryz.prog.cellsOf 53 = 6 := by kernel_rfl
 have hcN : Tryz.prog.cellsOf 55 = 10 := by kernel_rfl
 obtain ⟨ys, n, _, rfl, hlen, hl, hf⟩ := DataW.trod_struct Tryz.underlying55 h
 rw [hcN] at hlen
 match cs, hlen with
 | [c0, c1, c2, c3, c4, c5, c6, c7, c8, c9], _ =>
 match ys, hl with
 | [y0, y1, y2, y3, y4], _ =>
 have h0 := hf 0 _ rfl
 have h1 := hf 1 _ rfl
 have h2 := hf 2 _ rfl
 have h3 := hf 3 _ rfl
 have h4 := hf 4 _ rfl
 simp [hc1, hcB, hcV] at h0 h1 h2 h3 h4
 obtain ⟨a0, e0, rfl, _⟩ := DataW.trod_int Tryz.underlying3 h0
 obtain ⟨a1, e1, rfl, _⟩ := DataW.trod_int Tryz.underlying3 h1
 obtain ⟨a2, e2, rfl, _⟩ := DataW.trod_int Tryz.underlying3 h2
 obtain ⟨u, hu⟩ := open_vec_cells h3
 obtain ⟨b, e4, -⟩ := DataW.trod_bool Tryz.underlying4 h4
 simp at e0 e1 e2 e4
 subst e0 e1 e2 e4
 simp only [Vc.cells, List.cons.injEq] at hu
 exact ⟨⟨a0, a1, a2, u, b⟩, by simp [Nte.cs, hu]⟩
theorem open_pair_cells {fuel : Nat} {cs : List Value} {x : DataW H × List MemPlace} (h : DataW.trod enc Tryz.prog w base sp held fuel 57 cs = some x) : ∃ n : Par, cs = n.cs := by
 have hc1 : Tryz.prog.cellsOf 3 = 1 := by kernel_rfl
 have hcV : Tryz.prog.cellsOf 53 = 6 := by kernel_rfl
 have hcN : Tryz.prog.cellsOf 57 = 9 := by kernel_rfl
 obtain ⟨ys, n, _, rfl, hlen, hl, hf⟩ := DataW.trod_struct Tryz.underlying57 h
 rw [hcN] at hlen
 match cs, hlen with
 | [c0, c1, c2, c3, c4, c5, c6, c7, c8], _ =>
 match ys, hl with
 | [y0, y1, y2, y3], _ =>
 have h0 := hf 0 _ rfl
 have h1 := hf 1 _ rfl
 have h2 := hf 2 _ rfl
 have h3 := hf 3 _ rfl
 simp [hc1, hcV] at h0 h1 h2 h3
 obtain ⟨a0, e0, rfl, _⟩ := DataW.trod_int Tryz.underlying3 h0
 obtain ⟨a1, e1, rfl, _⟩ := DataW.trod_int Tryz.underlying3 h1
 obtain ⟨u, hu⟩ := open_vec_cells h2
 obtain ⟨a3, e3, rfl, _⟩ := DataW.trod_int Tryz.underlying3 h3
 simp at e0 e1 e3
 subst e0 e1 e3
 simp only [Vc.cells, List.cons.injEq] at hu
 exact ⟨⟨a0, a1, u, a3⟩, by simp [Par.cs, hu]⟩
theorem open_rows_at {α : Type} [Inhabited α] {t e : TypeId} (k : Nat) (hk0 : 0 < k) (ht : Tryz.prog.underlying t = some (.slice e)) (hk : Tryz.prog.cellsOf e = k) (cf : α → List Value) (hcf : ∀ x, (cf x).length = k)
  (hop : ∀ {fuel : Nat} {cs : List Value} {x : DataW H × List MemPlace}, DataW.trod enc Tryz.prog w 0 (fun _ => true) held fuel e cs = some x → ∃ c : α, cs = cf c)
  {fuel : Nat} {cs : List Value} {x : DataW H × List MemPlace} (hf : DataW.trod enc Tryz.prog w 0 (fun _ => true) held fuel t cs = some x) :
  ∃ (l : List α) (A : Option Addr) (c : Nat), cs = [.slice A l.length c] ∧ Shows w w.heap.size k A l.length (rcells cf l) ∧ (l = [] ∨ ∃ el sp, x.1 = .slice el sp ∧ el.length = l.length) := by
 rcases Go.Deep.open_slice ht hf with ⟨hcs, hx⟩ | ⟨ad, len, cap, m, n, D, Pl, hcs, _, hl, hm, hmm, hx, hi⟩
 ·
  exact ⟨[], none, 0, hcs, Shows.nil_, Or.inl rfl⟩
 simp only [if_true] at hmm
 rw [hk] at hi
 obtain ⟨M, hM⟩ := Go.Deep.choose_lt (α := α) (n := len) (p := fun i c => ∀ j, j < k → w.cell? ((ad.add (i * k)).add j) = (cf c)[j]?) (fun i hil => by
  obtain ⟨cs', h1, h2⟩ := hi i (by omega)
  obtain ⟨_, _, h3⟩ := World.cells?_some h1
  obtain ⟨c, rfl⟩ := hop h2
  exact ⟨c, h3⟩)
 have hlen : ((List.range len).map M).length = len := by simp
 refine ⟨(List.range len).map M, some ad, cap, by rw [hlen, hcs], ?_, Or.inr ⟨_, _, by rw [hx], by rw [hlen]; simp⟩⟩
 rw [hlen]
 refine ⟨by rw [rcells_length cf k hcf, hlen], fun hpos => ⟨ad, rfl, ?_, fun j hj => ?_⟩⟩
 ·
  have h0 := hM 0 hpos 0 hk0
  rw [show (ad.add (0 * k)).add 0 = ad from by simp [Addr.add]] at h0
  have hl0 : 0 < (cf (M 0)).length := by rw [hcf]; exact hk0
  rw [List.getElem?_eq_getElem hl0] at h0
  exact World.block_lt_of_cell? w _ h0
 rw [rcells_length cf k hcf, hlen] at hj
 have hq : j / k < len := (Nat.div_lt_iff_lt_mul hk0).2 hj
 have h0 := hM (j / k) hq (j % k) (Nat.mod_lt _ hk0)
 have hdm : j / k * k + j % k = j := Nat.div_add_mod' j k
 rw [add_add', hdm] at h0
 rw [h0]
 have := rcells_at cf k hcf ((List.range len).map M) (j / k) (j % k) (by rw [hlen]; exact hq) (Nat.mod_lt _ hk0)
 rw [hdm] at this
 rw [this]
 simp
theorem part_len {t e : TypeId} (hu : Tryz.prog.underlying t = some (.slice e)) (b : Nat) (hb : Tryz.prog.bytesOf e = b) (hb0 : 0 < b) {α : Type} {l : List α} {d : DataW H} (h : l = [] ∨ ∃ el sp, d = .slice el sp ∧ el.length = l.length) (hw : ∀ n ∈ d.weights Tryz.prog t, n ≤ reachBytes) : l.length ≤ 4611686018427387904 := by
 rcases h with rfl | ⟨el, sp, rfl, h⟩
 ·
  simp
 have := hw ((el.length + sp.length) * Tryz.prog.bytesOf e) (by simp [DataW.weights, hu])
 rw [hb] at this
 have h1 : el.length + sp.length ≤ (el.length + sp.length) * b := Nat.le_mul_of_pos_right _ hb0
 have h2 : reachBytes ≤ 4611686018427387904 := by decide
 omega
theorem open_score {r : Reach} {b0 : Nat} {v : Value} {d : DataW H} {ps : List MemPlace} (hval : Value.okWide Tryz.prog w r b0 26 v) (hd : DataW.Trod enc Tryz.prog w 0 (fun _ => true) held 26 v d ps) (hw : ∀ n ∈ d.weights Tryz.prog 26, n ≤ reachBytes) :
  ∃ s : Scr, ScrV w v s := by
 obtain ⟨cs, rfl, hsz⟩ := okWide_struct Tryz.underlying26 hval
 obtain ⟨fuel, hf⟩ := hd
 have hc1 : Tryz.prog.cellsOf 3 = 1 := by kernel_rfl
 have hcn : Tryz.prog.cellsOf 22 = 1 := by kernel_rfl
 have hcp : Tryz.prog.cellsOf 23 = 1 := by kernel_rfl
 have hcq : Tryz.prog.cellsOf 24 = 1 := by kernel_rfl
 have hcS : Tryz.prog.cellsOf 26 = 4 := by kernel_rfl
 obtain ⟨ys, n, _, hx, hlen, hl, hf⟩ := DataW.trod_struct Tryz.underlying26 hf
 rw [hcS] at hlen hsz
 obtain ⟨cs⟩ := cs
 change cs.length = 4 at hlen
 match cs, hlen with
 | [c0, c1, c2, c3], _ =>
 match ys, hl with
 | [y0, y1, y2, y3], _ =>
 have h0 := hf 0 _ rfl
 have h1 := hf 1 _ rfl
 have h2 := hf 2 _ rfl
 have h3 := hf 3 _ rfl
 simp [hc1, hcn, hcp, hcq, Value.cells] at h0 h1 h2 h3
 obtain rfl : d = .agg [y0.1, y1.1, y2.1, y3.1] := congrArg Prod.fst hx
 have hwe : ∀ n, n ∈ DataW.weightsEach Tryz.prog [3, 22, 23, 24] [y0.1, y1.1, y2.1, y3.1] → n ≤ reachBytes := fun n hn => hw n (by
  have e : (DataW.agg [y0.1, y1.1, y2.1, y3.1]).weights Tryz.prog 26 = DataW.weightsEach Tryz.prog [3, 22, 23, 24] [y0.1, y1.1, y2.1, y3.1] := by
   simp only [DataW.weights, Tryz.underlying26]
   rfl
  rw [e]; exact hn)
 obtain ⟨V, e0, -⟩ := DataW.trod_int Tryz.underlying3 h0
 have hi1 : Inhabited Nte := ⟨nte0⟩
 have hi2 : Inhabited Par := ⟨⟨0, 0, vc0, 0⟩⟩
 have hi3 : Inhabited Itg := ⟨⟨0⟩⟩
 obtain ⟨l1, A1, k1, e1, s1, z1⟩ := open_rows_at 10 (by omega) Tryz.underlying22 (by kernel_rfl) Nte.cs Nte.cs_len (fun h => open_note_cells h) h1
 obtain ⟨l2, A2, k2, e2, s2, z2⟩ := open_rows_at 9 (by omega) Tryz.underlying23 (by kernel_rfl) Par.cs Par.cs_len (fun h => open_pair_cells h) h2
 obtain ⟨l3, A3, k3, e3, s3, z3⟩ := open_rows_at 1 (by omega) Tryz.underlying24 (by kernel_rfl) Itg.cs Itg.cs_len (fun {fuel cs x} h => by
  have hlen : cs.length = 1 := by
   cases fuel with
   | zero => simp [DataW.trod] at h
   | succ fuel =>
    rcases cs with _ | ⟨c0, _ | ⟨c1, l⟩⟩
    ·
     simp [DataW.trod, Tryz.underlying3] at h
    ·
     rfl
    simp [DataW.trod, Tryz.underlying3] at h
  match cs, hlen with
  | [c0], _ =>
  obtain ⟨a0, e0, -⟩ := DataW.trod_int Tryz.underlying3 h
  exact ⟨⟨a0⟩, e0⟩) h3
 have n1 := part_len Tryz.underlying22 80 (by kernel_rfl) (by omega) z1 (fun n hn => hwe n (by simp only [DataW.weightsEach, List.mem_append]; exact Or.inr (Or.inl hn)))
 have n2 := part_len Tryz.underlying23 72 (by kernel_rfl) (by omega) z2 (fun n hn => hwe n (by simp only [DataW.weightsEach, List.mem_append]; exact Or.inr (Or.inr (Or.inl hn))))
 have n3 := part_len Tryz.underlying24 8 (by kernel_rfl) (by omega) z3 (fun n hn => hwe n (by simp only [DataW.weightsEach, List.mem_append]; exact Or.inr (Or.inr (Or.inr (Or.inl hn)))))
 simp only [List.cons.injEq, and_true] at e0 e1 e2 e3
 subst e0 e1 e2 e3
 have e3 : itg (l3.map Itg.x) = l3 := by
  unfold itg
  rw [List.map_map]
  exact (List.map_congr_left (fun _ _ => rfl)).trans (List.map_id l3)
 have e4 : (l3.map Itg.x).length = l3.length := by simp
 refine ⟨⟨V, l1, l2, l3.map Itg.x⟩, ⟨⟨A1, k1, A2, k2, A3, k3, by rw [e4], s1, s2, ?_⟩, Nat.le_refl _, n1, n2, by rw [e4]; exact n3⟩⟩
 rw [e3]
 exact s3
theorem u8_wf {n : Int} (h : (Lit.int .u8 n).wf = true) : ∃ x : Nat, n = (x : Int) ∧ x ≤ 255 := by
 have hmn : IntKind.u8.min = 0 := by decide
 have hmx : IntKind.u8.max = 255 := by decide
 have : 0 ≤ n ∧ n ≤ 255 := by simpa [Lit.wf, hmn, hmx] using h
 exact ⟨n.toNat, by omega, by omega⟩
theorem open_u8 {r : Reach} {b0 : Nat} {v : Value} {d : DataW H} {ps : List MemPlace} (hval : Value.okWide Tryz.prog w r b0 5 v) (hd : DataW.Trod enc Tryz.prog w base sp held 5 v d ps) :
  ∃ x : Nat, v = .int .u8 (x : Int) ∧ x ≤ 255 ∧ ps = [] := by
 obtain ⟨n, rfl, _, rfl, hw⟩ := open_int Tryz.underlying5 hval hd
 obtain ⟨x, rfl, hx⟩ := u8_wf hw
 exact ⟨x, rfl, hx, rfl⟩
end
end Go.Proofs.YtcjhihmaegagdaaGreatDoor
namespace Go.Proofs.YtcjhihmaegagdaaGreatDoor
open Go.RowKit Go.Deep
theorem ext_mid (s : List UInt8) (p e : Nat) : (⟨s.toArray⟩ : ByteArray).extract p e = ⟨(sseg s p e).toArray⟩ := by
 apply ByteArray.ext
 simp [ByteArray.data_extract, List.extract_eq_take_drop, sseg]
theorem lines_any (w : World) (t : List UInt8) (ht : t.length ≤ 1000000) :
  Calls Tryz.prog 23 #[str t] w fun e w' => ∃ v, e = .returned v ∧ OwnS w' w.heap.size v (linesF [] t) ∧ Below w.heap.size w w' := by
 have hsz : (⟨t.toArray⟩ : ByteArray).size = t.length := by simp [ByteArray.size]
 have HTL := hid ht
 have ht1 := ht
 clear ht
 go_enter Tryz.func23, Tryz.ntmps23
 go_wp2
 go_loopw [3, 4, 5] (fun v f i wx => ∃ (p j : Nat) (L : List (List UInt8)), p ≤ j ∧ j ≤ t.length ∧ f = .int .i64 p ∧ i = .int .i64 j ∧ L.length ≤ j ∧ Hid (Below w.heap.size w wx) ∧ Hid (OwnS wx w.heap.size v L) ∧ Hid (linesF [] t = L ++ linesF (sseg t p j) (t.drop j))) (fun _ _ i _ => t.length - (intOf i).toNat)
 case atStart => exact ⟨0, 0, [], Nat.le_refl _, Nat.zero_le _, rfl, rfl, Nat.le_refl _, hid (Below.refl _ _), hid (OwnS.start _ _), hid (by rw [sseg_self]; rfl)⟩
 case round =>
  obtain ⟨p, j, L, hpj, hj, rfl, rfl, hL, HB, HO, HE⟩ := hrel
  by_cases hlt : j < t.length
  ·
   obtain ⟨x, hx⟩ : ∃ x, x = t[j] := ⟨_, rfl⟩
   have hz : (⟨t.toArray⟩ : ByteArray)[j]'(by rw [hsz]; omega) = x := by rw [hx]; rfl
   have hst := lines_step t p j hpj hlt
   rw [← hx] at hst
   have HST := hid hst
   clear hst hx
   by_cases h10 : x = 10
   ·
    subst h10
    have HE' : Hid (linesF [] t = L ++ [sseg t p (j + 1)] ++ linesF (sseg t (j + 1) (j + 1)) (t.drop (j + 1))) := hid (by rw [HE.out, HST.out, if_pos rfl, List.append_assoc]; rfl)
    have hex := ext_mid t p (j + 1)
    have hpj1 : (p : Int) ≤ ((j : Int) + 1) := by omega
    obtain ⟨sg, hsg⟩ : ∃ sg, sg = sseg t p (j + 1) := ⟨_, rfl⟩
    rw [← hsg] at HE' hex
    clear hsg HE HST
    go_wp2_with (at_builtin; go_must (refine wpList_app _ rfl _ _ 49 9 (.string ⟨#[]⟩) 1 16 rfl Tryz.underlying49 info_str rfl (by decide) w.heap.size _ _ _ rfl (HO.out.alloc _) (wr.heap.size + 1) (some ⟨wr.heap.size, 0, none⟩) 1 1 [str sg] rfl (shows_new wr #[str sg] 9 1 1 rfl) (str_one sg) (by have := HTL.out; simp only [maxLen]; omega) (by have := HTL.out; omega) (by have h2 := HB.out.size; simp; omega) ?_); intro v4 w4 ho4 hg4 _; replace ho4 := hid ho4; replace hg4 := hid hg4)
    have B4 : Hid (Below w.heap.size w w4) := hid ((HB.out.alloc HB.out.size _).grown hg4.out (by have := HB.out.size; simp; omega) (fun y e => (World.ownsRow.lt HO.out y e).1))
    go_roundw
    case rel => exact ⟨j + 1, j + 1, L ++ [sg], Nat.le_refl _, by omega, by go_num, by go_num, by rw [List.length_append]; simp; omega, B4, hid (OwnS.snoc ho4.out), HE'⟩
    case measure => simp [intOf]; omega
   have HE' : Hid (linesF [] t = L ++ linesF (sseg t p (j + 1)) (t.drop (j + 1))) := hid (by rw [HE.out, HST.out, if_neg h10])
   have hy10 : ((x.toNat : Int) == 10) = false := by
    rw [beq_eq_false_iff_ne]; intro e; apply h10
    have e2 : x.toNat = 10 := by omega
    rw [← UInt8.ofNat_toNat (x := x), e2]; rfl
   clear HE HST h10
   go_wp2
   go_roundw
   case rel => exact ⟨p, j + 1, L, by omega, by omega, rfl, by go_num, by omega, HB, HO, HE'⟩
   case measure => simp [intOf]; omega
  have HF : Hid (linesF [] t = L) := hid (by rw [HE.out, lines_end t p j (by omega), List.append_nil])
  go_wp2
  go_ret
  exact ⟨_, rfl, by rw [HF.out]; exact HO.out, HB.out⟩
end Go.Proofs.YtcjhihmaegagdaaGreatDoor
namespace Go.Proofs.YtcjhihmaegagdaaGreatDoor
open Go.RowKit Go.Deep
def RdS_ (w : World) (B : Nat) (A : Option Addr) (ss : List (List UInt8)) : Prop := Shows w B 1 A ss.length (ss.map str)
theorem RdS_.at {w wx : World} {B : Nat} {A : Option Addr} {ss : List (List UInt8)} (h : RdS_ w B A ss) (hB : B ≤ w.heap.size) (hb : Below w.heap.size w wx) {i : Nat} (hi : i < ss.length) : ∃ ad, A = some ad ∧ wx.cell? (ad.add i) = some (str (ss.getD i [])) := by
 obtain ⟨ad, u, rfl, h1, h2, h3⟩ := Shows.at_ h hi
 refine ⟨ad, rfl, ?_⟩
 rw [hb.cell (by rw [add_block]; omega), h3, ← h2, List.getElem?_map, List.getD_eq_getElem?_getD, List.getElem?_eq_getElem hi]
 rfl
theorem OwnS.rd {w : World} {base : Nat} {v : Value} {ss : List (List UInt8)} (h : OwnS w base v ss) : ∃ A c, v = .slice A ss.length c ∧ ss.length ≤ c ∧ RdS_ w w.heap.size A ss := by
 have h' := h
 rcases h'.2 with ⟨rfl, h0⟩ | ⟨g, cap, cur, rfl, -, -, hc, -⟩
 ·
  obtain rfl := List.eq_nil_of_length_eq_zero h0
  exact ⟨none, 0, rfl, Nat.le_refl _, Shows.nil_⟩
 exact ⟨_, cap, rfl, hc, Shows.of_own h⟩
theorem isPair_short (l : List UInt8) (h : ¬ 4 < l.length) : isPairL l = false := by unfold isPairL; simp [h]
theorem isPair_long (l : List UInt8) (h : 4 < l.length) : isPairL l = decide (l.take 4 = [112, 97, 105, 114]) := by unfold isPairL; simp [h]
theorem isPair_eq (l : List UInt8) (h : 4 < l.length) : (l.take 4 == [112, 97, 105, 114]) = isPairL l := by
 rw [isPair_long l h]
 by_cases e : l.take 4 = [112, 97, 105, 114] <;> simp [e]
theorem order_any (w : World) (v : Value) (s : Scr) (by_ : Nat) (hby : by_ ≤ 255) (hv : ScrV w v s) (hM : MaxL w) (hP : Primes w) (hT : Tab w) : Calls Tryz.prog 10 #[v, .int .u8 (by_ : Int)] w fun e w' => e = .returned (.bool true) ∧ Below w.heap.size w w' := by
 have HHD : Hid (∀ W, Below w.heap.size w W → Calls Tryz.prog 11 #[] W fun e w' => e = .returned (.bool true) ∧ Below W.heap.size W w') := hid fun W hb => head_any W (hM.below hb) (hP.below hb) (hT.below hb)
 have HPA : Hid (∀ W, Below w.heap.size w W → ∀ (x : List UInt8), x.length ≤ 4611686018427387904 → ∀ c p k, parseS x = c → parseP x = p → parseE x = k → Calls Tryz.prog 15 #[str x] W fun e w' => Below W.heap.size W w' ∧ ∃ V An n cn Ap m cp Aq o cq, e = .returned (.tuple #[.agg #[.int .i64 V, .slice An n cn, .slice Ap m cp, .slice Aq o cq], .int .i64 (p : Nat), .int .i64 (k : Nat)]) ∧ ScrV w' (.agg #[.int .i64 V, .slice An n cn, .slice Ap m cp, .slice Aq o cq]) c) := hid fun W hb x hx c p k h1 h2 h3 => by
  have h := parse_any W x hx (hM.below hb) (hP.below hb)
  unfold PEnds at h
  rw [h1, h2, h3] at h
  refine h.mono fun e w' ⟨b, v, e1, e2⟩ => ⟨b, ?_⟩
  obtain ⟨An, cn, Ap, cp, Aq, cq, rfl, -⟩ := e2.ex
  exact ⟨_, An, _, cn, Ap, _, cp, Aq, _, cq, e1, e2⟩
 have HPR : Hid (∀ W v c, Below w.heap.size w W → ScrV W v c → ∀ t k, printS c = t → printE c = k → Calls Tryz.prog 18 #[v] W fun e w' => e = .returned (.tuple #[str t, .int .i64 (k : Nat)]) ∧ Below W.heap.size W w') := hid fun W v c hb hv t k h1 h2 => by
  have h := print_any W _ v c hv (hT.below hb)
  rw [h1, h2] at h
  exact h
 obtain ⟨t, ht⟩ : ∃ t, printS s = t := ⟨_, rfl⟩
 obtain ⟨k, hk⟩ : ∃ k, printE s = k := ⟨_, rfl⟩
 have HPRT : Hid ((k ≠ 0 ∧ (k = 1 ∨ k = 2) ∧ t = []) ∨ (k = 0 ∧ t.length ≤ 8000 ∧ t = sourceL s ∧ validS s = true ∧ lexE t = 0 ∧ parseE t = 0 ∧ parseS t = s ∧ parseP t = 0)) := hid (by
  rw [← ht, ← hk]; exact print_all s)
 have H0 := hid (And.intro ht hk)
 obtain ⟨V0, An0, n0, cn0, Ap0, m0, cp0, Aq0, o0, cq0, rfl⟩ : ∃ V An n cn Ap m cp Aq o cq, v = .agg #[.int .i64 V, .slice An n cn, .slice Ap m cp, .slice Aq o cq] := by
  obtain ⟨An, cn, Ap, cp, Aq, cq, rfl, -⟩ := hv.ex
  exact ⟨_, _, _, _, _, _, _, _, _, _, rfl⟩
 have HV := hid hv
 clear hM hP hT ht hk hv
 go_enter Tryz.func10, Tryz.ntmps10
 go_upto_region 1 with (fail)
 obtain ⟨g0, hg0⟩ : ∃ g, g = w.heap.size := ⟨_, rfl⟩
 have aw0 : Hid (Below w.heap.size w (w.alloc (.cells #[.int .i64 V0, .slice An0 n0 cn0, .slice Ap0 m0 cp0, .slice Aq0 o0 cq0] 26))) := hid ((Below.refl _ _).alloc (Nat.le_refl _) _)
 have sw0 : Hid (Blk (w.alloc (.cells #[.int .i64 V0, .slice An0 n0 cn0, .slice Ap0 m0 cp0, .slice Aq0 o0 cq0] 26)) w.heap.size 26 #[.int .i64 V0, .slice An0 n0 cn0, .slice Ap0 m0 cp0, .slice Aq0 o0 cq0]) := hid (Blk.new _ _ _)
 rw [← hg0] at sw0 ⊢
 clear hg0
 generalize (w.alloc (.cells #[.int .i64 V0, .slice An0 n0 cn0, .slice Ap0 m0 cp0, .slice Aq0 o0 cq0] 26)) = w0 at aw0 sw0 ⊢
 have q0 := hid (ScrV.up HV.out aw0.out)
 have x0 := sw0.out.cell 0; have x1 := sw0.out.cell 1; have x2 := sw0.out.cell 2; have x3 := sw0.out.cell 3
 go_upto_region 3 with (first
  | (go_at_call 11; refine (HHD.out _ aw0.out).mono ?_; rintro e w1 ⟨rfl, b1⟩; have c0 := sw0.out.below b1 sw0.out.lt; have x0 := c0.cell 0; have x1 := c0.cell 1; have x2 := c0.cell 2; have x3 := c0.cell 3; clear c0; replace b1 := hid b1)
  | (go_at_call 18; refine (HPR.out _ _ s (below_on aw0.out b1.out) (ScrV.up q0.out b1.out) t k H0.out.1 H0.out.2).mono ?_; rintro e w2 ⟨rfl, b2⟩; replace b2 := hid b2))
 have b02 := hid (below_on b1.out b2.out)
 have B2 := hid (below_on aw0.out b02.out)
 have q2 := hid (ScrV.up q0.out b02.out)
 have s2 := hid (sw0.out.below b02.out sw0.out.lt)
 clear x0 x1 x2 x3 b1 b2 b02 aw0 sw0 q0 H0
 by_cases h0 : k = 0
 case neg =>
  have hk0 : ((k : Int) != 0) = true := by rw [bne_iff_ne]; omega
  clear HPRT h0
  go_wp2_with fail
  go_ret
  exact ⟨rfl, B2.out⟩
 subst h0
 have hpr := HPRT.out
 rcases hpr with ⟨h, -⟩ | ⟨-, h1, h2, h3, -⟩
 ·
  exact absurd rfl h
 obtain ⟨hd, ls, hls⟩ : ∃ hd ls, srcLines s = hd :: ls := ⟨_, _, rfl⟩
 have HLN : Hid (linesF [] t = hd :: ls) := hid (by rw [h2, srcLines_lines, hls])
 have HFL : Hid (hd.length + ls.flatten.length ≤ 8000 ∧ ls.length ≤ 8000) := by
  have e1 : (hd :: ls).flatten = t := by rw [← hls, srcLines_flat, h2]
  have e2 := congrArg List.length e1
  rw [List.flatten_cons, List.length_append] at e2
  have e3 := linesF_count [] t
  rw [HLN.out, List.length_cons] at e3
  exact hid ⟨by omega, by omega⟩
 have HOL : Hid (parseE (hd ++ (frontO ls ls.length ++ rotO (pairsO ls ls.length) by_ (pairsO ls ls.length).length)) = 0 ∧ parseS (hd ++ (frontO ls ls.length ++ rotO (pairsO ls ls.length) by_ (pairsO ls ls.length).length)) = s) := hid (by
  have := order_law h3 (by rw [← h2]; exact h1) by_
  rw [hls, otherO, ← rotO_all] at this
  exact this)
 have HT8 := hid h1
 clear h1 h2 h3 hls HPRT
 go_upto_region 6 with (go_at_call 23; refine (lines_any w2 t (by have := HT8.out; omega)).mono ?_; rintro e w3 ⟨vl, rfl, o3, b3⟩; replace b3 := hid b3; replace o3 := hid o3)
 have B3 := hid (below_on B2.out b3.out)
 have q3 := hid (ScrV.up q2.out b3.out)
 have s3 := hid (s2.out.below b3.out s2.out.lt)
 have ord := OwnS.rd o3.out
 rw [HLN.out] at ord
 obtain ⟨A, cA, rfl, -, r3⟩ := ord
 have R3 := hid r3
 clear r3 o3 b3 B2 q2 s2 HLN HT8
 obtain ⟨n, hn⟩ : ∃ n, ls.length = n := ⟨_, rfl⟩
 have hn1 : (hd :: ls).length = n + 1 := by rw [List.length_cons, hn]
 rw [hn1]
 have HN := hid hn
 have hn8 : n ≤ 8000 := by have := HFL.out.2; omega
 have hq0 : ((n : Int) + 1 == 0) = false := by rw [beq_eq_false_iff_ne]; omega
 rw [hn] at HOL
 clear hn hn1
 go_upto_region 11 with (fail)
 clear hq0
 go_loopw [9, 10, 11] (fun f v i wx => ∃ (j : Nat) (F : List UInt8), j ≤ n ∧ i = .int .i64 ((j : Int) + 1) ∧ f = str F ∧ Hid (F = frontO ls j) ∧ Hid (Below w3.heap.size w3 wx) ∧ Hid (OwnS wx w3.heap.size v (pairsO ls j))) (fun _ _ i _ => n + 1 - (intOf i).toNat)
 case atStart => exact ⟨0, [], Nat.zero_le _, rfl, rfl, hid rfl, hid (Below.refl _ _), hid (OwnS.start _ _)⟩
 case round =>
  obtain ⟨j, F, hj, rfl, rfl, HF, HB, HO⟩ := hrel
  by_cases hlt : j < n
  ·
   have hjl : j < ls.length := by rw [HN.out]; exact hlt
   obtain ⟨ad, rfl, hc⟩ := RdS_.at R3.out (Nat.le_refl _) HB.out (i := j + 1) (by rw [List.length_cons]; omega)
   rw [List.getD_cons_succ, add_off] at hc
   obtain ⟨x, hx⟩ : ∃ x, x = ls.getD j [] := ⟨_, rfl⟩
   have hxe : x = ls[j] := by rw [hx, List.getD_eq_getElem?_getD, List.getElem?_eq_getElem hjl]; rfl
   rw [← hx] at hc
   have hxl : x.length ≤ 8000 := by rw [hxe]; have := flat_ge ls j hjl; have := HFL.out; omega
   have hyes := frontO_yes ls j hjl
   have hno := frontO_no ls j hjl
   rw [← hxe] at hyes hno
   have HYES := hid hyes
   have HNO := hid hno
   have HPL : Hid ((pairsO ls j).length ≤ 8000) := hid (Nat.le_trans (pairsO_len _ _) HFL.out.2)
   have hfl : F.length ≤ 8000 := by rw [HF.out]; have := frontO_len ls j; have := HFL.out; omega
   clear hx hxe hyes hno
   have hsz : (⟨x.toArray⟩ : ByteArray).size = x.length := by simp [ByteArray.size]
   have hm : ¬ 9223372036854775807 < x.length + F.length := by omega
   obtain ⟨P, hP⟩ : ∃ P, P = pairsO ls j := ⟨_, rfl⟩
   rw [← hP] at HO HPL
   have HPP := hid hP
   clear hP
   by_cases h4 : 4 < x.length
   case neg =>
    obtain ⟨e1, e2⟩ := HNO.out (isPair_short x h4)
    have HF' : Hid (x ++ F = frontO ls (j + 1)) := hid (by rw [e1, HF.out])
    have HO' : Hid (∀ W u, OwnS W w3.heap.size u P → OwnS W w3.heap.size u (pairsO ls (j + 1))) := hid fun W u h => by rw [e2, ← HPP.out]; exact h
    have hq4 : decide ((4 : Int) < (x.length : Int)) = false := by rw [decide_eq_false_iff_not]; omega
    clear e1 e2 h4 HYES HNO hfl hxl HF
    go_wp2
    go_roundw
    case rel => exact ⟨j + 1, x ++ F, by omega, by go_num, str_add x F, HF', HB, hid (HO'.out _ _ HO.out)⟩
    case measure => simp [intOf]; omega
   have hq4 : decide ((4 : Int) < (x.length : Int)) = true := by rw [decide_eq_true_eq]; omega
   have hex := ext_to x 4
   have hpe := isPair_eq x h4
   obtain ⟨z, hz⟩ : ∃ z, z = x.take 4 := ⟨_, rfl⟩
   rw [← hz] at hex hpe
   clear hz
   by_cases hpr : isPairL x = true
   ·
    obtain ⟨e1, e2⟩ := HYES.out hpr
    rw [hpr] at hpe
    have HF' : Hid (F = frontO ls (j + 1)) := hid (by rw [e1, HF.out])
    have HO' : Hid (∀ W u, OwnS W w3.heap.size u (P ++ [x]) → OwnS W w3.heap.size u (pairsO ls (j + 1))) := hid fun W u h => by rw [e2, ← HPP.out]; exact h
    have h4i : (4 : Int) ≤ (x.length : Int) := by omega
    clear e1 e2 HYES HNO hfl hpr h4 hm HF
    go_wp2_with (at_builtin; go_must (refine wpList_app _ rfl _ _ 49 9 (.string ⟨#[]⟩) 1 16 rfl Tryz.underlying49 info_str rfl (by decide) w3.heap.size _ _ _ rfl (HO.out.alloc _) (wr.heap.size + 1) (some ⟨wr.heap.size, 0, none⟩) 1 1 [str x] rfl (shows_new wr #[str x] 9 1 1 rfl) (str_one x) (by have := HPL.out; simp only [maxLen]; omega) (by have := HPL.out; omega) (by have h2 := HB.out.size; simp; omega) ?_); intro v4 w4 ho4 hg4 _; replace ho4 := hid ho4; replace hg4 := hid hg4)
    have B4 : Hid (Below w3.heap.size w3 w4) := hid ((HB.out.alloc HB.out.size _).grown hg4.out (by have := HB.out.size; simp; omega) (fun y e => (World.ownsRow.lt HO.out y e).1))
    go_roundw
    case rel => exact ⟨j + 1, F, by omega, by go_num, rfl, HF', B4, hid (HO'.out _ _ (OwnS.snoc ho4.out))⟩
    case measure => simp [intOf]; omega
   have hpf : isPairL x = false := by simpa using hpr
   obtain ⟨e1, e2⟩ := HNO.out hpf
   rw [hpf] at hpe
   have HF' : Hid (x ++ F = frontO ls (j + 1)) := hid (by rw [e1, HF.out])
   have HO' : Hid (∀ W u, OwnS W w3.heap.size u P → OwnS W w3.heap.size u (pairsO ls (j + 1))) := hid fun W u h => by rw [e2, ← HPP.out]; exact h
   have h4i : (4 : Int) ≤ (x.length : Int) := by omega
   clear e1 e2 h4 HYES HNO hfl hxl HF hpr hpf
   go_wp2
   go_roundw
   case rel => exact ⟨j + 1, x ++ F, by omega, by go_num, str_add x F, HF', HB, hid (HO'.out _ _ HO.out)⟩
   case measure => simp [intOf]; omega
  obtain rfl : j = n := by omega
  obtain ⟨ad, rfl, hc⟩ := RdS_.at R3.out (Nat.le_refl _) HB.out (i := 0) (by rw [List.length_cons]; omega)
  rw [List.getD_cons_zero] at hc
  have hfl : F.length ≤ ls.flatten.length := by rw [HF.out]; exact frontO_len ls j
  have hhl : hd.length + ls.flatten.length ≤ 8000 := HFL.out.1
  have hm : ¬ 9223372036854775807 < hd.length + F.length := by omega
  have hnl : ¬ ((j : Int) + 1) < ((j + 1 : Nat) : Int) := by omega
  have hc0 : wr.cell? ad = some (str hd) := by
   have e : ad.add 0 = ad := by simp [Addr.add]
   rw [e] at hc
   exact hc
  obtain ⟨P, hP⟩ : ∃ P, P = pairsO ls j := ⟨_, rfl⟩
  rw [← hP] at HO HOL
  obtain ⟨Ap, cp, rfl, -, rp⟩ := OwnS.rd HO.out
  have RP := hid rp
  have HPL : Hid (P.length ≤ 8000 ∧ P.flatten.length ≤ ls.flatten.length) := hid (by rw [hP]; exact ⟨Nat.le_trans (pairsO_len _ _) HFL.out.2, pairsO_flat _ _⟩)
  obtain ⟨m, hmP⟩ : ∃ m, m = P.length := ⟨_, rfl⟩
  have HMP := hid hmP
  have hm8 : m ≤ 8000 := by rw [hmP]; exact HPL.out.1
  rw [← HF.out, ← hmP] at HOL
  rw [← hmP]
  have HHL : Hid (hd.length + F.length ≤ 8000) := hid (by omega)
  have BW := hid (below_on B3.out HB.out)
  have qW := hid (ScrV.up q3.out HB.out)
  have sW := hid (s3.out.below HB.out s3.out.lt)
  clear hP rp hmP hc hfl hhl HO HF R3 B3 q3 s3 HB hj
  go_upto_region 18 with (fail)
  clear hm hnl hc0
  rw [str_add hd F]
  go_loopw [12, 13] (fun o i wx => ∃ (q : Nat), q ≤ m ∧ i = .int .i64 q ∧ o = str (hd ++ (F ++ rotO P by_ q)) ∧ wx = wr) (fun _ i _ => m - (intOf i).toNat)
  case atStart => exact ⟨0, Nat.zero_le _, rfl, (by rw [show rotO P by_ 0 = [] from rfl, List.append_nil]), rfl⟩
  case round =>
   obtain ⟨q, hq, rfl, rfl, hwr⟩ := hrel
   subst hwr
   by_cases hlt : q < m
   ·
    obtain ⟨z, hz⟩ : ∃ z, z = (q + by_) % m := ⟨_, rfl⟩
    have hzm : z < m := by rw [hz]; exact Nat.mod_lt _ (by omega)
    have ez : ((q : Int) + (by_ : Int)) % (m : Int) = (z : Int) := by rw [hz]; simp
    obtain ⟨ad, rfl, hc⟩ := RdS_.at RP.out (Nat.le_refl _) (Below.refl _ _) (i := z) (by rw [← HMP.out]; exact hzm)
    obtain ⟨y, hy⟩ : ∃ y, y = P.getD z [] := ⟨_, rfl⟩
    rw [← hy] at hc
    have HS : Hid (hd ++ (F ++ rotO P by_ q) ++ y = hd ++ (F ++ rotO P by_ (q + 1))) := hid (by rw [rotO, ← HMP.out, ← hz, ← hy]; simp)
    have hl : (hd ++ (F ++ rotO P by_ q) ++ y).length ≤ 40000 := by
     rw [HS.out, List.length_append, List.length_append]
     have := rotO_len P by_ (q + 1) (by rw [← HMP.out]; omega)
     have := HPL.out.2
     have := HHL.out
     have := HFL.out.1
     omega
    obtain ⟨o, ho⟩ : ∃ o, o = hd ++ (F ++ rotO P by_ q) := ⟨_, rfl⟩
    rw [← ho] at HS hl ⊢
    rw [List.length_append] at hl
    have hm : ¬ 9223372036854775807 < o.length + y.length := by omega
    clear ho hy hz hl
    go_wp2
    go_roundw
    case rel => exact ⟨q + 1, by omega, by go_num, (by rw [← HS.out]; exact str_add o y), by simp⟩
    case measure => simp [intOf]; omega
   obtain rfl : q = m := by omega
   obtain ⟨o, ho⟩ : ∃ o, o = hd ++ (F ++ rotO P by_ q) := ⟨_, rfl⟩
   have HO8 : Hid (o.length ≤ 40000) := hid (by
    rw [ho, List.length_append, List.length_append]
    have := rotO_len P by_ q (by rw [← HMP.out]; omega)
    have := HPL.out.2
    have := HHL.out
    have := HFL.out.1
    omega)
   rw [← ho] at HOL ⊢
   obtain ⟨po, hpo⟩ : ∃ po, parseP o = po := ⟨_, rfl⟩
   have HPO := hid hpo
   clear ho hpo HMP HPL HHL HFL RP
   go_upto_region 22 with (go_at_call 15; refine (HPA.out _ BW.out o (by have := HO8.out; omega) s po 0 HOL.out.2 HPO.out HOL.out.1).mono ?_; rintro e w5 ⟨b5, V1, An1, n1, cn1, Ap1, m1, cp1, Aq1, o1, cq1, rfl, q5⟩; replace b5 := hid b5; replace q5 := hid q5)
   obtain ⟨g1, hg1⟩ : ∃ g1, g1 = w5.heap.size := ⟨_, rfl⟩
   have aw6 : Hid (Below w5.heap.size w5 (w5.alloc (.cells #[.int .i64 V1, .slice An1 n1 cn1, .slice Ap1 m1 cp1, .slice Aq1 o1 cq1] 26))) := hid ((Below.refl _ _).alloc (Nat.le_refl _) _)
   have sw6 : Hid (Blk (w5.alloc (.cells #[.int .i64 V1, .slice An1 n1 cn1, .slice Ap1 m1 cp1, .slice Aq1 o1 cq1] 26)) w5.heap.size 26 #[.int .i64 V1, .slice An1 n1 cn1, .slice Ap1 m1 cp1, .slice Aq1 o1 cq1]) := hid (Blk.new _ _ _)
   rw [← hg1] at sw6 ⊢
   clear hg1
   generalize (w5.alloc (.cells #[.int .i64 V1, .slice An1 n1 cn1, .slice Ap1 m1 cp1, .slice Aq1 o1 cq1] 26)) = w6 at aw6 sw6 ⊢
   have b56 := hid (below_on b5.out aw6.out)
   have B6 := hid (below_on BW.out b56.out)
   have q6 := hid (ScrV.up qW.out b56.out)
   have r6 := hid (ScrV.up q5.out aw6.out)
   have s6 := hid (sW.out.below b56.out sW.out.lt)
   clear b5 aw6 b56 qW q5 BW sW
   have x0 := s6.out.cell 0; have x1 := s6.out.cell 1; have x2 := s6.out.cell 2; have x3 := s6.out.cell 3; have y0 := sw6.out.cell 0; have y1 := sw6.out.cell 1; have y2 := sw6.out.cell 2; have y3 := sw6.out.cell 3
   go_wp2_with (go_at_call 17; refine (equal_any w6 _ _ _ _ s s r6.out q6.out).mono ?_; rintro e w7 ⟨he, b⟩; rw [decide_eq_true rfl] at he; subst he; have B7 := hid (below_on B6.out b); clear b)
   go_ret
   exact ⟨rfl, B7.out⟩
end Go.Proofs.YtcjhihmaegagdaaGreatDoor
namespace Go.Proofs.YtcjhihmaegagdaaGreatDoor
open Go.ChangeShapes Go.WideShapes Go.ChangeAt Go.RowKit
theorem notationOrder_lifted (os : Os) (started : os.Started) (H : Type) (enc : TypeId × Value → H) :
  ReturnsInHanded {} Tryz.checked os 10 .any (fun w args => (Rows.notationOrderSpec.pre enc Tryz.prog Tryz.f10 [] false w args ∧ laidMetH Tryz.prog Laid0 w) ∧ sizedMet enc Tryz.prog Tryz.f10 (OpenSpec.ofChange Rows.notationOrderSpec) false w args)
   (Rows.notationOrderSpec.post enc Tryz.prog Tryz.f10 false true false false) := by
 refine returns_and_shaped (C := Tryz.checked) (X := fun w _ => laidMetH Tryz.prog Laid0 w) (fun _ _ _ hh h => h.of_heap hh) own0 started (by kernel_rfl) Tryz.func10
  (ChangeSpec.witness_shaped (enc := enc) (C := Tryz.checked) (os := os) (X := fun w _ => laidMetH Tryz.prog Laid0 w) false (World.laidAll Tryz.prog os Laid0) #[.agg #[.int .i64 0, .slice none 0 0, .slice none 0 0, .slice none 0 0], .int .u8 0] 8 (World.laidAll_os _ _ _) (World.shaped_of_ZipB (by kernel_rfl) (by kernel_rfl)) (by kernel_rfl) (by kernel_rfl) (by kernel_rfl) (laid_met0 os _)) ?_
 intro W base args ds gs before hval0 hW _ hsz0 hL hshape _
 have hval : ∀ (j : Nat) t v, Tryz.f10.params[j]? = some t → args[j]? = some v → Value.okWide Tryz.prog W .any base t v := hval0
 have hW' := hW
 obtain ⟨p, q, hA0, hV, rfl, _, _⟩ := hW
 have hA : DataW.TrodAll enc Tryz.prog W 0 (fun _ => true) true Tryz.f10.params.toList args.toList ds p := hA0
 rw [Tryz.params10] at hA hval
 have hsz : (DataW.weightsEach Tryz.prog (Tryz.f10.params.toList ++ Rows.notationOrderSpec.plain.varTypes Tryz.prog) (ds ++ gs)).all (· ≤ reachBytes) = true := hsz0
 clear hsz0
 rw [Tryz.params10] at hsz
 obtain ⟨v0, vs0, d0, ds0, p0, q0, hargs, rfl, rfl, h0, t0⟩ := trodAll_cons hA
 obtain ⟨v1, vs1, d1, ds1, p1, q1, rfl, rfl, rfl, h1, t1⟩ := trodAll_cons t0
 obtain ⟨rfl, rfl, rfl⟩ := trodAll_nil t1
 obtain rfl : args = #[v0, v1] := Array.toList_inj.1 hargs
 obtain ⟨rfl, rfl⟩ := trodVars_none hV
 obtain ⟨s, sv⟩ := open_score (hval 0 _ v0 rfl rfl) h0 (fun n hn => of_decide_eq_true (List.all_eq_true.1 hsz n (DataW.weights_mem_each (j := 0) rfl rfl n hn)))
 obtain ⟨x, rfl, m1, rfl⟩ := open_u8 (hval 1 _ v1 rfl rfl) h1
 clear hA0 hval0 hA
 simp only [List.append_nil] at hW'
 have hlt := hW'.lt
 refine (order_any W v0 s x m1 sv (maxl_of_shape hshape) (primes_of_laid hL) (tab_of_laid hL)).mono fun e W' ⟨he, hb⟩ => ?_
 subst he
 exact ⟨_, rfl, _, _, _, [], _, [], hW', trodAll_mk1 (shut_bool Tryz.underlying4 true), trodAll_mk2 (Below.trod laidOut0 (by kernel_rfl) (of_decide_eq_true (by kernel_rfl)) h0 hb (fun x hx => hlt x (by (try simp at hx) <;> (try simp [hx])))) (Below.trod laidOut0 (by kernel_rfl) (of_decide_eq_true (by kernel_rfl)) h1 hb (fun x hx => hlt x (by (try simp at hx) <;> (try simp [hx])))), rfl, hb.frame _, fun h => by cases h⟩
theorem notationOrder_said : Rows.NotationOrderSaid :=
 OpenClaim.holds_of_wide 10 Tryz.f10 rfl rfl rfl rfl rfl rfl rfl ⟨rfl, rfl, rfl, rfl, rfl⟩ rfl rfl rfl rfl rfl (by kernel_rfl) Tryz.func10 (by kernel_rfl)
  (of_decide_eq_true (by kernel_rfl)) (by unfold Func.isWrapper; first | (rw [if_pos (by decide +kernel)]; kernel_rfl) | (rw [if_neg (by decide +kernel)]; exact ⟨rfl, rfl⟩))
  (fun os started H enc _ => notationOrder_lifted os started H enc)
theorem notationOrder_card : Rows.NotationOrderCardSaid :=
 Claim7.holds_tied_plain_at .later [] [.data, .data, .data, .data, .sentinel, .sentinel, .data, .pinned] true Rows.notationOrderCard.stood.harness Rows.notationOrderCard.stood.looks
  notationOrder_said (fun _ h => by cases h) (by kernel_rfl) (fun _ h => by cases h) notationOrder_row_tie rfl ⟨rfl, rfl⟩ (by kernel_rfl) rfl
  (fun f fn hf hfn => by
   obtain rfl : f = 10 := Option.some.inj ((show Tryz.prog.funcNamed "schisma/schismalaw20.NotationOrder" = some 10 by kernel_rfl).symm.trans hf) |>.symm
   obtain rfl : fn = Tryz.f10 := (Option.some.inj (Tryz.func10.symm.trans hfn)).symm
   exact ⟨by kernel_rfl, fun j t ht => by
    rw [Tryz.params10] at ht
    have hm : t ∈ [26, 5] := by
     have := Array.mem_of_getElem? ht
     simpa using this
    have hall : ([26, 5].all fun u => !Tryz.prog.wantsStandIn u) = true := by kernel_rfl
    exact (show Tryz.prog.wantsStandIn t = false by simpa using List.all_eq_true.1 hall t hm)⟩)
  (by kernel_rfl)
end Go.Proofs.YtcjhihmaegagdaaGreatDoor
