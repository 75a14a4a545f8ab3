/- The tied card of NotationNames: for every score and two bytes that can be read as data, where the package-level variables hold what the program's text lays into them, NotationNames returns true and its arguments read as before. -/
import Derived.Test.YtcjhihmaegagdaaGreatDoorTie
import Derived.Test.YtcjhihmaegagdaaGreatDoorCards
import Derived.Test.YtcjhihmaegagdaaGreatDoorK5
import Derived.ProofKit
import Derived.LaidMore
import Derived.LaidHandle
import Derived.OpenShut
import Derived.SizedLaws
import Derived.JoinedOf
import Derived.ChangeSame
import Derived.ChangeVars
import Derived.RowKitTokens
import Derived.Stop.Joined
import Derived.Lib.LaidTab
import Derived.SevenTiedAt
import Derived.Lay
import Derived.LaidSub
import Derived.MakeChecks
import Derived.Deep.Slices
import Derived.HandedShaped
import Derived.Shelf.Vars
import Derived.Test.YtcjhihmaegagdaaGreatDoorK4
import Derived.Test.YtcjhihmaegagdaaGreatDoorG9
set_option maxRecDepth 100000
set_option maxHeartbeats 8000000
set_option linter.unusedSimpArgs false
set_option linter.unusedVariables false
set_option linter.unusedSectionVars false
set_option linter.unnecessarySimpa false
namespace Go.Proofs.YtcjhihmaegagdaaGreatDoor
open Go.ChangeShapes Go.WideShapes Go.ChangeAt Go.RowKit
open Go.ChangeMaps (open_string)
theorem own0 : ownKnob Tryz.prog.godebug = none := by kernel_rfl
theorem laidOut0 : laidOutB Tryz.prog = true := by kernel_rfl
theorem g_pow10 : Tryz.prog.globalNamed "internal/strconv.uint64pow10" = some 4 := by kernel_rfl
theorem ty_pow10 : (Tryz.prog.globals[4]?).map (·.type) = some 209 := by kernel_rfl
theorem g_primes : Tryz.prog.globalNamed "schisma/pitch.primes" = some 3 := by kernel_rfl
theorem ty_primes : (Tryz.prog.globals[3]?).map (·.type) = some 52 := by kernel_rfl
abbrev Laid0 : List (String × DataW Unit) := [("math/bits.deBruijn32tab", Rows.laid_math_bits_deBruijn32tab), ("math/bits.deBruijn64tab", Rows.laid_math_bits_deBruijn64tab), ("internal/strconv.uint64pow10", Rows.laid_internal_strconv_uint64pow10), ("unicode/utf8.acceptRanges", Rows.laid_unicode_utf8_acceptRanges), ("strconv.ErrRange", Rows.laid_strconv_ErrRange), ("strconv.ErrSyntax", Rows.laid_strconv_ErrSyntax), ("schisma/pitch.primes", Rows.laid_schisma_pitch_primes), ("unicode/utf8.first", Rows.laid_unicode_utf8_first)]
theorem tab_of_laid {W : World} (h : laidMetH Tryz.prog Laid0 W) : Tab W := by
 have h1 := laidMetH.filter (fun x => x.1 == "internal/strconv.uint64pow10") h
 have h2 : laidMetH Tryz.prog [("internal/strconv.uint64pow10", Rows.laid_internal_strconv_uint64pow10)] W := h1
 rw [MakeChecks.laidMetH_plain _ _ _ (by kernel_rfl)] at h2
 have ht : Tryz.prog.cellsOf 209 = 20 := by kernel_rfl
 have hc : Tryz.prog.cellsOf 166 = 1 := by kernel_rfl
 exact Lib.tabIs_of_head (rest := []) g_pow10 ty_pow10 Tryz.underlying209 Tryz.underlying166 hc ht h2
theorem primes_of_laid {W : World} (h : laidMetH Tryz.prog Laid0 W) : Primes W := by
 have h1 := laidMetH.filter (fun x => x.1 == "schisma/pitch.primes") h
 have h2 : laidMetH Tryz.prog [("schisma/pitch.primes", Rows.laid_schisma_pitch_primes)] W := h1
 rw [MakeChecks.laidMetH_plain _ _ _ (by kernel_rfl)] at h2
 have ht : Tryz.prog.cellsOf 52 = 6 := by kernel_rfl
 have hc : Tryz.prog.cellsOf 3 = 1 := by kernel_rfl
 have h3 : Lib.TabIs Tryz.prog W "schisma/pitch.primes" .i64 [2, 3, 5, 7, 11, 13] := Lib.tabIs_of_head (rest := []) g_primes ty_primes Tryz.underlying52 Tryz.underlying3 hc ht h2
 intro j hj
 rw [h3.cell g_primes j hj]
 have : j = 0 ∨ j = 1 ∨ j = 2 ∨ j = 3 ∨ j = 4 ∨ j = 5 := by omega
 rcases this with rfl | rfl | rfl | rfl | rfl | rfl <;> rfl
theorem maxl_of_shape {W : World} (h : W.ShapedOpen Tryz.prog) : MaxL W :=
 cell_of_shapedOpen_int (t := 3) (zero := #[.int .i64 0]) h (of_decide_eq_true (by kernel_rfl)) (by kernel_rfl) rfl (by kernel_rfl) (by kernel_rfl) Tryz.underlying3
theorem returns_and_shaped {H : Type} {enc : TypeId × Value → H} {a : Assume} {C : Checked} {os : Os} {f : FuncId} {fn : Func} {s : ChangeSpec} {conds : List PathCond} {apart fresh handsOn again : Bool} {X : World → Array Value → Prop}
  (hX : ∀ (w w' : World) (args : Array Value), w.heap = w'.heap → X w args → X w' args)
  (own : ownKnob C.prog.godebug = none) (started : os.Started) (noInit : C.prog.inits.idxOf? f = none) (hfn : C.prog.funcs[f]? = some fn)
  (witness : ∃ (w : World) (tape : Tape) (i : Input), w.os = os ∧ (w.forCall tape i).Shaped C.prog ∧ i.vars = [] ∧ Input.okWide C.prog (w.forCall tape i) .any w.heap.size f i ∧
   ((s.pre enc C.prog fn conds apart (w.forCall tape i).memory i.args ∧ X (w.forCall tape i).memory i.args) ∧ sizedMet enc C.prog fn (OpenSpec.ofChange s) apart (w.forCall tape i).memory i.args) ∧ a.holds C.prog (lone (Frame.enter C.prog f i.args .normal) [] (w.forCall tape i)))
  (contract : ∀ (W : World) (base : Nat) (args : Array Value) (ds gs : List (DataW H)) (before : List MemPlace),
   (∀ (j : Nat) t v, fn.params[j]? = some t → args[j]? = some v → Value.okWide C.prog W .any base t v) →
   DataW.Whole enc C.prog fn.params.toList s.vars apart W args.toList ds gs before →
   conds.all (PathCond.test C.prog ⟨fn.params.toList, ds, s.plain.varTypes C.prog, gs⟩) = true →
   (DataW.weightsEach C.prog (fn.params.toList ++ s.plain.varTypes C.prog) (ds ++ gs)).all (· ≤ reachBytes) = true → X W args →
   W.ShapedOpen C.prog →
   a.holds C.prog (lone (Frame.enter C.prog f args .normal) [] W) →
   Calls C.prog f args W fun e W' => ∃ v, e = .returned v ∧ s.post enc C.prog fn apart fresh handsOn again W args v W') :
  ReturnsInHanded a C os f .any (fun w args => (s.pre enc C.prog fn conds apart w args ∧ X w args) ∧ sizedMet enc C.prog fn (OpenSpec.ofChange s) apart w args) (s.post enc C.prog fn apart fresh handsOn again) := by
 refine returnsInHanded_of_calls own started noInit witness ?_
 intro w tape i _ hsh _ hok hpre hholds
 obtain ⟨_, _, _, fn', hfn', _, _, _, _, hval⟩ := hok
 have e : fn' = fn := Option.some.inj (hfn'.symm.trans hfn)
 subst e
 obtain ⟨⟨⟨ds, gs, before, hw, hc⟩, hx⟩, hz⟩ := hpre
 have hw' := DataW.Whole.of_heap (w' := w.forCall tape i) (by rfl) hw
 refine (contract (w.forCall tape i) w.heap.size i.args ds gs before hval hw' hc (hz.weights hw) (hX _ _ _ (by rfl) hx) hsh hholds).mono fun e W' ⟨v, he, hp⟩ => ?_
 subst he
 exact ChangeSpec.post_blind hp
theorem laid_met0 (os : Os) (args : Array Value) : laidMetH Tryz.prog Laid0 ((World.laidAll Tryz.prog os Laid0).forCall (fun _ _ => 0) ⟨#[], args, []⟩).memory := by
 rw [MakeChecks.laidMetH_plain _ _ _ (by kernel_rfl)]
 exact laidMet_laidAll _ (by kernel_rfl) (by kernel_rfl)
section
variable {H : Type} {enc : TypeId × Value → H} {w : World} {base : Nat} {sp : Nat → Bool} {held : Bool}
theorem open_str {r : Reach} {b0 : Nat} {v : Value} {d : DataW H} {ps : List MemPlace} (hval : Value.okWide Tryz.prog w r b0 9 v) (hd : DataW.Trod enc Tryz.prog w base sp held 9 v d ps) :
  ∃ l : List UInt8, v = str l ∧ ps = [] ∧ l.length ≤ 9223372036854775807 ∧ d = .lit (.string l) := by
 obtain ⟨s, rfl, rfl, rfl, hs⟩ := open_string Tryz.underlying9 hval hd
 refine ⟨s.data.toList, rfl, rfl, ?_, rfl⟩
 rw [Array.length_toList]
 unfold maxLen at hs
 exact hs
end
end Go.Proofs.YtcjhihmaegagdaaGreatDoor
namespace Go.Proofs.YtcjhihmaegagdaaGreatDoor
open Go.ChangeShapes Go.WideShapes Go.ChangeAt Go.RowKit
section
variable {H : Type} {enc : TypeId × Value → H} {w : World} {base : Nat} {sp : Nat → Bool} {held : Bool}
theorem open_vec_cells {fuel : Nat} {cs : List Value} {x : DataW H × List MemPlace} (h : DataW.trod enc Tryz.prog w base sp held fuel 53 cs = some x) : ∃ v : Vc, cs = v.cells.toList := by
 have hc6 : Tryz.prog.cellsOf 53 = 6 := by kernel_rfl
 have hc1 : Tryz.prog.cellsOf 3 = 1 := by kernel_rfl
 have hlen : cs.length = 6 := by
  cases fuel with
  | zero => simp [DataW.trod] at h
  | succ fuel =>
   simp only [DataW.trod, Tryz.underlying53, hc6] at h
   split at h
   ·
    assumption
   cases h
 match cs, hlen with
 | [c0, c1, c2, c3, c4, c5], _ =>
 obtain ⟨xs, m, _, hx, _, hl, hel⟩ := DataW.trod_array Tryz.underlying53 h
 match xs, hl with
 | [x0, x1, x2, x3, x4, x5], _ =>
 have h0 := hel 0 (by omega)
 have h1 := hel 1 (by omega)
 have h2 := hel 2 (by omega)
 have h3 := hel 3 (by omega)
 have h4 := hel 4 (by omega)
 have h5 := hel 5 (by omega)
 simp [hc1] at h0 h1 h2 h3 h4 h5
 obtain ⟨a0, e0, rfl, _⟩ := DataW.trod_int Tryz.underlying3 h0
 obtain ⟨a1, e1, rfl, _⟩ := DataW.trod_int Tryz.underlying3 h1
 obtain ⟨a2, e2, rfl, _⟩ := DataW.trod_int Tryz.underlying3 h2
 obtain ⟨a3, e3, rfl, _⟩ := DataW.trod_int Tryz.underlying3 h3
 obtain ⟨a4, e4, rfl, _⟩ := DataW.trod_int Tryz.underlying3 h4
 obtain ⟨a5, e5, rfl, _⟩ := DataW.trod_int Tryz.underlying3 h5
 simp at e0 e1 e2 e3 e4 e5
 subst e0 e1 e2 e3 e4 e5
 exact ⟨⟨a0, a1, a2, a3, a4, a5⟩, rfl⟩
theorem open_note_cells {fuel : Nat} {cs : List Value} {x : DataW H × List MemPlace} (h : DataW.trod enc Tryz.prog w base sp held fuel 55 cs = some x) : ∃ n : Nte, cs = n.cs := by
 have hc1 : Tryz.prog.cellsOf 3 = 1 := by kernel_rfl
 have hcB : Tryz.prog.cellsOf 4 = 1 := by kernel_rfl
 have hcV : Tryz.prog.cellsOf 53 = 6 := by kernel_rfl
 have hcN : Tryz.prog.cellsOf 55 = 10 := by kernel_rfl
 obtain ⟨ys, n, _, rfl, hlen, hl, hf⟩ := DataW.trod_struct Tryz.underlying55 h
 rw [hcN] at hlen
 match cs, hlen with
 | [c0, c1, c2, c3, c4, c5, c6, c7, c8, c9], _ =>
 match ys, hl with
 | [y0, y1, y2, y3, y4], _ =>
 have h0 := hf 0 _ rfl
 have h1 := hf 1 _ rfl
 have h2 := hf 2 _ rfl
 have h3 := hf 3 _ rfl
 have h4 := hf 4 _ rfl
 simp [hc1, hcB, hcV] at h0 h1 h2 h3 h4
 obtain ⟨a0, e0, rfl, _⟩ := DataW.trod_int Tryz.underlying3 h0
 obtain ⟨a1, e1, rfl, _⟩ := DataW.trod_int Tryz.underlying3 h1
 obtain ⟨a2, e2, rfl, _⟩ := DataW.trod_int Tryz.underlying3 h2
 obtain ⟨u, hu⟩ := open_vec_cells h3
 obtain ⟨b, e4, -⟩ := DataW.trod_bool Tryz.underlying4 h4
 simp at e0 e1 e2 e4
 subst e0 e1 e2 e4
 simp only [Vc.cells, List.cons.injEq] at hu
 exact ⟨⟨a0, a1, a2, u, b⟩, by simp [Nte.cs, hu]⟩
theorem open_pair_cells {fuel : Nat} {cs : List Value} {x : DataW H × List MemPlace} (h : DataW.trod enc Tryz.prog w base sp held fuel 57 cs = some x) : ∃ n : Par, cs = n.cs := by
 have hc1 : Tryz.prog.cellsOf 3 = 1 := by kernel_rfl
 have hcV : Tryz.prog.cellsOf 53 = 6 := by kernel_rfl
 have hcN : Tryz.prog.cellsOf 57 = 9 := by kernel_rfl
 obtain ⟨ys, n, _, rfl, hlen, hl, hf⟩ := DataW.trod_struct Tryz.underlying57 h
 rw [hcN] at hlen
 match cs, hlen with
 | [c0, c1, c2, c3, c4, c5, c6, c7, c8], _ =>
 match ys, hl with
 | [y0, y1, y2, y3], _ =>
 have h0 := hf 0 _ rfl
 have h1 := hf 1 _ rfl
 have h2 := hf 2 _ rfl
 have h3 := hf 3 _ rfl
 simp [hc1, hcV] at h0 h1 h2 h3
 obtain ⟨a0, e0, rfl, _⟩ := DataW.trod_int Tryz.underlying3 h0
 obtain ⟨a1, e1, rfl, _⟩ := DataW.trod_int Tryz.underlying3 h1
 obtain ⟨u, hu⟩ := open_vec_cells h2
 obtain ⟨a3, e3, rfl, _⟩ := DataW.trod_int Tryz.underlying3 h3
 simp at e0 e1 e3
 subst e0 e1 e3
 simp only [Vc.cells, List.cons.injEq] at hu
 exact ⟨⟨a0, a1, u, a3⟩, by simp [Par.cs, hu]⟩
theorem open_rows_at {α : Type} [Inhabited α] {t e : TypeId} (k : Nat) (hk0 : 0 < k) (ht : Tryz.prog.underlying t = some (.slice e)) (hk : Tryz.prog.cellsOf e = k) (cf : α → List Value) (hcf : ∀ x, (cf x).length = k)
  (hop : ∀ {fuel : Nat} {cs : List Value} {x : DataW H × List MemPlace}, DataW.trod enc Tryz.prog w 0 (fun _ => true) held fuel e cs = some x → ∃ c : α, cs = cf c)
  {fuel : Nat} {cs : List Value} {x : DataW H × List MemPlace} (hf : DataW.trod enc Tryz.prog w 0 (fun _ => true) held fuel t cs = some x) :
  ∃ (l : List α) (A : Option Addr) (c : Nat), cs = [.slice A l.length c] ∧ Shows w w.heap.size k A l.length (rcells cf l) ∧ (l = [] ∨ ∃ el sp, x.1 = .slice el sp ∧ el.length = l.length) := by
 rcases Go.Deep.open_slice ht hf with ⟨hcs, hx⟩ | ⟨ad, len, cap, m, n, D, Pl, hcs, _, hl, hm, hmm, hx, hi⟩
 ·
  exact ⟨[], none, 0, hcs, Shows.nil_, Or.inl rfl⟩
 simp only [if_true] at hmm
 rw [hk] at hi
 obtain ⟨M, hM⟩ := Go.Deep.choose_lt (α := α) (n := len) (p := fun i c => ∀ j, j < k → w.cell? ((ad.add (i * k)).add j) = (cf c)[j]?) (fun i hil => by
  obtain ⟨cs', h1, h2⟩ := hi i (by omega)
  obtain ⟨_, _, h3⟩ := World.cells?_some h1
  obtain ⟨c, rfl⟩ := hop h2
  exact ⟨c, h3⟩)
 have hlen : ((List.range len).map M).length = len := by simp
 refine ⟨(List.range len).map M, some ad, cap, by rw [hlen, hcs], ?_, Or.inr ⟨_, _, by rw [hx], by rw [hlen]; simp⟩⟩
 rw [hlen]
 refine ⟨by rw [rcells_length cf k hcf, hlen], fun hpos => ⟨ad, rfl, ?_, fun j hj => ?_⟩⟩
 ·
  have h0 := hM 0 hpos 0 hk0
  rw [show (ad.add (0 * k)).add 0 = ad from by simp [Addr.add]] at h0
  have hl0 : 0 < (cf (M 0)).length := by rw [hcf]; exact hk0
  rw [List.getElem?_eq_getElem hl0] at h0
  exact World.block_lt_of_cell? w _ h0
 rw [rcells_length cf k hcf, hlen] at hj
 have hq : j / k < len := (Nat.div_lt_iff_lt_mul hk0).2 hj
 have h0 := hM (j / k) hq (j % k) (Nat.mod_lt _ hk0)
 have hdm : j / k * k + j % k = j := Nat.div_add_mod' j k
 rw [add_add', hdm] at h0
 rw [h0]
 have := rcells_at cf k hcf ((List.range len).map M) (j / k) (j % k) (by rw [hlen]; exact hq) (Nat.mod_lt _ hk0)
 rw [hdm] at this
 rw [this]
 simp
theorem part_len {t e : TypeId} (hu : Tryz.prog.underlying t = some (.slice e)) (b : Nat) (hb : Tryz.prog.bytesOf e = b) (hb0 : 0 < b) {α : Type} {l : List α} {d : DataW H} (h : l = [] ∨ ∃ el sp, d = .slice el sp ∧ el.length = l.length) (hw : ∀ n ∈ d.weights Tryz.prog t, n ≤ reachBytes) : l.length ≤ 4611686018427387904 := by
 rcases h with rfl | ⟨el, sp, rfl, h⟩
 ·
  simp
 have := hw ((el.length + sp.length) * Tryz.prog.bytesOf e) (by simp [DataW.weights, hu])
 rw [hb] at this
 have h1 : el.length + sp.length ≤ (el.length + sp.length) * b := Nat.le_mul_of_pos_right _ hb0
 have h2 : reachBytes ≤ 4611686018427387904 := by decide
 omega
theorem open_score {r : Reach} {b0 : Nat} {v : Value} {d : DataW H} {ps : List MemPlace} (hval : Value.okWide Tryz.prog w r b0 26 v) (hd : DataW.Trod enc Tryz.prog w 0 (fun _ => true) held 26 v d ps) (hw : ∀ n ∈ d.weights Tryz.prog 26, n ≤ reachBytes) :
  ∃ s : Scr, ScrV w v s := by
 obtain ⟨cs, rfl, hsz⟩ := okWide_struct Tryz.underlying26 hval
 obtain ⟨fuel, hf⟩ := hd
 have hc1 : Tryz.prog.cellsOf 3 = 1 := by kernel_rfl
 have hcn : Tryz.prog.cellsOf 22 = 1 := by kernel_rfl
 have hcp : Tryz.prog.cellsOf 23 = 1 := by kernel_rfl
 have hcq : Tryz.prog.cellsOf 24 = 1 := by kernel_rfl
 have hcS : Tryz.prog.cellsOf 26 = 4 := by kernel_rfl
 obtain ⟨ys, n, _, hx, hlen, hl, hf⟩ := DataW.trod_struct Tryz.underlying26 hf
 rw [hcS] at hlen hsz
 obtain ⟨cs⟩ := cs
 change cs.length = 4 at hlen
 match cs, hlen with
 | [c0, c1, c2, c3], _ =>
 match ys, hl with
 | [y0, y1, y2, y3], _ =>
 have h0 := hf 0 _ rfl
 have h1 := hf 1 _ rfl
 have h2 := hf 2 _ rfl
 have h3 := hf 3 _ rfl
 simp [hc1, hcn, hcp, hcq, Value.cells] at h0 h1 h2 h3
 obtain rfl : d = .agg [y0.1, y1.1, y2.1, y3.1] := congrArg Prod.fst hx
 have hwe : ∀ n, n ∈ DataW.weightsEach Tryz.prog [3, 22, 23, 24] [y0.1, y1.1, y2.1, y3.1] → n ≤ reachBytes := fun n hn => hw n (by
  have e : (DataW.agg [y0.1, y1.1, y2.1, y3.1]).weights Tryz.prog 26 = DataW.weightsEach Tryz.prog [3, 22, 23, 24] [y0.1, y1.1, y2.1, y3.1] := by
   simp only [DataW.weights, Tryz.underlying26]
   rfl
  rw [e]; exact hn)
 obtain ⟨V, e0, -⟩ := DataW.trod_int Tryz.underlying3 h0
 have hi1 : Inhabited Nte := ⟨nte0⟩
 have hi2 : Inhabited Par := ⟨⟨0, 0, vc0, 0⟩⟩
 have hi3 : Inhabited Itg := ⟨⟨0⟩⟩
 obtain ⟨l1, A1, k1, e1, s1, z1⟩ := open_rows_at 10 (by omega) Tryz.underlying22 (by kernel_rfl) Nte.cs Nte.cs_len (fun h => open_note_cells h) h1
 obtain ⟨l2, A2, k2, e2, s2, z2⟩ := open_rows_at 9 (by omega) Tryz.underlying23 (by kernel_rfl) Par.cs Par.cs_len (fun h => open_pair_cells h) h2
 obtain ⟨l3, A3, k3, e3, s3, z3⟩ := open_rows_at 1 (by omega) Tryz.underlying24 (by kernel_rfl) Itg.cs Itg.cs_len (fun {fuel cs x} h => by
  have hlen : cs.length = 1 := by
   cases fuel with
   | zero => simp [DataW.trod] at h
   | succ fuel =>
    rcases cs with _ | ⟨c0, _ | ⟨c1, l⟩⟩
    ·
     simp [DataW.trod, Tryz.underlying3] at h
    ·
     rfl
    simp [DataW.trod, Tryz.underlying3] at h
  match cs, hlen with
  | [c0], _ =>
  obtain ⟨a0, e0, -⟩ := DataW.trod_int Tryz.underlying3 h
  exact ⟨⟨a0⟩, e0⟩) h3
 have n1 := part_len Tryz.underlying22 80 (by kernel_rfl) (by omega) z1 (fun n hn => hwe n (by simp only [DataW.weightsEach, List.mem_append]; exact Or.inr (Or.inl hn)))
 have n2 := part_len Tryz.underlying23 72 (by kernel_rfl) (by omega) z2 (fun n hn => hwe n (by simp only [DataW.weightsEach, List.mem_append]; exact Or.inr (Or.inr (Or.inl hn))))
 have n3 := part_len Tryz.underlying24 8 (by kernel_rfl) (by omega) z3 (fun n hn => hwe n (by simp only [DataW.weightsEach, List.mem_append]; exact Or.inr (Or.inr (Or.inr (Or.inl hn)))))
 simp only [List.cons.injEq, and_true] at e0 e1 e2 e3
 subst e0 e1 e2 e3
 have e3 : itg (l3.map Itg.x) = l3 := by
  unfold itg
  rw [List.map_map]
  exact (List.map_congr_left (fun _ _ => rfl)).trans (List.map_id l3)
 have e4 : (l3.map Itg.x).length = l3.length := by simp
 refine ⟨⟨V, l1, l2, l3.map Itg.x⟩, ⟨⟨A1, k1, A2, k2, A3, k3, by rw [e4], s1, s2, ?_⟩, Nat.le_refl _, n1, n2, by rw [e4]; exact n3⟩⟩
 rw [e3]
 exact s3
theorem u8_wf {n : Int} (h : (Lit.int .u8 n).wf = true) : ∃ x : Nat, n = (x : Int) ∧ x ≤ 255 := by
 have hmn : IntKind.u8.min = 0 := by decide
 have hmx : IntKind.u8.max = 255 := by decide
 have : 0 ≤ n ∧ n ≤ 255 := by simpa [Lit.wf, hmn, hmx] using h
 exact ⟨n.toNat, by omega, by omega⟩
theorem open_u8 {r : Reach} {b0 : Nat} {v : Value} {d : DataW H} {ps : List MemPlace} (hval : Value.okWide Tryz.prog w r b0 5 v) (hd : DataW.Trod enc Tryz.prog w base sp held 5 v d ps) :
  ∃ x : Nat, v = .int .u8 (x : Int) ∧ x ≤ 255 ∧ ps = [] := by
 obtain ⟨n, rfl, _, rfl, hw⟩ := open_int Tryz.underlying5 hval hd
 obtain ⟨x, rfl, hx⟩ := u8_wf hw
 exact ⟨x, rfl, hx, rfl⟩
end
end Go.Proofs.YtcjhihmaegagdaaGreatDoor
namespace Go.Proofs.YtcjhihmaegagdaaGreatDoor
open Go.RowKit Go.Deep
theorem str_ren (t : List UInt8) (a y : UInt8) (l : List UInt8) (b : UInt8) : (Value.string (({ data := t.toArray } : ByteArray) ++ (({ data := #[a] } ++ { data := (y :: l).toArray } ++ { data := #[b] }) ++ { data := #[32] }))) = str (t ++ (a :: (y :: l ++ [b]) ++ [32])) := by
 have : (({ data := t.toArray } : ByteArray) ++ (({ data := #[a] } ++ { data := (y :: l).toArray } ++ { data := #[b] }) ++ { data := #[32] })) = ⟨(t ++ (a :: (y :: l ++ [b]) ++ [32])).toArray⟩ := by
  apply ByteArray.ext
  simp [ByteArray.data_append]
 rw [this]
theorem str_same (t u : List UInt8) : (Value.string (({ data := t.toArray } : ByteArray) ++ ({ data := u.toArray } ++ { data := #[32] }))) = str (t ++ (u ++ [32])) := by
 have : (({ data := t.toArray } : ByteArray) ++ ({ data := u.toArray } ++ { data := #[32] })) = ⟨(t ++ (u ++ [32])).toArray⟩ := by
  apply ByteArray.ext
  simp [ByteArray.data_append]
 rw [this]
theorem renamed_any (w : World) (B : Nat) (A : Option Addr) (c : Nat) (l : List Tok) (a b : UInt8) (hl : RdT w B A l) (hB : B ≤ w.heap.size) (hn : l.length ≤ 4611686018427387904) (hj : (renL a b l).length ≤ 1000000) (hx : ∀ t ∈ l, t.text.length ≤ 1000000) :
  Calls Tryz.prog 22 #[.slice A l.length c, str [a], str [b]] w fun e w' => e = .returned (str (renL a b l)) ∧ Below w.heap.size w w' := by
 have HL := hid hl
 have HBB := hid hB
 have HJ := hid hj
 have HX := hid hx
 obtain ⟨n, hnl⟩ : ∃ n, n = l.length := ⟨_, rfl⟩
 rw [← hnl] at hn ⊢
 have HN := hid hnl
 clear hl hB hnl hj hx
 go_enter Tryz.func22, Tryz.ntmps22
 go_wp2
 go_loopw [7, 8] (fun s i wx => ∃ (j : Nat) (t : List UInt8), j ≤ n ∧ i = .int .i64 j ∧ s = str t ∧ Hid (t = renL a b (l.take j)) ∧ wx = w) (fun _ i _ => n - (intOf i).toNat)
 case atStart => exact ⟨0, [], Nat.zero_le _, rfl, rfl, hid rfl, by simp⟩
 case round =>
  obtain ⟨j, t, hj, rfl, rfl, HT, rfl⟩ := hrel
  by_cases hlt : j < n
  ·
   obtain ⟨ad, rfl, -, hat⟩ := HL.out.at (i := j) (by rw [← HN.out]; exact hlt)
   have e1 := ren_step a b l j (by rw [← HN.out]; exact hlt)
   obtain ⟨u, hu⟩ : ∃ u, u = (l[j]'(by rw [← HN.out]; exact hlt)).text := ⟨_, rfl⟩
   have c3 := hat.d
   rw [← hu] at c3 e1
   have hul : u.length ≤ 1000000 := by rw [hu]; exact HX.out _ (List.getElem_mem _)
   have htx : (t ++ (renT a b u ++ [32])).length ≤ 1000000 := by
    rw [HT.out, ← e1]
    exact Nat.le_trans (ren_take_le _ _ _ _) HJ.out
   have HT' : Hid (t ++ (renT a b u ++ [32]) = renL a b (l.take (j + 1))) := hid (by rw [e1, HT.out])
   rw [List.length_append] at htx
   clear e1 HT hu hat
   rcases u with _ | ⟨x, _ | ⟨y, r⟩⟩
   ·
    have hs2 : ¬ 9223372036854775807 < t.length + 1 := by omega
    clear htx hul
    go_wp2
    go_roundw
    case rel => exact ⟨j + 1, t ++ ([] ++ [32]), by omega, by go_num, str_same t [], HT', by simp⟩
    case measure => simp [intOf]; omega
   ·
    have hs2 : ¬ 9223372036854775807 < t.length + (1 + 1) := by omega
    clear htx hul
    go_wp2
    go_roundw
    case rel => exact ⟨j + 1, t ++ ([x] ++ [32]), by omega, by go_num, str_same t [x], HT', by simp⟩
    case measure => simp [intOf]; omega
   have hsz : (⟨(x :: y :: r).toArray⟩ : ByteArray).size = r.length + 2 := by simp [ByteArray.size]
   have hz0 : (⟨(x :: y :: r).toArray⟩ : ByteArray)[0]'(by rw [hsz]; omega) = x := rfl
   have hz1 : (⟨(x :: y :: r).toArray⟩ : ByteArray)[1]'(by rw [hsz]; omega) = y := rfl
   have hs0 : ¬ 9223372036854775807 < (r.length + 1 + 1) + 1 := by simp only [List.length_cons] at hul; omega
   have hs1 : ¬ 9223372036854775807 < t.length + ((r.length + 1 + 1) + 1) := by simp only [List.length_cons] at hul; omega
   have g1 : ¬ 9223372036854775807 < 1 + (r.length + 1) := by simp only [List.length_cons] at hul; omega
   have g2 : ¬ 9223372036854775807 < 1 + (r.length + 1) + 1 := by simp only [List.length_cons] at hul; omega
   have g3 : ¬ 9223372036854775807 < 1 + (r.length + 1) + 1 + 1 := by simp only [List.length_cons] at hul; omega
   have g4 : ¬ 9223372036854775807 < t.length + (1 + (r.length + 1) + 1 + 1) := by simp only [List.length_cons] at hul; omega
   clear htx
   by_cases hx : x = 110
   case neg =>
    have hx' : ((x.toNat : Int) == 110) = false := by
     rw [beq_eq_false_iff_ne]; intro e; apply hx
     have e2 : x.toNat = 110 := by omega
     rw [← UInt8.ofNat_toNat (x := x), e2]; rfl
    have HR : Hid (t ++ ((x :: y :: r) ++ [32]) = renL a b (l.take (j + 1))) := hid (by rw [← HT'.out]; simp [renT, isDig, hx])
    clear hx hul
    go_wp2
    go_roundw
    case rel => exact ⟨j + 1, t ++ ((x :: y :: r) ++ [32]), by omega, by go_num, str_same t (x :: y :: r), HR, by simp⟩
    case measure => simp [intOf]; omega
   subst hx
   by_cases h1 : 48 ≤ y.toNat
   case neg =>
    have h1' : decide ((48 : Int) ≤ (y.toNat : Int)) = false := by rw [decide_eq_false_iff_not]; omega
    have HR : Hid (t ++ ((110 :: y :: r) ++ [32]) = renL a b (l.take (j + 1))) := hid (by rw [← HT'.out]; simp [renT, isDig, h1])
    clear h1 hul
    go_wp2
    go_roundw
    case rel => exact ⟨j + 1, t ++ ((110 :: y :: r) ++ [32]), by omega, by go_num, str_same t (110 :: y :: r), HR, by simp⟩
    case measure => simp [intOf]; omega
   have h1' : decide ((48 : Int) ≤ (y.toNat : Int)) = true := by rw [decide_eq_true_eq]; omega
   by_cases h2 : y.toNat ≤ 57
   case neg =>
    have h2' : decide ((y.toNat : Int) ≤ (57 : Int)) = false := by rw [decide_eq_false_iff_not]; omega
    have HR : Hid (t ++ ((110 :: y :: r) ++ [32]) = renL a b (l.take (j + 1))) := hid (by rw [← HT'.out]; simp [renT, isDig, h1, h2])
    clear h1 h2 hul
    go_wp2
    go_roundw
    case rel => exact ⟨j + 1, t ++ ((110 :: y :: r) ++ [32]), by omega, by go_num, str_same t (110 :: y :: r), HR, by simp⟩
    case measure => simp [intOf]; omega
   have h2' : decide ((y.toNat : Int) ≤ (57 : Int)) = true := by rw [decide_eq_true_eq]; omega
   have HR : Hid (t ++ (a :: (y :: r ++ [b]) ++ [32]) = renL a b (l.take (j + 1))) := hid (by rw [← HT'.out]; simp [renT, isDig, h1, h2])
   have hex := ext_from (110 :: y :: r) 1 (r.length + 2) rfl
   rw [List.drop_one, List.tail_cons] at hex
   clear h1 h2 hul
   go_wp2
   go_roundw
   case rel => exact ⟨j + 1, t ++ (a :: (y :: r ++ [b]) ++ [32]), by omega, by go_num, str_ren t a y r b, HR, by simp⟩
   case measure => simp [intOf]; omega
  obtain rfl : j = n := by omega
  have HF : Hid (t = renL a b l) := hid (by rw [HT.out, HN.out, List.take_length])
  go_wp2
  go_ret
  exact ⟨by rw [HF.out]; rfl, Below.refl _ _⟩
end Go.Proofs.YtcjhihmaegagdaaGreatDoor
namespace Go.Proofs.YtcjhihmaegagdaaGreatDoor
open Go.RowKit Go.Deep
theorem conv1 (w : World) (v : Int) (c : Nat) : (convert 47 9 (.slice (some ⟨w.heap.size, 0, none⟩) 1 c)).run Tryz.prog (w.alloc (.cells #[.int .u8 v] 5)) = .ok (str [UInt8.ofNat v.toNat]) (w.alloc (.cells #[.int .u8 v] 5)) :=
 run_convert_bytes_arg (P := Tryz.prog) (w.alloc (.cells #[.int .u8 v] 5)) 47 5 Tryz.underlying47 Tryz.underlying5 w.heap.size 0 1 c [v] rfl (fun i hi => by
  obtain rfl : i = 0 := by omega
  rw [Nat.add_zero, World.cell?_alloc_new w #[.int .u8 v] 5 0]
  rfl) 9 Tryz.underlying9
theorem conv2 (w : World) (o : Obj) (v : Int) (c : Nat) : (convert 47 9 (.slice (some ⟨w.heap.size + 1, 0, none⟩) 1 c)).run Tryz.prog ((w.alloc o).alloc (.cells #[.int .u8 v] 5)) = .ok (str [UInt8.ofNat v.toNat]) ((w.alloc o).alloc (.cells #[.int .u8 v] 5)) := by
 have h := conv1 (w.alloc o) v c
 rw [show (w.alloc o).heap.size = w.heap.size + 1 by simp] at h
 exact h
theorem names_any (w : World) (v : Value) (s : Scr) (la lb : Nat) (hla : la ≤ 255) (hlb : lb ≤ 255) (hv : ScrV w v s) (hM : MaxL w) (hP : Primes w) (hT : Tab w) : Calls Tryz.prog 9 #[v, .int .u8 (la : Int), .int .u8 (lb : Int)] w fun e w' => e = .returned (.bool true) ∧ Below w.heap.size w w' := by
 have HHD : Hid (∀ W, Below w.heap.size w W → Calls Tryz.prog 11 #[] W fun e w' => e = .returned (.bool true) ∧ Below W.heap.size W w') := hid fun W hb => head_any W (hM.below hb) (hP.below hb) (hT.below hb)
 have HPA : Hid (∀ W, Below w.heap.size w W → ∀ (x : List UInt8), x.length ≤ 4611686018427387904 → ∀ c p k, parseS x = c → parseP x = p → parseE x = k → Calls Tryz.prog 15 #[str x] W fun e w' => Below W.heap.size W w' ∧ ∃ V An n cn Ap m cp Aq o cq, e = .returned (.tuple #[.agg #[.int .i64 V, .slice An n cn, .slice Ap m cp, .slice Aq o cq], .int .i64 (p : Nat), .int .i64 (k : Nat)]) ∧ ScrV w' (.agg #[.int .i64 V, .slice An n cn, .slice Ap m cp, .slice Aq o cq]) c) := hid fun W hb x hx c p k h1 h2 h3 => by
  have h := parse_any W x hx (hM.below hb) (hP.below hb)
  unfold PEnds at h
  rw [h1, h2, h3] at h
  refine h.mono fun e w' ⟨b, v, e1, e2⟩ => ⟨b, ?_⟩
  obtain ⟨An, cn, Ap, cp, Aq, cq, rfl, -⟩ := e2.ex
  exact ⟨_, An, _, cn, Ap, _, cp, Aq, _, cq, e1, e2⟩
 have HPR : Hid (∀ W v c, Below w.heap.size w W → ScrV W v c → ∀ t k, printS c = t → printE c = k → Calls Tryz.prog 18 #[v] W fun e w' => e = .returned (.tuple #[str t, .int .i64 (k : Nat)]) ∧ Below W.heap.size W w') := hid fun W v c hb hv t k h1 h2 => by
  have h := print_any W _ v c hv (hT.below hb)
  rw [h1, h2] at h
  exact h
 have HLX : Hid (∀ W (x : List UInt8), x.length ≤ 4611686018427387904 → ∀ ts p k, lexT x = ts → lexP x = p → lexE x = k → Calls Tryz.prog 12 #[str x] W fun e w' => Below W.heap.size W w' ∧ ∃ A c, e = .returned (.tuple #[.slice A ts.length c, .int .i64 (p : Nat), .int .i64 (k : Nat)]) ∧ RdT w' w'.heap.size A ts) := hid fun W x hx ts p k h1 h2 h3 => by
  have h := lex_any W x (by omega)
  unfold LexEnds at h
  rw [h1, h2, h3] at h
  exact h.mono fun e w' ⟨b, A, c, e1, e2, _⟩ => ⟨b, A, c, e1, e2⟩
 obtain ⟨t, ht⟩ : ∃ t, printS s = t := ⟨_, rfl⟩
 obtain ⟨k, hk⟩ : ∃ k, printE s = k := ⟨_, rfl⟩
 have HPRT : Hid ((k ≠ 0 ∧ (k = 1 ∨ k = 2) ∧ t = []) ∨ (k = 0 ∧ t.length ≤ 8000 ∧ t = sourceL s ∧ validS s = true ∧ lexE t = 0 ∧ parseE t = 0 ∧ parseS t = s ∧ parseP t = 0)) := hid (by
  rw [← ht, ← hk]; exact print_all s)
 obtain ⟨ts, hts⟩ : ∃ ts, lexT t = ts := ⟨_, rfl⟩
 obtain ⟨q, hq⟩ : ∃ q, lexP t = q := ⟨_, rfl⟩
 obtain ⟨E, hE⟩ : ∃ E, lexE t = E := ⟨_, rfl⟩
 have HTS : Hid (t.length ≤ 8000 ∧ ts.length ≤ 8000 ∧ (∀ x ∈ ts, x.text.length ≤ 8000) ∧ ∀ a b, (renL a b ts).length ≤ 24000) := hid (by
  rw [← hts]
  refine ⟨?_, lexT_len t, lexT_text t, fun a b => ren_small a b t⟩
  rcases HPRT.out with ⟨-, -, h⟩ | ⟨-, h, -⟩
  ·
   rw [h]; simp
  exact h)
 have HRL : Hid (k = 0 → E = 0 ∧ ∀ a b, isLow a = true → isDig b = true → if 8000 < (renL a b ts).length then parseE (renL a b ts) = 2 else parseE (renL a b ts) = 0 ∧ parseS (renL a b ts) = s) := hid fun h0 => by
  rcases HPRT.out with ⟨h, -⟩ | ⟨-, h1, h2, h3, h4, -⟩
  ·
   exact absurd h0 h
  refine ⟨by rw [← hE]; exact h4, fun a b ha hb => ?_⟩
  have := renamed_law ha hb h3 (by rw [← h2]; exact h1)
  rw [← h2, hts] at this
  exact this
 have H0 := hid (And.intro ht hk)
 have H1 := hid (And.intro hts (And.intro hq hE))
 obtain ⟨V0, An0, n0, cn0, Ap0, m0, cp0, Aq0, o0, cq0, rfl⟩ : ∃ V An n cn Ap m cp Aq o cq, v = .agg #[.int .i64 V, .slice An n cn, .slice Ap m cp, .slice Aq o cq] := by
  obtain ⟨An, cn, Ap, cp, Aq, cq, rfl, -⟩ := hv.ex
  exact ⟨_, _, _, _, _, _, _, _, _, _, rfl⟩
 have HV := hid hv
 obtain ⟨r, hr⟩ : ∃ r, r = la % 26 := ⟨_, rfl⟩
 obtain ⟨q1, hq1⟩ : ∃ q1, q1 = lb % 10 := ⟨_, rfl⟩
 have e1 : (la : Int) % 26 = (r : Int) := by omega
 have e2 : (lb : Int) % 10 = (q1 : Int) := by omega
 have r26 : r < 26 := by omega
 have q10 : q1 < 10 := by omega
 have kc1 := fun W => conv1 W (97 + (r : Int)) 1
 have kc2 := fun W o => conv2 W o (48 + (q1 : Int)) 1
 rw [show (97 + (r : Int)).toNat = 97 + r by omega] at kc1
 rw [show (48 + (q1 : Int)).toNat = 48 + q1 by omega] at kc2
 obtain ⟨a, ha⟩ : ∃ a : UInt8, a = UInt8.ofNat (97 + r) := ⟨_, rfl⟩
 obtain ⟨b, hb⟩ : ∃ b : UInt8, b = UInt8.ofNat (48 + q1) := ⟨_, rfl⟩
 rw [← ha] at kc1
 rw [← hb] at kc2
 have HAB : Hid (isLow a = true ∧ isDig b = true) := hid ⟨by rw [ha]; exact low_ofNat r r26, by rw [hb]; exact dig_ofNat q1 q10⟩
 clear hM hP hT ht hk hv hts hq hE hr hq1 ha hb
 go_enter Tryz.func9, Tryz.ntmps9
 go_upto_region 1 with (fail)
 obtain ⟨g0, hg0⟩ : ∃ g, g = w.heap.size := ⟨_, rfl⟩
 have aw0 : Hid (Below w.heap.size w (w.alloc (.cells #[.int .i64 V0, .slice An0 n0 cn0, .slice Ap0 m0 cp0, .slice Aq0 o0 cq0] 26))) := hid ((Below.refl _ _).alloc (Nat.le_refl _) _)
 have sw0 : Hid (Blk (w.alloc (.cells #[.int .i64 V0, .slice An0 n0 cn0, .slice Ap0 m0 cp0, .slice Aq0 o0 cq0] 26)) w.heap.size 26 #[.int .i64 V0, .slice An0 n0 cn0, .slice Ap0 m0 cp0, .slice Aq0 o0 cq0]) := hid (Blk.new _ _ _)
 rw [← hg0] at sw0 ⊢
 clear hg0
 generalize (w.alloc (.cells #[.int .i64 V0, .slice An0 n0 cn0, .slice Ap0 m0 cp0, .slice Aq0 o0 cq0] 26)) = w0 at aw0 sw0 ⊢
 have q0 := hid (ScrV.up HV.out aw0.out)
 have x0 := sw0.out.cell 0; have x1 := sw0.out.cell 1; have x2 := sw0.out.cell 2; have x3 := sw0.out.cell 3
 go_upto_region 4 with (first
  | (go_at_call 11; refine (HHD.out _ aw0.out).mono ?_; rintro e w1 ⟨rfl, b1⟩; have c0 := sw0.out.below b1 sw0.out.lt; have x0 := c0.cell 0; have x1 := c0.cell 1; have x2 := c0.cell 2; have x3 := c0.cell 3; clear c0; replace b1 := hid b1)
  | (go_at_call 18; refine (HPR.out _ _ s (below_on aw0.out b1.out) (ScrV.up q0.out b1.out) t k H0.out.1 H0.out.2).mono ?_; rintro e w2 ⟨rfl, b2⟩; replace b2 := hid b2)
  | (go_at_call 12; refine (HLX.out _ t (by have := HTS.out.1; omega) ts q E H1.out.1 H1.out.2.1 H1.out.2.2).mono ?_; rintro e w3 ⟨b3, A, cA, rfl, r3⟩; replace b3 := hid b3; replace r3 := hid r3))
 have b03 := hid (below_on (below_on b1.out b2.out) b3.out)
 have B3 := hid (below_on aw0.out b03.out)
 have q3 := hid (ScrV.up q0.out b03.out)
 have s3 := hid (sw0.out.below b03.out sw0.out.lt)
 clear x0 x1 x2 x3 b1 b2 b3 b03 aw0 sw0 q0 H0 H1
 by_cases h0 : k = 0
 case neg =>
  have hk0 : ((k : Int) != 0) = true := by rw [bne_iff_ne]; omega
  clear HPRT HRL h0 kc1 kc2
  go_wp2_with fail
  go_ret
  exact ⟨rfl, B3.out⟩
 subst h0
 obtain ⟨rfl, hrl⟩ := HRL.out rfl
 have HG := hid (hrl a b HAB.out.1 HAB.out.2)
 have HRN : Hid (∀ W, Below w3.heap.size w3 W → Calls Tryz.prog 22 #[.slice A ts.length cA, str [a], str [b]] W fun e w' => e = .returned (str (renL a b ts)) ∧ Below W.heap.size W w') := hid fun W hb =>
  renamed_any W _ A cA ts a b (RdT.up r3.out hb) (Nat.le_refl _) (by have := HTS.out.2.1; omega) (by have := HTS.out.2.2.2 a b; omega) (fun t ht => by have := HTS.out.2.2.1 t ht; omega)
 clear hrl HRL HPRT
 go_upto_region 7 with (go_at_call 22; refine (HRN.out _ (((Below.refl _ _).alloc (Nat.le_refl _) _).alloc (by simp) _)).mono ?_; rintro e w4 ⟨rfl, b4⟩; have b34 := hid (below_on (((Below.refl _ _).alloc (Nat.le_refl _) _).alloc (by simp) _) b4); clear b4)
 obtain ⟨j, hj⟩ : ∃ j, j = renL a b ts := ⟨_, rfl⟩
 rw [← hj] at HG ⊢
 have HJ : Hid (j.length ≤ 24000) := hid (by rw [hj]; exact HTS.out.2.2.2 a b)
 have B5 := hid (below_on B3.out b34.out)
 have q5 := hid (ScrV.up q3.out b34.out)
 have s5 := hid (s3.out.below b34.out s3.out.lt)
 have hszj : (⟨j.toArray⟩ : ByteArray).size = j.length := by simp [ByteArray.size]
 clear hj B3 q3 s3 b34 r3 HRN kc1 kc2 e1 e2 HTS
 obtain ⟨c2, hc2⟩ : ∃ c2, parseS j = c2 := ⟨_, rfl⟩
 obtain ⟨p2, hp2⟩ : ∃ p2, parseP j = p2 := ⟨_, rfl⟩
 obtain ⟨k2, hk2⟩ : ∃ k2, parseE j = k2 := ⟨_, rfl⟩
 have H2 := hid (And.intro hc2 (And.intro hp2 hk2))
 rw [hc2, hk2] at HG
 clear hc2 hp2 hk2
 go_upto_region 8 with (go_at_call 15; refine (HPA.out _ B5.out j (by have := HJ.out; omega) c2 p2 k2 H2.out.1 H2.out.2.1 H2.out.2.2).mono ?_; rintro e w6 ⟨b6, V1, An1, n1, cn1, Ap1, m1, cp1, Aq1, o1, cq1, rfl, q6⟩; replace b6 := hid b6; replace q6 := hid q6)
 obtain ⟨g2, hg2⟩ : ∃ g2, g2 = w6.heap.size := ⟨_, rfl⟩
 have aw7 : Hid (Below w6.heap.size w6 (w6.alloc (.cells #[.int .i64 V1, .slice An1 n1 cn1, .slice Ap1 m1 cp1, .slice Aq1 o1 cq1] 26))) := hid ((Below.refl _ _).alloc (Nat.le_refl _) _)
 have sw7 : Hid (Blk (w6.alloc (.cells #[.int .i64 V1, .slice An1 n1 cn1, .slice Ap1 m1 cp1, .slice Aq1 o1 cq1] 26)) w6.heap.size 26 #[.int .i64 V1, .slice An1 n1 cn1, .slice Ap1 m1 cp1, .slice Aq1 o1 cq1]) := hid (Blk.new _ _ _)
 rw [← hg2] at sw7 ⊢
 clear hg2
 generalize (w6.alloc (.cells #[.int .i64 V1, .slice An1 n1 cn1, .slice Ap1 m1 cp1, .slice Aq1 o1 cq1] 26)) = w7 at aw7 sw7 ⊢
 have b57 := hid (below_on b6.out aw7.out)
 have B7 := hid (below_on B5.out b57.out)
 have q7 := hid (ScrV.up q5.out b57.out)
 have r7 := hid (ScrV.up q6.out aw7.out)
 have s7 := hid (s5.out.below b57.out s5.out.lt)
 clear B5 q5 s5 b6 q6 aw7 b57 H2
 by_cases hlong : 8000 < j.length
 ·
  have hq : decide ((8000 : Int) < (j.length : Int)) = true := by rw [decide_eq_true_eq]; omega
  have HK := HG.out
  rw [if_pos hlong] at HK
  subst HK
  clear hlong HG
  go_wp2_with fail
  go_ret
  exact ⟨rfl, B7.out⟩
 have hq : decide ((8000 : Int) < (j.length : Int)) = false := by rw [decide_eq_false_iff_not]; omega
 have HK := HG.out
 rw [if_neg hlong] at HK
 obtain ⟨rfl, rfl⟩ := HK
 clear hlong HG
 have x0 := s7.out.cell 0; have x1 := s7.out.cell 1; have x2 := s7.out.cell 2; have x3 := s7.out.cell 3; have y0 := sw7.out.cell 0; have y1 := sw7.out.cell 1; have y2 := sw7.out.cell 2; have y3 := sw7.out.cell 3
 go_wp2_with (go_at_call 17; refine (equal_any w7 _ _ _ _ c2 c2 r7.out q7.out).mono ?_; rintro e w8 ⟨he, b⟩; rw [decide_eq_true rfl] at he; subst he; have B8 := hid (below_on B7.out b); clear b)
 go_ret
 exact ⟨rfl, B8.out⟩
end Go.Proofs.YtcjhihmaegagdaaGreatDoor
namespace Go.Proofs.YtcjhihmaegagdaaGreatDoor
open Go.ChangeShapes Go.WideShapes Go.ChangeAt Go.RowKit
theorem notationNames_lifted (os : Os) (started : os.Started) (H : Type) (enc : TypeId × Value → H) :
  ReturnsInHanded {} Tryz.checked os 9 .any (fun w args => (Rows.notationNamesSpec.pre enc Tryz.prog Tryz.f9 [] false w args ∧ laidMetH Tryz.prog Laid0 w) ∧ sizedMet enc Tryz.prog Tryz.f9 (OpenSpec.ofChange Rows.notationNamesSpec) false w args)
   (Rows.notationNamesSpec.post enc Tryz.prog Tryz.f9 false true false false) := by
 refine returns_and_shaped (C := Tryz.checked) (X := fun w _ => laidMetH Tryz.prog Laid0 w) (fun _ _ _ hh h => h.of_heap hh) own0 started (by kernel_rfl) Tryz.func9
  (ChangeSpec.witness_shaped (enc := enc) (C := Tryz.checked) (os := os) (X := fun w _ => laidMetH Tryz.prog Laid0 w) false (World.laidAll Tryz.prog os Laid0) #[.agg #[.int .i64 0, .slice none 0 0, .slice none 0 0, .slice none 0 0], .int .u8 0, .int .u8 0] 8 (World.laidAll_os _ _ _) (World.shaped_of_ZipB (by kernel_rfl) (by kernel_rfl)) (by kernel_rfl) (by kernel_rfl) (by kernel_rfl) (laid_met0 os _)) ?_
 intro W base args ds gs before hval0 hW _ hsz0 hL hshape _
 have hval : ∀ (j : Nat) t v, Tryz.f9.params[j]? = some t → args[j]? = some v → Value.okWide Tryz.prog W .any base t v := hval0
 have hW' := hW
 obtain ⟨p, q, hA0, hV, rfl, _, _⟩ := hW
 have hA : DataW.TrodAll enc Tryz.prog W 0 (fun _ => true) true Tryz.f9.params.toList args.toList ds p := hA0
 rw [Tryz.params9] at hA hval
 have hsz : (DataW.weightsEach Tryz.prog (Tryz.f9.params.toList ++ Rows.notationNamesSpec.plain.varTypes Tryz.prog) (ds ++ gs)).all (· ≤ reachBytes) = true := hsz0
 clear hsz0
 rw [Tryz.params9] at hsz
 obtain ⟨v0, vs0, d0, ds0, p0, q0, hargs, rfl, rfl, h0, t0⟩ := trodAll_cons hA
 obtain ⟨v1, vs1, d1, ds1, p1, q1, rfl, rfl, rfl, h1, t1⟩ := trodAll_cons t0
 obtain ⟨v2, vs2, d2, ds2, p2, q2, rfl, rfl, rfl, h2, t2⟩ := trodAll_cons t1
 obtain ⟨rfl, rfl, rfl⟩ := trodAll_nil t2
 obtain rfl : args = #[v0, v1, v2] := Array.toList_inj.1 hargs
 obtain ⟨rfl, rfl⟩ := trodVars_none hV
 obtain ⟨s, sv⟩ := open_score (hval 0 _ v0 rfl rfl) h0 (fun n hn => of_decide_eq_true (List.all_eq_true.1 hsz n (DataW.weights_mem_each (j := 0) rfl rfl n hn)))
 obtain ⟨x, rfl, m1, rfl⟩ := open_u8 (hval 1 _ v1 rfl rfl) h1
 obtain ⟨y, rfl, m2, rfl⟩ := open_u8 (hval 2 _ v2 rfl rfl) h2
 clear hA0 hval0 hA
 simp only [List.append_nil] at hW'
 have hlt := hW'.lt
 refine (names_any W v0 s x y m1 m2 sv (maxl_of_shape hshape) (primes_of_laid hL) (tab_of_laid hL)).mono fun e W' ⟨he, hb⟩ => ?_
 subst he
 exact ⟨_, rfl, _, _, _, [], _, [], hW', trodAll_mk1 (shut_bool Tryz.underlying4 true), trodAll_mk3 (Below.trod laidOut0 (by kernel_rfl) (of_decide_eq_true (by kernel_rfl)) h0 hb (fun x hx => hlt x (by (try simp at hx) <;> (try simp [hx])))) (Below.trod laidOut0 (by kernel_rfl) (of_decide_eq_true (by kernel_rfl)) h1 hb (fun x hx => hlt x (by (try simp at hx) <;> (try simp [hx])))) (Below.trod laidOut0 (by kernel_rfl) (of_decide_eq_true (by kernel_rfl)) h2 hb (fun x hx => hlt x (by (try simp at hx) <;> (try simp [hx])))), rfl, hb.frame _, fun h => by cases h⟩
theorem notationNames_said : Rows.NotationNamesSaid :=
 OpenClaim.holds_of_wide 9 Tryz.f9 rfl rfl rfl rfl rfl rfl rfl ⟨rfl, rfl, rfl, rfl, rfl⟩ rfl rfl rfl rfl rfl (by kernel_rfl) Tryz.func9 (by kernel_rfl)
  (of_decide_eq_true (by kernel_rfl)) (by unfold Func.isWrapper; first | (rw [if_pos (by decide +kernel)]; kernel_rfl) | (rw [if_neg (by decide +kernel)]; exact ⟨rfl, rfl⟩))
  (fun os started H enc _ => notationNames_lifted os started H enc)
theorem notationNames_card : Rows.NotationNamesCardSaid :=
 Claim7.holds_tied_plain_at .later [] [.data, .data, .data, .data, .sentinel, .sentinel, .data, .pinned] true Rows.notationNamesCard.stood.harness Rows.notationNamesCard.stood.looks
  notationNames_said (fun _ h => by cases h) (by kernel_rfl) (fun _ h => by cases h) notationNames_row_tie rfl ⟨rfl, rfl⟩ (by kernel_rfl) rfl
  (fun f fn hf hfn => by
   obtain rfl : f = 9 := Option.some.inj ((show Tryz.prog.funcNamed "schisma/schismalaw20.NotationNames" = some 9 by kernel_rfl).symm.trans hf) |>.symm
   obtain rfl : fn = Tryz.f9 := (Option.some.inj (Tryz.func9.symm.trans hfn)).symm
   exact ⟨by kernel_rfl, fun j t ht => by
    rw [Tryz.params9] at ht
    have hm : t ∈ [26, 5] := by
     have := Array.mem_of_getElem? ht
     simpa using this
    have hall : ([26, 5].all fun u => !Tryz.prog.wantsStandIn u) = true := by kernel_rfl
    exact (show Tryz.prog.wantsStandIn t = false by simpa using List.all_eq_true.1 hall t hm)⟩)
  (by kernel_rfl)
end Go.Proofs.YtcjhihmaegagdaaGreatDoor
