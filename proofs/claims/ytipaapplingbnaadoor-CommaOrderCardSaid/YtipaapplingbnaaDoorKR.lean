/- For every row of this package: what the row's condition on the package-level variables gives the walks, the witness's world, and each kind of argument opened once. -/
import Derived.Test.YtipaapplingbnaaDoorTie
import Derived.Test.YtipaapplingbnaaDoorCards
import Derived.Test.YtipaapplingbnaaDoorHc
import Derived.ProofKit
import Derived.LaidMore
import Derived.LaidHandle
import Derived.OpenShut
import Derived.SizedLaws
import Derived.JoinedOf
import Derived.ChangeSame
import Derived.ChangeVars
import Derived.RowKitTokens
import Derived.Stop.Joined
import Derived.Lib.LaidTab
import Derived.SevenTiedAt
import Derived.Lay
import Derived.LaidSub
import Derived.MakeChecks
import Derived.Deep.Slices
namespace Go.Proofs.YtipaapplingbnaaDoor
open Go.ChangeShapes Go.WideShapes Go.ChangeAt Go.RowKit
open Go.ChangeMaps (open_string)
set_option maxRecDepth 100000

theorem own0 : ownKnob Tryd.prog.godebug = none := by kernel_rfl
theorem laidOut0 : laidOutB Tryd.prog = true := by kernel_rfl
theorem g_pow10 : Tryd.prog.globalNamed "internal/strconv.uint64pow10" = some 3 := by kernel_rfl
theorem ty_pow10 : (Tryd.prog.globals[3]?).map (·.type) = some 135 := by kernel_rfl
theorem g_syn : Tryd.prog.globalNamed "strconv.ErrSyntax" = some 1 := by kernel_rfl
theorem ty_syn : (Tryd.prog.globals[1]?).map (·.type) = some 74 := by kernel_rfl
theorem g_rng : Tryd.prog.globalNamed "strconv.ErrRange" = some 2 := by kernel_rfl
theorem ty_rng : (Tryd.prog.globals[2]?).map (·.type) = some 74 := by kernel_rfl

abbrev Laid0 : List (String × DataW Unit) := [("math/bits.deBruijn32tab", Rows.laid_math_bits_deBruijn32tab), ("math/bits.deBruijn64tab", Rows.laid_math_bits_deBruijn64tab), ("internal/strconv.uint64pow10", Rows.laid_internal_strconv_uint64pow10), ("unicode/utf8.acceptRanges", Rows.laid_unicode_utf8_acceptRanges), ("strconv.ErrRange", Rows.laid_strconv_ErrRange), ("strconv.ErrSyntax", Rows.laid_strconv_ErrSyntax), ("unicode/utf8.first", Rows.laid_unicode_utf8_first)]

theorem tab_of_laid {W : World} (h : laidMetH Tryd.prog Laid0 W) : Tab W := by
  have h1 := laidMetH.filter (fun x => x.1 == "internal/strconv.uint64pow10") h
  have h2 : laidMetH Tryd.prog [("internal/strconv.uint64pow10", Rows.laid_internal_strconv_uint64pow10)] W := h1
  rw [MakeChecks.laidMetH_plain _ _ _ (by kernel_rfl)] at h2
  have ht : Tryd.prog.cellsOf 135 = 20 := by kernel_rfl
  have hc : Tryd.prog.cellsOf 118 = 1 := by kernel_rfl
  exact Lib.tabIs_of_head (rest := []) g_pow10 ty_pow10 Tryd.underlying135 Tryd.underlying118 hc ht h2
theorem err_cell {W : World} {g : Nat} {n : String} {d : DataW Unit} {T : String} (hg : Tryd.prog.globalNamed n = some g) (hty : (Tryd.prog.globals[g]?).map (·.type) = some 74) (h : laidMet Tryd.prog [(n, .iface T d)] W) : ∃ v, W.cell? ⟨g, 0, none⟩ = some v ∧ ErrV v := by
  obtain ⟨ps, ⟨g', t, cs, fuel, p, q, e1, e2, e3, e4, -, -⟩, -, -⟩ := h
  obtain rfl := Option.some.inj (hg.symm.trans e1)
  obtain rfl := Option.some.inj (hty.symm.trans e2)
  have hc := World.var?_cell e1 e3 0
  obtain ⟨l⟩ := cs
  cases fuel with
  | zero => simp [DataW.trod] at e4
  | succ fuel =>
    rcases l with _ | ⟨v, _ | ⟨u, l⟩⟩
    · simp [DataW.trod, Tryd.underlying74] at e4
    · refine ⟨v, by rw [hc]; rfl, ?_⟩
      cases v <;> first | exact .inl rfl | exact .inr ⟨_, _, rfl⟩ | (simp [DataW.trod, Tryd.underlying74] at e4)
    · simp [DataW.trod, Tryd.underlying74] at e4
theorem errs_of_laid {W : World} (h : laidMetH Tryd.prog Laid0 W) : Errs W := by
  have h1 := laidMetH.filter (fun x => x.1 == "strconv.ErrSyntax") h
  have h2 : laidMetH Tryd.prog [("strconv.ErrSyntax", Rows.laid_strconv_ErrSyntax)] W := h1
  rw [MakeChecks.laidMetH_plain _ _ _ (by kernel_rfl)] at h2
  have h3 := laidMetH.filter (fun x => x.1 == "strconv.ErrRange") h
  have h4 : laidMetH Tryd.prog [("strconv.ErrRange", Rows.laid_strconv_ErrRange)] W := h3
  rw [MakeChecks.laidMetH_plain _ _ _ (by kernel_rfl)] at h4
  exact ⟨err_cell g_syn ty_syn h2, err_cell g_rng ty_rng h4⟩

/-- A world that meets the condition. -/
theorem laid_met0 (os : Os) (args : Array Value) : laidMetH Tryd.prog Laid0 ((World.laidAll Tryd.prog os Laid0).forCall (fun _ _ => 0) ⟨#[], args, []⟩).memory := by
  rw [MakeChecks.laidMetH_plain _ _ _ (by kernel_rfl)]
  exact laidMet_laidAll _ (by kernel_rfl) (by kernel_rfl)

section
variable {H : Type} {enc : TypeId × Value → H} {w : World} {base : Nat} {sp : Nat → Bool} {held : Bool}

theorem i64_wf {n : Int} (h : (Lit.int .i64 n).wf = true) : -9223372036854775808 ≤ n ∧ n ≤ 9223372036854775807 := by
  have hmn : IntKind.i64.min = -9223372036854775808 := by decide
  have hmx : IntKind.i64.max = 9223372036854775807 := by decide
  simpa [Lit.wf, hmn, hmx] using h
theorem open_str {r : Reach} {b0 : Nat} {v : Value} {d : DataW H} {ps : List MemPlace} (hval : Value.okWide Tryd.prog w r b0 9 v) (hd : DataW.Trod enc Tryd.prog w base sp held 9 v d ps) :
    ∃ l : List UInt8, v = str l ∧ ps = [] ∧ l.length ≤ 9223372036854775807 ∧ d = .lit (.string l) := by
  obtain ⟨s, rfl, rfl, rfl, hs⟩ := open_string Tryd.underlying9 hval hd
  refine ⟨s.data.toList, rfl, rfl, ?_, rfl⟩
  rw [Array.length_toList]
  unfold maxLen at hs
  exact hs
theorem open_vec_cells {fuel : Nat} {cs : List Value} {x : DataW H × List MemPlace} (h : DataW.trod enc Tryd.prog w base sp held fuel 25 cs = some x) : (∃ v : Vc, cs = v.cs) ∧ x.2 = [] := by
  have hc6 : Tryd.prog.cellsOf 25 = 6 := by kernel_rfl
  have hc1 : Tryd.prog.cellsOf 3 = 1 := by kernel_rfl
  have hlen : cs.length = 6 := by
    cases fuel with
    | zero => simp [DataW.trod] at h
    | succ fuel =>
      simp only [DataW.trod, Tryd.underlying25, hc6] at h
      split at h
      · assumption
      · cases h
  match cs, hlen with
  | [c0, c1, c2, c3, c4, c5], _ =>
  obtain ⟨xs, m, _, hx, _, hl, hel⟩ := DataW.trod_array Tryd.underlying25 h
  match xs, hl with
  | [x0, x1, x2, x3, x4, x5], _ =>
  have h0 := hel 0 (by omega)
  have h1 := hel 1 (by omega)
  have h2 := hel 2 (by omega)
  have h3 := hel 3 (by omega)
  have h4 := hel 4 (by omega)
  have h5 := hel 5 (by omega)
  simp [hc1] at h0 h1 h2 h3 h4 h5
  obtain ⟨a0, e0, rfl, _⟩ := DataW.trod_int Tryd.underlying3 h0
  obtain ⟨a1, e1, rfl, _⟩ := DataW.trod_int Tryd.underlying3 h1
  obtain ⟨a2, e2, rfl, _⟩ := DataW.trod_int Tryd.underlying3 h2
  obtain ⟨a3, e3, rfl, _⟩ := DataW.trod_int Tryd.underlying3 h3
  obtain ⟨a4, e4, rfl, _⟩ := DataW.trod_int Tryd.underlying3 h4
  obtain ⟨a5, e5, rfl, _⟩ := DataW.trod_int Tryd.underlying3 h5
  simp at e0 e1 e2 e3 e4 e5
  subst e0 e1 e2 e3 e4 e5
  exact ⟨⟨⟨a0, a1, a2, a3, a4, a5⟩, rfl⟩, by rw [hx]; rfl⟩
theorem open_vec {r : Reach} {b0 : Nat} {v : Value} {d : DataW H} {ps : List MemPlace} (hval : Value.okWide Tryd.prog w r b0 25 v) (hd : DataW.Trod enc Tryd.prog w base sp held 25 v d ps) :
    (∃ u : Vc, v = .agg u.cells) ∧ ps = [] := by
  obtain ⟨cs, rfl, hsz, _⟩ : ∃ cs, v = .agg cs ∧ cs.size = Tryd.prog.cellsOf 25 ∧ Row.okWide Tryd.prog w r b0 25 cs := by
    simpa [Value.okWide, Tryd.underlying25] using hval
  obtain ⟨fuel, hf⟩ := hd
  obtain ⟨⟨u, hu⟩, hp⟩ := open_vec_cells hf
  refine ⟨⟨u, ?_⟩, hp⟩
  have e : cs.toList = u.cells.toList := by simpa [Value.cells, Vc.cs] using hu
  rw [Array.toList_inj.1 e]
theorem open_named_cells {fuel : Nat} {cs : List Value} {x : DataW H × List MemPlace} (h : DataW.trod enc Tryd.prog w base sp held fuel 50 cs = some x) : ∃ c : Cm, cs = c.cs ∧ c.nm.length ≤ 9223372036854775807 := by
  have hcS : Tryd.prog.cellsOf 9 = 1 := by kernel_rfl
  have hcV : Tryd.prog.cellsOf 25 = 6 := by kernel_rfl
  have hcN : Tryd.prog.cellsOf 50 = 7 := by kernel_rfl
  obtain ⟨ys, n, _, rfl, hlen, hl, hf⟩ := DataW.trod_struct Tryd.underlying50 h
  rw [hcN] at hlen
  match cs, hlen with
  | [c0, c1, c2, c3, c4, c5, c6], _ =>
  match ys, hl with
  | [y0, y1], _ =>
  have h0 := hf 0 _ rfl
  have h1 := hf 1 _ rfl
  simp [hcS, hcV] at h0 h1
  obtain ⟨⟨u, hu⟩, -⟩ := open_vec_cells h1
  obtain ⟨s, e0, _, hs⟩ : ∃ s : ByteArray, [c0] = [.string s] ∧ True ∧ s.size ≤ maxLen := by
    cases n with
    | zero => simp [DataW.trod] at h0
    | succ n =>
      cases c0 <;> simp [DataW.trod, Tryd.underlying9] at h0
      refine ⟨_, rfl, trivial, ?_⟩
      exact h0.1
  injection e0 with e0
  subst e0
  refine ⟨⟨s.data.toList, u⟩, ?_, ?_⟩
  · simp only [Vc.cs, List.cons.injEq] at hu
    simp [Cm.cs, hu]
  · rw [Array.length_toList]
    unfold maxLen at hs
    exact hs
theorem open_take_cells {fuel : Nat} {cs : List Value} {x : DataW H × List MemPlace} (h : DataW.trod enc Tryd.prog w base sp held fuel 37 cs = some x) : ∃ t : Tk, cs = t.cs := by
  have hc1 : Tryd.prog.cellsOf 3 = 1 := by kernel_rfl
  have hc4 : Tryd.prog.cellsOf 37 = 4 := by kernel_rfl
  obtain ⟨ys, n, _, rfl, hlen, hl, hf⟩ := DataW.trod_struct Tryd.underlying37 h
  rw [hc4] at hlen
  match cs, hlen with
  | [c0, c1, c2, c3], _ =>
  match ys, hl with
  | [y0, y1, y2, y3], _ =>
  have h0 := hf 0 _ rfl
  have h1 := hf 1 _ rfl
  have h2 := hf 2 _ rfl
  have h3 := hf 3 _ rfl
  simp [hc1] at h0 h1 h2 h3
  obtain ⟨a0, e0, rfl, _⟩ := DataW.trod_int Tryd.underlying3 h0
  obtain ⟨a1, e1, rfl, _⟩ := DataW.trod_int Tryd.underlying3 h1
  obtain ⟨a2, e2, rfl, _⟩ := DataW.trod_int Tryd.underlying3 h2
  obtain ⟨a3, e3, rfl, _⟩ := DataW.trod_int Tryd.underlying3 h3
  simp at e0 e1 e2 e3
  subst e0 e1 e2 e3
  exact ⟨⟨a0, a1, a2, a3⟩, rfl⟩
/-- A slice of records of k cells, opened once, nil or not. -/
theorem open_rows {α : Type} [Inhabited α] {t e : TypeId} (k : Nat) (hk0 : 0 < k) (ht : Tryd.prog.underlying t = some (.slice e)) (hk : Tryd.prog.cellsOf e = k) (cf : α → List Value) (hcf : ∀ x, (cf x).length = k) (good : α → Prop)
    (hop : ∀ {fuel : Nat} {cs : List Value} {x : DataW H × List MemPlace}, DataW.trod enc Tryd.prog w 0 (fun _ => true) held fuel e cs = some x → ∃ c : α, cs = cf c ∧ good c)
    {r : Reach} {b0 : Nat} {v : Value} {d : DataW H} {ps : List MemPlace} (hval : Value.okWide Tryd.prog w r b0 t v) (hd : DataW.Trod enc Tryd.prog w 0 (fun _ => true) held t v d ps) :
    ∃ (l : List α) (A : Option Addr) (c : Nat), v = .slice A l.length c ∧ Shows w w.heap.size k A l.length (rcells cf l) ∧ (∀ x ∈ l, good x) ∧ l.length ≤ c ∧ c ≤ maxLen := by
  obtain ⟨a, len, cap, rfl⟩ := okWide_slice ht hval
  obtain ⟨fuel, hf⟩ := hd
  rcases Go.Deep.open_slice ht hf with ⟨hcs, hx⟩ | ⟨ad, len', cap', m, n, D, Pl, hcs, _, hl, hm, hmm, hx, hi⟩
  · simp [Value.cells] at hcs
    obtain ⟨rfl, rfl, rfl⟩ := hcs
    exact ⟨[], none, 0, rfl, Shows.nil_, fun x hx => by simp at hx, Nat.le_refl _, Nat.zero_le _⟩
  · simp [Value.cells] at hcs
    obtain ⟨rfl, rfl, rfl⟩ := hcs
    simp only [if_true] at hmm
    rw [hk] at hi
    obtain ⟨M, hM⟩ := Go.Deep.choose_lt (α := α) (n := len) (p := fun i c => good c ∧ ∀ j, j < k → w.cell? ((ad.add (i * k)).add j) = (cf c)[j]?) (fun i hil => by
      obtain ⟨cs', h1, h2⟩ := hi i (by omega)
      obtain ⟨_, _, h3⟩ := World.cells?_some h1
      obtain ⟨c, rfl, hg⟩ := hop h2
      exact ⟨c, hg, h3⟩)
    have hlen : ((List.range len).map M).length = len := by simp
    refine ⟨(List.range len).map M, some ad, cap, by rw [hlen], ?_, ?_, by rw [hlen]; exact hl, hm⟩
    · rw [hlen]
      refine ⟨by rw [rcells_length cf k hcf, hlen], fun hpos => ⟨ad, rfl, ?_, fun j hj => ?_⟩⟩
      · have h0 := (hM 0 hpos).2 0 hk0
        rw [show (ad.add (0 * k)).add 0 = ad from by simp [Addr.add]] at h0
        have hl0 : 0 < (cf (M 0)).length := by rw [hcf]; exact hk0
        rw [List.getElem?_eq_getElem hl0] at h0
        exact World.block_lt_of_cell? w _ h0
      · rw [rcells_length cf k hcf, hlen] at hj
        have hq : j / k < len := (Nat.div_lt_iff_lt_mul hk0).2 hj
        have h0 := (hM (j / k) hq).2 (j % k) (Nat.mod_lt _ hk0)
        have hdm : j / k * k + j % k = j := Nat.div_add_mod' j k
        rw [add_add', hdm] at h0
        rw [h0]
        have := rcells_at cf k hcf ((List.range len).map M) (j / k) (j % k) (by rw [hlen]; exact hq) (Nat.mod_lt _ hk0)
        rw [hdm] at this
        rw [this]
        simp
    · intro x hx
      obtain ⟨i, hi', rfl⟩ := List.mem_map.1 hx
      exact (hM i (List.mem_range.1 hi')).1
theorem open_list {r : Reach} {b0 : Nat} {v : Value} {d : DataW H} {ps : List MemPlace} (hval : Value.okWide Tryd.prog w r b0 22 v) (hd : DataW.Trod enc Tryd.prog w 0 (fun _ => true) held 22 v d ps) :
    ∃ (l : List Cm) (A : Option Addr) (c : Nat), v = .slice A l.length c ∧ RdN w w.heap.size A l ∧ (∀ x ∈ l, x.nm.length ≤ 9223372036854775807) ∧ l.length ≤ 9223372036854775807 ∧ l.length ≤ c := by
  have hin : Inhabited Cm := ⟨⟨[], zeroV⟩⟩
  obtain ⟨l, A, c, h1, h2, h3, h4, h5⟩ := open_rows 7 (by omega) Tryd.underlying22 (by kernel_rfl) Cm.cs Cm.cs_len (fun x => x.nm.length ≤ 9223372036854775807) (fun h => open_named_cells h) hval hd
  exact ⟨l, A, c, h1, h2, h3, by simp only [maxLen] at h5; omega, h4⟩
theorem open_ints_ {r : Reach} {b0 : Nat} {v : Value} {d : DataW H} {ps : List MemPlace} (hval : Value.okWide Tryd.prog w r b0 23 v) (hd : DataW.Trod enc Tryd.prog w 0 (fun _ => true) held 23 v d ps) :
    ∃ (l : List Int) (A : Option Addr) (c : Nat), v = .slice A l.length c ∧ RdI w w.heap.size A l ∧ (∀ x ∈ l, -9223372036854775808 ≤ x ∧ x ≤ 9223372036854775807) ∧ l.length ≤ 9223372036854775807 := by
  obtain ⟨l, A, c, h1, h2, h3, h4, h5⟩ := open_rows 1 (by omega) Tryd.underlying23 (by kernel_rfl) (fun x : Int => [Value.int .i64 x]) (fun _ => rfl) (fun x => -9223372036854775808 ≤ x ∧ x ≤ 9223372036854775807) (fun {fuel cs x} h => by
    have hlen : cs.length = 1 := by
      cases fuel with
      | zero => simp [DataW.trod] at h
      | succ fuel =>
        rcases cs with _ | ⟨c0, _ | ⟨c1, l⟩⟩
        · simp [DataW.trod, Tryd.underlying3] at h
        · rfl
        · simp [DataW.trod, Tryd.underlying3] at h
    match cs, hlen with
    | [c0], _ =>
    obtain ⟨a0, e0, rfl, hw⟩ := DataW.trod_int Tryd.underlying3 h
    exact ⟨a0, e0, i64_wf hw⟩) hval hd
  refine ⟨l, A, c, h1, ?_, h3, by simp only [maxLen] at h5; omega⟩
  unfold RdI
  rwa [show icells l = rcells (fun x : Int => [Value.int .i64 x]) l from by unfold icells rcells; exact List.map_eq_flatMap]
theorem open_takes {r : Reach} {b0 : Nat} {v : Value} {d : DataW H} {ps : List MemPlace} (hval : Value.okWide Tryd.prog w r b0 34 v) (hd : DataW.Trod enc Tryd.prog w 0 (fun _ => true) held 34 v d ps) :
    ∃ (l : List Tk) (A : Option Addr) (c : Nat), v = .slice A l.length c ∧ RdT w w.heap.size A l ∧ l.length ≤ 9223372036854775807 := by
  have hin : Inhabited Tk := ⟨⟨0, 0, 0, 0⟩⟩
  obtain ⟨l, A, c, h1, h2, h3, h4, h5⟩ := open_rows 4 (by omega) Tryd.underlying34 (by kernel_rfl) Tk.cs Tk.cs_len (fun _ => True) (fun h => (open_take_cells h).imp fun _ h => ⟨h, trivial⟩) hval hd
  exact ⟨l, A, c, h1, h2, by simp only [maxLen] at h5; omega⟩
end

end Go.Proofs.YtipaapplingbnaaDoor
