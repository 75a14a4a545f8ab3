/- For every row of this package: what the row's condition on the two package-level variables gives the walks, the witness's world, and each kind of argument opened once. No condition beyond each theorem's own hypotheses. -/
import Derived.Test.YtppcdppplbpklaaDoorTie
import Derived.Test.YtppcdppplbpklaaDoorCards
import Derived.Test.YtppcdppplbpklaaDoorWl
import Derived.ProofKit
import Derived.LaidMore
import Derived.LaidHandle
import Derived.OpenShut
import Derived.SizedLaws
import Derived.JoinedOf
import Derived.ChangeSame
import Derived.ChangeVars
import Derived.RowKitTokens
import Derived.Stop.Joined
import Derived.Lib.LaidTab
import Derived.SevenTiedAt
namespace Go.Proofs.YtppcdppplbpklaaDoor
open Go.ChangeShapes Go.WideShapes Go.ChangeAt Go.RowKit
set_option maxRecDepth 100000

theorem own0 : ownKnob Tryd.prog.godebug = none := by kernel_rfl
theorem laidOut0 : laidOutB Tryd.prog = true := by kernel_rfl
theorem g_errT : Tryd.prog.globalNamed "errors.errorType" = some 1 := by kernel_rfl
theorem g_nibs : Tryd.prog.globalNamed "schisma/wire.nibbles" = some 0 := by kernel_rfl
theorem ty_nibs : (Tryd.prog.globals[0]?).map (·.type) = some 57 := by kernel_rfl
theorem rt0 : (Tryd.prog.cutTypes.find? (·.1 == "internal/reflectlite.rtype")).map (·.2) = some 95 := by kernel_rfl
theorem oneRow0 : ((List.range Tryd.prog.types.size).filter fun t => Tryd.prog.rowNamed t [101, 114, 114, 111, 114]) = [53] := by kernel_rfl

abbrev Laid0 : List (String × DataW Unit) := [("errors.errorType", Rows.laid_errors_errorType), ("schisma/wire.nibbles", Rows.laid_schisma_wire_nibbles)]

theorem laid_split {W : World} (h : laidMetH Tryd.prog Laid0 W) : laidMet Tryd.prog [("schisma/wire.nibbles", Rows.laid_schisma_wire_nibbles)] W ∧ handlesMet Tryd.prog [("errors.errorType", Rows.laid_errors_errorType)] W := h

theorem errT_of_laid {W : World} (h : laidMetH Tryd.prog Laid0 W) : ErrT W := by
  obtain ⟨name, u, ty, e1, e2, e3, e4, e5⟩ := (laid_split h).2 _ (List.mem_singleton.2 rfl)
  have en : name = [101, 114, 114, 111, 114] := (Option.some.inj e1).symm
  subst en
  obtain rfl := Option.some.inj (rt0.symm.trans e2)
  have hm : ty ∈ (List.range Tryd.prog.types.size).filter fun t => Tryd.prog.rowNamed t [101, 114, 114, 111, 114] := List.mem_filter.2 ⟨List.mem_range.2 e3, e4⟩
  rw [oneRow0] at hm
  obtain rfl := List.mem_singleton.1 hm
  have hh : typeHandle Tryd.prog 53 = .pointer (some ⟨2, 53, none⟩) := by kernel_rfl
  rw [hh] at e5
  simpa [ErrT] using World.var?_cell g_errT e5 0

theorem nibs_of_laid {W : World} (h : laidMetH Tryd.prog Laid0 W) : Nibs W := by
  have ht : Tryd.prog.cellsOf 57 = 16 := by kernel_rfl
  have hc : Tryd.prog.cellsOf 39 = 1 := by kernel_rfl
  have T : Lib.TabIs Tryd.prog W "schisma/wire.nibbles" .u32 (nib.map Int.ofNat) :=
    Lib.tabIs_of_head (rest := []) g_nibs ty_nibs Tryd.underlying57 Tryd.underlying39 hc ht (laid_split h).1
  intro i hi
  have := T.cell g_nibs i (by simpa [nib] using hi)
  rw [this]
  congr 2
  simp [List.getD, List.getElem?_map]
  cases nib[i]? <;> rfl

/-- The door's own heap meets the condition. -/
theorem door_met0 (os : Os) (args : Array Value) : laidMetH Tryd.prog Laid0 ((World.doorLaid Tryd.prog 400 os).forCall (fun _ _ => 0) ⟨#[], args, []⟩).memory :=
  laidMetH_of_parts3 (fuel := 8) (laidMet_of_run' 8 (by kernel_rfl) (by kernel_rfl)) (by kernel_rfl) (by kernel_rfl)

section
variable {H : Type} {enc : TypeId × Value → H} {w : World} {base : Nat} {sp : Nat → Bool} {held : Bool}

theorem open_msg_cells {fuel : Nat} {cs : List Value} {x : DataW H × List MemPlace} (h : DataW.trod enc Tryd.prog w base sp held fuel 25 cs = some x) : (∃ m : Msg, cs = m.cells.toList) ∧ x.2 = [] := by
  have hc3 : Tryd.prog.cellsOf 3 = 1 := by kernel_rfl
  have hcT : Tryd.prog.cellsOf 23 = 4 := by kernel_rfl
  have hcM : Tryd.prog.cellsOf 25 = 10 := by kernel_rfl
  obtain ⟨ys, n, _, rfl, hlen, hl, hf⟩ := DataW.trod_struct Tryd.underlying25 h
  rw [hcM] at hlen
  match cs, hlen with
  | [c0, c1, c2, c3, c4, c5, c6, c7, c8, c9], _ =>
  match ys, hl with
  | [y0, y1, y2, y3, y4, y5, y6], _ =>
  have h0 := hf 0 _ rfl
  have h1 := hf 1 _ rfl
  have h2 := hf 2 _ rfl
  have h3 := hf 3 _ rfl
  have h4 := hf 4 _ rfl
  have h5 := hf 5 _ rfl
  have h6 := hf 6 _ rfl
  simp [hc3, hcT] at h0 h1 h2 h3 h4 h5 h6
  obtain ⟨zs, n', _, rfl, _, hl', hf'⟩ := DataW.trod_struct Tryd.underlying23 h6
  match zs, hl' with
  | [z0, z1, z2, z3], _ =>
  have g0 := hf' 0 _ rfl
  have g1 := hf' 1 _ rfl
  have g2 := hf' 2 _ rfl
  have g3 := hf' 3 _ rfl
  simp [hc3] at g0 g1 g2 g3
  obtain ⟨a0, e0, rfl, _⟩ := DataW.trod_int Tryd.underlying3 h0
  obtain ⟨a1, e1, rfl, _⟩ := DataW.trod_int Tryd.underlying3 h1
  obtain ⟨a2, e2, rfl, _⟩ := DataW.trod_int Tryd.underlying3 h2
  obtain ⟨a3, e3, rfl, _⟩ := DataW.trod_int Tryd.underlying3 h3
  obtain ⟨a4, e4, rfl, _⟩ := DataW.trod_int Tryd.underlying3 h4
  obtain ⟨a5, e5, rfl, _⟩ := DataW.trod_int Tryd.underlying3 h5
  obtain ⟨b0, f0, rfl, _⟩ := DataW.trod_int Tryd.underlying3 g0
  obtain ⟨b1, f1, rfl, _⟩ := DataW.trod_int Tryd.underlying3 g1
  obtain ⟨b2, f2, rfl, _⟩ := DataW.trod_int Tryd.underlying3 g2
  obtain ⟨b3, f3, rfl, _⟩ := DataW.trod_int Tryd.underlying3 g3
  simp at e0 e1 e2 e3 e4 e5 f0 f1 f2 f3
  subst e0 e1 e2 e3 e4 e5 f0 f1 f2 f3
  exact ⟨⟨⟨a0, a1, a2, a3, a4, a5, b0, b1, b2, b3⟩, rfl⟩, by simp⟩

theorem open_msg {r : Reach} {b0 : Nat} {v : Value} {d : DataW H} {ps : List MemPlace} (hval : Value.okWide Tryd.prog w r b0 25 v) (hd : DataW.Trod enc Tryd.prog w base sp held 25 v d ps) :
    (∃ m : Msg, v = .agg m.cells) ∧ ps = [] := by
  obtain ⟨cs, rfl, _⟩ := okWide_struct Tryd.underlying25 hval
  obtain ⟨fuel, hf⟩ := hd
  obtain ⟨⟨m, hm⟩, hp⟩ := open_msg_cells hf
  refine ⟨⟨m, ?_⟩, hp⟩
  have e : cs.toList = m.cells.toList := by simpa [Value.cells] using hm
  rw [Array.toList_inj.1 e]

/-- A byte slice, opened once, nil or not. -/
theorem open_bytes {r : Reach} {b0 : Nat} {v : Value} {d : DataW H} {ps : List MemPlace} (hval : Value.okWide Tryd.prog w r b0 26 v) (hd : DataW.Trod enc Tryd.prog w 0 (fun _ => true) held 26 v d ps) :
    ∃ (l : List UInt8) (a : Option Addr) (c : Nat), v = .slice a l.length c ∧ l.length ≤ c ∧ RdB w w.heap.size a l ∧ (l.length = 0 ∨ ∃ es spare, d = .slice es spare ∧ es.length = l.length) := by
  obtain ⟨a, len, cap, rfl⟩ := okWide_slice Tryd.underlying26 hval
  obtain ⟨fuel, hf⟩ := hd
  have hc1 : Tryd.prog.cellsOf 5 = 1 := by kernel_rfl
  rcases open_ints Tryd.underlying26 Tryd.underlying5 hc1 hf with ⟨hcs, hx⟩ | ⟨ad, len', cap', zs, hcs, _, hl, hm, hz, hx, hcell, hwz⟩
  · simp [Value.cells] at hcs
    obtain ⟨rfl, rfl, rfl⟩ := hcs
    exact ⟨[], none, 0, rfl, Nat.le_refl _, fun h => absurd h (Nat.lt_irrefl 0), Or.inl rfl⟩
  · simp [Value.cells] at hcs
    obtain ⟨rfl, rfl, rfl⟩ := hcs
    simp only [Prod.mk.injEq] at hx
    obtain ⟨rfl, rfl⟩ := hx
    simp only [if_true] at hz
    have hlen : ((zs.take len).map fun z => UInt8.ofNat z.toNat).length = len := by simp; omega
    have key : ∀ j, j < len → w.cell? (ad.add j) = some (.int .u8 (((((zs.take len).map fun z => UInt8.ofNat z.toNat).getD j 0).toNat : Nat) : Int)) := by
      intro j hj
      have hj' : j < zs.length := by omega
      rw [hcell j hj']
      have hw := hwz _ (List.getElem_mem hj')
      have e1 : zs.getD j 0 = zs[j] := by simp [List.getD, hj']
      have e2 : ((zs.take len).map fun z => UInt8.ofNat z.toNat).getD j 0 = UInt8.ofNat (zs[j]).toNat := by
        simp [List.getD, hj, hj']
      rw [e1, e2]
      have hb : 0 ≤ zs[j] ∧ zs[j] ≤ 255 := by
        have hmn : IntKind.u8.min = 0 := by decide
        have hmx : IntKind.u8.max = 255 := by decide
        simpa [Lit.wf, hmn, hmx] using hw
      congr 2
      rw [UInt8.toNat_ofNat']
      omega
    refine ⟨(zs.take len).map fun z => UInt8.ofNat z.toNat, some ad, cap, by rw [hlen], by rw [hlen]; exact hl, ?_, Or.inr ⟨_, _, rfl, by simp [lits]⟩⟩
    intro hpos
    rw [hlen] at hpos ⊢
    exact ⟨ad, rfl, by simpa [Addr.add] using World.block_lt_of_cell? w _ (key 0 hpos), key⟩
end

theorem bytes_reach {H : Type} {ts : List TypeId} {ds : List (DataW H)} (hsz : (DataW.weightsEach Tryd.prog ts ds).all (· ≤ reachBytes) = true) {j : Nat} {l : List UInt8} {d : DataW H} (ht : ts[j]? = some 26) (hd : ds[j]? = some d)
    (h : l.length = 0 ∨ ∃ es spare, d = .slice es spare ∧ es.length = l.length) : l.length ≤ 140737488351232 := by
  rcases h with h | ⟨es, spare, rfl, hl⟩
  · omega
  · have hb : Tryd.prog.bytesOf 5 = 1 := by kernel_rfl
    have := sized_slice hsz ht hd Tryd.underlying26
    rw [hb] at this
    simp only [reachBytes] at this
    omega

end Go.Proofs.YtppcdppplbpklaaDoor
