/- For every row of this package: what the row's condition on the package-level variables gives the walks, the witness's world, and each kind of argument opened once. -/
import Derived.Test.YtgcobhlplffpjaaGreatDoorTie
import Derived.Test.YtgcobhlplffpjaaGreatDoorCards
import Derived.Test.YtgcobhlplffpjaaGreatDoorN9
import Derived.ProofKit
import Derived.LaidMore
import Derived.LaidHandle
import Derived.OpenShut
import Derived.SizedLaws
import Derived.JoinedOf
import Derived.ChangeSame
import Derived.ChangeVars
import Derived.RowKitTokens
import Derived.Stop.Joined
import Derived.Lib.LaidTab
import Derived.SevenTiedAt
import Derived.Lay
import Derived.LaidSub
import Derived.MakeChecks
namespace Go.Proofs.YtgcobhlplffpjaaGreatDoor
open Go.ChangeShapes Go.WideShapes Go.ChangeAt Go.RowKit
open Go.ChangeMaps (open_string)
set_option maxRecDepth 100000

theorem own0 : ownKnob Tryz.prog.godebug = none := by kernel_rfl
theorem laidOut0 : laidOutB Tryz.prog = true := by kernel_rfl
theorem g_pow10 : Tryz.prog.globalNamed "internal/strconv.uint64pow10" = some 3 := by kernel_rfl
theorem ty_pow10 : (Tryz.prog.globals[3]?).map (·.type) = some 134 := by kernel_rfl

abbrev Laid0 : List (String × DataW Unit) := Rows.naturalSumsRow.laid

theorem tab_of_laid {W : World} (h : laidMetH Tryz.prog Laid0 W) : Tab W := by
  have h1 := laidMetH.filter (fun x => x.1 == "internal/strconv.uint64pow10") h
  have h2 : laidMetH Tryz.prog [("internal/strconv.uint64pow10", Rows.laid_internal_strconv_uint64pow10)] W := h1
  rw [MakeChecks.laidMetH_plain _ _ _ (by kernel_rfl)] at h2
  have ht : Tryz.prog.cellsOf 134 = 20 := by kernel_rfl
  have hc : Tryz.prog.cellsOf 35 = 1 := by kernel_rfl
  exact Lib.tabIs_of_head (rest := []) g_pow10 ty_pow10 Tryz.underlying134 Tryz.underlying35 hc ht h2

/-- A world that meets the condition. -/
theorem laid_met0 (os : Os) (args : Array Value) : laidMetH Tryz.prog Laid0 ((World.laidAll Tryz.prog os Laid0).forCall (fun _ _ => 0) ⟨#[], args, []⟩).memory := by
  rw [MakeChecks.laidMetH_plain _ _ _ (by kernel_rfl)]
  exact laidMet_laidAll _ (by kernel_rfl) (by kernel_rfl)

section
variable {H : Type} {enc : TypeId × Value → H} {w : World} {base : Nat} {sp : Nat → Bool} {held : Bool}

theorem i64_wf {n : Int} (h : (Lit.int .i64 n).wf = true) : -9223372036854775808 ≤ n ∧ n ≤ 9223372036854775807 := by
  have hmn : IntKind.i64.min = -9223372036854775808 := by decide
  have hmx : IntKind.i64.max = 9223372036854775807 := by decide
  simpa [Lit.wf, hmn, hmx] using h
theorem u64_wf {n : Int} (h : (Lit.int .u64 n).wf = true) : 0 ≤ n ∧ n < 18446744073709551616 := by
  have hmn : IntKind.u64.min = 0 := by decide
  have hmx : IntKind.u64.max = 18446744073709551615 := by decide
  have : 0 ≤ n ∧ n ≤ 18446744073709551615 := by simpa [Lit.wf, hmn, hmx] using h
  omega
theorem open_i64 {r : Reach} {b0 : Nat} {v : Value} {d : DataW H} {ps : List MemPlace} (hval : Value.okWide Tryz.prog w r b0 3 v) (hd : DataW.Trod enc Tryz.prog w base sp held 3 v d ps) :
    ∃ a : Int, v = .int .i64 a ∧ ps = [] ∧ -9223372036854775808 ≤ a ∧ a ≤ 9223372036854775807 := by
  obtain ⟨n, rfl, _, rfl, hw⟩ := open_int Tryz.underlying3 hval hd
  exact ⟨n, rfl, rfl, i64_wf hw⟩
theorem open_u64 {r : Reach} {b0 : Nat} {v : Value} {d : DataW H} {ps : List MemPlace} (hval : Value.okWide Tryz.prog w r b0 35 v) (hd : DataW.Trod enc Tryz.prog w base sp held 35 v d ps) :
    ∃ a : Nat, v = .int .u64 (a : Int) ∧ ps = [] ∧ a < 18446744073709551616 := by
  obtain ⟨n, rfl, _, rfl, hw⟩ := open_int Tryz.underlying35 hval hd
  have := u64_wf hw
  obtain ⟨a, rfl⟩ := Int.eq_ofNat_of_zero_le this.1
  exact ⟨a, rfl, rfl, by omega⟩
theorem open_str {r : Reach} {b0 : Nat} {v : Value} {d : DataW H} {ps : List MemPlace} (hval : Value.okWide Tryz.prog w r b0 9 v) (hd : DataW.Trod enc Tryz.prog w base sp held 9 v d ps) :
    ∃ l : List UInt8, v = str l ∧ ps = [] ∧ l.length ≤ 9223372036854775807 := by
  obtain ⟨s, rfl, _, rfl, hs⟩ := open_string Tryz.underlying9 hval hd
  refine ⟨s.data.toList, rfl, rfl, ?_⟩
  rw [Array.length_toList]
  unfold maxLen at hs
  exact hs

/-- A slice of limbs, opened once, nil or not. -/
theorem open_nat {r : Reach} {b0 : Nat} {v : Value} {d : DataW H} {ps : List MemPlace} (hval : Value.okWide Tryz.prog w r b0 23 v) (hd : DataW.Trod enc Tryz.prog w 0 (fun _ => true) held 23 v d ps) :
    ∃ (l : List Nat) (a : Option Addr) (c : Nat), v = .slice a l.length c ∧ RdW w w.heap.size a l ∧ Lim l ∧ l.length ≤ 9223372036854775807 := by
  obtain ⟨a, len, cap, rfl⟩ := okWide_slice Tryz.underlying23 hval
  obtain ⟨fuel, hf⟩ := hd
  have hc1 : Tryz.prog.cellsOf 30 = 1 := by kernel_rfl
  rcases open_ints Tryz.underlying23 Tryz.underlying30 hc1 hf with ⟨hcs, hx⟩ | ⟨ad, len', cap', zs, hcs, _, hl, hm, hz, hx, hcell, hwz⟩
  · simp [Value.cells] at hcs
    obtain ⟨rfl, rfl, rfl⟩ := hcs
    exact ⟨[], none, 0, rfl, RdW.nil _ _ _, Lim.nil, by simp⟩
  · simp [Value.cells] at hcs
    obtain ⟨rfl, rfl, rfl⟩ := hcs
    simp only [if_true] at hz
    have hlen : ((zs.take len).map Int.toNat).length = len := by simp; omega
    have hbd : ∀ z ∈ zs, 0 ≤ z ∧ z ≤ 4294967295 := fun z hz' => by
      have hmn : IntKind.u32.min = 0 := by decide
      have hmx : IntKind.u32.max = 4294967295 := by decide
      simpa [Lit.wf, hmn, hmx] using hwz z hz'
    have key : ∀ j, j < len → w.cell? (ad.add j) = some (.int .u32 (((((zs.take len).map Int.toNat).getD j 0 : Nat)) : Int)) := by
      intro j hj
      have hj' : j < zs.length := by omega
      rw [hcell j hj']
      have hb := hbd _ (List.getElem_mem hj')
      have e1 : zs.getD j 0 = zs[j] := by simp [List.getD, hj']
      have e2 : ((zs.take len).map Int.toNat).getD j 0 = (zs[j]).toNat := by
        simp [List.getD, hj, hj']
      rw [e1, e2]
      congr 2
      omega
    refine ⟨(zs.take len).map Int.toNat, some ad, cap, by rw [hlen], ?_, ?_, by rw [hlen]; simp only [maxLen] at hm; omega⟩
    · intro hpos
      rw [hlen] at hpos
      exact ⟨ad, rfl, by simpa [Addr.add] using World.block_lt_of_cell? w _ (key 0 hpos), fun j hj => key j (by rw [hlen] at hj; exact hj)⟩
    · intro x hx
      obtain ⟨z, hz', rfl⟩ := List.mem_map.1 hx
      have := hbd z (List.mem_of_mem_take hz')
      omega
end

end Go.Proofs.YtgcobhlplffpjaaGreatDoor
