/- Texts of the Notation chapter, together: Ba, Bb, Bc, Bd, Be, Bf. -/
import Derived.Test.YtcjhihmaegagdaaGreatDoorSh
import Derived.Test.YtcjhihmaegagdaaGreatDoorG3
import Derived.Test.YtcjhihmaegagdaaGreatDoorG2
import Derived.Lib.AppendIntMem
import Derived.Lib.Join
import Derived.Test.YtcjhihmaegagdaaGreatDoorG1
import Derived.Test.YtcjhihmaegagdaaGreatDoorH6
set_option maxRecDepth 100000
set_option maxHeartbeats 8000000
set_option linter.unusedSimpArgs false
set_option linter.unusedVariables false
set_option linter.unusedSectionVars false
set_option linter.unnecessarySimpa false
namespace Go.Proofs.YtcjhihmaegagdaaGreatDoor
open Go.RowKit
theorem zGJ : (Tryz.prog.info? 86).map (·.size) = some 2 := by kernel_rfl
theorem zJS : liesAt Tryz.prog Tryz.prog.depth 86 (2 / Tryz.prog.cellsOf 86) 0 86 1 = true := by kernel_rfl
theorem zIr : (Tryz.prog.info? 5).map (fun i => (i.zero, i.size, i.bytes)) = some (some (.int .u8 0), 1, 1) := by kernel_rfl
def jJ (w w' : World) : Prop := ∀ k t cs, Blk w k t cs → t ≠ 86 → t ≠ 5 → Blk w' k t cs
theorem jJ.refl (w : World) : jJ w w := fun _ _ _ h _ _ => h
theorem jJ.trans {a b c : World} (h : jJ a b) (k : jJ b c) : jJ a c := fun i t cs hb h1 h2 => k i t cs (h i t cs hb h1 h2) h1 h2
theorem jJ.below {w w' : World} (b : Below w.heap.size w w') : jJ w w' := fun _ _ _ h _ _ => h.below b h.lt
theorem jJ.set {w : World} {b : Nat} {cs0 : Array Value} (hb : Blk w b 86 cs0) (i : Nat) (v : Value) : jJ w (w.setCell ⟨b, i, none⟩ v) := fun k t cs h h1 _ => h.far (p := ⟨b, i, none⟩) (fun e => by
 have e' : k = b := e;subst e';have hb' : w.heap[k]? = some (.cells cs0 86 (0, 0)) := hb;have h' : w.heap[k]? = some (.cells cs t (0, 0)) := h;rw [h'] at hb';simp only [Option.some.injEq, Obj.cells.injEq] at hb';exact h1 hb'.2.1) v
theorem jJ.grown {w w' : World} {base : Nat} {v : Value} {n : Nat} {xs : List Value} (hg : w.grownBy w' v.ownBlock) (ho : w.ownsRow base 5 1 v n xs) : jJ w w' := fun k t cs h _ h2 => by
 refine (hg.block k h.lt (fun e => ?_)).trans h;rcases ho.2 with ⟨rfl, _⟩ | ⟨g, cap, cur, rfl, _, hgc, _⟩
 · cases e
 simp only [Value.ownBlock, Option.some.injEq] at e;subst e;have h' : w.heap[k]? = some (.cells cs t (0, 0)) := h;rw [hgc] at h';simp only [Option.some.injEq, Obj.cells.injEq] at h';exact h2 h'.2.1.symm
theorem zIz (b : Nat) (w : World) (h0 : w.cell? ⟨b, 0, none⟩ = some (.pointer (some ⟨b, 0, none⟩))) :
 Calls Tryz.prog 88 #[.pointer (some ⟨b, 0, none⟩)] w fun e w' => e = .returned (.tuple #[]) ∧ w' = w := by
 obtain ⟨j, hj, _⟩ := Option.map_eq_some_iff.1 zGJ;go_enter Tryz.func88, Tryz.ntmps88
 go_wp2
 rw [Lib.run_neq_ptr_same w _ Tryz.underlying84 hj];go_wp2
 go_end0
 exact ⟨rfl, rfl⟩
theorem zHD (b : Nat) (w : World) (h0 : w.cell? ⟨b, 0, none⟩ = some (.pointer none)) (hsh : w.shape? b = some (86, 2)) (hfz : w.frozen? ⟨b, 0, none⟩ = false) :
 Calls Tryz.prog 88 #[.pointer (some ⟨b, 0, none⟩)] w fun e w' => e = .returned (.tuple #[]) ∧ w' = w.setCell ⟨b, 0, none⟩ (.pointer (some ⟨b, 0, none⟩)) := by
 obtain ⟨j, hj, hjs⟩ := Option.map_eq_some_iff.1 zGJ;go_enter Tryz.func88, Tryz.ntmps88
 go_wp2
 rw [Lib.run_to_unsafe w ⟨b, 0, none⟩ Tryz.underlying84 Tryz.underlying158 hj (by rw [hjs]; decide) hsh (Nat.zero_lt_succ 1)];simp only [Result.andThen];rw [Oper.upon_value];go_wp2
 rw [run_callFunc_extern Tryz.func129 (by kernel_rfl) (by kernel_rfl) (by kernel_rfl) (e := Extern.AbiNoEscape.same) (by kernel_rfl)];rw [Lib.run_noEscape];simp only [Result.andThen];rw [Oper.upon_value];go_wp2
 rw [Lib.run_from_unsafe w ⟨b, 0, none⟩ Tryz.underlying158 Tryz.underlying84 hj hsh zJS];simp only [Result.andThen];rw [Oper.upon_value];go_wp2
 go_end0
 exact ⟨rfl, rfl⟩
theorem zJ1 (B b : Nat) (bs : List Value) (w : World) (h : Lib.IsBuilder 86 5 B b bs w) :
 Calls Tryz.prog 88 #[.pointer (some ⟨b, 0, none⟩)] w fun e w' => e = .returned (.tuple #[]) ∧ (Lib.BuilderAt 86 5 B b (.pointer (some ⟨b, 0, none⟩)) bs w' ∧ Below B w w' ∧ jJ w w') := by
 have hbk : ∃ cs, Blk w b 86 cs := by
  rcases h with ⟨-, v, h, -⟩ | ⟨-, v, h, -⟩
  · exact ⟨_, h⟩
  exact ⟨_, h⟩
 obtain ⟨cs0, hbk⟩ := hbk;rcases h with h | h
 · refine (zHD b w h.cell0 h.shape h.frozen0).mono ?_;rintro e w' ⟨rfl, rfl⟩;exact ⟨rfl, h.used _, (Below.refl B w).setCell (p := ⟨b, 0, none⟩) h.1 _, jJ.set hbk 0 _⟩
 refine (zIz b w h.cell0).mono ?_;rintro e w' ⟨rfl, rfl⟩;exact ⟨rfl, h, Below.refl B _, jJ.refl _⟩
theorem zEG (B b : Nat) (l s : List UInt8) (w : World) (h : Lib.IsBuilder 86 5 B b (Lib.byteCells l) w) (hlen : l.length + s.length ≤ 140737488355328) (hBw : B ≤ w.heap.size) :
 Calls Tryz.prog 42 #[.pointer (some ⟨b, 0, none⟩), str s] w fun e w' => e = .returned (.tuple #[.int .i64 s.length, .nilIface]) ∧ (Lib.IsBuilder 86 5 B b (Lib.byteCells (l ++ s)) w' ∧ Below B w w' ∧ jJ w w') := by
 have hss : (⟨s.toArray⟩ : ByteArray).size = s.length := by simp [ByteArray.size]
 have HSS := hid hss;have hbl : (Lib.byteCells l).length = l.length := Lib.byteCells_length l;obtain ⟨i0, hi, hz0, hz1, hz2⟩ := info_parts zIr;have HC := hid (zJ1 B b _ w h);clear h hss;go_enter Tryz.func42, Tryz.ntmps42
 go_wp2_with (go_at_call 88; refine HC.out.mono ?_)
 rintro e w1 ⟨rfl, h1, hb1, hk1⟩;obtain ⟨hB, v, hbk, hown, hne⟩ := h1;have c0 : w1.cell? ⟨b, 0, none⟩ = some (.pointer (some ⟨b, 0, none⟩)) := by rw [Lib.cell_of_heap hbk]; rfl
 have c1 : w1.cell? ⟨b, 1, none⟩ = some v := by rw [Lib.cell_of_heap hbk]; rfl
 have hb1s := hb1.size;go_wp2_with (at_builtin; refine Lib.wpList_append_own_string _ rfl _ _ 47 9 rfl B 5 i0 Tryz.underlying47 Tryz.underlying9 hi hz0 hz1 hz2 _ _ _ rfl hown ⟨s.toArray⟩ rfl ?c3 ?c4 ?c5 ?_)
 case c3 => unfold maxLen; first | omega | (rw [HSS.out, hbl]; omega)
 case c4 => first | omega | (rw [HSS.out, hbl]; omega)
 case c5 => omega
 intro v' w2 hown' hgrow _
 have hlt : b < w1.heap.size := by
  rcases Nat.lt_or_ge b w1.heap.size with h' | h'
  · exact h'
  simp [Array.getElem?_eq_none h'] at hbk
 have hb2 : w2.heap[b]? = some (.cells #[.pointer (some ⟨b, 0, none⟩), v] 86 (0, 0)) := by
  rw [hgrow.block b hlt (fun e => hne e.symm)];exact hbk
 have d0 : w2.cell? ⟨b, 0, none⟩ = some (.pointer (some ⟨b, 0, none⟩)) := by rw [Lib.cell_of_heap hb2]; rfl
 have d1 : w2.cell? ⟨b, 1, none⟩ = some v := by rw [Lib.cell_of_heap hb2]; rfl
 have f1 : w2.frozen? ⟨b, 1, none⟩ = false := Lib.frozen_of_heap hb2 1
 obtain ⟨ao, n', cap, rfl⟩ : ∃ ao n' cap, v' = .slice ao n' cap := by
  rcases hown'.2 with ⟨hv, _⟩ | ⟨g, cap, cur, hv, _⟩
  · exact ⟨_, _, _, hv⟩
  exact ⟨_, _, _, hv⟩
 have HQ : Hid (Lib.BuilderAt 86 5 B b (.pointer (some ⟨b, 0, none⟩)) (Lib.byteCells (l ++ s)) (w2.setCell ⟨b, 1, none⟩ (.slice ao n' cap))) := by
  refine hid (Lib.BuilderAt.put (T := 86) (e := 5) hB hb2 ?_ (by decide));rw [Lib.byteCells_length, Lib.byteCells_append];rw [List.length_append];exact hown'
 have HW : Hid (Below B w (w2.setCell ⟨b, 1, none⟩ (.slice ao n' cap))) := hid ((hb1.grown hgrow (by omega) (fun k hk => (hown.lt k hk).1)).setCell (p := ⟨b, 1, none⟩) hB _);have HK : Hid (jJ w (w2.setCell ⟨b, 1, none⟩ (.slice ao n' cap))) := hid ((hk1.trans (jJ.grown hgrow hown)).trans (jJ.set (b := b) hb2 1 _));clear hown hown' hgrow hbk hb2 hne hb1 HSS hk1;go_wp2
 go_ret2;exact ⟨by first | rfl | simp [ByteArray.size], Or.inr HQ.out, HW.out, HK.out⟩
open Go.RowKit Go.Deep
def Tab (w : World) : Prop := Lib.TabIs Tryz.prog w "internal/strconv.uint64pow10" .u64 Lib.pow10Tab
theorem Tab.below {w w' : World} (h : Tab w) (hb : Below w.heap.size w w') : Tab w' := Lib.tabBelow_of_tabIs h w' hb
theorem zE8 (w : World) (q : Nat) (os : Array Obj) : Below w.heap.size w (Go.Sort.grow (w.drewN q) os) :=
 ⟨rfl, rfl, rfl, by simp [Go.Sort.grow], fun i hi => by
  show ((w.drewN q).heap ++ os)[i]? = _;rw [Array.getElem?_append_left (by show i < w.heap.size; omega)];rfl⟩
theorem zBT (w : World) (n : Int) (h0 : -9223372036854775808 ≤ n) (h1 : n ≤ 9223372036854775807) (hT : Tab w) :
 Calls Tryz.prog 43 #[.int .i64 n] w fun e w' => e = .returned (str (Lib.itoa n)) ∧ Below w.heap.size w w' :=
 (Tryz.strconv_Itoa n h0 h1 w hT).mono fun e w' ⟨he, k, os, hw⟩ => ⟨he, by subst hw; exact zE8 w k os⟩
def kk (w : World) (base : Nat) (v : Value) (ss : List (List UInt8)) : Prop := w.ownsRow base 9 1 v ss.length (ss.map str)
theorem kk.start (w : World) (base : Nat) : kk w base (.slice none 0 0) [] := World.ownsRow_nil w base _ 1
theorem kk.snoc {w : World} {base : Nat} {v : Value} {ss : List (List UInt8)} {x : List UInt8} (h : w.ownsRow base 9 1 v (ss.length + 1) (ss.map str ++ [str x])) : kk w base v (ss ++ [x]) := by
 unfold kk;rw [List.length_append, List.map_append];exact h
theorem zGK : (Tryz.prog.info? 9).map (fun i => (i.zero, i.size, i.bytes)) = some (some (.string ⟨#[]⟩), 1, 16) := by kernel_rfl
theorem kk.on {w w' : World} {base : Nat} {v : Value} {ss : List (List UInt8)} (h : kk w base v ss) (hb : Below w.heap.size w w') : kk w' base v ss := by
 refine World.ownsRow.kept (row := none) h ⟨hb.os, hb.tape, hb.output, hb.size, fun k hk _ => hb.block k hk⟩ ?_;rcases hv : v.ownBlock with _ | g
 · exact .inl rfl
 exact .inr (by simp)
theorem kk.alloc {w : World} {base : Nat} {v : Value} {ss : List (List UInt8)} (h : kk w base v ss) (o : Obj) : kk (w.alloc o) base v ss := World.ownsRow.alloc h o
theorem kk.form {w : World} {base : Nat} {v : Value} {ss : List (List UInt8)} (h : kk w base v ss) (hn : 0 < ss.length) : ∃ g cap, v = .slice (some ⟨g, 0, none⟩) ss.length cap ∧ base ≤ g ∧ g < w.heap.size := World.ownsRow.form h hn
theorem zIk (d : List UInt8) : ∀ u ∈ [str d], u.oneCell' = true := fun u hu => by
 rw [List.mem_singleton.1 hu]; rfl
theorem zHP (w : World) (base g cap : Nat) (ss : List (List UInt8)) (n : Nat) (hn : ss.length = n) (h : kk w base (.slice (some ⟨g, 0, none⟩) n cap) ss) (hl : n ≤ 1000000) (hf : (Lib.join ss [32]).length ≤ 1000000000000) :
 Calls Tryz.prog 91 #[.slice (some ⟨g, 0, none⟩) n cap, .string ⟨#[32]⟩] w fun e w' => e = .returned (str (Lib.join ss [32])) ∧ Below w.heap.size w w' := by
 subst hn;rcases h.2 with ⟨h0, _⟩ | ⟨g', cap', cur, hv, hbase, hb, h1, h2, h3, h4⟩
 · cases h0
 cases hv
 have e1 : (ss.map fun l => (⟨l.toArray⟩ : ByteArray)).map (·.data.toList) = ss := by
  rw [List.map_map];exact (List.map_congr_left (fun _ _ => rfl)).trans (List.map_id ss)
 have hj := Tryz.strings_Join g 0 cap (ss.map fun l => (⟨l.toArray⟩ : ByteArray)) ⟨#[32]⟩ w (fun j x hx => by
  rw [List.getElem?_map] at hx;obtain ⟨l, hl', rfl⟩ := Option.map_eq_some_iff.1 hx;have hjl := (List.getElem?_eq_some_iff.1 hl').1;rw [Nat.zero_add, World.ownsRow.cellAt h j (by omega)];simp [(List.getElem?_eq_some_iff.1 hl').2, hjl, str]) (Array.getElem?_eq_some_iff.1 hb).1 (by simp; omega) (by simpa using h1) (by rw [e1]; show (Lib.join ss [32]).length ≤ _; omega)
 rw [e1] at hj;simp only [List.length_map] at hj;exact hj.mono fun e w' ⟨he, hb⟩ => ⟨he, hb⟩
theorem zDx (B : Nat) (ss : List (List UInt8)) (h : ∀ x ∈ ss, x.length ≤ B) : (Lib.joinTail [32] ss).length ≤ (B + 1) * ss.length := by
 induction ss with
 | nil => simp [Lib.joinTail]
 | cons x ss ih =>
  have h1 := ih (fun y hy => h y (by simp [hy]));have h2 := h x (by simp)
  have e : (Lib.joinTail [32] (x :: ss)).length = 1 + x.length + (Lib.joinTail [32] ss).length := by
   simp [Lib.joinTail]; omega
  rw [e, List.length_cons, Nat.mul_add];omega
theorem zCS (B : Nat) (ss : List (List UInt8)) (h : ∀ x ∈ ss, x.length ≤ B) : (Lib.join ss [32]).length ≤ (B + 1) * ss.length := by
 cases ss with
 | nil => simp [Lib.join]
 | cons x ss =>
  rw [Lib.join_cons, List.length_append];have h1 := zDx B ss (fun y hy => h y (by simp [hy]));have h2 := h x (by simp);rw [List.length_cons, Nat.mul_add];omega
theorem zDM (x : Int) (h : x.natAbs < 1000) : (Lib.itoa x).length ≤ 4 := by
 unfold Lib.itoa;split
 · have := zGI h;rw [List.length_cons]; omega
 have := zGI (i := x.toNat) (by omega);omega
open Go.RowKit Go.Deep
def zAe (u : Vc) : Nat → Nat
 | 0 => 1
 | k + 1 => jI (zr k) (u.at k).toNat (zAe u k)
theorem zBl (u : Vc) : zAe u 6 = xM u := rfl
theorem zI0 (p n : Nat) : jI p 0 n = n := by rw [jI]
theorem zIm (p k n : Nat) (h : 9999999 < n) : jI p k n = n := by
 cases k with
 | zero => rw [jI]
 | succ k => rw [jI, if_neg (by omega)]
theorem zIt (p k n : Nat) (h : n ≤ 9999999) : jI p (k + 1) n = jI p k (n * p) := by rw [jI, if_pos h]
theorem zHz (p k n : Nat) (hp : p ≤ 13) (hn : n ≤ 129999987) : jI p k n ≤ 129999987 := by
 induction k generalizing n with
 | zero => rw [jI]; exact hn
 | succ k ih =>
  rw [jI];split
  · next h => exact ih _ (Nat.le_trans (Nat.mul_le_mul h hp) (by omega))
  exact hn
theorem zFD (k : Nat) : zr k ≤ 13 := by unfold zr; split <;> omega
theorem kB (u : Vc) (k : Nat) : zAe u k ≤ 129999987 := by
 induction k with
 | zero => simp [zAe]
 | succ k ih => exact zHz _ _ _ (zFD k) ih
def zE1 : Vc := ⟨2, 3, 5, 7, 11, 13⟩
theorem zG3 (k : Nat) (h : k < 6) : zE1.at k = (zr k : Int) := by
 exact m65
theorem zIR (k : Nat) : 1 ≤ zr k := by unfold zr; split <;> omega
theorem zCq (w : World) (v u : Vc) (sg : Int) (hu : ∀ j, j < 6 → IntKind.i64.wrap (sg * v.at j) = u.at j ∧ (u.at j).natAbs ≤ 1000000) :
 Calls Tryz.prog 90 #[.agg v.cells, .int .i64 sg] w fun e w' => e = .returned (.int .i64 (xM u : Nat)) ∧ Below w.heap.size w w' := by
 have HU := hid hu;have B0 := hid ((Below.refl w.heap.size w).alloc (Nat.le_refl _) (.cells v.cells 53));have K0 := hid (Blk.new w 53 v.cells);obtain ⟨w0, hw0⟩ : ∃ w0, w0 = w.alloc (.cells v.cells 53) := ⟨_, rfl⟩
 rw [← hw0] at B0 K0;clear hu;go_enter Tryz.func90, Tryz.ntmps90
 go_upto_region 1 with (fail)
 rw [← hw0];clear hw0;go_wp2
 go_loopw [10, 5] (fun i s wx => ∃ j : Nat, j ≤ 6 ∧ i = .int .i64 j ∧ s = .int .i64 (zAe u j : Nat) ∧ Hid (wx = w0)) (fun i _ _ => 6 - (zD i).toNat)
 case atStart => exact ⟨0, by omega, rfl, rfl, by first | exact hid rfl | exact hid trivial⟩
 case round =>
  obtain ⟨j, hj, rfl, rfl, HW⟩ := hrel;obtain rfl : wr = w0 := HW.out;by_cases hlt : j < 6
  ·
   have hix := zEz zE1 j hlt;rw [zG3 j hlt] at hix;simp only [zE1] at hix;have c0 := K0.out.cell j;rw [Vc.cell v j hlt] at c0;obtain ⟨r0, hsm⟩ := HU.out j hlt;have hbd := kB u j;have HN := hid (show zAe u (j + 1) = jI (zr j) (u.at j).toNat (zAe u j) from rfl);have hp1 := zIR j;have hp2 := zFD j;have HP1 := hid (And.intro hp1 hp2);obtain ⟨x, hx⟩ : ∃ x, x = u.at j := ⟨_, rfl⟩
   obtain ⟨p, hp⟩ : ∃ p, p = zr j := ⟨_, rfl⟩
   obtain ⟨m, hm⟩ : ∃ m, m = zAe u j := ⟨_, rfl⟩
   obtain ⟨y, hy⟩ : ∃ y, y = v.at j := ⟨_, rfl⟩
   rw [← hx] at r0 hsm HN;rw [← hp] at HN HP1 hix;rw [← hm] at HN hbd ⊢;rw [← hy] at r0 c0;have HJ := hid hlt;clear hx hp hm hy hp1 hp2 HU;obtain ⟨N, hN⟩ : ∃ N, N = zAe u (j + 1) := ⟨_, rfl⟩
   rw [← hN] at HN;replace hN := hid hN;have HB := hid (And.intro hsm hbd);clear hsm hbd;go_wp2
   go_loopw [8, 5] (fun a s wx => ∃ (k : Int) (n : Nat), a = .int .i64 k ∧ s = .int .i64 (n : Int) ∧ Hid (wx = wr ∧ k.natAbs ≤ 1000000 ∧ n ≤ 129999987 ∧ N = jI p k.toNat n)) (fun a s _ => (zD a).toNat)
   case atStart => exact ⟨x, m, rfl, rfl, hid ⟨rfl, HB.out.1, HB.out.2, HN.out⟩⟩
   case round =>
    obtain ⟨k, n, rfl, rfl, HK⟩ := hrel;obtain ⟨e1, -, -, -⟩ := HK.out;subst e1;by_cases h1 : 0 < k
    ·
     by_cases h2 : n ≤ 9999999
     ·
      have r1 : IntKind.i64.wrap (k - 1) = k - 1 := by have := HK.out.2.1; rw [IntKind.wrap_i64]; omega
      have hpn : n * p ≤ 9999999 * 13 := Nat.mul_le_mul h2 HP1.out.2;have hc : (n : Int) * (p : Int) = ((n * p : Nat) : Int) := by simp
      obtain ⟨t, ht⟩ : ∃ t, t = n * p := ⟨_, rfl⟩
      rw [← ht] at hpn hc;have r2 : IntKind.i64.wrap ((n : Int) * (p : Int)) = (t : Int) := by rw [hc, IntKind.wrap_i64]; omega
      have HT := hid ht;have HPN := hid hpn;have h2' : (n : Int) ≤ 9999999 := by omega
      clear hc ht hpn;go_wp2
      go_roundw
      case rel =>
       refine ⟨k - 1, t, rfl, rfl, hid ⟨by first | rfl | trivial, by have := HK.out.2.1; omega, by have := HPN.out; omega, ?_⟩⟩;rw [HT.out, HK.out.2.2.2, show k.toNat = (k - 1).toNat + 1 by omega, zIt _ _ _ h2]
      case measure => simp [zD]; omega
     have HE : Hid (N = n) := hid (by rw [HK.out.2.2.2, zIm _ _ _ (by omega)]);have h2' : ¬ (n : Int) ≤ 9999999 := by omega
     exact zMO
    have HE : Hid (N = n) := hid (by rw [HK.out.2.2.2, show k.toNat = 0 by omega, zI0]);exact zMO
  (obtain rfl : j = 6 := by omega);rw [zBl];(go_wp2);go_ret;exact ⟨rfl, B0.out⟩
open Go.RowKit Go.Deep
def itL (v : Vc) : List (List UInt8) := [Lib.itoa v.a, Lib.itoa v.b, Lib.itoa v.c, Lib.itoa v.d, Lib.itoa v.e, Lib.itoa v.f]
theorem zJ4 (v : Vc) (i : Nat) (h : i < 6) : (itL v).take (i + 1) = (itL v).take i ++ [Lib.itoa (v.at i)] := by
 rcases (show i = 0 ∨ i = 1 ∨ i = 2 ∨ i = 3 ∨ i = 4 ∨ i = 5 by omega) with rfl | rfl | rfl | rfl | rfl | rfl <;> rfl
theorem zLb (v : Vc) (i : Nat) (h : i ≤ 6) : ((itL v).take i).length = i := by rw [List.length_take]; simp [itL]; omega
theorem zKX (v : Vc) : (itL v).take 6 = itL v := rfl
theorem zBB (v : Vc) (h : ¬ zCn v) : zc v = [91] ++ Lib.join (itL v) [32] ++ [93] := by
 have h' : ¬ (xM v ≤ 9999999 ∧ xM v.neg ≤ 9999999) := h;unfold zc;rw [if_neg h'];simp [itL, Lib.join_cons, Lib.joinTail]
theorem zBb (v : Vc) (h : zCn v) : zc v = Lib.itoa (xM v) ++ [47] ++ Lib.itoa (xM v.neg) := by
 have h' : xM v ≤ 9999999 ∧ xM v.neg ≤ 9999999 := h;unfold zc;rw [if_pos h'];simp
theorem zL0 (v : Vc) (j : Nat) (hj : j < 6) : v.neg.at j = -v.at j := by
 exact zMu
theorem zDl {v : Vc} {m : Nat} (h : v.lim m) (j : Nat) (hj : j < 6) : (v.at j).natAbs ≤ m := by
 obtain ⟨h0, h1, h2, h3, h4, h5⟩ := h;rcases (show j = 0 ∨ j = 1 ∨ j = 2 ∨ j = 3 ∨ j = 4 ∨ j = 5 by omega) with rfl | rfl | rfl | rfl | rfl | rfl <;> assumption
theorem zEY (n : Nat) (h : n ≤ 129999987) : (Lib.itoa (n : Int)).length ≤ 12 := by
 rw [zKB]
 have h1 : Lib.nDigits n ≤ 12 := by
  have hb : ∀ (k u : Nat), u < 10 ^ (k + 1) → Lib.nDigits u ≤ k + 1 := by
   exact zM5
  exact hb 11 n (Nat.lt_of_le_of_lt h (by decide))
 rw [Lib.decDigits_length];exact h1
theorem zCr (W : World) (v : Vc) (hv : v.lim 64) (hT : Tab W) :
 Calls Tryz.prog 44 #[.agg v.cells] W fun e w' => e = .returned (str (zc v)) ∧ Below W.heap.size W w' := by
 have HV := hid hv;have HT := hid hT;have HP1 := hid (fun w => zCq w v v 1 (fun j hj => by have := zDl hv j hj; exact ⟨by rw [IntKind.wrap_i64]; omega, by omega⟩));have HP2 := hid (fun w => zCq w v v.neg (-1) (fun j hj => by have := zDl hv j hj; rw [zL0 v j hj]; exact ⟨by rw [IntKind.wrap_i64]; omega, by omega⟩));have B0 := hid ((Below.refl W.heap.size W).alloc (Nat.le_refl _) (.cells v.cells 53));have K0 := hid (Blk.new W 53 v.cells);obtain ⟨w0, hw0⟩ : ∃ w0, w0 = W.alloc (.cells v.cells 53) := ⟨_, rfl⟩
 rw [← hw0] at B0 K0;have hb1 := kB v 6;have hb2 := kB v.neg 6;rw [zBl] at hb1 hb2;obtain ⟨R, hR⟩ : ∃ R, R = zc v := ⟨_, rfl⟩
 rw [← hR];have HSH : Hid (zCn v ↔ xM v ≤ 9999999 ∧ xM v.neg ≤ 9999999) := hid Iff.rfl;have HRS := hid (fun h : zCn v => hR.trans (zBb v h));have HRL := hid (fun h : ¬ zCn v => hR.trans (zBB v h));obtain ⟨n1, hn1⟩ : ∃ n1, n1 = xM v := ⟨_, rfl⟩
 obtain ⟨n2, hn2⟩ : ∃ n2, n2 = xM v.neg := ⟨_, rfl⟩
 rw [← hn1] at HP1 hb1 HSH HRS;rw [← hn2] at HP2 hb2 HSH HRS;clear hn1 hn2 hR hv hT;go_enter Tryz.func44, Tryz.ntmps44
 go_upto_region 1 with (fail)
 rw [← hw0];clear hw0;have hld : ∀ w', Below w0.heap.size w0 w' → (Instr.loadAt 53 (.pointer (some ⟨W.heap.size, 0, none⟩))).run Tryz.prog w' = .ok (.agg v.cells) w' := fun w' hb => jw 53 _ Tryz.underlying53 rfl w' _ v.cells zR (zO (K0.out.below hb K0.out.lt))
 refine yo ?_;refine zL 53 (⟨W.heap.size, 0, none⟩) (.agg v.cells) (fun w' hb => hld _ hb) ?_;refine zf (by kernel_rfl) (.int .i64 (n1 : Int)) 90 (#[.agg v.cells, .int .i64 1]) (fun _ => by go_simp; done) (fun w' hb => (HP1.out w').mono fun e w'' h => ⟨h.1, zB hb h.2⟩) ?_;simp only [Act.put, sS];refine zL 53 (⟨W.heap.size, 0, none⟩) (.agg v.cells) (fun w' hb => hld _ hb) ?_;refine zf (by kernel_rfl) (.int .i64 (n2 : Int)) 90 (#[.agg v.cells, .int .i64 (-1)]) (fun _ => by go_simp; done) (fun w' hb => (HP2.out w').mono fun e w'' h => ⟨h.1, zB hb h.2⟩) ?_;simp only [Act.put, sS];refine zA (.int .i64 (n1 : Int)) ?_;refine zA (.int .i64 (n2 : Int)) ?_;refine wpQuiet_nil ?_;intro w2 hw2;have W2 := hid (zB B0.out hw2);have K2 := hid (K0.out.below hw2 K0.out.lt);have HTT := hid (HT.out.below W2.out);clear hld hw2 HP1 HP2 B0 K0;by_cases hs : n1 ≤ 9999999 ∧ n2 ≤ 9999999
 ·
  have HR2 := hid (HRS.out (HSH.out.2 hs));obtain ⟨h1, h2⟩ := hs;have h1i : (n1 : Int) ≤ 9999999 := by omega
  have h2i : (n2 : Int) ≤ 9999999 := by omega
  have l1 := zEY n1 hb1;have l2 := zEY n2 hb2;have HI1 := hid (zBT w2 n1 (by omega) (by omega) HTT.out);have HI2 := hid (fun w' (hb : Below w2.heap.size w2 w') => zBT w' n2 (by omega) (by omega) (HTT.out.below hb));obtain ⟨t1, ht1⟩ : ∃ t1, t1 = Lib.itoa (n1 : Int) := ⟨_, rfl⟩
  obtain ⟨t2, ht2⟩ : ∃ t2, t2 = Lib.itoa (n2 : Int) := ⟨_, rfl⟩
  rw [← ht1] at l1 HI1 HR2;rw [← ht2] at l2 HI2 HR2;have hd1 : ¬ 9223372036854775807 < t1.length + 1 := by omega
  have hd2 : ¬ 9223372036854775807 < t1.length + 1 + t2.length := by omega
  clear ht1 ht2 l1 l2 h1 h2 hb1 hb2 HRL HRS HSH;go_wp2_with (first | (go_at_call 43; refine HI1.out.mono ?_; rintro e w3 ⟨rfl, b3⟩; replace HI2 := hid (HI2.out _ b3); replace b3 := hid b3; clear HI1) | (go_at_call 43; refine HI2.out.mono ?_; rintro e w4 ⟨rfl, b4⟩; replace b4 := hid b4))
  go_ret;refine ⟨?_, zB (zB W2.out b3.out) b4.out⟩;rw [HR2.out]
  have e : (({ data := t1.toArray } ++ { data := #[47] } ++ { data := t2.toArray }) : ByteArray) = ⟨(t1 ++ [47] ++ t2).toArray⟩ := by
   apply ByteArray.ext;simp [ByteArray.data_append]
  first | rfl | (rw [← e]; rfl) | (simp only [← e]; rfl)
 have HR2 := hid (HRL.out (fun h => hs (HSH.out.1 h)));by_cases h1 : n1 ≤ 9999999
 ·
  have h1i : (n1 : Int) ≤ 9999999 := by omega
  have h2i : ¬ (n2 : Int) ≤ 9999999 := by omega
  clear HRL HRS HSH hs hb1 hb2;have k0 : w2.cell? ⟨W.heap.size, 0, none⟩ = some (.int .i64 v.a) := K2.out.cell 0;have k1 : w2.cell? ⟨W.heap.size, 1, none⟩ = some (.int .i64 v.b) := K2.out.cell 1;have k2 : w2.cell? ⟨W.heap.size, 2, none⟩ = some (.int .i64 v.c) := K2.out.cell 2;have k3 : w2.cell? ⟨W.heap.size, 3, none⟩ = some (.int .i64 v.d) := K2.out.cell 3;have k4 : w2.cell? ⟨W.heap.size, 4, none⟩ = some (.int .i64 v.e) := K2.out.cell 4;have k5 : w2.cell? ⟨W.heap.size, 5, none⟩ = some (.int .i64 v.f) := K2.out.cell 5;go_wp2
  clear k0 k1 k2 k3 k4 k5;go_loopw [25, 5] (fun i s wx => ∃ j : Nat, j ≤ 6 ∧ i = .int .i64 j ∧ Hid (Below w2.heap.size w2 wx) ∧ Hid (kk wx w2.heap.size s ((itL v).take j))) (fun i _ _ => 6 - (zD i).toNat)
  case atStart => exact ⟨0, by omega, rfl, hid (Below.refl _ _), hid (kk.start _ _)⟩
  case round =>
   exact m21
 have h1i : ¬ (n1 : Int) ≤ 9999999 := by omega
 clear HRL HRS HSH hs hb1 hb2;have k0 : w2.cell? ⟨W.heap.size, 0, none⟩ = some (.int .i64 v.a) := K2.out.cell 0;have k1 : w2.cell? ⟨W.heap.size, 1, none⟩ = some (.int .i64 v.b) := K2.out.cell 1;have k2 : w2.cell? ⟨W.heap.size, 2, none⟩ = some (.int .i64 v.c) := K2.out.cell 2;have k3 : w2.cell? ⟨W.heap.size, 3, none⟩ = some (.int .i64 v.d) := K2.out.cell 3;have k4 : w2.cell? ⟨W.heap.size, 4, none⟩ = some (.int .i64 v.e) := K2.out.cell 4;have k5 : w2.cell? ⟨W.heap.size, 5, none⟩ = some (.int .i64 v.f) := K2.out.cell 5;go_wp2
 clear k0 k1 k2 k3 k4 k5;go_loopw [25, 5] (fun i s wx => ∃ j : Nat, j ≤ 6 ∧ i = .int .i64 j ∧ Hid (Below w2.heap.size w2 wx) ∧ Hid (kk wx w2.heap.size s ((itL v).take j))) (fun i _ _ => 6 - (zD i).toNat)
 case atStart => exact ⟨0, by omega, rfl, hid (Below.refl _ _), hid (kk.start _ _)⟩
 case round =>
  exact m21
open Go.RowKit Go.Deep
inductive Pcs where
 | num (x : Int)
 | txt (l : List UInt8)
def Pcs.val : Pcs → Value
 | .num x => .iface 3 (.int .i64 x)
 | .txt l => .iface 9 (str l)
def Pcs.out : Pcs → List UInt8
 | .num x => Lib.itoa x
 | .txt l => l
def yF (ps : List Pcs) : List UInt8 := ps.flatMap Pcs.out
def Pcs.ok : Pcs → Prop
 | .num x => x.natAbs ≤ 1000000000000
 | .txt l => l.length ≤ 1000
theorem zCK (x : Int) (h : x.natAbs ≤ 1000000000000) : (Lib.itoa x).length ≤ 20 := by
 have hb : ∀ (k u : Nat), u < 10 ^ (k + 1) → Lib.nDigits u ≤ k + 1 := by
  exact zM5
 have h12 : (1000000000000 : Nat) < 10 ^ (12 + 1) := by decide
 unfold Lib.itoa;split
 · rw [List.length_cons, Lib.decDigits_length];have := hb 12 x.natAbs (by omega);omega
 rw [Lib.decDigits_length];have := hb 12 x.toNat (by omega);omega
theorem Pcs.ok.len {p : Pcs} (h : p.ok) : p.out.length ≤ 1000 := by
 cases p with
 | num x => exact Nat.le_trans (zCK x h) (by omega)
 | txt l => exact h
theorem zEo (ps : List Pcs) (i : Nat) (h : i < ps.length) : yF (ps.take (i + 1)) = yF (ps.take i) ++ (ps[i]).out := by
 unfold yF;rw [List.take_succ_eq_append_getElem h, List.flatMap_append];simp
theorem zGq (ps : List Pcs) (h : ∀ p ∈ ps, p.ok) (i : Nat) : (yF (ps.take i)).length ≤ 1000 * i := by
 induction i with
 | zero => simp [yF]
 | succ i ih =>
  by_cases hi : i < ps.length
  · rw [zEo ps i hi, List.length_append];have := (h _ (List.getElem_mem hi)).len;omega
  rw [List.take_of_length_le (by omega)];rw [List.take_of_length_le (by omega)] at ih;omega
theorem zGt {T e : TypeId} {B b : Nat} {p : Value} {bs : List Value} {w w' : World} (h : Lib.BuilderAt T e B b p bs w) (k : Below w.heap.size w w') : Lib.BuilderAt T e B b p bs w' := by
 have hlt := h.lt;obtain ⟨h1, v, h2, h3, h4⟩ := h;refine ⟨h1, v, (k.block b hlt).trans h2, World.ownsRow.kept (row := none) h3 (xm k none) ?_, h4⟩;rcases hv : v.ownBlock with _ | g
 · exact Or.inl rfl
 right; simp
theorem zCd {T e : TypeId} {B b : Nat} {bs : List Value} {w w' : World} (h : Lib.IsBuilder T e B b bs w) (k : Below w.heap.size w w') : Lib.IsBuilder T e B b bs w' := h.elim (fun x => Or.inl (zGt x k)) (fun x => Or.inr (zGt x k))
theorem zKY (W : World) (B b sb c n : Nat) (l : List UInt8) (ps : List Pcs) (hn : n = ps.length) (h : Lib.IsBuilder 86 5 B b (Lib.byteCells l) W) (hs : Blk W sb 20 (ps.map Pcs.val).toArray) (hB : B ≤ W.heap.size) (hT : ∀ w', Below B W w' → Tab w')
 (hok : ∀ p ∈ ps, p.ok) (hl : l.length ≤ 1000000000) (hpl : n ≤ 100) :
 Calls Tryz.prog 41 #[.slice (some ⟨sb, 0, none⟩) n c, .pointer (some ⟨b, 0, none⟩)] W fun e w' => e = .returned (.tuple #[]) ∧ Lib.IsBuilder 86 5 B b (Lib.byteCells (l ++ yF ps)) w' ∧ Below B W w' ∧ jJ W w' := by
 have HI := hid h;have HS := hid hs;have HB := hid hB;have HT := hid hT;have HOK := hid hok;have HN := hid hn;clear h hs hB hT hok hn;go_enter Tryz.func41, Tryz.ntmps41
 go_wp2
 go_loopw [9] (fun i wx => ∃ j : Nat, j ≤ n ∧ i = .int .i64 j ∧ Hid (Lib.IsBuilder 86 5 B b (Lib.byteCells (l ++ yF (ps.take j))) wx) ∧ Hid (Below B W wx) ∧ Hid (jJ W wx)) (fun i _ => n - (zD i).toNat)
 case atStart => exact ⟨0, Nat.zero_le _, rfl, by simpa [yF] using HI, hid (Below.refl _ _), hid (jJ.refl _)⟩
 case round =>
  obtain ⟨j, hj, rfl, HJ, HW, HK⟩ := hrel;by_cases hlt : j < n
  ·
   have hlp : j < ps.length := by rw [← HN.out]; exact hlt
   have hst := zEo ps j hlp;have hlen := zGq ps HOK.out j;have hpk := HOK.out _ (List.getElem_mem hlp);have hSB := HK.out sb _ _ HS.out (by decide) (by decide);have c0 := hSB.cell j;obtain ⟨p, hp⟩ : ∃ p, p = ps[j] := ⟨_, rfl⟩
   rw [show (ps.map Pcs.val).toArray[j]? = some (ps[j]).val by simp [hlp], ← hp] at c0;rw [← hp] at hst hpk;obtain ⟨o, ho⟩ : ∃ o, o = yF (ps.take j) := ⟨_, rfl⟩
   rw [← ho] at hst hlen HJ;have hb1 : B ≤ wr.heap.size := Nat.le_trans HB.out HW.out.size;have HST := hid hst;have hpo := hpk.len;clear hp ho hst hSB;rcases p with x | t
   ·
    simp only [Pcs.val] at c0;have ta : ∀ w' : World, (Instr.typeAssert (.iface 3 (.int .i64 x)) 20 3 true).run Tryz.prog w' = .ok (.tuple #[.int .i64 x, .bool true]) w' := fun w' => by kernel_rfl
    have hx : x.natAbs ≤ 1000000000000 := hpk;have HI1 := hid (zBT wr x (by omega) (by omega) (HT.out wr HW.out));have hl20 := zCK x hx;have HWR := hid (fun w' (hb : Below wr.heap.size wr w') => zEG B b (l ++ o) (Lib.itoa x) w' (zCd HJ.out hb) (by rw [List.length_append]; omega) (Nat.le_trans hb1 hb.size));simp only [Pcs.out] at HST;obtain ⟨t1, ht1⟩ : ∃ t1, t1 = Lib.itoa x := ⟨_, rfl⟩
    rw [← ht1] at HI1 HWR HST;clear ht1 hx hl20 hpk hpo;go_wp2_with (first | (go_at_call 43; refine HI1.out.mono ?_; rintro e w2 ⟨rfl, b2⟩; replace HWR := hid (HWR.out _ b2); replace b2 := hid b2) | (go_at_call 42; refine HWR.out.mono ?_; rintro e w3 ⟨rfl, i3, b3, k3⟩; replace i3 := hid i3; replace b3 := hid b3; replace k3 := hid k3))
    go_roundw
    case rel => exact ⟨j + 1, by omega, by go_num, by rw [HST.out, ← List.append_assoc]; exact i3, hid ((HW.out.trans (b2.out.mono hb1)).trans b3.out), hid ((HK.out.trans (jJ.below b2.out)).trans k3.out)⟩
    case measure => simp [zD]; omega
   simp only [Pcs.val] at c0;have ta : ∀ w' : World, (Instr.typeAssert (.iface 9 (str t)) 20 3 true).run Tryz.prog w' = .ok (.tuple #[.int .i64 0, .bool false]) w' := fun w' => by kernel_rfl
   have tb : ∀ w' : World, (Instr.typeAssert (.iface 9 (str t)) 20 9 true).run Tryz.prog w' = .ok (.tuple #[str t, .bool true]) w' := fun w' => by kernel_rfl
   have HWR := hid (zEG B b (l ++ o) t wr HJ.out (by rw [List.length_append]; have : t.length ≤ 1000 := hpk; omega) hb1);simp only [Pcs.out] at HST;clear hpk hpo;go_wp2_with (go_at_call 42; refine HWR.out.mono ?_; rintro e w3 ⟨rfl, i3, b3, k3⟩; replace i3 := hid i3; replace b3 := hid b3; replace k3 := hid k3)
   go_roundw
   case rel => exact ⟨j + 1, by omega, by go_num, by rw [HST.out, ← List.append_assoc]; exact i3, hid (HW.out.trans b3.out), hid (HK.out.trans k3.out)⟩
   case measure => simp [zD]; omega
  (obtain rfl : n = j := by omega);rw [HN.out, List.take_length] at HJ;(go_wp2);(go_end0);exact ⟨rfl, HJ.out, HW.out, HK.out⟩
open Go.RowKit Go.Deep
def OkL (ps : List Pcs) : Prop := ∀ p ∈ ps, p.ok
theorem OkL.nil : OkL [] := fun p h => by cases h
theorem OkL.num {x : Int} {ps : List Pcs} (h : x.natAbs ≤ 1000000000000) (t : OkL ps) : OkL (.num x :: ps) := fun p hp => by
 rcases List.mem_cons.1 hp with rfl | hp
 · exact h
 exact t p hp
theorem OkL.txt {l : List UInt8} {ps : List Pcs} (h : l.length ≤ 1000) (t : OkL ps) : OkL (.txt l :: ps) := fun p hp => by
 rcases List.mem_cons.1 hp with rfl | hp
 · exact h
 exact t p hp
theorem OkL.len {ps : List Pcs} (h : OkL ps) : (yF ps).length ≤ 1000 * ps.length := by
 have := zGq ps h ps.length;rw [List.take_length] at this;exact this
theorem xL (w : World) (B b n : Nat) (l : List UInt8) (ps : List Pcs) (cells : Array Value) (hc : cells = (ps.map Pcs.val).toArray) (hn : n = ps.length) (h : Lib.IsBuilder 86 5 B b (Lib.byteCells l) w) (hB : B ≤ w.heap.size) (hT : ∀ w', Below B w w' → Tab w')
 (hok : OkL ps) (hl : l.length ≤ 1000000000) (hpl : n ≤ 100) :
 Calls Tryz.prog 41 #[.slice (some ⟨w.heap.size, 0, none⟩) n n, .pointer (some ⟨b, 0, none⟩)] (w.alloc (.cells cells 20)) fun e w' => e = .returned (.tuple #[]) ∧ Lib.IsBuilder 86 5 B b (Lib.byteCells (l ++ yF ps)) w' ∧ Below B w w' ∧ jJ w w' := by
 subst hc;have al := (Below.refl w.heap.size w).alloc (Nat.le_refl _) (.cells (ps.map Pcs.val).toArray 20);refine (zKY _ B b w.heap.size n n l ps hn (zCd h al) (Blk.new w _ _) (by simp; omega) (fun w' hb => hT w' ((al.mono hB).trans hb)) hok hl hpl).mono ?_;rintro e w' ⟨rfl, h1, h2, h3⟩;exact ⟨rfl, h1, (al.mono hB).trans h2, (jJ.below al).trans h3⟩
theorem j9 (v : Vc) (h : v.lim 64) : (zc v).length ≤ 1000 := by
 by_cases hs : zCn v
 · have h1 := kB v 6;have h2 := kB v.neg 6;rw [zBl] at h1 h2;have h3 := zEY _ h1;have h4 := zEY _ h2;rw [zBb v hs, List.length_append, List.length_append];simp;omega
 have hjs := zCS 4 (itL v) (fun y hy => by
  simp only [itL, List.mem_cons, List.not_mem_nil, or_false] at hy;obtain ⟨h0, h1, h2, h3, h4, h5⟩ := h;rcases hy with rfl | rfl | rfl | rfl | rfl | rfl <;> exact zDM _ (by omega))
 have hl6 : (itL v).length = 6 := rfl;rw [zBB v hs, List.length_append, List.length_append];rw [hl6] at hjs;simp;omega
def va (cs : List Int) (i : Nat) : List UInt8 := (cs.take i).flatMap zHj
def xV (ps : List Par) (i : Nat) : List UInt8 := (ps.take i).flatMap qT
theorem zCm (cs : List Int) (i : Nat) (h : i < cs.length) : va cs (i + 1) = va cs i ++ zHj (cs.getD i 0) := by
 unfold va;rw [List.take_succ_eq_append_getElem h, List.flatMap_append, zN h];simp
theorem zBQ (ps : List Par) (i : Nat) (h : i < ps.length) : xV ps (i + 1) = xV ps i ++ qT (ps.getD i zt) := by
 unfold xV;rw [List.take_succ_eq_append_getElem h, List.flatMap_append, zN h];simp
theorem zCo (l : List Nte) (i : Nat) : vH l (i + 1) = vH l i ++ qi i (l.getD i zF) := by rw [vH]
theorem zIi (c : Int) : yF [.txt [99, 97, 100, 101, 110, 99, 101, 32], .num c, .txt [59, 10]] = zHj c := by simp [yF, Pcs.out, zHj]
theorem zC9 (i : Nat) (x : Nte) (wd at_ : List UInt8) (h1 : wd = if x.tied then [116, 105, 101, 100, 32, 110] else [110, 111, 116, 101, 32, 110]) (h2 : at_ = if !x.tied && !decide (x.place = vc0) then [32, 97, 116, 32] ++ zc x.place else []) :
 yF [.txt wd, .num i, .txt [58, 32, 118, 111, 105, 99, 101, 32], .num x.voice, .txt [32, 102, 114, 111, 109, 32], .num x.start, .txt [32, 116, 111, 32], .num x.stop] ++ (at_ ++ yF [.txt [59, 10]]) = qi i x := by
 subst h1 h2;simp [yF, Pcs.out, qi]
theorem zBv (p : Par) (by_ in_ : List UInt8) (h1 : by_ = if !decide (p.wish = vc0) then [32, 98, 121, 32] ++ zc p.wish else []) (h2 : in_ = if 0 < p.bound then [32, 119, 105, 116, 104, 105, 110, 32] ++ Lib.itoa p.bound else []) :
 yF [.txt [112, 97, 105, 114, 32, 110], .num p.a, .txt [32, 110], .num p.b] ++ (by_ ++ (in_ ++ yF [.txt [59, 10]])) = qT p := by
 subst h1 h2;simp [yF, Pcs.out, qT]
theorem zBL (s : Scr) : kK s = jK s.voices ++ va s.cad s.cad.length ++ vH s.notes s.notes.length ++ xV s.pairs s.pairs.length := by
 unfold kK va xV zLS zKn jK;rw [List.take_length, List.take_length]
theorem zGF (v : Int) : yF [.txt [118, 111, 105, 99, 101, 115, 32], .num v, .txt [59, 10]] = jK v := by simp [yF, Pcs.out, jK]
theorem zEx (W : World) (B0 : Nat) (v : Value) (s : Scr) (h : kU W B0 v s) (hT : Tab W) :
 Calls Tryz.prog 18 #[v] W fun e w' => e = .returned (.tuple #[str (kE s), .int .i64 (kJ s : Nat)]) ∧ Below W.heap.size W w' := by
 have H := hid h;have HT := hid hT;obtain ⟨An, cn, Ap, cp, Aq, cq, rfl, h1, h2, h3⟩ := h.ex;have HN := hid h1;have HP := hid h2;have HC := hid h3;have HBB := hid h.le;obtain ⟨V, hV⟩ : ∃ V, V = s.voices := ⟨_, rfl⟩
 obtain ⟨l, hl⟩ : ∃ l, l = s.notes := ⟨_, rfl⟩
 obtain ⟨ps, hps⟩ : ∃ ps, ps = s.pairs := ⟨_, rfl⟩
 obtain ⟨cs, hcs⟩ : ∃ cs, cs = s.cad := ⟨_, rfl⟩
 rw [← hl] at HN;rw [← hps] at HP;rw [← hcs] at HC;have HVA := hid (fun w (hb : Below W.heap.size W w) => zEC w B0 _ s (H.out.up hb));rw [← hV, ← hl, ← hps, ← hcs] at HVA ⊢;have HSS := hid (And.intro hV (And.intro hl (And.intro hps hcs)));obtain ⟨n, hn⟩ : ∃ n, n = l.length := ⟨_, rfl⟩
 obtain ⟨m, hm⟩ : ∃ m, m = ps.length := ⟨_, rfl⟩
 obtain ⟨q, hq⟩ : ∃ q, q = cs.length := ⟨_, rfl⟩
 rw [← hn, ← hm, ← hq] at HVA ⊢;have HLL := hid (And.intro hn (And.intro hm hq));obtain ⟨ok, hok⟩ : ∃ ok, ok = xd s := ⟨_, rfl⟩
 rw [← hok] at HVA;have HOK := hid hok;clear h h1 h2 h3 hT hV hl hps hcs hn hm hq hok;have S0 := hid (Blk.new W 26 #[.int .i64 V, .slice An n cn, .slice Ap m cp, .slice Aq q cq]);have W0 := hid ((Below.refl W.heap.size W).alloc (Nat.le_refl _) (.cells #[.int .i64 V, .slice An n cn, .slice Ap m cp, .slice Aq q cq] 26));obtain ⟨w0, hw0⟩ : ∃ w0, w0 = W.alloc (.cells #[.int .i64 V, .slice An n cn, .slice Ap m cp, .slice Aq q cq] 26) := ⟨_, rfl⟩
 rw [← hw0] at S0 W0;have HV0 := hid (HVA.out w0 W0.out);have k0 := S0.out.cell 0;have k1 := S0.out.cell 1;have k2 := S0.out.cell 2;have k3 := S0.out.cell 3;clear HVA;go_enter Tryz.func18, Tryz.ntmps18
 go_upto_region 1 with (fail)
 rw [← hw0];clear hw0;rcases ok with _ | _
 · have HF : Hid (kE s = [] ∧ kJ s = 1) := hid (by unfold kE kJ; rw [← HOK.out]; exact ⟨rfl, rfl⟩);go_wp2_with (go_at_call 34; refine HV0.out.mono ?_; rintro e w1 ⟨rfl, b1⟩; replace b1 := hid b1)
   go_ret2;rw [HF.out.1, HF.out.2];exact ⟨rfl, zB W0.out b1.out⟩
 go_upto_region 3 with (go_at_call 34; refine HV0.out.mono ?_; rintro e w1 ⟨rfl, b1⟩; replace b1 := hid b1)
 clear k0 k1 k2 k3;have HG := hid (zCt HOK.out.symm);have W1 := hid (zB W0.out b1.out);have S1 := hid (S0.out.below b1.out S0.out.lt);obtain ⟨w2, hw2⟩ : ∃ w2, w2 = w1.alloc (.cells #[.pointer none, .slice none 0 0] 86) := ⟨_, rfl⟩
 have IB2 : Hid (Lib.IsBuilder 86 5 w1.heap.size w1.heap.size (Lib.byteCells []) w2) := by
  rw [hw2];exact hid (Or.inl ⟨Nat.le_refl _, .slice none 0 0, Blk.new w1 _ _, World.ownsRow_nil _ _ _ _, by simp [Value.ownBlock]⟩)
 have B2 : Hid (Below w1.heap.size w1 w2) := by rw [hw2]; exact hid ((Below.refl _ _).alloc (Nat.le_refl _) _)
 have HB1 : Hid (w1.heap.size < w2.heap.size) := by rw [hw2]; exact hid (by simp)
 have S2 := hid (S1.out.below B2.out S1.out.lt);have HTT : Hid (∀ w', Below w1.heap.size w2 w' → Tab w') := hid (fun w' hb => HT.out.below (W1.out.trans ((B2.out.trans hb).mono W1.out.size)));have R2 := hid (Below.refl w1.heap.size w2);go_upto_region 5 with (fail)
 rw [← hw2];clear hw2 HV0 S0 W0 b1;have v0 : w2.cell? ⟨W.heap.size, 0, none⟩ = some (.int .i64 V) := S2.out.cell 0;have hVb : V.natAbs ≤ 1000000000000 := by have h1 := HG.out.v0; have h2 := HG.out.v1; have h3 := HSS.out.1; omega
 go_upto_region 6 with (go_at_call 41; refine (xL w2 w1.heap.size w1.heap.size _ ([]) [.txt [118, 111, 105, 99, 101, 115, 32], .num V, .txt [59, 10]] _ rfl rfl IB2.out (Nat.le_trans (Nat.le_of_lt HB1.out) R2.out.size) (fun w' hb => HTT.out w' (R2.out.trans hb)) (OkL.txt (by decide) (OkL.num hVb (OkL.txt (by decide) OkL.nil))) (by decide) (by simp)).mono ?_; rintro e w3 ⟨rfl, iw3, bw3, kw3⟩; replace iw3 := hid iw3; replace bw3 := hid (R2.out.trans bw3); replace kw3 := hid kw3)
 rw [zGF, List.nil_append] at iw3;have HS3 := hid (S2.out.below bw3.out S1.out.lt);have c3 := HS3.out.cell 3;have hlen0 : (jK V).length ≤ 3000 := by rw [← zGF]; exact (OkL.txt (by decide) (OkL.num hVb (OkL.txt (by decide) OkL.nil))).len
 replace hlen0 := hid hlen0;clear v0 hVb kw3;go_wp2
 clear c3;go_loopw [28] (fun i wx => ∃ j : Nat, j ≤ q ∧ i = .int .i64 j ∧ Hid (Lib.IsBuilder 86 5 w1.heap.size w1.heap.size (Lib.byteCells (jK V ++ va cs j)) wx) ∧ Hid (Below w1.heap.size w2 wx) ∧ Hid ((jK V ++ va cs j).length ≤ 20000 * (j + 1))) (fun i _ => q - (zD i).toNat)
 case atStart => exact ⟨0, Nat.zero_le _, rfl, by simpa [va] using iw3, bw3, hid (by have := hlen0.out; simp [va]; omega)⟩
 case round =>
  clear iw3 bw3 HS3;obtain ⟨j, hj, rfl, IJ, BJ, LJ⟩ := hrel;have WJ : Hid (Below W.heap.size W wr) := hid (W1.out.trans ((B2.out.trans BJ.out).mono W1.out.size));(have hq16 : q < 16 := by have := HG.out.cl; rw [HLL.out.2.2, HSS.out.2.2.2]; exact this);by_cases hlt : j < q
  ·
   obtain ⟨ad, rfl, hc⟩ := ji HC.out HBB.out WJ.out (i := j) (by rw [← HLL.out.2.2]; exact hlt);have c0 := hc _ (Below.refl _ _);obtain ⟨c, hcc⟩ : ∃ c, cs.getD j 0 = c := ⟨_, rfl⟩
   rw [hcc] at c0
   have hcb : c.natAbs ≤ 1000000000000 := by
    have hm : c ∈ s.cad := by rw [← hcc, ← HSS.out.2.2.2, zN (by rw [← HLL.out.2.2]; exact hlt)]; exact List.getElem_mem _
    have := HG.out.c c hm;omega
   have HST : Hid (jK V ++ va cs (j + 1) = (jK V ++ va cs j) ++ zHj c) := hid (by rw [zCm cs j (by rw [← HLL.out.2.2]; exact hlt), hcc, List.append_assoc]);have r1 : IntKind.i64.wrap ((j : Int) + 1) = ((j + 1 : Nat) : Int) := by rw [IntKind.wrap_i64]; omega
   have HOK1 := hid (OkL.txt (l := [99, 97, 100, 101, 110, 99, 101, 32]) (by decide) (OkL.num hcb (OkL.txt (l := [59, 10]) (by decide) OkL.nil)));have hl1 := HOK1.out.len;rw [zIi] at hl1;obtain ⟨X, hX⟩ : ∃ X, X = jK V ++ va cs j := ⟨_, rfl⟩
   rw [← hX] at IJ LJ HST;clear hc hcc hX;have hl2 := LJ.out;have HL2 : Hid ((X ++ zHj c).length ≤ 20000 * (j + 1 + 1)) := hid (by rw [List.length_append]; simp at hl1; omega);clear hcb hl1;go_wp2_with (go_at_call 41; refine (xL wr w1.heap.size w1.heap.size _ (X) [.txt [99, 97, 100, 101, 110, 99, 101, 32], .num c, .txt [59, 10]] _ rfl rfl IJ.out (Nat.le_trans (Nat.le_of_lt HB1.out) BJ.out.size) (fun w' hb => HTT.out w' (BJ.out.trans hb)) (HOK1.out) (by omega) (by simp)).mono ?_; rintro e w5 ⟨rfl, iw5, bw5, kw5⟩; replace iw5 := hid iw5; replace bw5 := hid (BJ.out.trans bw5); replace kw5 := hid kw5)
   rw [zIi] at iw5;go_roundw
   case rel => exact ⟨j + 1, by omega, by go_num, by rw [HST.out]; exact iw5, bw5, by rw [HST.out]; exact HL2⟩
   case measure => simp [zD]; omega
  (obtain rfl : q = j := by omega);have SJ := hid (S2.out.below BJ.out S1.out.lt);have c1 := SJ.out.cell 1;(obtain ⟨X0, hX0⟩ : ∃ X0, X0 = jK V ++ va cs q := ⟨_, rfl⟩);rw [← hX0] at IJ LJ;have HX0 := hid hX0;have HL0 : Hid (X0.length ≤ 400000) := hid (by have := LJ.out; omega);clear hX0 LJ hlt hj hq16 hlen0;(go_wp2);clear c1;go_loopw [43] (fun i wx => ∃ j : Nat, j ≤ n ∧ i = .int .i64 j ∧ Hid (Lib.IsBuilder 86 5 w1.heap.size w1.heap.size (Lib.byteCells (X0 ++ vH l j)) wx) ∧ Hid (Below w1.heap.size w2 wx) ∧ Hid ((X0 ++ vH l j).length ≤ 400000 + 20000 * j)) (fun i _ => n - (zD i).toNat)
  case atStart => exact ⟨0, Nat.zero_le _, rfl, by simpa [vH] using IJ, BJ, hid (by have := HL0.out; simp [vH]; omega)⟩
  case round =>
   clear IJ BJ WJ SJ HL0;obtain ⟨j, hj, rfl, IJ, BJ, LJ⟩ := hrel;have WJ : Hid (Below W.heap.size W wr) := hid (W1.out.trans ((B2.out.trans BJ.out).mono W1.out.size));(have hn200 : n ≤ 200 := by have := HG.out.nl; rw [HLL.out.1, HSS.out.2.1]; exact this);by_cases hlt : j < n
   ·
    obtain ⟨ad, rfl, hld⟩ := yt HN.out HBB.out WJ.out (i := j) (by rw [← HLL.out.1]; exact hlt);have hl0 := hld _ (Below.refl _ _);obtain ⟨x, hx⟩ : ∃ x, l.getD j zF = x := ⟨_, rfl⟩
    rw [hx] at hl0;have hxg := HG.out.n x (by rw [← hx, ← HSS.out.2.1, zN (by rw [← HLL.out.1]; exact hlt)]; exact List.getElem_mem _);have HST : Hid (X0 ++ vH l (j + 1) = (X0 ++ vH l j) ++ qi j x) := hid (by rw [zCo, hx, List.append_assoc]);have r1 : IntKind.i64.wrap ((j : Int) + 1) = ((j + 1 : Nat) : Int) := by rw [IntKind.wrap_i64]; omega
    obtain ⟨g1, g2, g3, g4, g5, g6⟩ := hxg;have hvv := HG.out.v1;have b1 : x.voice.natAbs ≤ 1000000000000 := by omega
    have b2 : x.start.natAbs ≤ 1000000000000 := by omega
    have b3 : x.stop.natAbs ≤ 1000000000000 := by omega
    have HLIM := hid (g6.mono (show 24 ≤ 64 by omega));have hwl := j9 x.place HLIM.out;obtain ⟨wd, hwd⟩ : ∃ wd : List UInt8, wd = if x.tied then [116, 105, 101, 100, 32, 110] else [110, 111, 116, 101, 32, 110] := ⟨_, rfl⟩
    have hwl6 : wd.length ≤ 1000 := by rw [hwd]; split <;> decide
    have HOK1 : Hid (OkL [.txt wd, .num j, .txt [58, 32, 118, 111, 105, 99, 101, 32], .num x.voice, .txt [32, 102, 114, 111, 109, 32], .num x.start, .txt [32, 116, 111, 32], .num x.stop]) := hid (OkL.txt hwl6 (OkL.num (by omega) (OkL.txt (by decide) (OkL.num b1 (OkL.txt (by decide) (OkL.num b2 (OkL.txt (by decide) (OkL.num b3 OkL.nil))))))));have HOK2 : Hid (OkL [.txt [32, 97, 116, 32], .txt (zc x.place)]) := hid (OkL.txt (by decide) (OkL.txt hwl OkL.nil));have HOK3 : Hid (OkL [.txt [59, 10]]) := hid (OkL.txt (by decide) OkL.nil);have HWD := hid hwd;have hq1 := HOK1.out.len;have hq2 := HOK2.out.len;have hq3 := HOK3.out.len;simp only [List.length_cons, List.length_nil] at hq1 hq2 hq3;obtain ⟨X, hX⟩ : ∃ X, X = X0 ++ vH l j := ⟨_, rfl⟩
    rw [← hX] at IJ LJ HST;have hlx := LJ.out;have HQ := hid (And.intro hq1 (And.intro hq2 (And.intro hq3 (And.intro hlx hn200))));have hal := x.all_one;clear hld hx hX g1 g2 g3 g4 g5 g6 hvv b1 b2 b3 hwl hwd hwl6 hq1 hq2 hq3;go_upto_region 14 with (first | (refine yB rfl 55 (.tmp 46) rfl _ x.cells rfl hl0 ?_; try simp only [Act.put, sS]) | (refine zI rfl 55 (.tmp 9) (.tmp 47) rfl wr.heap.size x.cells rfl rfl 55 zF.cells (Blk.new wr _ _) zx rfl hal ?_; intro w4 b4 g4 z4; replace b4 := hid b4; replace g4 := hid g4; replace z4 := hid z4; try simp only [Act.put, sS]))
    have B4 : Hid (Below wr.heap.size wr w4) := hid (((Below.refl _ _).alloc (Nat.le_refl _) _).grown g4.out (by simp) (fun b e => by injection e with e; omega));have BJ4 : Hid (Below w1.heap.size w2 w4) := hid (BJ.out.trans (B4.out.mono (Nat.le_trans (Nat.le_of_lt HB1.out) BJ.out.size)));have IJ4 := hid (zCd IJ.out B4.out);have n9 : w4.cell? ⟨wr.heap.size, 9, none⟩ = some (.bool x.tied) := b4.out.cell 9;have n0 : w4.cell? ⟨wr.heap.size, 0, none⟩ = some (.int .i64 x.voice) := b4.out.cell 0;have n1 : w4.cell? ⟨wr.heap.size, 1, none⟩ = some (.int .i64 x.start) := b4.out.cell 1;have n2 : w4.cell? ⟨wr.heap.size, 2, none⟩ = some (.int .i64 x.stop) := b4.out.cell 2;clear hl0 hal g4 z4 WJ IJ;rcases ht : x.tied with _ | _
    ·
     rw [ht] at n9;have hw2 : wd = [110, 111, 116, 101, 32, 110] := by rw [HWD.out, ht]; rfl
     have HTI := hid ht;subst hw2;by_cases hp : x.place = vc0
     ·
      have hne : ∀ w, (binOp .neq 53 (.agg x.place.cells) (.agg #[.int .i64 0, .int .i64 0, .int .i64 0, .int .i64 0, .int .i64 0, .int .i64 0])).run Tryz.prog w = .ok (.bool false) w := fun w => (vj _ vc0 w).trans (by rw [hp]; simp)
      have HPL := hid hp;clear hp;go_upto_region 18 with (go_at_call 41; refine (xL w4 w1.heap.size w1.heap.size _ (X) [.txt [110, 111, 116, 101, 32, 110], .num j, .txt [58, 32, 118, 111, 105, 99, 101, 32], .num x.voice, .txt [32, 102, 114, 111, 109, 32], .num x.start, .txt [32, 116, 111, 32], .num x.stop] _ rfl rfl IJ4.out (Nat.le_trans (Nat.le_of_lt HB1.out) BJ4.out.size) (fun w' hb => HTT.out w' (BJ4.out.trans hb)) (HOK1.out) (by omega) (by simp)).mono ?_; rintro e w5 ⟨rfl, iw5, bw5, kw5⟩; replace iw5 := hid iw5; replace bw5 := hid (BJ4.out.trans bw5); replace kw5 := hid kw5)
      have N5 := hid (kw5.out _ _ _ b4.out (by decide) (by decide));clear n9 n0 n1 n2;have n3 : w5.cell? ⟨wr.heap.size, 3, none⟩ = some (.int .i64 x.place.a) := N5.out.cell 3;have n4 : w5.cell? ⟨wr.heap.size, 4, none⟩ = some (.int .i64 x.place.b) := N5.out.cell 4;have n5 : w5.cell? ⟨wr.heap.size, 5, none⟩ = some (.int .i64 x.place.c) := N5.out.cell 5;have n6 : w5.cell? ⟨wr.heap.size, 6, none⟩ = some (.int .i64 x.place.d) := N5.out.cell 6;have n7 : w5.cell? ⟨wr.heap.size, 7, none⟩ = some (.int .i64 x.place.e) := N5.out.cell 7;have n8 : w5.cell? ⟨wr.heap.size, 8, none⟩ = some (.int .i64 x.place.f) := N5.out.cell 8;have n9 : w5.cell? ⟨wr.heap.size, 9, none⟩ = some (.bool false) := by have := N5.out.cell 9; simp only [HTI.out, List.getElem?_toArray, List.getElem?_cons_succ, List.getElem?_cons_zero] at this; exact this
      go_upto_region 20 with (fail)
      clear n3 n4 n5 n6 n7 n8 n9 hne;go_upto_region 21 with (go_at_call 41; refine (xL w5 w1.heap.size w1.heap.size _ (X ++ yF [.txt [110, 111, 116, 101, 32, 110], .num j, .txt [58, 32, 118, 111, 105, 99, 101, 32], .num x.voice, .txt [32, 102, 114, 111, 109, 32], .num x.start, .txt [32, 116, 111, 32], .num x.stop]) [.txt [59, 10]] _ rfl rfl iw5.out (Nat.le_trans (Nat.le_of_lt HB1.out) bw5.out.size) (fun w' hb => HTT.out w' (bw5.out.trans hb)) (HOK3.out) (by have h := HQ.out; simp only [List.length_append]; omega) (by simp)).mono ?_; rintro e w9 ⟨rfl, iw9, bw9, kw9⟩; replace iw9 := hid iw9; replace bw9 := hid (bw5.out.trans bw9); replace kw9 := hid kw9)
      skip
      have HE : Hid ((X ++ yF [.txt [110, 111, 116, 101, 32, 110], .num j, .txt [58, 32, 118, 111, 105, 99, 101, 32], .num x.voice, .txt [32, 102, 114, 111, 109, 32], .num x.start, .txt [32, 116, 111, 32], .num x.stop]) ++ yF [.txt [59, 10]] = X ++ qi j x) := hid (by rw [← zC9 j x [110, 111, 116, 101, 32, 110] [] HWD.out (by simp [HTI.out, HPL.out])]; simp only [List.append_assoc, List.nil_append]);exact m68
     have hne : ∀ w, (binOp .neq 53 (.agg x.place.cells) (.agg #[.int .i64 0, .int .i64 0, .int .i64 0, .int .i64 0, .int .i64 0, .int .i64 0])).run Tryz.prog w = .ok (.bool true) w := fun w => (vj _ vc0 w).trans (by simp [hp])
     have HPL := hid hp;clear hp;go_upto_region 18 with (go_at_call 41; refine (xL w4 w1.heap.size w1.heap.size _ (X) [.txt [110, 111, 116, 101, 32, 110], .num j, .txt [58, 32, 118, 111, 105, 99, 101, 32], .num x.voice, .txt [32, 102, 114, 111, 109, 32], .num x.start, .txt [32, 116, 111, 32], .num x.stop] _ rfl rfl IJ4.out (Nat.le_trans (Nat.le_of_lt HB1.out) BJ4.out.size) (fun w' hb => HTT.out w' (BJ4.out.trans hb)) (HOK1.out) (by omega) (by simp)).mono ?_; rintro e w5 ⟨rfl, iw5, bw5, kw5⟩; replace iw5 := hid iw5; replace bw5 := hid (BJ4.out.trans bw5); replace kw5 := hid kw5)
     have N5 := hid (kw5.out _ _ _ b4.out (by decide) (by decide));clear n9 n0 n1 n2;have n3 : w5.cell? ⟨wr.heap.size, 3, none⟩ = some (.int .i64 x.place.a) := N5.out.cell 3;have n4 : w5.cell? ⟨wr.heap.size, 4, none⟩ = some (.int .i64 x.place.b) := N5.out.cell 4;have n5 : w5.cell? ⟨wr.heap.size, 5, none⟩ = some (.int .i64 x.place.c) := N5.out.cell 5;have n6 : w5.cell? ⟨wr.heap.size, 6, none⟩ = some (.int .i64 x.place.d) := N5.out.cell 6;have n7 : w5.cell? ⟨wr.heap.size, 7, none⟩ = some (.int .i64 x.place.e) := N5.out.cell 7;have n8 : w5.cell? ⟨wr.heap.size, 8, none⟩ = some (.int .i64 x.place.f) := N5.out.cell 8;have n9 : w5.cell? ⟨wr.heap.size, 9, none⟩ = some (.bool false) := by have := N5.out.cell 9; simp only [HTI.out, List.getElem?_toArray, List.getElem?_cons_succ, List.getElem?_cons_zero] at this; exact this
     have HWT := hid (zCr w5 x.place HLIM.out (HTT.out w5 bw5.out));have bsz : w1.heap.size ≤ w5.heap.size := Nat.le_trans (Nat.le_of_lt HB1.out) bw5.out.size;go_upto_region 20 with (first | (go_at_call 44; refine HWT.out.mono ?_; rintro e w6 ⟨rfl, b6⟩; have iw6 := hid (zCd iw5.out b6); have bw6 := hid (bw5.out.trans (b6.mono bsz)); replace b6 := hid b6) | (go_at_call 41; refine (xL w6 w1.heap.size w1.heap.size _ (X ++ yF [.txt [110, 111, 116, 101, 32, 110], .num j, .txt [58, 32, 118, 111, 105, 99, 101, 32], .num x.voice, .txt [32, 102, 114, 111, 109, 32], .num x.start, .txt [32, 116, 111, 32], .num x.stop]) [.txt [32, 97, 116, 32], .txt (zc x.place)] _ rfl rfl iw6.out (Nat.le_trans (Nat.le_of_lt HB1.out) bw6.out.size) (fun w' hb => HTT.out w' (bw6.out.trans hb)) (HOK2.out) (by have h := HQ.out; simp only [List.length_append]; omega) (by simp)).mono ?_; rintro e w7 ⟨rfl, iw7, bw7, kw7⟩; replace iw7 := hid iw7; replace bw7 := hid (bw6.out.trans bw7); replace kw7 := hid kw7))
     clear n3 n4 n5 n6 n7 n8 n9 hne;go_upto_region 21 with (go_at_call 41; refine (xL w7 w1.heap.size w1.heap.size _ (X ++ yF [.txt [110, 111, 116, 101, 32, 110], .num j, .txt [58, 32, 118, 111, 105, 99, 101, 32], .num x.voice, .txt [32, 102, 114, 111, 109, 32], .num x.start, .txt [32, 116, 111, 32], .num x.stop] ++ yF [.txt [32, 97, 116, 32], .txt (zc x.place)]) [.txt [59, 10]] _ rfl rfl iw7.out (Nat.le_trans (Nat.le_of_lt HB1.out) bw7.out.size) (fun w' hb => HTT.out w' (bw7.out.trans hb)) (HOK3.out) (by have h := HQ.out; simp only [List.length_append]; omega) (by simp)).mono ?_; rintro e w9 ⟨rfl, iw9, bw9, kw9⟩; replace iw9 := hid iw9; replace bw9 := hid (bw7.out.trans bw9); replace kw9 := hid kw9)
     skip
     have HE : Hid ((X ++ yF [.txt [110, 111, 116, 101, 32, 110], .num j, .txt [58, 32, 118, 111, 105, 99, 101, 32], .num x.voice, .txt [32, 102, 114, 111, 109, 32], .num x.start, .txt [32, 116, 111, 32], .num x.stop] ++ yF [.txt [32, 97, 116, 32], .txt (zc x.place)]) ++ yF [.txt [59, 10]] = X ++ qi j x) := hid (by rw [← zC9 j x [110, 111, 116, 101, 32, 110] (yF [.txt [32, 97, 116, 32], .txt (zc x.place)]) HWD.out (by simp [HTI.out, HPL.out, yF, Pcs.out])]; simp only [List.append_assoc, List.nil_append]);exact m68
    rw [ht] at n9;have hw2 : wd = [116, 105, 101, 100, 32, 110] := by rw [HWD.out, ht]; rfl
    have HTI := hid ht;subst hw2;go_upto_region 18 with (go_at_call 41; refine (xL w4 w1.heap.size w1.heap.size _ (X) [.txt [116, 105, 101, 100, 32, 110], .num j, .txt [58, 32, 118, 111, 105, 99, 101, 32], .num x.voice, .txt [32, 102, 114, 111, 109, 32], .num x.start, .txt [32, 116, 111, 32], .num x.stop] _ rfl rfl IJ4.out (Nat.le_trans (Nat.le_of_lt HB1.out) BJ4.out.size) (fun w' hb => HTT.out w' (BJ4.out.trans hb)) (HOK1.out) (by omega) (by simp)).mono ?_; rintro e w5 ⟨rfl, iw5, bw5, kw5⟩; replace iw5 := hid iw5; replace bw5 := hid (BJ4.out.trans bw5); replace kw5 := hid kw5)
    have N5 := hid (kw5.out _ _ _ b4.out (by decide) (by decide));clear n9 n0 n1 n2;have n3 : w5.cell? ⟨wr.heap.size, 3, none⟩ = some (.int .i64 x.place.a) := N5.out.cell 3;have n4 : w5.cell? ⟨wr.heap.size, 4, none⟩ = some (.int .i64 x.place.b) := N5.out.cell 4;have n5 : w5.cell? ⟨wr.heap.size, 5, none⟩ = some (.int .i64 x.place.c) := N5.out.cell 5;have n6 : w5.cell? ⟨wr.heap.size, 6, none⟩ = some (.int .i64 x.place.d) := N5.out.cell 6;have n7 : w5.cell? ⟨wr.heap.size, 7, none⟩ = some (.int .i64 x.place.e) := N5.out.cell 7;have n8 : w5.cell? ⟨wr.heap.size, 8, none⟩ = some (.int .i64 x.place.f) := N5.out.cell 8;have n9 : w5.cell? ⟨wr.heap.size, 9, none⟩ = some (.bool true) := by have := N5.out.cell 9; simp only [HTI.out, List.getElem?_toArray, List.getElem?_cons_succ, List.getElem?_cons_zero] at this; exact this
    clear n3 n4 n5 n6 n7 n8;go_upto_region 20 with (fail)
    clear n9;go_upto_region 21 with (go_at_call 41; refine (xL w5 w1.heap.size w1.heap.size _ (X ++ yF [.txt [116, 105, 101, 100, 32, 110], .num j, .txt [58, 32, 118, 111, 105, 99, 101, 32], .num x.voice, .txt [32, 102, 114, 111, 109, 32], .num x.start, .txt [32, 116, 111, 32], .num x.stop]) [.txt [59, 10]] _ rfl rfl iw5.out (Nat.le_trans (Nat.le_of_lt HB1.out) bw5.out.size) (fun w' hb => HTT.out w' (bw5.out.trans hb)) (HOK3.out) (by have h := HQ.out; simp only [List.length_append]; omega) (by simp)).mono ?_; rintro e w9 ⟨rfl, iw9, bw9, kw9⟩; replace iw9 := hid iw9; replace bw9 := hid (bw5.out.trans bw9); replace kw9 := hid kw9)
    skip
    have HE : Hid ((X ++ yF [.txt [116, 105, 101, 100, 32, 110], .num j, .txt [58, 32, 118, 111, 105, 99, 101, 32], .num x.voice, .txt [32, 102, 114, 111, 109, 32], .num x.start, .txt [32, 116, 111, 32], .num x.stop]) ++ yF [.txt [59, 10]] = X ++ qi j x) := hid (by rw [← zC9 j x [116, 105, 101, 100, 32, 110] [] HWD.out (by simp [HTI.out])]; simp only [List.append_assoc, List.nil_append]);exact m68
   (obtain rfl : n = j := by omega);have SJ := hid (S2.out.below BJ.out S1.out.lt);have c2 := SJ.out.cell 2;(obtain ⟨Y0, hY0⟩ : ∃ Y0, Y0 = X0 ++ vH l n := ⟨_, rfl⟩);rw [← hY0] at IJ LJ;have HY0 := hid hY0;have HL0 : Hid (Y0.length ≤ 5000000) := hid (by have := LJ.out; omega);clear hY0 LJ hlt hj hn200;(go_wp2);clear c2;go_loopw [94] (fun i wx => ∃ j : Nat, j ≤ m ∧ i = .int .i64 j ∧ Hid (Lib.IsBuilder 86 5 w1.heap.size w1.heap.size (Lib.byteCells (Y0 ++ xV ps j)) wx) ∧ Hid (Below w1.heap.size w2 wx) ∧ Hid ((Y0 ++ xV ps j).length ≤ 5000000 + 20000 * j)) (fun i _ => m - (zD i).toNat)
   case atStart => exact ⟨0, Nat.zero_le _, rfl, by simpa [xV] using IJ, BJ, hid (by have := HL0.out; simp [xV]; omega)⟩
   case round =>
    clear IJ BJ WJ SJ HL0;obtain ⟨j, hj, rfl, IJ, BJ, LJ⟩ := hrel;have WJ : Hid (Below W.heap.size W wr) := hid (W1.out.trans ((B2.out.trans BJ.out).mono W1.out.size));(have hm400 : m ≤ 400 := by have := HG.out.pl; rw [HLL.out.2.1, HSS.out.2.2.1]; exact this);by_cases hlt : j < m
    ·
     obtain ⟨ad, rfl, hld⟩ := kC HP.out HBB.out WJ.out (i := j) (by rw [← HLL.out.2.1]; exact hlt);have hl0 := hld _ (Below.refl _ _);obtain ⟨p, hx⟩ : ∃ p, ps.getD j zt = p := ⟨_, rfl⟩
     rw [hx] at hl0;have hxg := HG.out.p p (by rw [← hx, ← HSS.out.2.2.1, zN (by rw [← HLL.out.2.1]; exact hlt)]; exact List.getElem_mem _);have HST : Hid (Y0 ++ xV ps (j + 1) = (Y0 ++ xV ps j) ++ qT p) := hid (by rw [zBQ ps j (by rw [← HLL.out.2.1]; exact hlt), hx, List.append_assoc]);have r1 : IntKind.i64.wrap ((j : Int) + 1) = ((j + 1 : Nat) : Int) := by rw [IntKind.wrap_i64]; omega
     obtain ⟨g1, g2, g3, g4, g5, g6⟩ := hxg;have hvv := HG.out.nl;have b1 : p.a.natAbs ≤ 1000000000000 := by omega
     have b2 : p.b.natAbs ≤ 1000000000000 := by omega
     have b3 : p.bound.natAbs ≤ 1000000000000 := by omega
     have HLIM := hid (g4.mono (show 16 ≤ 64 by omega));have hwl := j9 p.wish HLIM.out;have HOK1 : Hid (OkL [.txt [112, 97, 105, 114, 32, 110], .num p.a, .txt [32, 110], .num p.b]) := hid (OkL.txt (by decide) (OkL.num b1 (OkL.txt (by decide) (OkL.num b2 OkL.nil))));have HOK2 : Hid (OkL [.txt [32, 98, 121, 32], .txt (zc p.wish)]) := hid (OkL.txt (by decide) (OkL.txt hwl OkL.nil));have HOK4 : Hid (OkL [.txt [32, 119, 105, 116, 104, 105, 110, 32], .num p.bound]) := hid (OkL.txt (by decide) (OkL.num b3 OkL.nil));have HOK3 : Hid (OkL [.txt [59, 10]]) := hid (OkL.txt (by decide) OkL.nil);have hq1 := HOK1.out.len;have hq2 := HOK2.out.len;have hq3 := HOK3.out.len;have hq4 := HOK4.out.len;simp only [List.length_cons, List.length_nil] at hq1 hq2 hq3 hq4;obtain ⟨X, hX⟩ : ∃ X, X = Y0 ++ xV ps j := ⟨_, rfl⟩
     rw [← hX] at IJ LJ HST;have hlx := LJ.out;have HQ := hid (And.intro hq1 (And.intro hq2 (And.intro hq3 (And.intro hq4 (And.intro hlx hm400)))));have hal := p.all_one;clear hld hx hX g1 g2 g3 g4 g5 g6 hvv b1 b2 b3 hwl hq1 hq2 hq3 hq4;go_upto_region 25 with (first | (refine yB rfl 57 (.tmp 96) rfl _ p.cells rfl hl0 ?_; try simp only [Act.put, sS]) | (refine zI rfl 57 (.tmp 12) (.tmp 97) rfl wr.heap.size p.cells rfl rfl 57 zt.cells (Blk.new wr _ _) vN rfl hal ?_; intro w4 b4 g4 z4; replace b4 := hid b4; replace g4 := hid g4; replace z4 := hid z4; try simp only [Act.put, sS]))
     have B4 : Hid (Below wr.heap.size wr w4) := hid (((Below.refl _ _).alloc (Nat.le_refl _) _).grown g4.out (by simp) (fun b e => by injection e with e; omega));have BJ4 : Hid (Below w1.heap.size w2 w4) := hid (BJ.out.trans (B4.out.mono (Nat.le_trans (Nat.le_of_lt HB1.out) BJ.out.size)));have IJ4 := hid (zCd IJ.out B4.out);have n0 : w4.cell? ⟨wr.heap.size, 0, none⟩ = some (.int .i64 p.a) := b4.out.cell 0;have n1 : w4.cell? ⟨wr.heap.size, 1, none⟩ = some (.int .i64 p.b) := b4.out.cell 1;clear hl0 hal g4 z4 WJ IJ;go_upto_region 26 with (go_at_call 41; refine (xL w4 w1.heap.size w1.heap.size _ (X) [.txt [112, 97, 105, 114, 32, 110], .num p.a, .txt [32, 110], .num p.b] _ rfl rfl IJ4.out (Nat.le_trans (Nat.le_of_lt HB1.out) BJ4.out.size) (fun w' hb => HTT.out w' (BJ4.out.trans hb)) (HOK1.out) (by omega) (by simp)).mono ?_; rintro e w5 ⟨rfl, iw5, bw5, kw5⟩; replace iw5 := hid iw5; replace bw5 := hid (BJ4.out.trans bw5); replace kw5 := hid kw5)
     have N5 := hid (kw5.out _ _ _ b4.out (by decide) (by decide));clear n0 n1;have n2 : w5.cell? ⟨wr.heap.size, 2, none⟩ = some (.int .i64 p.wish.a) := N5.out.cell 2;have n3 : w5.cell? ⟨wr.heap.size, 3, none⟩ = some (.int .i64 p.wish.b) := N5.out.cell 3;have n4 : w5.cell? ⟨wr.heap.size, 4, none⟩ = some (.int .i64 p.wish.c) := N5.out.cell 4;have n5 : w5.cell? ⟨wr.heap.size, 5, none⟩ = some (.int .i64 p.wish.d) := N5.out.cell 5;have n6 : w5.cell? ⟨wr.heap.size, 6, none⟩ = some (.int .i64 p.wish.e) := N5.out.cell 6;have n7 : w5.cell? ⟨wr.heap.size, 7, none⟩ = some (.int .i64 p.wish.f) := N5.out.cell 7;by_cases hp : p.wish = vc0
     ·
      have hne : ∀ w, (binOp .neq 53 (.agg p.wish.cells) (.agg #[.int .i64 0, .int .i64 0, .int .i64 0, .int .i64 0, .int .i64 0, .int .i64 0])).run Tryz.prog w = .ok (.bool false) w := fun w => (vj _ vc0 w).trans (by rw [hp]; simp)
      have HPL := hid hp;clear hp;go_upto_region 28 with (fail)
      clear n2 n3 n4 n5 n6 n7 hne;have n8 : w5.cell? ⟨wr.heap.size, 8, none⟩ = some (.int .i64 p.bound) := N5.out.cell 8;by_cases hk : 0 < p.bound
      ·
       have HK := hid hk;go_upto_region 30 with (go_at_call 41; refine (xL w5 w1.heap.size w1.heap.size _ (X ++ yF [.txt [112, 97, 105, 114, 32, 110], .num p.a, .txt [32, 110], .num p.b]) [.txt [32, 119, 105, 116, 104, 105, 110, 32], .num p.bound] _ rfl rfl iw5.out (Nat.le_trans (Nat.le_of_lt HB1.out) bw5.out.size) (fun w' hb => HTT.out w' (bw5.out.trans hb)) (HOK4.out) (by have h := HQ.out; simp only [List.length_append]; omega) (by simp)).mono ?_; rintro e w8 ⟨rfl, iw8, bw8, kw8⟩; replace iw8 := hid iw8; replace bw8 := hid (bw5.out.trans bw8); replace kw8 := hid kw8)
       clear n8 hk;go_upto_region 31 with (go_at_call 41; refine (xL w8 w1.heap.size w1.heap.size _ (X ++ yF [.txt [112, 97, 105, 114, 32, 110], .num p.a, .txt [32, 110], .num p.b] ++ yF [.txt [32, 119, 105, 116, 104, 105, 110, 32], .num p.bound]) [.txt [59, 10]] _ rfl rfl iw8.out (Nat.le_trans (Nat.le_of_lt HB1.out) bw8.out.size) (fun w' hb => HTT.out w' (bw8.out.trans hb)) (HOK3.out) (by have h := HQ.out; simp only [List.length_append]; omega) (by simp)).mono ?_; rintro e w9 ⟨rfl, iw9, bw9, kw9⟩; replace iw9 := hid iw9; replace bw9 := hid (bw8.out.trans bw9); replace kw9 := hid kw9)
       have HE : Hid ((X ++ yF [.txt [112, 97, 105, 114, 32, 110], .num p.a, .txt [32, 110], .num p.b] ++ yF [.txt [32, 119, 105, 116, 104, 105, 110, 32], .num p.bound]) ++ yF [.txt [59, 10]] = X ++ qT p) := hid (by rw [← zBv p [] (yF [.txt [32, 119, 105, 116, 104, 105, 110, 32], .num p.bound]) (by simp [HPL.out]) (by simp [HK.out, yF, Pcs.out])]; simp only [List.append_assoc, List.nil_append]);exact m47
      have HK := hid hk;go_upto_region 30 with (fail)
      clear n8 hk;go_upto_region 31 with (go_at_call 41; refine (xL w5 w1.heap.size w1.heap.size _ (X ++ yF [.txt [112, 97, 105, 114, 32, 110], .num p.a, .txt [32, 110], .num p.b]) [.txt [59, 10]] _ rfl rfl iw5.out (Nat.le_trans (Nat.le_of_lt HB1.out) bw5.out.size) (fun w' hb => HTT.out w' (bw5.out.trans hb)) (HOK3.out) (by have h := HQ.out; simp only [List.length_append]; omega) (by simp)).mono ?_; rintro e w9 ⟨rfl, iw9, bw9, kw9⟩; replace iw9 := hid iw9; replace bw9 := hid (bw5.out.trans bw9); replace kw9 := hid kw9)
      have HE : Hid ((X ++ yF [.txt [112, 97, 105, 114, 32, 110], .num p.a, .txt [32, 110], .num p.b]) ++ yF [.txt [59, 10]] = X ++ qT p) := hid (by rw [← zBv p [] [] (by simp [HPL.out]) (by have h := HK.out; rw [if_neg (by omega)])]; simp only [List.append_assoc, List.nil_append]);exact m47
     have hne : ∀ w, (binOp .neq 53 (.agg p.wish.cells) (.agg #[.int .i64 0, .int .i64 0, .int .i64 0, .int .i64 0, .int .i64 0, .int .i64 0])).run Tryz.prog w = .ok (.bool true) w := fun w => (vj _ vc0 w).trans (by simp [hp])
     have HPL := hid hp;clear hp;have HWT := hid (zCr w5 p.wish HLIM.out (HTT.out w5 bw5.out));have bsz : w1.heap.size ≤ w5.heap.size := Nat.le_trans (Nat.le_of_lt HB1.out) bw5.out.size;go_upto_region 28 with (first | (go_at_call 44; refine HWT.out.mono ?_; rintro e w6 ⟨rfl, b6⟩; have iw6 := hid (zCd iw5.out b6); have bw6 := hid (bw5.out.trans (b6.mono bsz)); replace b6 := hid b6) | (go_at_call 41; refine (xL w6 w1.heap.size w1.heap.size _ (X ++ yF [.txt [112, 97, 105, 114, 32, 110], .num p.a, .txt [32, 110], .num p.b]) [.txt [32, 98, 121, 32], .txt (zc p.wish)] _ rfl rfl iw6.out (Nat.le_trans (Nat.le_of_lt HB1.out) bw6.out.size) (fun w' hb => HTT.out w' (bw6.out.trans hb)) (HOK2.out) (by have h := HQ.out; simp only [List.length_append]; omega) (by simp)).mono ?_; rintro e w7 ⟨rfl, iw7, bw7, kw7⟩; replace iw7 := hid iw7; replace bw7 := hid (bw6.out.trans bw7); replace kw7 := hid kw7))
     have n8 : w7.cell? ⟨wr.heap.size, 8, none⟩ = some (.int .i64 p.bound) := (kw7.out _ _ _ (N5.out.below b6.out N5.out.lt) (by decide) (by decide)).cell 8;clear n2 n3 n4 n5 n6 n7 hne;by_cases hk : 0 < p.bound
     ·
      have HK := hid hk;go_upto_region 30 with (go_at_call 41; refine (xL w7 w1.heap.size w1.heap.size _ (X ++ yF [.txt [112, 97, 105, 114, 32, 110], .num p.a, .txt [32, 110], .num p.b] ++ yF [.txt [32, 98, 121, 32], .txt (zc p.wish)]) [.txt [32, 119, 105, 116, 104, 105, 110, 32], .num p.bound] _ rfl rfl iw7.out (Nat.le_trans (Nat.le_of_lt HB1.out) bw7.out.size) (fun w' hb => HTT.out w' (bw7.out.trans hb)) (HOK4.out) (by have h := HQ.out; simp only [List.length_append]; omega) (by simp)).mono ?_; rintro e w8 ⟨rfl, iw8, bw8, kw8⟩; replace iw8 := hid iw8; replace bw8 := hid (bw7.out.trans bw8); replace kw8 := hid kw8)
      clear n8 hk;go_upto_region 31 with (go_at_call 41; refine (xL w8 w1.heap.size w1.heap.size _ (X ++ yF [.txt [112, 97, 105, 114, 32, 110], .num p.a, .txt [32, 110], .num p.b] ++ yF [.txt [32, 98, 121, 32], .txt (zc p.wish)] ++ yF [.txt [32, 119, 105, 116, 104, 105, 110, 32], .num p.bound]) [.txt [59, 10]] _ rfl rfl iw8.out (Nat.le_trans (Nat.le_of_lt HB1.out) bw8.out.size) (fun w' hb => HTT.out w' (bw8.out.trans hb)) (HOK3.out) (by have h := HQ.out; simp only [List.length_append]; omega) (by simp)).mono ?_; rintro e w9 ⟨rfl, iw9, bw9, kw9⟩; replace iw9 := hid iw9; replace bw9 := hid (bw8.out.trans bw9); replace kw9 := hid kw9)
      have HE : Hid ((X ++ yF [.txt [112, 97, 105, 114, 32, 110], .num p.a, .txt [32, 110], .num p.b] ++ yF [.txt [32, 98, 121, 32], .txt (zc p.wish)] ++ yF [.txt [32, 119, 105, 116, 104, 105, 110, 32], .num p.bound]) ++ yF [.txt [59, 10]] = X ++ qT p) := hid (by rw [← zBv p (yF [.txt [32, 98, 121, 32], .txt (zc p.wish)]) (yF [.txt [32, 119, 105, 116, 104, 105, 110, 32], .num p.bound]) (by simp [HPL.out, yF, Pcs.out]) (by simp [HK.out, yF, Pcs.out])]; simp only [List.append_assoc, List.nil_append]);exact m47
     have HK := hid hk;go_upto_region 30 with (fail)
     clear n8 hk;go_upto_region 31 with (go_at_call 41; refine (xL w7 w1.heap.size w1.heap.size _ (X ++ yF [.txt [112, 97, 105, 114, 32, 110], .num p.a, .txt [32, 110], .num p.b] ++ yF [.txt [32, 98, 121, 32], .txt (zc p.wish)]) [.txt [59, 10]] _ rfl rfl iw7.out (Nat.le_trans (Nat.le_of_lt HB1.out) bw7.out.size) (fun w' hb => HTT.out w' (bw7.out.trans hb)) (HOK3.out) (by have h := HQ.out; simp only [List.length_append]; omega) (by simp)).mono ?_; rintro e w9 ⟨rfl, iw9, bw9, kw9⟩; replace iw9 := hid iw9; replace bw9 := hid (bw7.out.trans bw9); replace kw9 := hid kw9)
     have HE : Hid ((X ++ yF [.txt [112, 97, 105, 114, 32, 110], .num p.a, .txt [32, 110], .num p.b] ++ yF [.txt [32, 98, 121, 32], .txt (zc p.wish)]) ++ yF [.txt [59, 10]] = X ++ qT p) := hid (by rw [← zBv p (yF [.txt [32, 98, 121, 32], .txt (zc p.wish)]) [] (by simp [HPL.out, yF, Pcs.out]) (by have h := HK.out; rw [if_neg (by omega)])]; simp only [List.append_assoc, List.nil_append]);exact m47
    (obtain rfl : m = j := by omega);have HSRC : Hid (kK s = Y0 ++ xV ps m) := hid (by rw [zBL, ← HSS.out.1, ← HSS.out.2.1, ← HSS.out.2.2.1, ← HSS.out.2.2.2, ← HLL.out.1, ← HLL.out.2.1, ← HLL.out.2.2, HY0.out, HX0.out]);rw [← HSRC.out] at IJ LJ;have hsl := LJ.out;have HF : Hid (kE s = (if 8000 < (kK s).length then [] else kK s) ∧ kJ s = (if 8000 < (kK s).length then 2 else 0)) := hid (by unfold kE kJ; rw [← HOK.out]; exact ⟨rfl, rfl⟩);(obtain ⟨Z, hZ⟩ : ∃ Z, Z = kK s := ⟨_, rfl⟩);rw [← hZ] at IJ HF hsl;clear hZ;have HLN := hid (Tryz.Builder_Len w1.heap.size w1.heap.size (Lib.byteCells Z) wr IJ.out);rw [Lib.byteCells_length] at HLN;have HSG := hid (Tryz.Builder_String_any w1.heap.size w1.heap.size Z wr IJ.out (Nat.le_trans (Nat.le_of_lt HB1.out) BJ.out.size));by_cases h8 : 8000 < Z.length
    · rw [if_pos h8, if_pos h8] at HF;have h8i : (8000 : Int) < (Z.length : Int) := by omega
      go_wp2_with (go_at_call 45; refine HLN.out.mono ?_; rintro e w9 ⟨rfl, rfl⟩)
      go_ret2;rw [HF.out.1, HF.out.2];exact ⟨rfl, WJ.out⟩
    rw [if_neg h8, if_neg h8] at HF;(have h8i : ¬ (8000 : Int) < (Z.length : Int) := by omega);(go_wp2_with (go_at_call 45; refine HLN.out.mono ?_; rintro e w9 ⟨rfl, rfl⟩));refine HSG.out.mono ?_;rintro e w10 ⟨rfl, b9⟩;replace b9 := hid b9;(go_wp2);go_ret2;rw [HF.out.1, HF.out.2];exact ⟨rfl, W1.out.trans (((B2.out.trans BJ.out).trans b9.out).mono W1.out.size)⟩
end Go.Proofs.YtcjhihmaegagdaaGreatDoor
