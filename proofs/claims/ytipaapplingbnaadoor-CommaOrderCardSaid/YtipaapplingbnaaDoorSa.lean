/- Walks: the iterator of strings.SplitSeq at a blank. -/
import Derived.Test.YtipaapplingbnaaDoorCy
import Derived.Lib.IndexLaws
import Derived.RangeFuncNested
import Derived.RangeFuncBound
import Derived.RangeFuncCalls
import Derived.RangeFuncLeaves
import Derived.Shelf.Abstract
import Derived.Shelf.RegionOpen
import Derived.WalkKit
import Derived.OwnWalkIn
import Derived.TacticsInMore
import Derived.LoopNIn
import Derived.LoopIn
namespace Go.Proofs.YtipaapplingbnaaDoor
open Go.RowKit Go.Deep Go.Shelf
attribute [local go_sem] Oper.semAt_some

theorem split_none {l : List UInt8} (h : Lib.indexByte l 32 = -1) : splitSp l = [l] := by
  refine splitSp_one fun x hx e => ?_
  obtain ⟨k, hk, rfl⟩ := List.mem_iff_getElem.1 hx
  exact Lib.indexByte_none h k (by rw [List.getElem?_eq_getElem hk, e])
theorem split_some {l : List UInt8} {i : Nat} (h : Lib.indexByte l 32 = i) : i < l.length ∧ splitSp l = l.take i :: splitSp (l.drop (i + 1)) := by
  obtain ⟨h1, h2⟩ := Lib.indexByte_some h
  have hi : i < l.length := (List.getElem?_eq_some_iff.1 h1).1
  refine ⟨hi, ?_⟩
  have e : l = l.take i ++ 32 :: l.drop (i + 1) := by
    have h3 : l[i] = 32 := (List.getElem?_eq_some_iff.1 h1).2
    rw [← h3, List.getElem_cons_drop, List.take_append_drop]
  conv => lhs; rw [e]
  refine splitSp_cons (fun x hx e2 => ?_) _
  obtain ⟨k, hk, rfl⟩ := List.mem_iff_getElem.1 hx
  rw [List.length_take] at hk
  rw [List.getElem_take] at e2
  exact h2 k (by omega) (by rw [List.getElem?_eq_getElem (by omega), e2])
/-- What the iterator's own three variables hold lies as it lay. -/
def Kp3 (b0 b1 b2 : Nat) (W W' : World) : Prop := ∀ b, b = b0 ∨ b = b1 ∨ b = b2 → ∀ i, W'.cell? ⟨b, i, none⟩ = W.cell? ⟨b, i, none⟩ ∧ W'.frozen? ⟨b, i, none⟩ = W.frozen? ⟨b, i, none⟩

def szOf : Option Value → Nat
  | some (.string b) => b.size
  | _ => 0
set_option maxRecDepth 100000 in
set_option maxHeartbeats 2000000 in
theorem split_iter (n l b0 b1 b2 : Nat) (hb01 : b0 ≠ b1) (hb12 : b1 ≠ b2) (s : List UInt8) (hs : s.length ≤ 9223372036854775807) (J Jx : List (List UInt8) → World → Prop)
    (hJs : ∀ pre A v, J pre A → J pre (A.setCell ⟨b1, 0, none⟩ v))
    (hY : ∀ pre x W1, J pre W1 → x.length ≤ s.length → YieldAt Fence.wide (n - 1) Tryd.prog l #[str x] W1 fun e W' =>
      (e = .returned (.bool true) ∧ J (pre ++ [x]) W' ∧ Kp3 b0 b1 b2 W1 W') ∨ (e = .returned (.bool false) ∧ Jx (pre ++ [x]) W'))
    (W : World) (h0 : W.cell? ⟨b0, 0, none⟩ = some (.string ⟨#[32]⟩)) (h1 : W.cell? ⟨b1, 0, none⟩ = some (str s)) (hf : W.frozen? ⟨b1, 0, none⟩ = false) (h2 : W.cell? ⟨b2, 0, none⟩ = some (.int .i64 0)) (hJ : J [] W) :
    CallsIn Fence.wide n Tryd.prog 59 #[.func (.yield l) #[] #[], .pointer (some ⟨b0, 0, none⟩), .pointer (some ⟨b1, 0, none⟩), .pointer (some ⟨b2, 0, none⟩)] W fun e W' => (∃ v, e = .returned v) ∧
      (J (splitSp s) W' ∨ ∃ pre, pre <+: splitSp s ∧ Jx pre W') := by
  refine callsIn_of_wp Tryd.func59 rfl trivial ?_ rfl
  simp only [Tryd.ntmps59, List.size_toArray, List.length_cons, List.length_nil, Nat.reduceAdd, Nat.reduceSub, Array.replicate_succ, Array.replicate_zero, List.push_toArray, List.append_toArray, List.nil_append, List.cons_append]
  gi_wp2
  gi_loopw [7] (fun i wx => ∃ pre rest : List (List UInt8), ∃ r : List UInt8, rest = rest ∧ splitSp s = pre ++ splitSp r ∧ r.length ≤ s.length ∧ Hid (J pre wx) ∧ wx.cell? ⟨b0, 0, none⟩ = some (.string ⟨#[32]⟩) ∧ wx.cell? ⟨b1, 0, none⟩ = some (str r) ∧ wx.frozen? ⟨b1, 0, none⟩ = false ∧ wx.cell? ⟨b2, 0, none⟩ = some (.int .i64 0))
    (fun _ wx => szOf (wx.cell? ⟨b1, 0, none⟩))
  case atStart => exact ⟨[], [], s, rfl, rfl, Nat.le_refl _, hJ, h0, h1, hf, h2⟩
  case round =>
    obtain ⟨pre, -, r, -, hsp, hr, HJ, q0, q1, qf, q2⟩ := hrel
    have hr9 : r.length ≤ 9223372036854775807 := by omega
    have hix := Tryd.strings_Index_one ⟨r.toArray⟩ 32 wr
    have hge := Lib.indexByte_ge r 32
    simp only at hix
    by_cases hneg : Lib.indexByte r 32 = -1
    · have hsp2 := split_none hneg
      rw [hneg] at hix
      have HIX := Lib.hid hix
      have HSP := Lib.hid hsp
      have HSP2 := Lib.hid hsp2
      obtain ⟨fn, tmps, assign, body, hy, hR⟩ := hY pre r wr HJ.out hr
      have HRR := Lib.hid hR
      clear hix hsp hsp2 hge hneg hR
      gi_wp2
      refine ⟨trivial, fun h => absurd h (by simp [Fence.wide]), ?_⟩
      refine (callsIn_wide.2 HIX.out).mono ?_
      rintro e w' ⟨rfl, rfl⟩
      gi_wp2
      refine ⟨fun h => absurd h (by simp [Fence.wide]), ?_⟩
      refine HRR.out.mono ?_
      rintro e W3 (⟨rfl, hJ3, hk3⟩ | ⟨rfl, hJ3⟩)
      · have HE : Hid (J (splitSp s) W3) := by show J _ _; rw [HSP.out, HSP2.out]; exact hJ3
        clear hJ3 hk3
        gi_wp2
        go_end0
        exact ⟨⟨_, rfl⟩, .inl HE.out⟩
      · have HE := Lib.hid hJ3
        clear hJ3
        gi_wp2
        go_end0
        exact ⟨⟨_, rfl⟩, .inr ⟨_, by rw [HSP.out, HSP2.out]; exact List.prefix_refl _, HE.out⟩⟩
    · obtain ⟨i, hi⟩ : ∃ i : Nat, Lib.indexByte r 32 = i := ⟨(Lib.indexByte r 32).toNat, by omega⟩
      obtain ⟨hil, hsp2⟩ := split_some hi
      rw [hi] at hix
      have HIX := Lib.hid hix
      have HSP := Lib.hid hsp
      have HSP2 := Lib.hid hsp2
      obtain ⟨fn, tmps, assign, body, hy, hR⟩ := hY pre (r.take i) wr HJ.out (by rw [List.length_take]; omega)
      have HRR := Lib.hid hR
      have hex1 : (⟨r.toArray⟩ : ByteArray).extract 0 i = ⟨(r.take i).toArray⟩ := by
        apply ByteArray.ext
        simp [ByteArray.data_extract]
      have hex2 : (⟨r.toArray⟩ : ByteArray).extract (i + 1) r.length = ⟨(r.drop (i + 1)).toArray⟩ := by
        apply ByteArray.ext
        simp [ByteArray.data_extract]
        rw [List.take_of_length_le (by simp)]
      clear hix hsp hsp2 hge hneg hR hi
      gi_wp2
      refine ⟨trivial, fun h => absurd h (by simp [Fence.wide]), ?_⟩
      refine (callsIn_wide.2 HIX.out).mono ?_
      rintro e w' ⟨rfl, rfl⟩
      gi_wp2
      refine ⟨fun h => absurd h (by simp [Fence.wide]), ?_⟩
      refine HRR.out.mono ?_
      rintro e W3 (⟨rfl, hJ3, hk3⟩ | ⟨rfl, hJ3⟩)
      · have HJ3 := Lib.hid hJ3
        have HK3 := Lib.hid hk3
        have p0 := (hk3 b0 (.inl rfl) 0).1.trans q0
        have p1 := (hk3 b1 (.inr (.inl rfl)) 0).1.trans q1
        have pf := (hk3 b1 (.inr (.inl rfl)) 0).2.trans qf
        have p2 := (hk3 b2 (.inr (.inr rfl)) 0).1.trans q2
        clear hJ3 hk3
        gi_wp2
        have hc := World.cell?_setCell_same' W3 ⟨b1, 0, none⟩ (str (r.drop (i + 1))) (by rw [p1]; rfl)
        refine ⟨⟨pre ++ [r.take i], [], r.drop (i + 1), trivial, by rw [HSP.out, HSP2.out]; simp, by simp; omega, hJs _ _ _ HJ3.out, ?_, hc, ?_, ?_⟩, ?_⟩
        · exact (World.cell?_setCell_other _ _ _ _ (fun e => hb01 (by injection e with e; exact e.symm))).trans p0
        · rw [World.frozen?_setCell]; exact pf
        · exact (World.cell?_setCell_other _ _ _ _ (fun e => hb12 (by injection e with e))).trans p2
        · rw [hc, q1]
          simp [szOf, ByteArray.size]
          omega
      · have HE := Lib.hid hJ3
        clear hJ3
        gi_wp2
        refine bodyPost_ret (results_none rfl _ _ _) rfl ?_
        exact ⟨⟨_, rfl⟩, .inr ⟨_, ⟨splitSp (r.drop (i + 1)), by rw [HSP.out, HSP2.out]; simp⟩, HE.out⟩⟩

end Go.Proofs.YtipaapplingbnaaDoor
