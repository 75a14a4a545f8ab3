/- Plain facts for the examples of the chapter. -/
import Derived.Test.YtipaapplingbnaaDoorWb
import Derived.Test.YtipaapplingbnaaDoorSf
namespace Go.Proofs.YtipaapplingbnaaDoor
open Go.RowKit Go.Deep

def syn0 : List UInt8 := [115, 121, 110, 116, 111, 110, 105, 99]
def sch0 : List UInt8 := [115, 99, 104, 105, 115, 109, 97]
def L0 : List Cm := [⟨syn0, ⟨-4, 4, -1, 0, 0, 0⟩⟩, ⟨sch0, ⟨-15, 8, 1, 0, 0, 0⟩⟩]
def S0 : List UInt8 := [115, 121, 110, 116, 111, 110, 105, 99, 42, 50, 32, 115, 99, 104, 105, 115, 109, 97, 42, 45, 49]
def T0 : List Tk := [⟨1, 0, 1, 0⟩, ⟨2, 1, -1, 0⟩]
theorem valid0 : ValidL L0 where
  lo := by decide
  hi := by decide
  nodup := by decide
  names := by decide
  vecs := by decide
  vol := by decide
  ind := ⟨[0, 1], by decide, by decide⟩
theorem acc0 : accB L0 [2, -1] = true := accB_iff.2 ⟨by decide, rfl, valid0⟩
theorem makes1 : MakesV L0 [1, 1] ⟨-19, 12, 0, 0, 0, 0⟩ := by
  refine ⟨rfl, fun j => ?_⟩
  rcases j with _ | _ | _ | _ | _ | _ | j <;> rfl
theorem makes2 : MakesV L0 [2, -1] ⟨7, 0, -3, 0, 0, 0⟩ := by
  refine ⟨rfl, fun j => ?_⟩
  rcases j with _ | _ | _ | _ | _ | _ | j <;> rfl
theorem cnt1 : cntK L0 ⟨-19, 12, 0, 0, 0, 0⟩ = 0 ∧ cntV L0 ⟨-19, 12, 0, 0, 0, 0⟩ = [1, 1] := cnt_makes ⟨valid0, by decide⟩ makes1
theorem cnt2 : cntK L0 ⟨7, 0, -3, 0, 0, 0⟩ = 0 ∧ cntV L0 ⟨7, 0, -3, 0, 0, 0⟩ = [2, -1] := cnt_makes ⟨valid0, by decide⟩ makes2
theorem cnt3 : cntK L0 ⟨1, 0, 0, 0, 0, 0⟩ = 4 ∧ cntV L0 ⟨1, 0, 0, 0, 0, 0⟩ = [] := by
  refine cnt_none ⟨valid0, by decide⟩ ?_
  rintro ⟨cs, hl, h⟩
  obtain ⟨a, b, rfl⟩ : ∃ a b, cs = [a, b] := by
    match cs, hl with
    | [a, b], _ => exact ⟨a, b, rfl⟩
  have h0 : a * (-4) + (b * (-15) + 0) = 1 := h 0
  have h1 : a * 4 + (b * 8 + 0) = 0 := h 1
  have h2 : a * (-1) + (b * 1 + 0) = 0 := h 2
  omega
theorem text0 : textC (nms L0) [2, -1] = S0 := by decide +kernel
theorem textV0 : textV L0 [2, -1] = S0 ∧ textE L0 [2, -1] = 0 := by
  unfold textV textE
  rw [acc0]
  exact ⟨text0, rfl⟩
theorem parse0 : parseV L0 S0 = [2, -1] ∧ parseE L0 S0 = 0 := by
  have h := parse_text (nms L0) valid0.nodup (by decide) [2, -1] rfl (by decide)
  rw [text0] at h
  unfold parseV parseE
  rw [validB_true valid0, h]
  exact ⟨rfl, rfl⟩
theorem find0 : findV L0 sch0 = 1 ∧ findE L0 sch0 = 0 := by
  unfold findV findE findI
  rw [validB_true valid0]
  exact ⟨by decide, by decide⟩
theorem sum0 : sumV L0 [2, -1] = ⟨7, 0, -3, 0, 0, 0⟩ ∧ sumE L0 [2, -1] = 0 := by
  unfold sumV sumE
  rw [acc0]
  exact ⟨by decide, by decide⟩
theorem walk0 : walkE L0 T0 = 0 ∧ walkV L0 T0 = [⟨0, 0, 0, 0, 0, 0⟩, ⟨-4, 4, -1, 0, 0, 0⟩, ⟨11, -4, -2, 0, 0, 0⟩] := by
  have h := walk_ok (l := L0) (ts := T0) (validB_true valid0) (by decide) (by decide) (by decide)
  exact ⟨h.1, h.2.trans (by decide)⟩

end Go.Proofs.YtipaapplingbnaaDoor
