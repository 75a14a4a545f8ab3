/- Words for rows of records: elements of several cells. -/
import Derived.Test.YtipaapplingbnaaDoorMa
import Derived.Deep.MidRow
namespace Go.Proofs.YtipaapplingbnaaDoor
open Go.RowKit

section
variable {α : Type} (cf : α → List Value) (k : Nat) (hk : ∀ x, (cf x).length = k)
def rcells (l : List α) : List Value := l.flatMap cf
theorem rcells_append (l m : List α) : rcells cf (l ++ m) = rcells cf l ++ rcells cf m := by simp [rcells]
include hk in
theorem rcells_length (l : List α) : (rcells cf l).length = l.length * k := by
  induction l with
  | nil => simp [rcells]
  | cons m l ih => rw [rcells, List.flatMap_cons, List.length_append, hk]; change k + (rcells cf l).length = _; rw [ih, List.length_cons, Nat.add_mul, Nat.one_mul, Nat.add_comm]
include hk in
theorem rcells_at (l : List α) (i j : Nat) (h : i < l.length) (hj : j < k) : (rcells cf l)[i * k + j]? = (cf l[i])[j]? := by
  induction l generalizing i with
  | nil => simp at h
  | cons m l ih =>
    rw [rcells, List.flatMap_cons]
    cases i with
    | zero => rw [Nat.zero_mul, Nat.zero_add, List.getElem?_append_left (by rw [hk]; exact hj)]; rfl
    | succ i =>
      rw [List.getElem?_append_right (by rw [hk, Nat.add_mul, Nat.one_mul]; omega), hk, show (i + 1) * k + j - k = i * k + j by rw [Nat.add_mul, Nat.one_mul]; omega]
      exact ih i (by simpa using h)
theorem rcells_one (h1 : ∀ x, ∀ u ∈ cf x, u.oneCell' = true) (l : List α) : ∀ u ∈ rcells cf l, u.oneCell' = true := by
  intro u hu
  obtain ⟨m, _, h⟩ := List.mem_flatMap.1 hu
  exact h1 m u h
theorem rcells_single (x : α) : rcells cf [x] = cf x := by simp [rcells]
include hk in
theorem rcells_take (l : List α) (i : Nat) : rcells cf (l.take i) = (rcells cf l).take (i * k) := by
  induction l generalizing i with
  | nil => simp [rcells]
  | cons m l ih =>
    cases i with
    | zero => simp [rcells]
    | succ i =>
      rw [List.take_succ_cons]
      show cf m ++ rcells cf (l.take i) = (cf m ++ rcells cf l).take _
      rw [ih, List.take_append, hk, Nat.add_mul, Nat.one_mul, List.take_of_length_le (l := cf m) (by rw [hk]; omega), show i * k + k - k = i * k by omega]
include hk in
theorem Shows.rec {w : World} {B n : Nat} {A : Option Addr} {l : List α} (h : Shows w B k A n (rcells cf l)) (hl : l.length = n) {i : Nat} (hi : i < n) : ∃ ad, A = some ad ∧ ad.block < B ∧ ∀ j, j < k → w.cell? ((ad.add (i * k)).add j) = (cf (l[i]'(by omega)))[j]? := by
  obtain ⟨ad, rfl, hb, hc⟩ := h.2 (by omega)
  refine ⟨ad, rfl, hb, fun j hj => ?_⟩
  rw [add_add', hc _ (by rw [rcells_length cf k hk]; have : i * k + k ≤ n * k := by rw [← Nat.succ_mul]; exact Nat.mul_le_mul_right _ hi
                         rw [hl]; omega), rcells_at cf k hk l i j (by omega) hj]
end

theorem load_var {P : Program} (ty : TypeId) (d : TypeDesc) (hu : P.underlying ty = some d) (hd : (match d with | .struct _ | .array _ _ => true | _ => false) = true) (w : World) (a : Addr) (cs : Array Value) (hi : (P.info? ty).map (·.size) = some cs.size)
    (h : ∀ j v, cs.toList[j]? = some v → w.cell? (a.add j) = some v) : (loadVar ty a).run P w = .ok (.agg cs) w := by
  have hl : (loadCells a cs.toList.length).run P w = .ok cs.toList.toArray w := run_loadCells_list (P := P) w a cs.toList h
  cases hq : P.info? ty with
  | none => rw [hq] at hi; cases hi
  | some i =>
    have hs : i.size = cs.toList.length := by rw [hq] at hi; simpa using hi
    have hagg : (isAgg ty).run P w = .ok true w := by
      unfold isAgg
      rw [Sem.run_bind, run_underlying hu w]
      cases d <;> first | rfl | cases hd
    rw [← hs] at hl
    simp [loadVar, hagg, sizeOf, typeInfo, hq, hl]
/-- A result that lies in a variable's cells. -/
theorem results_cell {P : Program} {fn : Func} {t : Tmp} {ty : TypeId} (hf : fn.results = #[.cell t ty]) (tmps : Array Value) (a : Addr) (ht : tmps.getD t undef = .pointer (some a)) (d : TypeDesc) (hu : P.underlying ty = some d) (hd : (match d with | .struct _ | .array _ _ => true | _ => false) = true) (w : World) (cs : Array Value) (hi : (P.info? ty).map (·.size) = some cs.size)
    (h : ∀ j v, cs.toList[j]? = some v → w.cell? (a.add j) = some v) : (results fn tmps).run P w = .ok (.agg cs) w := by
  have := load_var ty d hu hd w a cs hi h
  rw [Array.getD_eq_getD_getElem?] at ht
  simp [results, hf, ht, asAddr, this]
theorem results_cell_tmp {P : Program} {fn : Func} {t u : Tmp} {ty : TypeId} (hf : fn.results = #[.cell t ty, .tmp u]) (tmps : Array Value) (a : Addr) (ht : tmps.getD t undef = .pointer (some a)) (d : TypeDesc) (hu : P.underlying ty = some d) (hd : (match d with | .struct _ | .array _ _ => true | _ => false) = true) (w : World) (cs : Array Value) (hi : (P.info? ty).map (·.size) = some cs.size)
    (h : ∀ j v, cs.toList[j]? = some v → w.cell? (a.add j) = some v) : (results fn tmps).run P w = .ok (.tuple #[.agg cs, tmps.getD u undef]) w := by
  have := load_var ty d hu hd w a cs hi h
  rw [Array.getD_eq_getD_getElem?] at ht
  simp [results, hf, ht, asAddr, this]
/-- A whole record read. -/
theorem load_rec {P : Program} (ty : TypeId) (d : TypeDesc) (hu : P.underlying ty = some d) (hd : (match d with | .struct _ | .array _ _ => true | _ => false) = true) (w : World) (a : Addr) (cs : Array Value) (hi : (P.info? ty).map (·.size) = some cs.size)
    (h : ∀ j v, cs.toList[j]? = some v → w.cell? (a.add j) = some v) : (Instr.loadAt ty (.pointer (some a))).run P w = .ok (.agg cs) w := by
  have hl : (loadCells a cs.toList.length).run P w = .ok cs.toList.toArray w := run_loadCells_list (P := P) w a cs.toList h
  cases hq : P.info? ty with
  | none => rw [hq] at hi; cases hi
  | some i =>
    have hs : i.size = cs.toList.length := by rw [hq] at hi; simpa using hi
    have hagg : (isAgg ty).run P w = .ok true w := by
      unfold isAgg
      rw [Sem.run_bind, run_underlying hu w]
      cases d <;> first | rfl | cases hd
    have hlv : (loadVar ty a).run P w = .ok (.agg cs) w := by
      rw [← hs] at hl
      simp [loadVar, hagg, sizeOf, typeInfo, hq, hl]
    simp only [Instr.loadAt, Instr.sureAddr, Sem.run_bind, Sem.run_pure, Result.andThen_ok, hlv]

end Go.Proofs.YtipaapplingbnaaDoor
