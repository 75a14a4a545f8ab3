/- Words for Walk; walks: its closure. -/
import Derived.Test.YtipaapplingbnaaDoorCp
namespace Go.Proofs.YtipaapplingbnaaDoor
open Go.RowKit Go.Deep

/-- A take. -/
structure Tk where
  s : Int
  c : Int
  n : Int
  d : Int
abbrev Tk.cells (t : Tk) : Array Value := #[.int .i64 t.s, .int .i64 t.c, .int .i64 t.n, .int .i64 t.d]
def Tk.cs (t : Tk) : List Value := t.cells.toList
theorem Tk.cs_len (t : Tk) : t.cs.length = 4 := rfl
/-- The slice at A shows the takes ts. -/
def RdT (w : World) (B : Nat) (A : Option Addr) (ts : List Tk) : Prop := Shows w B 4 A ts.length (rcells Tk.cs ts)
theorem RdT.up {w w' : World} {A : Option Addr} {ts : List Tk} (h : RdT w w.heap.size A ts) (hb : Below w.heap.size w w') : RdT w' w'.heap.size A ts := (h.below hb).wider hb.size
structure TkAt (w : World) (p : Addr) (t : Tk) : Prop where
  s : w.cell? p = some (.int .i64 t.s)
  c : w.cell? ⟨p.block, p.off + 1, none⟩ = some (.int .i64 t.c)
  n : w.cell? ⟨p.block, p.off + 2, none⟩ = some (.int .i64 t.n)
  d : w.cell? ⟨p.block, p.off + 3, none⟩ = some (.int .i64 t.d)
theorem RdT.at {w : World} {B : Nat} {A : Option Addr} {ts : List Tk} (h : RdT w B A ts) {i : Nat} (hi : i < ts.length) : ∃ ad, A = some ad ∧ ad.block < B ∧ TkAt w (ad.add (i * 4)) ts[i] := by
  obtain ⟨ad, rfl, hb, hc⟩ := Shows.rec Tk.cs 4 Tk.cs_len h rfl hi
  have h0 := hc 0 (by omega)
  rw [show (ad.add (i * 4)).add 0 = ad.add (i * 4) from by simp [Addr.add]] at h0
  have hj : ∀ j, j < 3 → w.cell? ⟨(ad.add (i * 4)).block, (ad.add (i * 4)).off + (j + 1), none⟩ = ts[i].cs[j + 1]? := fun j hj => by rw [← add_off]; exact hc (j + 1) (by omega)
  exact ⟨ad, rfl, hb, h0, hj 0 (by omega), hj 1 (by omega), hj 2 (by omega)⟩
/-- What is wrong with a take. -/
def wrongT (n : Nat) (k : Nat) (t : Tk) : Bool :=
  (t.s != (k : Int) + 1) || decide (t.c < 0) || decide ((n : Int) ≤ t.c) || decide (t.d < 0) || decide (8 ≤ t.d) || (if t.n = 0 then t.c != 0 else t.n != 1 && t.n != -1)

theorem wrong_s {n k : Nat} {s c m d : Int} (h : (s != (k : Int) + 1) = true) : wrongT n k ⟨s, c, m, d⟩ = true := by simp [wrongT, h]
theorem wrong_c {n k : Nat} {s c m d : Int} (h : c < 0) : wrongT n k ⟨s, c, m, d⟩ = true := by simp [wrongT, h]
theorem wrong_n {n k : Nat} {s c m d : Int} (h : (n : Int) ≤ c) : wrongT n k ⟨s, c, m, d⟩ = true := by simp [wrongT, h]
theorem wrong_d {n k : Nat} {s c m d : Int} (h : d < 0) : wrongT n k ⟨s, c, m, d⟩ = true := by simp [wrongT, h]
theorem wrong_8 {n k : Nat} {s c m d : Int} (h : 8 ≤ d) : wrongT n k ⟨s, c, m, d⟩ = true := by simp [wrongT, h]
theorem wrong_z {n k : Nat} {s c m d : Int} (h1 : (s != (k : Int) + 1) = false) (h2 : 0 ≤ c) (h3 : c < n) (h4 : 0 ≤ d) (h5 : d < 8) (h6 : (m == 0) = true) : wrongT n k ⟨s, c, m, d⟩ = (c != 0) := by
  have e2 : ¬ c < 0 := by omega
  have e3 : ¬ (n : Int) ≤ c := by omega
  have e4 : ¬ d < 0 := by omega
  have e5 : ¬ 8 ≤ d := by omega
  rw [beq_iff_eq] at h6
  simp [wrongT, h1, e2, e3, e4, e5, h6]
theorem wrong_o {n k : Nat} {s c m d : Int} (h1 : (s != (k : Int) + 1) = false) (h2 : 0 ≤ c) (h3 : c < n) (h4 : 0 ≤ d) (h5 : d < 8) (h6 : (m == 0) = false) : wrongT n k ⟨s, c, m, d⟩ = (m != 1 && m != -1) := by
  have e2 : ¬ c < 0 := by omega
  have e3 : ¬ (n : Int) ≤ c := by omega
  have e4 : ¬ d < 0 := by omega
  have e5 : ¬ 8 ≤ d := by omega
  rw [beq_eq_false_iff_ne] at h6
  simp [wrongT, h1, e2, e3, e4, e5, h6]

set_option maxRecDepth 100000 in
set_option maxHeartbeats 4000000 in
theorem wrong_any (w : World) (b : Nat) (A : Option Addr) (c n k : Nat) (t : Tk) (hk : k < 100) (hb : w.cell? ⟨b, 0, none⟩ = some (.slice A n c)) :
    Calls Tryd.prog 26 #[.int .i64 (k : Int), .agg t.cells, .pointer (some ⟨b, 0, none⟩)] w fun e w' => e = .returned (.bool (wrongT n k t)) ∧ Below w.heap.size w w' := by
  have hbl := World.block_lt_of_cell? w _ hb
  have hc2 := (World.cell?_alloc_lt w (.cells t.cells 37) ⟨b, 0, none⟩ hbl).trans hb
  obtain ⟨s, cc, nn, d⟩ := t
  have hwk : IntKind.i64.wrap ((k : Int) + 1) = (k : Int) + 1 := IntWalk.i64_in _ (by omega)
  clear hb hbl
  obtain ⟨R, hR⟩ : ∃ R, wrongT n k ⟨s, cc, nn, d⟩ = R := ⟨_, rfl⟩
  rw [hR]
  have HR := Lib.hid hR
  clear hR
  go_enter Tryd.func26, Tryd.ntmps26
  go_wp2
  all_goals
    refine bodyPost_ret (results_tmp rfl _ _ _) rfl ?_
    refine ⟨?_, (Below.refl _ _).alloc (Nat.le_refl _) _⟩
    rw [← HR.out]
    first
      | exact congrArg (fun q => Ending.returned (Value.bool q)) (wrong_s ‹(s != (k : Int) + 1) = true›).symm
      | exact congrArg (fun q => Ending.returned (Value.bool q)) (wrong_c ‹cc < 0›).symm
      | exact congrArg (fun q => Ending.returned (Value.bool q)) (wrong_n ‹(n : Int) ≤ cc›).symm
      | exact congrArg (fun q => Ending.returned (Value.bool q)) (wrong_d ‹d < 0›).symm
      | exact congrArg (fun q => Ending.returned (Value.bool q)) (wrong_8 ‹8 ≤ d›).symm
      | exact congrArg (fun q => Ending.returned (Value.bool q)) (wrong_z ‹(s != (k : Int) + 1) = false› ‹0 ≤ cc› ‹cc < n› ‹0 ≤ d› ‹d < 8› ‹(nn == 0) = true›).symm
      | exact congrArg (fun q => Ending.returned (Value.bool q)) (wrong_o ‹(s != (k : Int) + 1) = false› ‹0 ≤ cc› ‹cc < n› ‹0 ≤ d› ‹d < 8› ‹(nn == 0) = false›).symm
      | exact congrArg (fun q => Ending.returned (Value.bool q)) ((wrong_o ‹(s != (k : Int) + 1) = false› ‹0 ≤ cc› ‹cc < n› ‹0 ≤ d› ‹d < 8› ‹(nn == 0) = false›).trans (by rw [‹nn = 1›]; rfl)).symm

/-- The shift behind the first k takes. -/
def shV (l : List Cm) (ts : List Tk) : Nat → Vc
  | 0 => zeroV
  | k + 1 => (shV l ts k).addm (ts.getD k ⟨0, 0, 0, 0⟩).n (l.getD (ts.getD k ⟨0, 0, 0, 0⟩).c.toNat ⟨[], zeroV⟩).v
/-- No take is wrong. -/
def okT (n : Nat) (ts : List Tk) : Bool := decide (∀ k, k < ts.length → wrongT n k (ts.getD k ⟨0, 0, 0, 0⟩) = false)
def okS (l : List Cm) (ts : List Tk) : Bool := decide (∀ k, k ≤ ts.length → (shV l ts k).ok = true)
noncomputable def walkE (l : List Cm) (ts : List Tk) : Int := if validB l && decide (ts.length < 16) && okT l.length ts then (if okS l ts then 0 else 3) else 1
noncomputable def walkV (l : List Cm) (ts : List Tk) : List Vc := if validB l && decide (ts.length < 16) && okT l.length ts && okS l ts then (List.range (ts.length + 1)).map (shV l ts) else []
def WalkEnds (w : World) (l : List Cm) (ts : List Tk) (e : Ending) (w' : World) : Prop :=
  Below w.heap.size w w' ∧ ∃ A c, e = .returned (.tuple #[.slice A (walkV l ts).length c, .int .i64 (walkE l ts)]) ∧ RdV w' w'.heap.size A (walkV l ts)
theorem getD_at {α : Type} {l : List α} {i : Nat} (h : i < l.length) (d : α) : l.getD i d = l[i] := by rw [List.getD_eq_getElem?_getD, List.getElem?_eq_getElem h]; rfl
theorem wrong_small {n k : Nat} {t : Tk} (h : wrongT n k t = false) : 0 ≤ t.c ∧ t.c < n ∧ (t.n = 0 ∨ t.n = 1 ∨ t.n = -1) := by
  unfold wrongT at h
  simp only [Bool.or_eq_false_iff, decide_eq_false_iff_not] at h
  obtain ⟨⟨⟨⟨⟨h1, h2⟩, h3⟩, h4⟩, h5⟩, h6⟩ := h
  refine ⟨by omega, by omega, ?_⟩
  by_cases h0 : t.n = 0
  · exact .inl h0
  · rw [if_neg h0] at h6
    by_cases ha : t.n = 1
    · exact .inr (.inl ha)
    · by_cases hb : t.n = -1
      · exact .inr (.inr hb)
      · simp [ha, hb] at h6
theorem shV_small (l : List Cm) (hv : ∀ x ∈ l, x.v.ok = true) (ts : List Tk) (ht : okT l.length ts = true) (k : Nat) (hk : k ≤ ts.length) (j : Nat) (hj : j < 6) : ((shV l ts k).at j).natAbs ≤ 48 * k := by
  induction k with
  | zero => rw [shV, zeroV_at]; simp
  | succ k ih =>
    have h1 := ih (by omega)
    obtain ⟨c0, c1, c2⟩ := wrong_small (of_decide_eq_true ht k (by omega))
    rw [shV, Vc.addm_at]
    have hlt : (ts.getD k ⟨0, 0, 0, 0⟩).c.toNat < l.length := by omega
    have h3 := (Vc.ok_iff _).1 (hv _ (List.getElem_mem hlt)) j hj
    have e : l.getD (ts.getD k ⟨0, 0, 0, 0⟩).c.toNat ⟨[], zeroV⟩ = l[(ts.getD k ⟨0, 0, 0, 0⟩).c.toNat] := getD_at hlt _
    rw [e]
    rcases c2 with c2 | c2 | c2 <;> rw [c2] <;> omega

end Go.Proofs.YtipaapplingbnaaDoor
