/- Walks: guarded, whatever operation it is given. -/
import Derived.Test.YtgcobhlplffpjaaGreatDoorNo
namespace Go.Proofs.YtgcobhlplffpjaaGreatDoor
open Go.RowKit Go.Deep

/-- What an operation comes to: a number, or an error. -/
inductive Out where
  | num (v : Nat)
  | err (k : Int)
def GivesO (w : World) : Out → Ending → World → Prop
  | .num v, e, w' => Below w.heap.size w w' ∧ ∃ A, e = .returned (.slice A (limbs v).length (limbs v).length) ∧ RdW w' w'.heap.size A (limbs v)
  | .err k, e, w' => Below w.heap.size w w' ∧ e = failed k
def cutO (v : Nat) : Out := if (limbs v).length ≤ 640 then .num v else .err 2
def diffO (x y : Nat) : Out := if y ≤ x then cutO (x - y) else .err 3
theorem givesO_of {w w' : World} {v : Nat} {e : Ending} (h : Gives w v e w') : GivesO w (cutO v) e w' := by
  obtain ⟨hb, h⟩ := h
  unfold cutO
  split
  · rename_i h6
    rw [if_pos h6] at h
    exact ⟨hb, h⟩
  · rename_i h6
    rw [if_neg h6] at h
    exact ⟨hb, h⟩
theorem givesO_diff {w w' : World} {x y : Nat} {e : Ending} (h : GivesDiff w x y e w') : GivesO w (diffO x y) e w' := by
  unfold GivesDiff at h
  unfold diffO
  split
  · rename_i h6
    rw [if_pos h6] at h
    exact givesO_of h
  · rename_i h6
    rw [if_neg h6] at h
    exact ⟨h.2, h.1⟩
def Out.l : Out → List Nat
  | .num v => limbs v
  | .err _ => []
def Out.e : Out → Int
  | .num _ => 0
  | .err k => k
/-- A number and an error handed back. -/
def Ends (w : World) (l : List Nat) (k : Int) (e : Ending) (w' : World) : Prop :=
  Below w.heap.size w w' ∧ ∃ A, e = .returned (.tuple #[.slice A l.length l.length, .int .i64 k]) ∧ RdW w' w'.heap.size A l
/-- The arguments that guarded looks at. -/
def Args (w : World) (A : Option Addr) (n : Nat) (X : Nat → Option Addr × List Nat × Nat) : Prop :=
  ∀ i, i < n → ∃ ad, A = some ad ∧ ad.block < w.heap.size ∧ w.cell? (ad.add i) = some (.slice (X i).1 (X i).2.1.length (X i).2.2) ∧ RdW w w.heap.size (X i).1 (X i).2.1 ∧ (X i).2.1.length ≤ 9223372036854775807

theorem RdW.setOther {w : World} {B : Nat} {A : Option Addr} {l : List Nat} (h : RdW w B A l) {p : Addr} (hp : ∀ x : Int, w.cell? p ≠ some (.int .u32 x)) (v : Value) : RdW (w.setCell p v) B A l := fun hl => by
  obtain ⟨ad, rfl, hlt, hc⟩ := h hl
  refine ⟨ad, rfl, hlt, fun j hj => ?_⟩
  rw [World.cell?_setCell_other]
  · exact hc j hj
  · rintro rfl
    exact hp _ (hc j hj)
def GRel (w : World) (n : Nat) (i : Value) (wx : World) : Prop := ∃ j : Nat, j ≤ n ∧ i = .int .i64 j ∧ wx = (w.alloc (.cells #[.slice none 0 0] 23)).alloc (.cells #[.int .i64 0] 26)

set_option maxRecDepth 100000 in
set_option maxHeartbeats 1000000 in
theorem guarded_ok (w : World) (k : FuncId) (cap : Array Value) (X : Nat → Option Addr × List Nat × Nat) (n c : Nat) (A : Option Addr) (hn : n ≤ 2) (hA : Args w A n X) (hX : ∀ i, i < n → isNat (X i).2.1 = true) (o : Out) (hen : ∀ w1, (callFunc k cap).run Tryz.prog w1 = .ok (.enter k cap) w1) (hop : ∀ w1, Below w.heap.size w w1 → Calls Tryz.prog k cap w1 (GivesO w1 o)) :
    Calls Tryz.prog 35 #[.func (.func k) #[] cap, .slice A n c] w (Ends w o.l o.e) := by
  have HA := Lib.hid hA; clear hA
  have HX := Lib.hid hX; clear hX
  have HO := Lib.hid hop; clear hop
  have hmf : ∀ (fn : Fn) (first cap : Array Value) (w : World), (Instr.makeFunc fn first cap).run Tryz.prog w = .ok (.func fn first cap) w := fun _ _ _ _ => rfl
  go_enter_defers Tryz.func35, Tryz.ntmps35
  go_wp2
  have b0 : Below w.heap.size w ((w.alloc (.cells #[.slice none 0 0] 23)).alloc (.cells #[.int .i64 0] 26)) := ((Below.refl _ _).alloc (Nat.le_refl _) _).alloc (by simp) _
  go_loopw [10] (fun i wx => GRel w n i wx) (fun i _ => n - (intOf i).toNat)
  case atStart => exact ⟨0, Nat.zero_le _, rfl, rfl⟩
  case round =>
    obtain ⟨j, hj, rfl, rfl⟩ := hrel
    by_cases hlt : j < n
    · obtain ⟨ad, rfl, hlt0, hc, hr, hl⟩ := HA.out j hlt
      have hcx := (b0.cell (p := ad.add j) (by rw [add_block]; exact hlt0)).trans hc
      have HV := Lib.hid (valid_any _ _ _ (X j).2.2 _ (hr.below b0 (Nat.le_refl _)) hl)
      rw [HX.out j hlt] at HV
      clear hc hr
      generalize (X j).2.1.length = m at *
      go_wp2_with (go_at_call 13; refine HV.out.mono ?_; rintro e w' ⟨rfl, rfl⟩)
      go_roundw
      case rel => exact ⟨j + 1, by omega, by go_num, rfl⟩
      case measure => simp [intOf]; omega
    · have c1 : ((w.alloc (.cells #[.slice none 0 0] 23)).alloc (.cells #[.int .i64 0] 26)).cell? ⟨w.heap.size, 0, none⟩ = some (.slice none 0 0) := by simp [go_sem]
      have c2 : ((w.alloc (.cells #[.slice none 0 0] 23)).alloc (.cells #[.int .i64 0] 26)).cell? ⟨w.heap.size + 1, 0, none⟩ = some (.int .i64 0) := by simp [go_sem]
      have c3 : ((w.alloc (.cells #[.slice none 0 0] 23)).alloc (.cells #[.int .i64 0] 26)).frozen? ⟨w.heap.size, 0, none⟩ = false := by simp [go_sem]
      have c4 : ((w.alloc (.cells #[.slice none 0 0] 23)).alloc (.cells #[.int .i64 0] 26)).frozen? ⟨w.heap.size + 1, 0, none⟩ = false := by simp [go_sem]
      have hz : ((w.alloc (.cells #[.slice none 0 0] 23)).alloc (.cells #[.int .i64 0] 26)).heap.size = w.heap.size + 2 := by simp
      obtain ⟨W, hW⟩ : ∃ W, (w.alloc (.cells #[.slice none 0 0] 23)).alloc (.cells #[.int .i64 0] 26) = W := ⟨_, rfl⟩
      rw [hW] at b0 c1 c2 c3 c4 hz ⊢
      have HC := Lib.hid (And.intro c1 (And.intro c2 (And.intro c3 (And.intro c4 hz))))
      clear hW c1 c2 c3 c4 hz
      cases o with
      | num v =>
        go_wp2_with (((with_reducible refine (HO.out _ b0).mono ?_); rintro e w' ⟨hb, A', rfl, hr⟩; have hb1 := Lib.hid hb; have hr1 := Lib.hid hr; clear hb hr; obtain ⟨c1, c2, c3, c4, hz⟩ := HC.out; replace c1 := (hb1.out.cell (p := ⟨w.heap.size, 0, none⟩) (show w.heap.size < W.heap.size by omega)).trans c1; replace c2 := (hb1.out.cell (p := ⟨w.heap.size + 1, 0, none⟩) (show w.heap.size + 1 < W.heap.size by omega)).trans c2; replace c3 := (hb1.out.frozen (p := ⟨w.heap.size, 0, none⟩) (show w.heap.size < W.heap.size by omega)).trans c3; replace c4 := (hb1.out.frozen (p := ⟨w.heap.size + 1, 0, none⟩) (show w.heap.size + 1 < W.heap.size by omega)).trans c4; clear hz))
        obtain ⟨-, -, -, -, hz⟩ := HC.out
        refine leaves_cons (f := 63) (args := #[.pointer (some ⟨w.heap.size, 0, none⟩), .pointer (some ⟨w.heap.size + 1, 0, none⟩)]) (by simp) (by simp [go_sem]) ?_
        refine (catch_idle _ _ _).mono ?_
        rintro e u' w'' ⟨rfl, rfl, rfl⟩
        simp [Leaves, settle, results, Tryz.results35, go_sem, c1, c2]
        have B := ((b0.trans (hb1.out.mono (by omega))).setCell (p := ⟨w.heap.size, 0, none⟩) (Nat.le_refl _) (.slice A' (limbs v).length (limbs v).length)).setCell (p := ⟨w.heap.size + 1, 0, none⟩) (Nat.le_succ _) (.int .i64 0)
        refine ⟨B, A', rfl, ?_⟩
        refine (RdW.setOther (RdW.setOther hr1.out (fun x h => ?_) _) (fun x h => ?_) _).mono (by simp)
        · rw [c1] at h; cases h
        · rw [World.cell?_setCell_other, c2] at h
          · cases h
          · simp
      | err x =>
        go_wp2_with (((with_reducible refine (HO.out _ b0).mono ?_); rintro e w' ⟨hb, rfl⟩; unfold failed; have hb1 := Lib.hid hb; clear hb; obtain ⟨c1, c2, c3, c4, hz⟩ := HC.out; replace c1 := (hb1.out.cell (p := ⟨w.heap.size, 0, none⟩) (show w.heap.size < W.heap.size by omega)).trans c1; replace c2 := (hb1.out.cell (p := ⟨w.heap.size + 1, 0, none⟩) (show w.heap.size + 1 < W.heap.size by omega)).trans c2; replace c3 := (hb1.out.frozen (p := ⟨w.heap.size, 0, none⟩) (show w.heap.size < W.heap.size by omega)).trans c3; replace c4 := (hb1.out.frozen (p := ⟨w.heap.size + 1, 0, none⟩) (show w.heap.size + 1 < W.heap.size by omega)).trans c4; clear hz))
        obtain ⟨-, -, -, -, hz⟩ := HC.out
        refine leaves_cons (f := 63) (args := #[.pointer (some ⟨w.heap.size, 0, none⟩), .pointer (some ⟨w.heap.size + 1, 0, none⟩)]) (by simp) (by simp [go_sem]) ?_
        refine (catch_failed _ _ _ _ x [] _ c1 c3 c2 c4 (by simp)).mono ?_
        rintro e u' w'' ⟨rfl, rfl, rfl⟩
        simp [Leaves, settle, results, Tryz.results35, go_sem, c1, c2]
        exact ⟨(((b0.trans (hb1.out.mono (by omega))).setCell (p := ⟨w.heap.size, 0, none⟩) (Nat.le_refl _) _).setCell (p := ⟨w.heap.size + 1, 0, none⟩) (Nat.le_succ _) _).drew, none, rfl, RdW.nil _ _ _⟩

set_option maxRecDepth 100000 in
set_option maxHeartbeats 1000000 in
theorem guarded_bad (w : World) (k : FuncId) (cap : Array Value) (X : Nat → Option Addr × List Nat × Nat) (n c : Nat) (A : Option Addr) (hn : n ≤ 2) (hA : Args w A n X) (j0 : Nat) (hj0 : j0 < n) (hX : ∀ i, i < j0 → isNat (X i).2.1 = true) (hbad : isNat (X j0).2.1 = false) :
    Calls Tryz.prog 35 #[.func (.func k) #[] cap, .slice A n c] w (Ends w [] 1) := by
  have HA := Lib.hid hA; clear hA
  have HX := Lib.hid hX; clear hX
  have HBD := Lib.hid hbad; clear hbad
  go_enter_defers Tryz.func35, Tryz.ntmps35
  go_wp2
  have b0 : Below w.heap.size w ((w.alloc (.cells #[.slice none 0 0] 23)).alloc (.cells #[.int .i64 0] 26)) := ((Below.refl _ _).alloc (Nat.le_refl _) _).alloc (by simp) _
  go_loopw [10] (fun i wx => GRel w j0 i wx) (fun i _ => n - (intOf i).toNat)
  case atStart => exact ⟨0, Nat.zero_le _, rfl, rfl⟩
  case round =>
    obtain ⟨j, hj, rfl, rfl⟩ := hrel
    obtain ⟨ad, rfl, hlt0, hc, hr, hl⟩ := HA.out j (by omega)
    have hcx := (b0.cell (p := ad.add j) (by rw [add_block]; exact hlt0)).trans hc
    have HV := Lib.hid (valid_any _ _ _ (X j).2.2 _ (hr.below b0 (Nat.le_refl _)) hl)
    clear hc hr
    have hjn : j < n := by omega
    by_cases hlt : j < j0
    · rw [HX.out j hlt] at HV
      generalize (X j).2.1.length = m at *
      go_wp2_with (go_at_call 13; refine HV.out.mono ?_; rintro e w' ⟨rfl, rfl⟩)
      go_roundw
      case rel => exact ⟨j + 1, by omega, by go_num, rfl⟩
      case measure => simp [intOf]; omega
    · have hjj : j = j0 := by omega
      rw [hjj, HBD.out] at HV
      rw [hjj] at hl hcx
      generalize (X j0).2.1.length = m at *
      go_wp2_with (go_at_call 13; refine HV.out.mono ?_; rintro e w' ⟨rfl, rfl⟩)
      simp [bodyPostD, Leaves, results, Tryz.results35, go_sem]
      exact ⟨((Below.refl _ _).alloc (Nat.le_refl _) _).alloc (by simp) _, none, rfl, RdW.nil _ _ _⟩

end Go.Proofs.YtgcobhlplffpjaaGreatDoor
