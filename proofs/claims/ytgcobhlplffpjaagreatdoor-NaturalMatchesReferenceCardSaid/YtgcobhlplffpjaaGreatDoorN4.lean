/- Walks: guarded where the operation also writes a variable that was there before. -/
import Derived.Test.YtgcobhlplffpjaaGreatDoorN3
namespace Go.Proofs.YtgcobhlplffpjaaGreatDoor
open Go.RowKit Go.Deep

def GivesP (g : Nat) (w : World) : Out → Ending → World → Prop
  | .num v, e, w' => Only g w w' ∧ ∃ A, e = .returned (.slice A (limbs v).length (limbs v).length) ∧ RdW w' w'.heap.size A (limbs v)
  | .err k, e, w' => Only g w w' ∧ e = failed k
def EndsP (g : Nat) (w : World) (l : List Nat) (k : Int) (e : Ending) (w' : World) : Prop :=
  Only g w w' ∧ ∃ A, e = .returned (.tuple #[.slice A l.length l.length, .int .i64 k]) ∧ RdW w' w'.heap.size A l
theorem Only.alloc {g : Nat} {a w : World} (h : Only g a w) (o : Obj) : Only g a (w.alloc o) := h.trans (Only.of_below ((Below.refl _ _).alloc (Nat.le_refl _) o))
theorem Only.setNew {g : Nat} {a w : World} (h : Only g a w) (p : Addr) (hp : a.heap.size ≤ p.block) (v : Value) : Only g a (w.setCell p v) :=
  ⟨h.os, h.tape, h.output, by rw [nblk_setCell]; exact h.size, fun k hk hl => (blk_setCell_other _ _ _ _ (by omega)).trans (h.block k hk hl)⟩
theorem Only.cell {g : Nat} {w w' : World} (h : Only g w w') {p : Addr} (hp : p.block ≠ g) (hl : p.block < w.heap.size) : w'.cell? p = w.cell? p := World.cell?_of_block (h.block _ hp hl)
theorem Only.frozen {g : Nat} {w w' : World} (h : Only g w w') {p : Addr} (hp : p.block ≠ g) (hl : p.block < w.heap.size) : w'.frozen? p = w.frozen? p := World.frozen?_of_block (h.block _ hp hl)
theorem Only.drew {g : Nat} {a w : World} (h : Only g a w) : Only g a w.drew := ⟨h.os, h.tape, h.output, h.size, h.block⟩

set_option maxRecDepth 100000 in
set_option maxHeartbeats 1000000 in
theorem guarded_box (w : World) (k : FuncId) (cap : Array Value) (g : Nat) (hg : g < w.heap.size) (o : Out) (hen : ∀ w1, (callFunc k cap).run Tryz.prog w1 = .ok (.enter k cap) w1) (hop : ∀ w1, Below w.heap.size w w1 → Calls Tryz.prog k cap w1 (GivesP g w1 o)) :
    Calls Tryz.prog 35 #[.func (.func k) #[] cap, .slice none 0 0] w (EndsP g w o.l o.e) := by
  have HO := Lib.hid hop; clear hop
  have hmf : ∀ (fn : Fn) (first cap : Array Value) (w : World), (Instr.makeFunc fn first cap).run Tryz.prog w = .ok (.func fn first cap) w := fun _ _ _ _ => rfl
  go_enter_defers Tryz.func35, Tryz.ntmps35
  go_wp2
  have b0 : Below w.heap.size w ((w.alloc (.cells #[.slice none 0 0] 23)).alloc (.cells #[.int .i64 0] 26)) := ((Below.refl _ _).alloc (Nat.le_refl _) _).alloc (by simp) _
  go_loopw [10] (fun i wx => GRel w 0 i wx) (fun i _ => 0 - (intOf i).toNat)
  case atStart => exact ⟨0, Nat.zero_le _, rfl, rfl⟩
  case round =>
    obtain ⟨j, hj, rfl, rfl⟩ := hrel
    obtain rfl : j = 0 := by omega
    have c1 : ((w.alloc (.cells #[.slice none 0 0] 23)).alloc (.cells #[.int .i64 0] 26)).cell? ⟨w.heap.size, 0, none⟩ = some (.slice none 0 0) := by simp [go_sem]
    have c2 : ((w.alloc (.cells #[.slice none 0 0] 23)).alloc (.cells #[.int .i64 0] 26)).cell? ⟨w.heap.size + 1, 0, none⟩ = some (.int .i64 0) := by simp [go_sem]
    have c3 : ((w.alloc (.cells #[.slice none 0 0] 23)).alloc (.cells #[.int .i64 0] 26)).frozen? ⟨w.heap.size, 0, none⟩ = false := by simp [go_sem]
    have c4 : ((w.alloc (.cells #[.slice none 0 0] 23)).alloc (.cells #[.int .i64 0] 26)).frozen? ⟨w.heap.size + 1, 0, none⟩ = false := by simp [go_sem]
    have hz : ((w.alloc (.cells #[.slice none 0 0] 23)).alloc (.cells #[.int .i64 0] 26)).heap.size = w.heap.size + 2 := by simp
    obtain ⟨W, hW⟩ : ∃ W, (w.alloc (.cells #[.slice none 0 0] 23)).alloc (.cells #[.int .i64 0] 26) = W := ⟨_, rfl⟩
    rw [hW] at b0 c1 c2 c3 c4 hz ⊢
    have HC := Lib.hid (And.intro c1 (And.intro c2 (And.intro c3 (And.intro c4 hz))))
    clear hW c1 c2 c3 c4 hz
    cases o with
    | num v =>
      go_wp2_with (((with_reducible refine (HO.out _ b0).mono ?_); rintro e w' ⟨hb, A', rfl, hr⟩; have hb1 := Lib.hid hb; have hr1 := Lib.hid hr; clear hb hr; obtain ⟨c1, c2, c3, c4, hz⟩ := HC.out; replace c1 := (hb1.out.cell (p := ⟨w.heap.size, 0, none⟩) (show w.heap.size ≠ g by omega) (show w.heap.size < W.heap.size by omega)).trans c1; replace c2 := (hb1.out.cell (p := ⟨w.heap.size + 1, 0, none⟩) (show w.heap.size + 1 ≠ g by omega) (show w.heap.size + 1 < W.heap.size by omega)).trans c2; replace c3 := (hb1.out.frozen (p := ⟨w.heap.size, 0, none⟩) (show w.heap.size ≠ g by omega) (show w.heap.size < W.heap.size by omega)).trans c3; replace c4 := (hb1.out.frozen (p := ⟨w.heap.size + 1, 0, none⟩) (show w.heap.size + 1 ≠ g by omega) (show w.heap.size + 1 < W.heap.size by omega)).trans c4; clear hz))
      obtain ⟨-, -, -, -, hz⟩ := HC.out
      refine leaves_cons (f := 63) (args := #[.pointer (some ⟨w.heap.size, 0, none⟩), .pointer (some ⟨w.heap.size + 1, 0, none⟩)]) (by simp) (by simp [go_sem]) ?_
      refine (catch_idle _ _ _).mono ?_
      rintro e u' w'' ⟨rfl, rfl, rfl⟩
      simp [Leaves, settle, results, Tryz.results35, go_sem, c1, c2]
      refine ⟨(((Only.of_below b0).trans hb1.out).setNew ⟨w.heap.size, 0, none⟩ (Nat.le_refl _) _).setNew ⟨w.heap.size + 1, 0, none⟩ (Nat.le_succ _) _, A', rfl, ?_⟩
      refine (RdW.setOther (RdW.setOther hr1.out (fun x h => ?_) _) (fun x h => ?_) _).mono (by simp)
      · rw [c1] at h; cases h
      · rw [World.cell?_setCell_other, c2] at h
        · cases h
        · simp
    | err x =>
      go_wp2_with (((with_reducible refine (HO.out _ b0).mono ?_); rintro e w' ⟨hb, rfl⟩; unfold failed; have hb1 := Lib.hid hb; clear hb; obtain ⟨c1, c2, c3, c4, hz⟩ := HC.out; replace c1 := (hb1.out.cell (p := ⟨w.heap.size, 0, none⟩) (show w.heap.size ≠ g by omega) (show w.heap.size < W.heap.size by omega)).trans c1; replace c2 := (hb1.out.cell (p := ⟨w.heap.size + 1, 0, none⟩) (show w.heap.size + 1 ≠ g by omega) (show w.heap.size + 1 < W.heap.size by omega)).trans c2; replace c3 := (hb1.out.frozen (p := ⟨w.heap.size, 0, none⟩) (show w.heap.size ≠ g by omega) (show w.heap.size < W.heap.size by omega)).trans c3; replace c4 := (hb1.out.frozen (p := ⟨w.heap.size + 1, 0, none⟩) (show w.heap.size + 1 ≠ g by omega) (show w.heap.size + 1 < W.heap.size by omega)).trans c4; clear hz))
      obtain ⟨-, -, -, -, hz⟩ := HC.out
      refine leaves_cons (f := 63) (args := #[.pointer (some ⟨w.heap.size, 0, none⟩), .pointer (some ⟨w.heap.size + 1, 0, none⟩)]) (by simp) (by simp [go_sem]) ?_
      refine (catch_failed _ _ _ _ x [] _ c1 c3 c2 c4 (by simp)).mono ?_
      rintro e u' w'' ⟨rfl, rfl, rfl⟩
      simp [Leaves, settle, results, Tryz.results35, go_sem, c1, c2]
      exact ⟨((((Only.of_below b0).trans hb1.out).setNew ⟨w.heap.size, 0, none⟩ (Nat.le_refl _) _).setNew ⟨w.heap.size + 1, 0, none⟩ (Nat.le_succ _) _).drew, none, rfl, RdW.nil _ _ _⟩

end Go.Proofs.YtgcobhlplffpjaaGreatDoor
