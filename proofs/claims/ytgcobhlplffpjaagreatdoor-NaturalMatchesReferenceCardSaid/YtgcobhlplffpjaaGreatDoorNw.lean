/- Walks: Add, Sub, Mul. -/
import Derived.Test.YtgcobhlplffpjaaGreatDoorNv
namespace Go.Proofs.YtgcobhlplffpjaaGreatDoor
open Go.RowKit Go.Deep

def EndsO (w : World) (o : Out) (e : Ending) (w' : World) : Prop := Ends w o.l o.e e w'
theorem EndsO.on {w w1 w2 : World} {o : Out} {e : Ending} (h : EndsO w1 o e w2) (hb : Below w.heap.size w w1) : EndsO w o e w2 := ⟨below_on hb h.1, h.2⟩
def both (a b : List Nat) (o : Out) : Out := if isNat a && isNat b then o else .err 1

theorem guarded_two (W : World) (k : FuncId) (cap : Array Value) (g : Nat) (c : Nat) (A1 A2 : Option Addr) (c1 c2 : Nat) (a b : List Nat) (h1 : W.cell? ⟨g, 0, none⟩ = some (.slice A1 a.length c1)) (h2 : W.cell? ⟨g, 1, none⟩ = some (.slice A2 b.length c2)) (hg : g < W.heap.size)
    (ra : RdW W W.heap.size A1 a) (rb : RdW W W.heap.size A2 b) (na : a.length ≤ 9223372036854775807) (nb : b.length ≤ 9223372036854775807) (o : Out) (hen : ∀ w1, (callFunc k cap).run Tryz.prog w1 = .ok (.enter k cap) w1) (hop : isNat a = true → isNat b = true → ∀ w1, Below W.heap.size W w1 → Calls Tryz.prog k cap w1 (GivesO w1 o)) :
    Calls Tryz.prog 35 #[.func (.func k) #[] cap, .slice (some ⟨g, 0, none⟩) 2 c] W (EndsO W (both a b o)) := by
  have hA : Args W (some ⟨g, 0, none⟩) 2 (fun i => if i = 0 then (A1, a, c1) else (A2, b, c2)) := fun i hi => by
    refine ⟨_, rfl, hg, ?_⟩
    rcases (show i = 0 ∨ i = 1 by omega) with rfl | rfl
    · exact ⟨by simpa [Addr.add] using h1, by simpa using ra, by simpa using na⟩
    · exact ⟨by simpa [Addr.add] using h2, by simpa using rb, by simpa using nb⟩
  unfold both
  rcases ha : isNat a with _ | _
  · exact guarded_bad W k cap _ 2 c _ (by omega) hA 0 (by omega) (fun i hi => absurd hi (Nat.not_lt_zero _)) (by simpa using ha)
  · rcases hb : isNat b with _ | _
    · exact guarded_bad W k cap _ 2 c _ (by omega) hA 1 (by omega) (fun i hi => by obtain rfl : i = 0 := by omega
                                                                                   simpa using ha) (by simpa using hb)
    · exact guarded_ok W k cap _ 2 c _ (by omega) hA (fun i hi => by
        rcases (show i = 0 ∨ i = 1 by omega) with rfl | rfl
        · simpa using ha
        · simpa using hb) o hen (hop ha hb)

def addO (a b : List Nat) : Out := both a b (cutO (val a + val b))
def mulO (a b : List Nat) : Out := both a b (cutO (val a * val b))
def subO (a b : List Nat) : Out := both a b (diffO (val a) (val b))

/-- The memory behind the making of the closure and of the list of the arguments. -/
theorem api_world (w : World) (A1 A2 : Option Addr) (c1 c2 : Nat) (a b : List Nat) (k : FuncId) (o : Out) (ra : RdW w w.heap.size A1 a) (rb : RdW w w.heap.size A2 b) (na : a.length ≤ 9223372036854775807) (nb : b.length ≤ 9223372036854775807)
    (hen : ∀ w1, (callFunc k #[.pointer (some ⟨w.heap.size, 0, none⟩), .pointer (some ⟨w.heap.size + 1, 0, none⟩)]).run Tryz.prog w1 = .ok (.enter k #[.pointer (some ⟨w.heap.size, 0, none⟩), .pointer (some ⟨w.heap.size + 1, 0, none⟩)]) w1)
    (hop : isNat a = true → isNat b = true → ∀ w1, RdW w1 w1.heap.size A1 a → RdW w1 w1.heap.size A2 b → w1.cell? ⟨w.heap.size, 0, none⟩ = some (.slice A1 a.length c1) → w1.cell? ⟨w.heap.size + 1, 0, none⟩ = some (.slice A2 b.length c2) → Calls Tryz.prog k #[.pointer (some ⟨w.heap.size, 0, none⟩), .pointer (some ⟨w.heap.size + 1, 0, none⟩)] w1 (GivesO w1 o)) :
    Calls Tryz.prog 35 #[.func (.func k) #[] #[.pointer (some ⟨w.heap.size, 0, none⟩), .pointer (some ⟨w.heap.size + 1, 0, none⟩)], .slice (some ⟨w.heap.size + 1 + 1, 0, none⟩) 2 2]
      (((w.alloc (.cells #[.slice A1 a.length c1] 23)).alloc (.cells #[.slice A2 b.length c2] 23)).alloc (.cells #[.slice A1 a.length c1, .slice A2 b.length c2] 23)) (EndsO w (both a b o)) := by
  have B : Below w.heap.size w (((w.alloc (.cells #[.slice A1 a.length c1] 23)).alloc (.cells #[.slice A2 b.length c2] 23)).alloc (.cells #[.slice A1 a.length c1, .slice A2 b.length c2] 23)) :=
    (((Below.refl _ _).alloc (Nat.le_refl _) _).alloc (by simp) _).alloc (by simp; omega) _
  have hz : (((w.alloc (.cells #[.slice A1 a.length c1] 23)).alloc (.cells #[.slice A2 b.length c2] 23)).alloc (.cells #[.slice A1 a.length c1, .slice A2 b.length c2] 23)).heap.size = w.heap.size + 3 := by simp
  refine (guarded_two _ k _ (w.heap.size + 1 + 1) 2 A1 A2 c1 c2 a b (by simp [go_sem]) (by simp [go_sem]) (by rw [hz]; omega) ((ra.below B (Nat.le_refl _)).mono B.size) ((rb.below B (Nat.le_refl _)).mono B.size) na nb o hen ?_).mono ?_
  · intro ha hb w1 b1
    have b2 := below_on B b1
    refine hop ha hb w1 ((ra.below b2 (Nat.le_refl _)).mono b2.size) ((rb.below b2 (Nat.le_refl _)).mono b2.size) ?_ ?_
    · rw [b1.cell (p := ⟨w.heap.size, 0, none⟩) (by rw [hz]; show w.heap.size < _; omega)]; simp [go_sem]
    · rw [b1.cell (p := ⟨w.heap.size + 1, 0, none⟩) (by rw [hz]; show w.heap.size + 1 < _; omega)]; simp [go_sem]
  · exact fun e w' h => h.on B

set_option maxRecDepth 100000 in
set_option maxHeartbeats 1000000 in
theorem add_api (w : World) (A1 A2 : Option Addr) (c1 c2 : Nat) (a b : List Nat) (ra : RdW w w.heap.size A1 a) (rb : RdW w w.heap.size A2 b) (la : Lim a) (lb : Lim b) (na : a.length ≤ 9223372036854775807) (nb : b.length ≤ 9223372036854775807) :
    Calls Tryz.prog 18 #[.slice A1 a.length c1, .slice A2 b.length c2] w (EndsO w (addO a b)) := by
  have hmf : ∀ (fn : Fn) (first cap : Array Value) (w : World), (Instr.makeFunc fn first cap).run Tryz.prog w = .ok (.func fn first cap) w := fun _ _ _ _ => rfl
  have HG := Lib.hid (api_world w A1 A2 c1 c2 a b 40 _ ra rb na nb (fun w1 => by go_simp) (fun ha hb w1 r1 r2 h1 h2 => (add_op w1 _ _ A1 A2 c1 c2 a b h1 h2 r1 r2 la lb (Nat.le_trans (isNat_norm ha).1 (by omega)) (Nat.le_trans (isNat_norm hb).1 (by omega))).mono fun e w' h => givesO_of h))
  clear ra rb la lb
  go_enter Tryz.func18, Tryz.ntmps18
  go_wp2_with (go_at_call 35; refine HG.out.mono ?_; rintro e w' ⟨hB, A', rfl, hr⟩)
  go_ret2
  exact ⟨hB, A', rfl, hr⟩

set_option maxRecDepth 100000 in
set_option maxHeartbeats 1000000 in
theorem mul_api (w : World) (A1 A2 : Option Addr) (c1 c2 : Nat) (a b : List Nat) (ra : RdW w w.heap.size A1 a) (rb : RdW w w.heap.size A2 b) (la : Lim a) (lb : Lim b) (na : a.length ≤ 9223372036854775807) (nb : b.length ≤ 9223372036854775807) :
    Calls Tryz.prog 16 #[.slice A1 a.length c1, .slice A2 b.length c2] w (EndsO w (mulO a b)) := by
  have hmf : ∀ (fn : Fn) (first cap : Array Value) (w : World), (Instr.makeFunc fn first cap).run Tryz.prog w = .ok (.func fn first cap) w := fun _ _ _ _ => rfl
  have HG := Lib.hid (api_world w A1 A2 c1 c2 a b 38 _ ra rb na nb (fun w1 => by go_simp) (fun ha hb w1 r1 r2 h1 h2 => (mul_op w1 _ _ A1 A2 c1 c2 a b h1 h2 r1 r2 la lb (Nat.le_trans (isNat_norm ha).1 (by omega)) (Nat.le_trans (isNat_norm hb).1 (by omega))).mono fun e w' h => givesO_of h))
  clear ra rb la lb
  go_enter Tryz.func16, Tryz.ntmps16
  go_wp2_with (go_at_call 35; refine HG.out.mono ?_; rintro e w' ⟨hB, A', rfl, hr⟩)
  go_ret2
  exact ⟨hB, A', rfl, hr⟩

set_option maxRecDepth 100000 in
set_option maxHeartbeats 1000000 in
theorem sub_api (w : World) (A1 A2 : Option Addr) (c1 c2 : Nat) (a b : List Nat) (ra : RdW w w.heap.size A1 a) (rb : RdW w w.heap.size A2 b) (la : Lim a) (lb : Lim b) (na : a.length ≤ 9223372036854775807) (nb : b.length ≤ 9223372036854775807) :
    Calls Tryz.prog 19 #[.slice A1 a.length c1, .slice A2 b.length c2] w (EndsO w (subO a b)) := by
  have hmf : ∀ (fn : Fn) (first cap : Array Value) (w : World), (Instr.makeFunc fn first cap).run Tryz.prog w = .ok (.func fn first cap) w := fun _ _ _ _ => rfl
  have HG := Lib.hid (api_world w A1 A2 c1 c2 a b 42 _ ra rb na nb (fun w1 => by go_simp) (fun ha hb w1 r1 r2 h1 h2 => (sub_op w1 _ _ A1 A2 c1 c2 a b h1 h2 r1 r2 la lb (nat_lim_norm ha) (nat_lim_norm hb) (Nat.le_trans (isNat_norm ha).1 (by omega)) (Nat.le_trans (isNat_norm hb).1 (by omega))).mono fun e w' h => givesO_diff h))
  clear ra rb la lb
  go_enter Tryz.func19, Tryz.ntmps19
  go_wp2_with (go_at_call 35; refine HG.out.mono ?_; rintro e w' ⟨hB, A', rfl, hr⟩)
  go_ret2
  exact ⟨hB, A', rfl, hr⟩

end Go.Proofs.YtgcobhlplffpjaaGreatDoor
