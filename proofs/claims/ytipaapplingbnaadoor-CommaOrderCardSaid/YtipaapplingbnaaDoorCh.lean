/- Walks: matrix.minor, the call. -/
import Derived.Test.YtipaapplingbnaaDoorCg
namespace Go.Proofs.YtipaapplingbnaaDoor
open Go.RowKit Go.Deep

theorem store_func (W : World) (B : Nat) (fn : Fn) (a b : Array Value) (t : TypeId) (h : B = W.heap.size) : (store ⟨B, 0, none⟩ (.func fn a b)).run Tryd.prog (W.alloc (.cells #[.nilFunc] t)) = .ok () ((W.alloc (.cells #[.nilFunc] t)).setCell ⟨B, 0, none⟩ (.func fn a b)) := by
  subst h
  rw [run_store _ _ _ _ _ rfl, World.cell?_alloc_new]
  have : (W.alloc (.cells #[.nilFunc] t)).frozen? ⟨W.heap.size, 0, none⟩ = false := (Blk.new W t #[.nilFunc]).frozen 0
  simp [this]
theorem Flags.alloc {w : World} {g : Nat} {u : List Bool} (h : Flags w g u) (o : Obj) : Flags (w.alloc o) g u := World.rowIs.alloc h o
section
variable (w : World) (Ar Ai Aj : Option Addr) (cr ci cj : Nat) (rows : List Vc) (is js : List Nat)
theorem made_below : Below w.heap.size w ((((((w.alloc (.cells #[.slice Ar rows.length cr] 38)).alloc (.cells #[.slice Ai is.length ci] 23)).alloc (.cells #[.slice Aj js.length cj] 23)).alloc (.cells (madeCells #[.bool false] js.length) 4)).alloc (.cells #[.slice (some ⟨w.heap.size + 1 + 1 + 1, 0, none⟩) js.length js.length] 116)).alloc (.cells #[.func (.func 71) #[] #[.pointer (some ⟨w.heap.size + 1, 0, none⟩), .pointer (some ⟨w.heap.size + 1 + 1, 0, none⟩), .pointer (some ⟨w.heap.size + 1 + 1 + 1 + 1, 0, none⟩), .pointer (some ⟨w.heap.size, 0, none⟩), .pointer (some ⟨w.heap.size + 1 + 1 + 1 + 1 + 1, 0, none⟩)]] 57)) :=
  ((((((Below.refl w.heap.size w).alloc (Nat.le_refl _) _).alloc (by simp) _).alloc (by simp; omega) _).alloc (by simp; omega) _).alloc (by simp; omega) _).alloc (by simp; omega) _
theorem made_env (rr : RdV w w.heap.size Ar rows) (ri : RdI w w.heap.size Ai (ofN is)) (rj : RdI w w.heap.size Aj (ofN js)) : Env ((((((w.alloc (.cells #[.slice Ar rows.length cr] 38)).alloc (.cells #[.slice Ai is.length ci] 23)).alloc (.cells #[.slice Aj js.length cj] 23)).alloc (.cells (madeCells #[.bool false] js.length) 4)).alloc (.cells #[.slice (some ⟨w.heap.size + 1 + 1 + 1, 0, none⟩) js.length js.length] 116)).alloc (.cells #[.func (.func 71) #[] #[.pointer (some ⟨w.heap.size + 1, 0, none⟩), .pointer (some ⟨w.heap.size + 1 + 1, 0, none⟩), .pointer (some ⟨w.heap.size + 1 + 1 + 1 + 1, 0, none⟩), .pointer (some ⟨w.heap.size, 0, none⟩), .pointer (some ⟨w.heap.size + 1 + 1 + 1 + 1 + 1, 0, none⟩)]] 57)) (w.heap.size + 3) (w.heap.size + 1) (w.heap.size + 2) (w.heap.size + 4) w.heap.size (w.heap.size + 5) Ai Aj Ar ci cj cr is js rows where
  hi := by go_simp
  hj := by go_simp
  hu := by go_simp
  hr := by go_simp
  he := by go_simp
  ri := (ri.below (made_below w Ar Ai Aj cr ci cj rows is js)).wider (by omega)
  rj := (rj.below (made_below w Ar Ai Aj cr ci cj rows is js)).wider (by omega)
  rr := (rr.below (made_below w Ar Ai Aj cr ci cj rows is js)).wider (by omega)
  bi := by omega
  bj := by omega
  bu := by omega
  br := by omega
  be := by omega
  lt := by simp
theorem made_flags : Flags ((((((w.alloc (.cells #[.slice Ar rows.length cr] 38)).alloc (.cells #[.slice Ai is.length ci] 23)).alloc (.cells #[.slice Aj js.length cj] 23)).alloc (.cells (madeCells #[.bool false] js.length) 4)).alloc (.cells #[.slice (some ⟨w.heap.size + 1 + 1 + 1, 0, none⟩) js.length js.length] 116)).alloc (.cells #[.func (.func 71) #[] #[.pointer (some ⟨w.heap.size + 1, 0, none⟩), .pointer (some ⟨w.heap.size + 1 + 1, 0, none⟩), .pointer (some ⟨w.heap.size + 1 + 1 + 1 + 1, 0, none⟩), .pointer (some ⟨w.heap.size, 0, none⟩), .pointer (some ⟨w.heap.size + 1 + 1 + 1 + 1 + 1, 0, none⟩)]] 57)) (w.heap.size + 3) (List.replicate js.length false) := by
  have h := Flags.made (((w.alloc (.cells #[.slice Ar rows.length cr] 38)).alloc (.cells #[.slice Ai is.length ci] 23)).alloc (.cells #[.slice Aj js.length cj] 23)) js.length
  have e : (((w.alloc (.cells #[.slice Ar rows.length cr] 38)).alloc (.cells #[.slice Ai is.length ci] 23)).alloc (.cells #[.slice Aj js.length cj] 23)).heap.size = w.heap.size + 3 := by simp
  rw [e] at h
  exact (h.alloc _).alloc _
end
set_option maxRecDepth 100000 in
set_option maxHeartbeats 2000000 in
theorem minor_any (w : World) (Ar Ai Aj : Option Addr) (cr ci cj : Nat) (rows : List Vc) (is js : List Nat) (rr : RdV w w.heap.size Ar rows) (ri : RdI w w.heap.size Ai (ofN is)) (rj : RdI w w.heap.size Aj (ofN js)) (hl : is.length = js.length) (hj6 : js.length ≤ 6) (hr6 : rows.length ≤ 6) (hjc : ∀ c ∈ js, c < 6) (hic : ∀ c ∈ is, c < rows.length) (hok : ∀ v ∈ rows, v.ok = true) :
    Calls Tryd.prog 55 #[.slice Ar rows.length cr, .slice Ai is.length ci, .slice Aj js.length cj] w fun e w' => e = .returned (.int .i64 (Dt (rowf rows is) js)) ∧ Below w.heap.size w w' := by
  have hmk := make_flags js.length (by omega)
  have HX := Lib.hid fun (w1 : World) (hE : Env w1 (w.heap.size + 3) (w.heap.size + 1) (w.heap.size + 2) (w.heap.size + 4) w.heap.size (w.heap.size + 5) Ai Aj Ar ci cj cr is js rows) (hF : Flags w1 (w.heap.size + 3) (List.replicate js.length false)) =>
    expand_any is.length w1 _ _ _ _ _ _ Ai Aj Ar ci cj cr is js rows (List.replicate js.length false) 0 hE hF (by simp) hj6 (by omega) hr6 hjc hic hok (by omega) (by omega) (by rw [avail_new]; omega)
  rw [avail_new, List.drop_zero] at HX
  have HLL := Lib.hid hl
  have RR := Lib.hid rr
  have RI := Lib.hid ri
  have RJ := Lib.hid rj
  clear rr ri rj hjc hic hok hl
  generalize Dt (rowf rows is) js = D at *
  have hst := store_func
  go_enter Tryd.func55, Tryd.ntmps55
  go_wp2_with (go_at_call 71; refine (HX.out _ (made_env w Ar Ai Aj cr ci cj rows is js RR.out RI.out RJ.out) (made_flags w Ar Ai Aj cr ci cj rows is js)).mono ?_; rintro e w2 ⟨rfl, o2, -⟩; replace o2 := Lib.hid o2)
  go_ret
  exact ⟨rfl, (made_below w Ar Ai Aj cr ci cj rows is js).trans (o2.out.below (by omega) (by simp; omega))⟩

end Go.Proofs.YtipaapplingbnaaDoor
