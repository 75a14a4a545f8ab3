/- The law of a range over strings.SplitSeq at a blank. -/
import Derived.Test.YtipaapplingbnaaDoorSb
namespace Go.Proofs.YtipaapplingbnaaDoor
open Go.RowKit Go.Deep Go.Shelf
attribute [local go_sem] Oper.semAt_some

theorem kp3_put {b0 b1 b2 : Nat} (W : World) (l : Nat) (o : Obj) (h0 : b0 ≠ l) (h1 : b1 ≠ l) (h2 : b2 ≠ l) : Kp3 b0 b1 b2 W (W.putObj l o) := by
  intro b hb i
  have hbl : b ≠ l := by rcases hb with rfl | rfl | rfl <;> assumption
  have hh : (W.putObj l o).heap[b]? = W.heap[b]? := World.putObj_heap_other (fun e => hbl e)
  exact ⟨World.cell?_of_block (a := ⟨b, i, none⟩) hh, World.frozen?_of_block (a := ⟨b, i, none⟩) hh⟩
theorem Kp3.trans {b0 b1 b2 : Nat} {A B C : World} (h : Kp3 b0 b1 b2 A B) (k : Kp3 b0 b1 b2 B C) : Kp3 b0 b1 b2 A C := fun b hb i =>
  ⟨(k b hb i).1.trans (h b hb i).1, (k b hb i).2.trans (h b hb i).2⟩

set_option maxHeartbeats 1000000 in
theorem range_split (n : Nat) {g : Operand} {ps : Array Tmp} (hps : ps.size = 1) {assign body : Code} {Q : Exit → Act → World → Prop} {a : Act} {w : World}
    (s : List UInt8) (hs : s.length ≤ 9223372036854775807) {b0 b1 b2 : Nat} (hb01 : b0 ≠ b1) (hb12 : b1 ≠ b2) (l0 : b0 < w.heap.size) (l1 : b1 < w.heap.size) (l2 : b2 < w.heap.size)
    (hg : a.eval g = .func (.func 59) #[] #[.pointer (some ⟨b0, 0, none⟩), .pointer (some ⟨b1, 0, none⟩), .pointer (some ⟨b2, 0, none⟩)])
    (h0 : w.cell? ⟨b0, 0, none⟩ = some (.string ⟨#[32]⟩)) (h1 : w.cell? ⟨b1, 0, none⟩ = some (str s)) (hf : w.frozen? ⟨b1, 0, none⟩ = false) (h2 : w.cell? ⟨b2, 0, none⟩ = some (.int .i64 0))
    (I : List (List UInt8) → World → Prop) (Ix : Code → List (List UInt8) → World → Prop)
    (hA : ∀ pre W o, I pre W → I pre (W.alloc o)) (hP : ∀ pre W l o, w.heap.size ≤ l → I pre W → I pre (W.putObj l o)) (hS : ∀ pre W v, I pre W → I pre (W.setCell ⟨b1, 0, none⟩ v)) (hX : ∀ c pre W l o, w.heap.size ≤ l → Ix c pre W → Ix c pre (W.putObj l o))
    (hI0 : I [] w) (a₁ : List UInt8 → Act)
    (hassign : ∀ (l : Nat) (x : List UInt8) (W : World) (K : Act → World → Prop), K (a₁ x) W →
      assign.wpIn (Fence.wide.inRound l) (n - 1 - 1) Tryd.prog (Exit.then K (fun _ _ _ => False)) { tmps := (ps.zip #[str x]).foldl (fun t (p, v) => t.setIfInBounds p v) a.tmps, defers := [] } W)
    (hbody : ∀ (l : Nat) (pre : List (List UInt8)) (x : List UInt8) (W : World), I pre W → x.length ≤ s.length → body.wpIn (Fence.wide.inRound l) (n - 1 - 1) Tryd.prog (ownPostG w.heap.size (Kp3 b0 b1 b2) I Ix (pre ++ [x]) W) (a₁ x) W)
    (hdone : ∀ (D : Nat) (W : World), w.heap.size ≤ D → I (splitSp s) W → W.heap[D]? = some (.deferred (some [])) → Q .normal { a with defers := { target := .collected D, args := #[] } :: a.defers } W)
    (hstop : ∀ (D : Nat) (c : Code) (pre : List (List UInt8)) (W : World), w.heap.size ≤ D → pre <+: splitSp s → Ix c pre W → W.heap[D]? = some (.deferred (some [])) → c.wpIn Fence.wide n Tryd.prog Q { a with defers := { target := .collected D, args := #[] } :: a.defers } W) :
    (Code.rangeFunc g ps assign body).wpIn Fence.wide n Tryd.prog Q a w := by
  refine wpIn_rangeFunc fun fn hfn => ?_
  obtain ⟨rec, hrec⟩ : ∃ rec : LoopState → Option Code → Loop, rec = fun st pe => { state := st, pending := pe, fn, tmps := a.tmps, params := ps, assign, body, defers := w.heap.size } := ⟨_, rfl⟩
  obtain ⟨W1, hW1⟩ : ∃ W1, (w.alloc (.deferred (some []))).alloc (.loop (rec .ready none)) = W1 := ⟨_, rfl⟩
  have hz1 : W1.heap.size = w.heap.size + 2 := by rw [← hW1]; simp
  have hL1 : W1.heap[w.heap.size + 1]? = some (.loop (rec .ready none)) := by
    have := World.alloc_heap_new (w.alloc (.deferred (some []))) (.loop (rec .ready none))
    rw [World.size_alloc] at this
    rw [← hW1]; exact this
  have hK1 : W1.heap[w.heap.size]? = some (.deferred (some [])) := by
    rw [← hW1]; exact (Below.heap_alloc _ _ _ (by simp)).trans (World.alloc_heap_new w _)
  have hI1 : I [] W1 := by rw [← hW1]; exact hA _ _ _ (hA _ _ _ hI0)
  have hb1 : Below w.heap.size w W1 := by
    rw [← hW1]; exact ((Below.refl _ w).alloc (Nat.le_refl _) _).alloc (by simp) _
  have hfr : W1.frozen? ⟨b1, 0, none⟩ = false := (hb1.frozen (p := ⟨b1, 0, none⟩) l1).trans hf
  obtain ⟨lb, hlb⟩ : ∃ lb : Array Value, lb = #[.pointer (some ⟨b0, 0, none⟩), .pointer (some ⟨b1, 0, none⟩), .pointer (some ⟨b2, 0, none⟩)] := ⟨_, rfl⟩
  rw [← hlb] at hg
  refine ⟨w.heap.size + 1, [{ target := .collected w.heap.size, args := #[] }], W1, { target := .fn (.func 59) lb, args := #[.func (.yield (w.heap.size + 1)) #[] #[]] }, W1, 59, #[.func (.yield (w.heap.size + 1)) #[] #[]] ++ lb, W1, ?_, ?_, fun _ _ => trivial, ?_, fun h => absurd h (by simp [Fence.wide]), ?_⟩
  · rw [← hW1, hrec]; exact run_enterLoop_outer _ _ _ _ _
  · simp only [resolve, hg]
    simp [go_sem]
  · simp [invoke, go_sem]
  · subst hlb
    refine (split_iter (n - 1) (w.heap.size + 1) b0 b1 b2 hb01 hb12 s hs
      (fun pre W => I pre W ∧ W.heap[w.heap.size + 1]? = some (.loop (rec .ready none)) ∧ W.heap[w.heap.size]? = some (.deferred (some [])))
      (fun pre W => ∃ c, Ix c pre W ∧ W.heap[w.heap.size + 1]? = some (.loop (rec .done (some c))) ∧ W.heap[w.heap.size]? = some (.deferred (some [])))
      ?_ ?_ W1 ((hb1.cell (p := ⟨b0, 0, none⟩) l0).trans h0) ((hb1.cell (p := ⟨b1, 0, none⟩) l1).trans h1) hfr ((hb1.cell (p := ⟨b2, 0, none⟩) l2).trans h2) ⟨hI1, hL1, hK1⟩).mono ?_
    · rintro pre A v ⟨hi, hl, hk⟩
      exact ⟨hS _ _ _ hi, (heap_setCell_other A ⟨b1, 0, none⟩ (w.heap.size + 1) v (by show w.heap.size + 1 ≠ b1; omega)).trans hl, (heap_setCell_other A ⟨b1, 0, none⟩ w.heap.size v (by show w.heap.size ≠ b1; omega)).trans hk⟩
    · rintro pre x W ⟨hi, hl, hk⟩ hxl
      have hlt : w.heap.size + 1 < W.heap.size := (Array.getElem?_eq_some_iff.1 hl).1
      have hy := run_yield (P := Tryd.prog) (args := #[str x]) hl (by rw [hrec]; exact hps.symm)
      rw [hrec] at hy
      refine ⟨fn, _, assign, body, hy, roundIn_of_wpIn hfn (hassign _ x W _ ?_)⟩
      clear hy
      refine ⟨_, run_beginRound hl (by rw [hrec]), ?_⟩
      obtain ⟨W2, hW2⟩ : ∃ W2, W.putObj (w.heap.size + 1) (.loop { rec .ready none with state := .busy }) = W2 := ⟨_, rfl⟩
      have hl2 : W2.heap[w.heap.size + 1]? = some (.loop { rec .ready none with state := .busy }) := by rw [← hW2]; exact World.putObj_heap_same hlt
      have hk2 : W2.heap[w.heap.size]? = some (.deferred (some [])) := by rw [← hW2]; exact (World.putObj_heap_other (by omega)).trans hk
      have hw2 : Kp3 b0 b1 b2 W W2 := by rw [← hW2]; exact kp3_put _ _ _ (by omega) (by omega) (by omega)
      have hi2 : I pre W2 := by rw [← hW2]; exact hP _ _ _ _ (by omega) hi
      rw [hW2]
      refine wpIn_mono (hbody _ pre x _ hi2 hxl) ?_
      have fin : ∀ (jump : Option Code) (W3 : World), KeepsFrom w.heap.size W2 W3 →
          (Instr.endRound (w.heap.size + 1) jump).run Tryd.prog W3 = .ok (.bool jump.isNone) (W3.putObj (w.heap.size + 1) (.loop (rec (if jump.isNone then .ready else .done) jump))) ∧
          (W3.putObj (w.heap.size + 1) (.loop (rec (if jump.isNone then .ready else .done) jump))).heap[w.heap.size + 1]? = some (.loop (rec (if jump.isNone then .ready else .done) jump)) ∧
          (W3.putObj (w.heap.size + 1) (.loop (rec (if jump.isNone then .ready else .done) jump))).heap[w.heap.size]? = some (.deferred (some [])) := fun jump W3 hk3 => by
        have hl3 := hk3.same _ _ (by omega) hl2 rfl
        have := run_endRound (P := Tryd.prog) jump hl3
        rw [hrec] at this ⊢
        exact ⟨this, World.putObj_heap_same (Array.getElem?_eq_some_iff.1 hl3).1, (World.putObj_heap_other (by omega)).trans (hk3.same _ _ (Nat.le_refl _) hk2 rfl)⟩
      rintro e a3 W3 hp
      cases e with
      | normal =>
        obtain ⟨hk3, hkp3, hi3⟩ := hp
        obtain ⟨hr, hl4, hk4⟩ := fin none W3 hk3
        exact ⟨_, _, hr, .inl ⟨rfl, ⟨hP _ _ _ _ (by omega) hi3, hl4, hk4⟩, (hw2.trans hkp3).trans (kp3_put _ _ _ (by omega) (by omega) (by omega))⟩⟩
      | ret =>
        obtain ⟨hk3, hi3⟩ := hp
        obtain ⟨hr, hl4, hk4⟩ := fin (some .ret) W3 hk3
        exact ⟨_, _, hr, .inr ⟨rfl, .ret, hX _ _ _ _ _ (by omega) hi3, hl4, hk4⟩⟩
      | exit id =>
        obtain ⟨hk3, hi3⟩ := hp
        obtain ⟨hr, hl4, hk4⟩ := fin (some (.exit id)) W3 hk3
        exact ⟨_, _, hr, .inr ⟨rfl, .exit id, hX _ _ _ _ _ (by omega) hi3, hl4, hk4⟩⟩
      | goto t =>
        obtain ⟨hk3, hi3⟩ := hp
        obtain ⟨hr, hl4, hk4⟩ := fin (some (.goto t)) W3 hk3
        exact ⟨_, _, hr, .inr ⟨rfl, .goto t, hX _ _ _ _ _ (by omega) hi3, hl4, hk4⟩⟩
      | panic ch => exact hp.elim
      | outgrown => exact hp.elim
    · rintro e W2 ⟨⟨v, rfl⟩, (⟨hi, hl, hk⟩ | ⟨pre, hSp, c, hi, hl, hk⟩)⟩
      · exact ⟨none, _, by have := run_endLoop (P := Tryd.prog) hl (by rw [hrec]; simp); rw [hrec] at this; exact this, hdone _ _ (Nat.le_refl _) (hP _ _ _ _ (by omega) hi) ((World.putObj_heap_other (by omega)).trans hk)⟩
      · exact ⟨some c, _, by have := run_endLoop (P := Tryd.prog) hl (by rw [hrec]; simp); rw [hrec] at this; exact this, hstop _ c pre _ (Nat.le_refl _) hSp (hX _ _ _ _ _ (by omega) hi) ((World.putObj_heap_other (by omega)).trans hk)⟩

end Go.Proofs.YtipaapplingbnaaDoor
