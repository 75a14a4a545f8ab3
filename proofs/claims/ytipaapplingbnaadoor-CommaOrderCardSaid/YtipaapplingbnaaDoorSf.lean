/- Words for the end of Parse. -/
import Derived.Test.YtipaapplingbnaaDoorSe
import Derived.Deep.RegionHeld3
namespace Go.Proofs.YtipaapplingbnaaDoor
open Go.RowKit Go.Deep Go.Shelf Go.Maps Go.WideMaps

theorem parse_results (W : World) (tmps : Array Value) (b c : Nat) (h4 : tmps.getD 4 undef = .pointer (some ⟨b, 0, none⟩)) (h5 : tmps.getD 5 undef = .pointer (some ⟨c, 0, none⟩)) (A : Option Addr) (n k : Nat) (e : Int)
    (k4 : W.cell? ⟨b, 0, none⟩ = some (.slice A n k)) (k5 : W.cell? ⟨c, 0, none⟩ = some (.int .i64 e)) :
    (results Tryd.f16 tmps).run Tryd.prog W = .ok (.tuple #[.slice A n k, .int .i64 e]) W := by
  rw [Array.getD_eq_getD_getElem?] at h4 h5
  simp [results, Tryd.f16, h4, h5, asAddr, loadVar, k4, k5, go_sem]

set_option maxRecDepth 10000 in
theorem parse_end {w : World} {l : List Cm} {s : List UInt8} (W : World) (tmps : Array Value) (ds : List Deferred) (hd : ds = [] ∨ ∃ D, ds = [{ target := .collected D, args := #[] }] ∧ w.heap.size ≤ D ∧ W.heap[D]? = some (.deferred (some [])))
    (h4 : tmps.getD 4 undef = .pointer (some ⟨w.heap.size, 0, none⟩)) (h5 : tmps.getD 5 undef = .pointer (some ⟨w.heap.size + 1, 0, none⟩)) (A : Option Addr) (n k : Nat) (e : Int)
    (k4 : Blk W w.heap.size 23 #[.slice A n k]) (k5 : Blk W (w.heap.size + 1) 27 #[.int .i64 e])
    (hp : ∀ W' row, W.grownBy W' row → (∀ r, row = some r → w.heap.size ≤ r ∧ ∃ d, W.heap[r]? = some (.deferred d)) → ParseEnds w l s (.returned (.tuple #[.slice A n k, .int .i64 e])) W') :
    bodyPostM Fence.wide 3 Tryd.prog Tryd.f16 (ParseEnds w l s) Exit.ret { tmps := tmps, defers := ds } W := by
  rcases hd with rfl | ⟨D, rfl, hD, hK⟩
  · exact ⟨_, parse_results W tmps _ _ h4 h5 A n k e (k4.cell 0) (k5.cell 0), hp W none ⟨rfl, rfl, rfl, Nat.le_refl _, fun _ _ _ => rfl⟩ (fun r e => by cases e)⟩
  · have hg := grownBy_putObj' W D (.deferred none)
    have hnc : ∀ {b : Nat} {t : TypeId} {cs : Array Value}, Blk W b t cs → some D ≠ some b := fun {b t cs} hb e => by
      injection e with e
      subst e
      have := hK.symm.trans hb
      cases this
    refine ⟨by simp, .inl ⟨D, _, rfl, run_takeDeferred hK, ?_⟩⟩
    exact ⟨_, parse_results _ tmps _ _ h4 h5 A n k e ((k4.grown hg (hnc k4)).cell 0) ((k5.grown hg (hnc k5)).cell 0), hp _ _ hg (fun r e => by cases e; exact ⟨hD, _, hK⟩)⟩

/-- The ways out with an error. -/
theorem parse_bad {w : World} {l : List Cm} {s : List UInt8} (W : World) (tmps : Array Value) (ds : List Deferred) (hd : ds = [] ∨ ∃ D, ds = [{ target := .collected D, args := #[] }] ∧ w.heap.size ≤ D ∧ W.heap[D]? = some (.deferred (some [])))
    (h4 : tmps.getD 4 undef = .pointer (some ⟨w.heap.size, 0, none⟩)) (h5 : tmps.getD 5 undef = .pointer (some ⟨w.heap.size + 1, 0, none⟩)) (e : Int)
    (k4 : Blk W w.heap.size 23 #[.slice none 0 0]) (k5 : Blk W (w.heap.size + 1) 27 #[.int .i64 e]) (hb : Below w.heap.size w W) (hv : parseV l s = []) (he : parseE l s = e) :
    bodyPostM Fence.wide 3 Tryd.prog Tryd.f16 (ParseEnds w l s) Exit.ret { tmps := tmps, defers := ds } W := by
  refine parse_end W tmps ds hd h4 h5 none 0 0 e k4 k5 fun W' row hg hr => ?_
  refine ⟨hb.grown hg hb.size (fun r e => (hr r e).1), none, 0, by rw [hv, he]; rfl, ?_⟩
  rw [hv]
  exact RdI.nil _ _ _
theorem parse_good {w : World} {l : List Cm} {s : List UInt8} (W : World) (tmps : Array Value) (ds : List Deferred) (hd : ds = [] ∨ ∃ D, ds = [{ target := .collected D, args := #[] }] ∧ w.heap.size ≤ D ∧ W.heap[D]? = some (.deferred (some [])))
    (h4 : tmps.getD 4 undef = .pointer (some ⟨w.heap.size, 0, none⟩)) (h5 : tmps.getD 5 undef = .pointer (some ⟨w.heap.size + 1, 0, none⟩)) (g0 : Nat) (out : List Int) (n : Nat) (hn : n = out.length)
    (k4 : Blk W w.heap.size 23 #[.slice (some ⟨g0, 0, none⟩) n n]) (k5 : Blk W (w.heap.size + 1) 27 #[.int .i64 0]) (hrow : IRow W g0 out) (hb : Below w.heap.size w W) (hv : parseV l s = out) (he : parseE l s = 0) :
    bodyPostM Fence.wide 3 Tryd.prog Tryd.f16 (ParseEnds w l s) Exit.ret { tmps := tmps, defers := ds } W := by
  subst hn
  refine parse_end W tmps ds hd h4 h5 _ _ _ 0 k4 k5 fun W' row hg hr => ?_
  refine ⟨hb.grown hg hb.size (fun r e => (hr r e).1), _, out.length, by rw [hv, he], ?_⟩
  rw [hv]
  refine IRow.rd (Blk.grown hrow hg fun e => ?_)
  obtain ⟨_, d, hd⟩ := hr g0 e
  have := hd.symm.trans hrow
  cases this

/-- Atoi's two ways, as one. -/
theorem AtoiEnds.one {w : World} {ds : List UInt8} {e : Ending} {w' : World} (h : AtoiEnds w ds e w') : Below w.heap.size w w' ∧ ∃ n ev, e = .returned (.tuple #[.int .i64 n, ev]) ∧ ((Lib.atoiAll ds = .ok n ∧ ev = .nilIface) ∨ ((∀ v, Lib.atoiAll ds ≠ .ok v) ∧ ∃ p, ev = .iface 111 (.pointer (some p)))) := by
  obtain ⟨hb, ⟨v, h1, h2⟩ | ⟨h1, n, p, h2⟩⟩ := h
  · exact ⟨hb, v, _, h2, .inl ⟨h1, rfl⟩⟩
  · exact ⟨hb, n, _, h2, .inr ⟨h1, p, rfl⟩⟩
/-- What is known of a look-up among the names. -/
theorem names_look {l : List Cm} (hn : (nms l).Nodup) (s : List UInt8) (i : Int) (h : (namesK (nms l) l.length).atKey (nkey s) (.lit (.int .i64 0)) = .lit (.int .i64 i)) :
    (has (namesK (nms l) l.length) (nkey s) = true ∧ ∃ k : Nat, i = k ∧ k < l.length ∧ idxOf (nms l) s = some k) ∨ (has (namesK (nms l) l.length) (nkey s) = false ∧ idxOf (nms l) s = none) := by
  have hnl : (nms l).length = l.length := by simp [nms]
  by_cases hh : has (namesK (nms l) l.length) (nkey s) = true
  · obtain ⟨k, hk, he⟩ := (namesK_has _ _ _).1 hh
    have hix := idx_some (by omega) hn he
    have hat := namesK_at (nms l) l.length k hk (fun j h1 h2 e => by
      have hp := List.pairwise_iff_getElem.1 hn k j (by omega) (by omega) h1
      rw [List.getD_eq_getElem?_getD, List.getD_eq_getElem?_getD, List.getElem?_eq_getElem (by omega), List.getElem?_eq_getElem (by omega)] at e
      exact hp e.symm) (.lit (.int .i64 0))
    rw [he, h] at hat
    injection hat with hat
    injection hat with _ hat
    exact .inl ⟨hh, k, hat, hk, hix⟩
  · exact .inr ⟨by simpa using hh, idx_none (ns := nms l) (s := s) (fun i hi e => hh ((namesK_has _ _ _).2 ⟨i, by omega, e⟩))⟩
theorem stepC_cut {ns : List (List UInt8)} {out : List Int} {x : List UInt8} (h : (cutP x).2.2 = false) : stepC ns out x = none := by
  unfold cutP at h
  unfold stepC
  cases hc : cutStar x with
  | none => rfl
  | some p => rw [hc] at h; cases h
theorem stepC_known {ns : List (List UInt8)} {out : List Int} {x : List UInt8} (h : idxOf ns (cutP x).1 = none) : stepC ns out x = none := by
  unfold cutP at h
  unfold stepC
  cases hc : cutStar x with
  | none => rfl
  | some p => rw [hc] at h; simp only at h ⊢; rw [h]
theorem stepC_num {ns : List (List UInt8)} {out : List Int} {x : List UInt8} (h : ∀ v, Lib.atoiAll (cutP x).2.1 ≠ .ok v) : stepC ns out x = none := by
  unfold cutP at h
  unfold stepC
  cases hc : cutStar x with
  | none => rfl
  | some p =>
    rw [hc] at h
    simp only at h ⊢
    cases idxOf ns p.1 with
    | none => rfl
    | some i =>
      rcases ha : Lib.atoiAll p.2 with v | _ | _
      · exact absurd ha (h v)
      · simp only
      · simp only
theorem stepC_all {ns : List (List UInt8)} {out : List Int} {x : List UInt8} {k : Nat} {n : Int} (h1 : (cutP x).2.2 = true) (h2 : idxOf ns (cutP x).1 = some k) (h3 : Lib.atoiAll (cutP x).2.1 = .ok n) : stepC ns out x = some (out.set k n) := by
  unfold cutP at h1 h2 h3
  unfold stepC
  cases hc : cutStar x with
  | none => rw [hc] at h1; cases h1
  | some p => rw [hc] at h2 h3; simp only at h2 h3 ⊢; rw [h2, h3]

theorem text_at {w W : World} {g0 gm b6 b7 : Nat} {out : List Int} {l : List Cm} (A : Option Addr) (c : Nat) (hll : l.length ≤ 9223372036854775807) (hr : RdN w w.heap.size A l) (hs : ∀ x ∈ l, x.nm.length ≤ 9223372036854775807) (h : PSt w l g0 gm b6 b7 out W) (hlen : out.length = l.length) (hT : Tab w) :
    Calls Tryd.prog 15 #[.slice A l.length c, .slice (some ⟨g0, 0, none⟩) l.length l.length] W fun e w' => e = .returned (.tuple #[str (textV l out), .int .i64 (textE l out)]) ∧ Below W.heap.size W w' := by
  have := text_any W A (some ⟨g0, 0, none⟩) c l.length l out (hr.up h.below) hs hll h.row.rd (by omega) (hT.below h.below)
  rw [hlen] at this
  exact this
/-- What Parse makes of the numbers that it has read. -/
theorem parse_out {l : List Cm} {s : List UInt8} {out : List Int} (hv : validB l = true) (h : rawC (nms l) s = some out) (hlen : out.length = l.length) :
    (textE l out = 0 ∧ textV l out = s ∧ parseV l s = out ∧ parseE l s = 0) ∨ (textE l out = 0 ∧ textV l out ≠ s ∧ parseV l s = [] ∧ parseE l s = 8) ∨ (textE l out = 1 ∧ parseV l s = [] ∧ parseE l s = 8) := by
  unfold parseV parseE textE textV parseC
  rw [hv, h]
  have ha : accB l out = inRange out := by
    rcases hi : inRange out with _ | _
    · rcases ha : accB l out with _ | _
      · rfl
      · rw [(accB_iff.1 ha).1] at hi; cases hi
    · exact accB_iff.2 ⟨hi, hlen, validB_iff.1 hv⟩
  rw [ha]
  rcases hi : inRange out with _ | _
  · exact .inr (.inr (by simp [hi]))
  · by_cases ht : textC (nms l) out = s
    · exact .inl (by simp [hi, ht])
    · exact .inr (.inl (by simp [hi, ht]))

end Go.Proofs.YtipaapplingbnaaDoor
