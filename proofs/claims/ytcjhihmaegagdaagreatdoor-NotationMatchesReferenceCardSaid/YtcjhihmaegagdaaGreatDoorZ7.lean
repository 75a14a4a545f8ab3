/- Texts of the Notation chapter, together: Zk, Zo, Zp, Zt, Zq. -/
import Derived.Test.YtcjhihmaegagdaaGreatDoorG1
import Derived.Test.YtcjhihmaegagdaaGreatDoorH3
import Derived.Test.YtcjhihmaegagdaaGreatDoorG2
import Derived.Test.YtcjhihmaegagdaaGreatDoorH6
import Derived.Test.YtcjhihmaegagdaaGreatDoorH1
import Derived.Test.YtcjhihmaegagdaaGreatDoorG5
import Derived.Test.YtcjhihmaegagdaaGreatDoorZ5
import Derived.Test.YtcjhihmaegagdaaGreatDoorH5
set_option maxRecDepth 100000
set_option maxHeartbeats 8000000
set_option linter.unusedSimpArgs false
set_option linter.unusedVariables false
set_option linter.unusedSectionVars false
set_option linter.unnecessarySimpa false
namespace Go.Proofs.YtcjhihmaegagdaaGreatDoor
open Go.RowKit Go.Deep
def zA1 {α : Type} (lt : Nat → Nat → Bool) (a b : Nat) : Bool := lt a b || (!lt b a && decide (a < b))
section
variable {lt : Nat → Nat → Bool}
theorem zH8 (h : Swo lt) {a b : Nat} (hb : zA1 (α := Nat) lt a b = true) : lt b a = false := by
 simp only [zA1, Bool.or_eq_true, Bool.and_eq_true, Bool.not_eq_true', decide_eq_true_eq] at hb;rcases hb with hb | hb
 · exact h.asymm hb
 exact hb.1
theorem zJ8 (h : Swo lt) (x : Nat) (o : List Nat) (ho : o.Pairwise fun a b => zA1 (α := Nat) lt a b = true) (hx : ∀ y ∈ o, y < x) : (vV lt x o).Pairwise fun a b => zA1 (α := Nat) lt a b = true := by
 induction o with
 | nil => simp [vV]
 | cons y o ih =>
  rw [List.pairwise_cons] at ho;show (if lt x y then x :: y :: o else y :: vV lt x o).Pairwise _;split
  ·
   next hxy =>
   refine List.pairwise_cons.2 ⟨fun z hz => ?_, List.pairwise_cons.2 ho⟩
   have : lt x z = true := by
    rcases List.mem_cons.1 hz with rfl | hz
    · exact hxy
    exact h.left hxy (zH8 h (ho.1 z hz))
   simp [zA1, this]
  next hxy =>
  refine List.pairwise_cons.2 ⟨fun z hz => ?_, ih ho.2 fun z hz => hx z (List.mem_cons_of_mem _ hz)⟩;rcases List.mem_cons.1 ((zB7 x o).mem_iff.1 hz) with rfl | hz
  · have h1 := hx y List.mem_cons_self;rw [Bool.not_eq_true] at hxy;simp [zA1, hxy, h1]
  exact ho.1 z hz
theorem zIG (h : Swo lt) (n : Nat) : (yh lt (List.range n)).Pairwise fun a b => zA1 (α := Nat) lt a b = true := by
 induction n with
 | zero => exact List.Pairwise.nil
 | succ n ih =>
  rw [List.range_succ, xC];exact zJ8 h n _ ih fun y hy => List.mem_range.1 ((kg _).mem_iff.1 hy)
theorem zFF (h : Swo lt) {a b : Nat} (hb : zA1 (α := Nat) lt a b = true) : zA1 (α := Nat) lt b a = false := by
 have h1 := zH8 h hb;simp only [zA1, Bool.or_eq_true, Bool.and_eq_true, Bool.not_eq_true', decide_eq_true_eq] at hb;rw [Bool.eq_false_iff];intro h2;simp only [zA1, Bool.or_eq_true, Bool.and_eq_true, Bool.not_eq_true', decide_eq_true_eq] at h2;rcases h2 with h2 | h2
 · rw [h1] at h2; cases h2
 rcases hb with hb | hb
 · rw [h2.1] at hb; cases hb
 omega
theorem zJj (h : Swo lt) (x : Nat) (o : List Nat) (ho : o.Pairwise fun a b => zA1 (α := Nat) lt a b = true) (hx : x ∈ o) : (o.filter fun k => zA1 (α := Nat) lt k x).length = o.idxOf x := by
 induction o with
 | nil => cases hx
 | cons a o ih =>
  rw [List.pairwise_cons] at ho;by_cases e : a = x
  ·
   subst e;rw [List.idxOf_cons_self]
   have : ((a :: o).filter fun k => zA1 (α := Nat) lt k a) = [] := by
    rw [List.filter_eq_nil_iff];intro b hb;rcases List.mem_cons.1 hb with rfl | hb
    · rw [Bool.not_eq_true, Bool.eq_false_iff];intro e2;have := zFF h e2;rw [e2] at this;cases this
    rw [Bool.not_eq_true];exact zFF h (ho.1 b hb)
   rw [this];rfl
  have hxo : x ∈ o := by
   rcases List.mem_cons.1 hx with rfl | hx
   · exact absurd rfl e
   exact hx
  rw [List.idxOf_cons, show (a == x) = false from by simpa using e, List.filter_cons_of_pos (by exact ho.1 x hxo), List.length_cons, ih ho.2 hxo];rfl
end
def qM (l : List Nte) (k i : Nat) : Bool := zA1 (α := Nat) (fun i k => yK (l.getD i zF) (l.getD k zF)) k i
def jl (l : List Nte) (i n : Nat) : Nat := ((List.range n).filter fun k => qM l k i).length
theorem zCT (l : List Nte) (i : Nat) : jl l i 0 = 0 := rfl
theorem zDe (l : List Nte) (i n : Nat) : jl l i (n + 1) = jl l i n + (if qM l n i then 1 else 0) := by
 unfold jl;rw [List.range_succ, List.filter_append, List.length_append];congr 1;by_cases h : qM l n i = true
 · simp [List.filter_cons, h]
 simp [List.filter_cons, h]
theorem zKZ (l : List Nte) (i n : Nat) : jl l i n ≤ n := by
 unfold jl;exact Nat.le_trans (List.length_filter_le _ _) (by simp)
theorem zHx (l : List Nte) {i : Nat} (h : i < l.length) : jl l i l.length = zj l i := by
 have hs : Swo (fun i k => yK (l.getD i zF) (l.getD k zF)) := ja.pull fun i => l.getD i zF
 have h1 := zJj hs i (zl l) (zIG hs l.length) (zDf l h);unfold zj jl;rw [← h1];exact ((jD l).filter _).length_eq.symm
theorem zI2 (l : List Nte) (k i : Nat) : qM l k i = true ↔ (l.getD k zF).start < (l.getD i zF).start ∨ ((l.getD k zF).start = (l.getD i zF).start ∧ ((l.getD k zF).voice < (l.getD i zF).voice ∨ ((l.getD k zF).voice = (l.getD i zF).voice ∧ k < i))) := by
 simp only [qM, zA1, yK, Bool.or_eq_true, Bool.and_eq_true, Bool.not_eq_true', Bool.or_eq_false_iff, Bool.and_eq_false_iff, decide_eq_true_eq, decide_eq_false_iff_not];omega
def xv (l : List Nte) (i n : Nat) : List Int := (List.range l.length).map fun t => if t < i then (zj l t : Int) else if t = i then (jl l i n : Int) else 0
def qe (l : List Nte) (i : Nat) : List Nte := (List.range l.length).map fun t => if (zl l).getD t 0 < i then l.getD ((zl l).getD t 0) zF else zF
theorem vM (l : List Nte) (i n : Nat) : (xv l i n).length = l.length := by simp [xv]
theorem zAJ (l : List Nte) (i : Nat) : (qe l i).length = l.length := by simp [qe]
theorem zHu (l : List Nte) : xv l 0 0 = List.replicate l.length 0 := by
 refine List.ext_getElem (by simp [xv]) fun t h1 h2 => ?_
 simp only [xv, List.getElem_map, List.getElem_range, List.getElem_replicate, zCT];split
 · omega
 split <;> rfl
theorem zIY (l : List Nte) {i : Nat} (h : i < l.length) : xv l i l.length = xv l (i + 1) 0 := by
 refine List.ext_getElem (by simp [xv]) fun t h1 h2 => ?_
 simp only [xv, List.getElem_map, List.getElem_range, zCT];by_cases a : t < i
 · rw [if_pos a, if_pos (by omega)]
 rw [if_neg a];by_cases b : t = i
 · subst b;rw [if_pos rfl, if_pos (by omega), zHx l h]
 rw [if_neg b, if_neg (by omega)];split <;> rfl
theorem zLh (l : List Nte) {i n : Nat} (h : i < l.length) : (xv l i n).getD i 0 = (jl l i n : Int) := by
 have h2 : i < (xv l i n).length := by rw [vM]; exact h
 rw [zN h2];simp [xv]
theorem zI6 (l : List Nte) {i n : Nat} (h : qM l n i = false) : xv l i (n + 1) = xv l i n := by
 unfold xv;rw [zDe, h];rfl
theorem zKk (l : List Nte) {i n : Nat} (hi : i < l.length) (h : qM l n i = true) : (xv l i n).set i ((jl l i n : Int) + 1) = xv l i (n + 1) := by
 refine List.ext_getElem (by simp [xv]) fun t h1 h2 => ?_
 rw [List.getElem_set];simp only [xv, List.getElem_map, List.getElem_range, zDe, h, if_true];by_cases b : i = t
 · subst b;rw [if_pos rfl, if_neg (Nat.lt_irrefl _), if_pos rfl];omega
 rw [if_neg b];split
 · rfl
 rw [if_neg (fun e => b e.symm), if_neg (fun e => b e.symm)]
theorem zEQ (l : List Nte) {t : Nat} (h : t < l.length) : (xv l l.length 0).getD t 0 = (zj l t : Int) := by
 have h2 : t < (xv l l.length 0).length := by rw [vM]; exact h
 rw [zN h2];simp [xv, h]
theorem zHJ (l : List Nte) : qe l 0 = List.replicate l.length zF := by
 refine List.ext_getElem (by simp [qe]) fun t h1 h2 => ?_
 simp [qe]
theorem zKt (l : List Nte) {i : Nat} (h : i < l.length) : (qe l i).set (zj l i) (l.getD i zF) = qe l (i + 1) := by
 refine List.ext_getElem (by simp [qe]) fun t h1 h2 => ?_
 have ht : t < l.length := by simpa [qe] using h2
 rw [List.getElem_set];simp only [qe, List.getElem_map, List.getElem_range];by_cases b : zj l i = t
 · have : (zl l).getD t 0 = i := by rw [← b]; exact zC4 l h
   rw [if_pos b, this, if_pos (Nat.lt_succ_self _)]
 have hne : (zl l).getD t 0 ≠ i := fun e => b (by rw [← e]; exact zEc l ht)
 rw [if_neg b];by_cases c : (zl l).getD t 0 < i
 · rw [if_pos c, if_pos (by omega)]
 rw [if_neg c, if_neg (by omega)]
theorem zIw (l : List Nte) : qe l l.length = (zl l).map fun i => l.getD i zF := by
 refine List.ext_getElem (by simp [qe, yQ]) fun t h1 h2 => ?_
 have ht : t < l.length := by simpa [qe] using h1
 have hto : t < (zl l).length := by rw [yQ]; exact ht
 simp only [qe, List.getElem_map, List.getElem_range];rw [if_pos (zDC l ht), zN hto]
theorem zBt {α : Type} {lt : α → α → Bool} (h : Swo lt) {x : α} {p s : List α} (hs : zT lt (p ++ s)) (h1 : ∀ y ∈ s, lt x y = true) (h2 : ∀ y, p.getLast? = some y → lt x y = false) : vV lt x (p ++ s) = p ++ x :: s := by
 refine zDy h x p s (fun y hy => ?_) (fun y hy => h1 y (List.mem_of_mem_head? (by rw [hy]; rfl)))
 obtain ⟨z, hz⟩ : ∃ z, p.getLast? = some z := by
  cases hp : p.getLast? with
  | none => rw [List.getLast?_eq_none_iff] at hp; subst hp; cases hy
  | some z => exact ⟨z, rfl⟩
 have hzx := h2 z hz;have hp := List.getLast?_eq_some_iff.1 hz;obtain ⟨p', rfl⟩ := hp;rcases List.mem_append.1 hy with hy | hy
 ·
  have hzy : lt z y = false := by
   have := (List.pairwise_append.1 (List.pairwise_append.1 hs).1).2.2 y hy z (by simp);exact this
  rw [Bool.eq_false_iff];intro e;have := h.left e hzy;rw [hzx] at this;cases this
 simp only [List.mem_singleton] at hy;subst hy;exact hzx
open Go.RowKit Go.Deep
def zFH (xs : List Value) : Nat → List Value → List Value
 | _, [] => xs
 | o, v :: r => zFH (xs.set o v) (o + 1) r
theorem zCw {w : World} {base : Nat} {e : TypeId} {size n g m c : Nat} {xs : List Value} (h : w.ownsRow base e size (.slice (some ⟨g, 0, none⟩) m c) n xs) (i : Nat) (u : Value) : (w.setCell ⟨g, i, none⟩ u).ownsRow base e size (.slice (some ⟨g, 0, none⟩) m c) n (xs.set i u) := by
 refine ⟨by rw [List.length_set]; exact h.1, ?_⟩;rcases h.2 with ⟨h0, h1⟩ | ⟨g', cap, cur, hv, hb, hg, hc1, hc2, hc3, ht⟩
 · cases h0
 refine Or.inr ⟨g', cap, cur.setIfInBounds i u, hv, hb, ?_, hc1, hc2, by rw [Array.size_setIfInBounds]; exact hc3, ?_⟩
 · injection hv with hv _ _;injection hv with hv;injection hv with hv _ _;subst hv;exact heap_setCell_same w _ i cur _ _ hg
 rw [Array.toList_setIfInBounds, List.take_set, ht]
theorem zBJ {base : Nat} {e : TypeId} {size n g m c : Nat} : ∀ (vs : List Value) (o : Nat) {w : World} {xs : List Value}, w.ownsRow base e size (.slice (some ⟨g, 0, none⟩) m c) n xs → (w.setCells g o vs).ownsRow base e size (.slice (some ⟨g, 0, none⟩) m c) n (zFH xs o vs)
 | [], _, _, _, h => h
 | v :: r, o, _, _, h => zBJ r (o + 1) (zCw h o v)
theorem zEK : ∀ (V M A B : List Value), M.length = V.length → zFH (A ++ (M ++ B)) A.length V = A ++ (V ++ B)
 | [], M, A, B, h => by
  have : M = [] := List.eq_nil_of_length_eq_zero h;subst this;rfl
 | v :: r, [], A, B, h => by simp at h
 | v :: r, m :: M, A, B, h => by
  have e : (A ++ (m :: M ++ B)).set A.length v = (A ++ [v]) ++ (M ++ B) := by
   rw [List.set_append_right _ _ (Nat.le_refl _), Nat.sub_self];simp
  show zFH ((A ++ (m :: M ++ B)).set A.length v) (A.length + 1) r = _;rw [e];have := zEK r M (A ++ [v]) B (by simpa using h);rw [List.length_append, List.length_singleton] at this;rw [this];simp
theorem zII {α : Type} (cf : α → List Value) (k : Nat) (hk : ∀ x, (cf x).length = k) (l : List α) (i : Nat) (x : α) (hi : i < l.length) : zFH (zW cf l) (i * k) (cf x) = zW cf (l.set i x) := by
 have e1 : l = l.take i ++ (l[i] :: l.drop (i + 1)) := by
  rw [← List.drop_eq_getElem_cons hi, List.take_append_drop]
 have e2 : l.set i x = l.take i ++ (x :: l.drop (i + 1)) := List.set_eq_take_append_cons_drop ▸ (by rw [if_pos hi])
 have e3 : (zW cf (l.take i)).length = i * k := by
  rw [xQ cf k hk, List.length_take, Nat.min_eq_left (Nat.le_of_lt hi)]
 rw [e2, y9]
 conv => lhs; rw [e1, y9]
 have e4 : ∀ (y : α) (m : List α), zW cf (y :: m) = cf y ++ zW cf m := fun y m => by simp [zW]
 rw [e4, e4, ← e3];exact zEK _ _ _ _ (by rw [hk, hk])
theorem zn.set {w : World} {base g m c : Nat} {l : List Par} (h : zn w base (.slice (some ⟨g, 0, none⟩) m c) l) (i : Nat) (x : Par) (hi : i < l.length) : zn (w.setCells g (i * 9) x.cs) base (.slice (some ⟨g, 0, none⟩) m c) (l.set i x) := by
 unfold zn;rw [List.length_set, ← zII Par.cs 9 Par.cs_len l i x hi];exact zBJ _ _ h
theorem yO.set {w : World} {base g m c : Nat} {l : List Int} (h : yO w base (.slice (some ⟨g, 0, none⟩) m c) (itg l)) (i : Nat) (x : Int) : yO (w.setCell ⟨g, i, none⟩ (.int .i64 x)) base (.slice (some ⟨g, 0, none⟩) m c) (itg (l.set i x)) := by
 unfold yO
 have e : zW Itg.cs (itg (l.set i x)) = (zW Itg.cs (itg l)).set i (.int .i64 x) := by
  have : ∀ l : List Int, zW Itg.cs (itg l) = l.map fun x => Value.int .i64 x := fun l => by
   induction l with
   | nil => rfl
   | cons a l ih => simp [itg, zW, Itg.cs] at ih ⊢; exact ih
  rw [this, this, List.map_set]
 rw [e, zo, List.length_set, ← zo l];exact zCw h i _
theorem zH6 {α : Type} (p s : List α) (x y : α) : (((p ++ [y]) ++ x :: s).set (p.length + 1) y).set p.length x = p ++ x :: y :: s := by
 rw [show p.length + 1 = (p ++ [y]).length by simp, List.set_append_right _ _ (Nat.le_refl _), Nat.sub_self];simp
theorem zE3 {α : Type} (p s : List α) (x d : α) : (p ++ x :: s).getD p.length d = x := by simp [List.getD]
theorem zAT {α : Type} (p s : List α) (x y d : α) : ((p ++ [y]) ++ x :: s).getD p.length d = y := by simp [List.getD]
open Go.RowKit Go.Deep
theorem yO.look {w : World} {base : Nat} {A : Option Addr} {m c : Nat} {l : List Int} (h : yO w base (.slice A m c) (itg l)) {i : Nat} (hi : i < l.length) : ∃ g, A = some ⟨g, 0, none⟩ ∧ base ≤ g ∧ g < w.heap.size ∧ ∀ j, j < l.length → w.cell? ⟨g, j, none⟩ = some (.int .i64 (l.getD j 0)) ∧ w.frozen? ⟨g, j, none⟩ = false := by
 rcases j3.of_own h with ⟨A', c', hv, hc, (⟨rfl, rfl⟩ | ⟨q, rfl, hB, hr⟩)⟩
 · simp at hi
 injection hv with hv;refine ⟨q, hv, hB, hr.lt, fun j hj => ?_⟩;have hj' : j < (itg l).length := by rw [zo]; exact hj
 have h1 := hr.cell j hj' 0 (.int .i64 (l.getD j 0)) (by rw [zDb]; rfl);have h2 := (hr.fr j hj' 0 (by omega)).2;rw [Nat.mul_one, Nat.add_zero] at h1 h2;exact ⟨h1, h2⟩
theorem zJk (l : List Int) (x : Int) : vg (l ++ [x]) = vV ltI x (vg l) := xC _ _
theorem zGw (l : List Int) : zT ltI (vg l) := kH zB0 l
theorem zEh {α : Type} (l : List α) (d : α) {j : Nat} (h : j < l.length) : l.take (j + 1) = l.take j ++ [l.getD j d] := by
 rw [List.take_succ_eq_append_getElem h, zN h]
theorem zC2 {α : Type} (p : List α) : p = [] ∨ ∃ p' y, p = p' ++ [y] := by
 rcases List.eq_nil_or_concat p with h | ⟨a, b, h⟩
 · exact .inl h
 exact .inr ⟨a, b, by rw [h, List.concat_eq_append]⟩
theorem zGi (w : World) (A : Option Addr) (c : Nat) (l : List Int) (hl : RdC w w.heap.size A (itg l)) (hn : l.length ≤ 100000) :
 Calls Tryz.prog 38 #[.slice A l.length c] w fun e w' => ∃ v, e = .returned v ∧ Below w.heap.size w w' ∧ yO w' w.heap.size v (itg (vg l)) := by
 have HL := hid hl;obtain ⟨n, hn0⟩ : ∃ n, n = l.length := ⟨_, rfl⟩
 rw [← hn0] at hn ⊢;have HN := hid hn0;clear hl hn0;go_enter Tryz.func38, Tryz.ntmps38
 go_wp2_with fail
 go_loopw [3, 4] (fun v i wx => ∃ j : Nat, j ≤ n ∧ i = .int .i64 j ∧ ∃ v0, v = v0 ∧ Hid (Below w.heap.size w wx) ∧ Hid (yO wx w.heap.size v0 (itg (vg (l.take j))))) (fun _ i _ => n - (zD i).toNat)
 case atStart => exact ⟨0, Nat.zero_le _, rfl, _, rfl, hid (Below.refl _ _), hid (yO.start _ _)⟩
 case round =>
  obtain ⟨j, hj, rfl, v0, rfl, HB, HO⟩ := hrel;by_cases hlt : j < n
  ·
   have hx0 : ∃ ad, A = some ad ∧ wr.cell? (ad.add j) = some (.int .i64 (l.getD j 0)) := by
    obtain ⟨ad, e, h⟩ := ji HL.out (Nat.le_refl _) HB.out (i := j) (by rw [← HN.out]; exact hlt);exact ⟨ad, e, h _ (Below.refl _ _)⟩
   obtain ⟨ad, rfl, cx⟩ := hx0;obtain ⟨x, hx⟩ : ∃ x, l.getD j 0 = x := ⟨_, rfl⟩
   rw [hx] at cx;obtain ⟨a, ha⟩ : ∃ a, vg (l.take j) = a := ⟨_, rfl⟩
   rw [ha] at HO;have hal : a.length = j := by rw [← ha]; unfold vg; rw [jT, List.length_take, ← HN.out]; omega
   have HX : Hid (vg (l.take (j + 1)) = vV ltI x a ∧ zT ltI a) := hid ⟨by rw [zEh l 0 (by rw [← HN.out]; exact hlt), zJk, ha, hx], by rw [← ha]; exact zGw _⟩;have r1 : IntKind.i64.wrap ((j : Int) + 1) = ((j + 1 : Nat) : Int) := by rw [IntKind.wrap_i64]; omega
   have r2 : IntKind.i64.wrap (((j + 1 : Nat) : Int) - 1) = (j : Int) := by rw [IntKind.wrap_i64]; omega
   obtain ⟨Ao, co, hv, -, -⟩ := HO.out.form;rw [zo, hal] at hv;subst hv;have HAL := hid hal;have HO2 := hid (yO.on HO.out ((Below.refl _ wr).alloc (Nat.le_refl _) (.cells #[.int .i64 x] 3)));have hbs := HB.out.size;clear hx ha hal;go_upto_region 6 with (at_builtin; go_must (refine vt _ rfl _ _ 24 3 (.int .i64 0) 1 8 rfl Tryz.underlying24 zFd rfl (by decide) w.heap.size (.slice Ao j co) j (zW Itg.cs (itg a)) rfl (by have := HO2.out; unfold yO at this; rw [zo, HAL.out] at this; exact this) (wr.heap.size + 1) (some ⟨wr.heap.size, 0, none⟩) 1 1 [.int .i64 x] rfl (xX wr #[.int .i64 x] 3 1 1 rfl) (by intro u hu; simp at hu; subst hu; rfl) (by simp only [maxLen]; omega) (by omega) (by simp; omega) ?_); intro v4 w4 ho4 hg4 hv4; replace ho4 := hid ho4; replace hg4 := hid hg4; clear hv4)
   have HO4 : Hid (yO w4 w.heap.size v4 (itg (a ++ [x]))) := hid (by
    have := ho4.out;unfold yO;rw [zDa, y9, xw, List.length_append, zo, HAL.out];exact this)
   have HB4 : Hid (Below w.heap.size w w4) := hid ((HB.out.alloc hbs (.cells #[.int .i64 x] 3)).grown hg4.out (by simp; omega) (fun y e => (World.ownsRow.lt HO2.out y e).1));clear ho4 hg4 HO2 HO HB cx;obtain ⟨A4, c4, hv, -, -⟩ := HO4.out.form;rw [zo, List.length_append, HAL.out] at hv;replace hv : v4 = .slice A4 (j + 1) c4 := hv;subst hv;obtain ⟨g, rfl, -, -, -⟩ := HO4.out.look (i := j) (by rw [List.length_append, HAL.out]; exact Nat.lt_succ_self _);go_wp2_with fail
   go_loopw [5] (fun u wx => ∃ p s : List Int, u = .int .i64 (p.length : Int) ∧ Hid (p ++ s = a) ∧ Hid (∀ y ∈ s, ltI x y = true) ∧ Hid (Below w.heap.size w wx) ∧ Hid (yO wx w.heap.size (.slice (some ⟨g, 0, none⟩) (j + 1) c4) (itg (p ++ x :: s)))) (fun u _ => (zD u).toNat)
   case atStart => exact ⟨a, [], by rw [HAL.out], hid (List.append_nil a), hid (fun y hy => by cases hy), HB4, HO4⟩
   case round =>
    clear HO4 HB4;obtain ⟨p, s, rfl, HPS, HS, HBC, HOC⟩ := hrel;rcases zC2 p with rfl | ⟨p', y, rfl⟩
    ·
     have jn : ¬ (0 : Int) < ((0 : Nat) : Int) := by omega
     rw [List.length_nil];go_wp2_with fail
     refine yo ?_;refine zA (.int .i64 ((0 : Nat) : Int)) ?_;refine zA (.bool false) ?_;refine zA (.bool false) ?_;iterate 10 with_reducible refine zAF ?_
     refine zA (.bool false) ?_;refine wpQuiet_nil ?_;intro w2 hb2
     have HOF : Hid (yO w2 w.heap.size (.slice (some ⟨g, 0, none⟩) (j + 1) c4) (itg (vg (l.take (j + 1))))) := hid (by
      rw [HX.out.1, ← HPS.out, zBt (lt := ltI) zB0 (by rw [HPS.out]; exact HX.out.2) HS.out (fun y hy => by cases hy)];exact yO.on HOC.out hb2)
     exact zNo
    obtain ⟨kp, hkp⟩ : ∃ kp, p'.length = kp := ⟨_, rfl⟩
    obtain ⟨k, hk⟩ : ∃ k, (p' ++ [y]).length = k := ⟨_, rfl⟩
    have hkk : k = kp + 1 := by rw [← hk, ← hkp]; simp
    have hjl : kp + 1 + s.length = j := by rw [← HAL.out, ← HPS.out, ← hkp]; simp; omega
    rw [hk];have kpos : (0 : Int) < (k : Int) := by omega
    have rk : IntKind.i64.wrap ((k : Int) - 1) = (kp : Int) := by rw [IntKind.wrap_i64]; omega
    have bk : ¬ ((j : Int) + 1 ≤ (k : Int)) := by omega
    have bp : ¬ ((j : Int) + 1 ≤ (kp : Int)) := by omega
    obtain ⟨g', e', -, hbl, hcs⟩ := HOC.out.look (i := k) (by simp; omega);injection e' with e';injection e' with e' _ _;subst e';have ck := (hcs k (by simp; omega)).1;have cp := (hcs kp (by simp; omega)).1;rw [show ((p' ++ [y]) ++ x :: s).getD k 0 = x by rw [← hk]; exact zE3 _ _ _ _] at ck;rw [show ((p' ++ [y]) ++ x :: s).getD kp 0 = y by rw [← hkp]; exact zAT _ _ _ _ _] at cp;clear hcs;have HK := hid (And.intro hkp (And.intro hk hkk));have kn : 0 < k := by omega
    have HJL := hid hjl;clear hkp hk hkk hjl;by_cases t1 : x < y
    ·
     have HT := hid t1;go_wp2_with fail
     refine yo ?_;refine zA (.int .i64 (k : Int)) ?_;refine zA (.bool true) ?_ (hC := fun _ _ => by simp [go_sem, kn]);refine zA (.bool true) ?_;refine zA (.slice (some ⟨g, 0, none⟩) (j + 1) c4) ?_;refine zA (.int .i64 (k : Int)) ?_;refine zA (.pointer (some ⟨g, k, none⟩)) ?_ (hC := fun _ _ => by simp [go_sem, bk]);refine zL 3 (⟨g, k, none⟩) (.int .i64 x) (fun w' hb => zC _ _ _ ((hb.cell hbl).trans ck)) ?_;refine zA (.slice (some ⟨g, 0, none⟩) (j + 1) c4) ?_;refine zA (.int .i64 (k : Int)) ?_;refine zA (.int .i64 (kp : Int)) ?_ (hC := fun _ _ => by simp [go_sem, rk]);refine zA (.pointer (some ⟨g, kp, none⟩)) ?_ (hC := fun _ _ => by simp [go_sem, bp]);refine zL 3 (⟨g, kp, none⟩) (.int .i64 y) (fun w' hb => zC _ _ _ ((hb.cell hbl).trans cp)) ?_;refine zA (.bool true) ?_ (hC := fun _ _ => by simp [go_sem, t1]);refine zA (.bool true) ?_;refine wpQuiet_nil ?_;intro w2 hb2;have HO5 := hid (yO.on HOC.out hb2);have HB5 := hid (zB HBC.out hb2);clear HOC HBC ck cp hbl kpos bk bp t1 kn;go_upto_region 9 with (fail)
     have hkk := HK.out.2.2;have hjl := HJL.out;have hpl := HK.out.1;obtain ⟨g', e', hgB, -, hcs⟩ := HO5.out.look (i := k) (by simp; omega);injection e' with e';injection e' with e' _ _;subst e';have c1 := (hcs k (by simp; omega)).1;have f1 := (hcs k (by simp; omega)).2;have c2 := (hcs kp (by simp; omega)).1;have f2 := (hcs kp (by simp; omega)).2;rw [show ((p' ++ [y]) ++ x :: s).getD k 0 = x by rw [← HK.out.2.1]; exact zE3 _ _ _ _] at c1;rw [show ((p' ++ [y]) ++ x :: s).getD kp 0 = y by rw [← HK.out.1]; exact zAT _ _ _ _ _] at c2;clear hcs;have b1 : ¬ ((j : Int) + 1 ≤ (k : Int)) := by omega
     have b2 : ¬ ((j : Int) + 1 ≤ (kp : Int)) := by omega
     obtain ⟨u, hu⟩ : ∃ u, (w2.setCell ⟨g, k, none⟩ (.int .i64 y)).cell? ⟨g, kp, none⟩ = some u := ⟨_, (World.cell?_setCell_other _ _ _ _ (by intro e'; simp only [Addr.mk.injEq] at e'; omega)).trans c2⟩
     have HN : Hid (yO ((w2.setCell ⟨g, k, none⟩ (.int .i64 y)).setCell ⟨g, kp, none⟩ (.int .i64 x)) w.heap.size (.slice (some ⟨g, 0, none⟩) (j + 1) c4) (itg (p' ++ x :: y :: s))) := hid (by
      have := (HO5.out.set k y).set kp x;rw [HK.out.2.2, ← HK.out.1] at this ⊢
      rwa [zH6] at this)
     have HBN : Hid (Below w.heap.size w ((w2.setCell ⟨g, k, none⟩ (.int .i64 y)).setCell ⟨g, kp, none⟩ (.int .i64 x))) := hid ((HB5.out.setCell (p := ⟨g, k, none⟩) hgB _).setCell (p := ⟨g, kp, none⟩) hgB _);clear HO5 HB5 hgB hkk hjl hpl;go_big_region
     go_wp2
     go_roundw
     case rel => exact ⟨p', y :: s, by rw [HK.out.1], hid (by rw [← HPS.out]; simp), hid (fun z hz => by rcases List.mem_cons.1 hz with rfl | hz <;> first | exact decide_eq_true HT.out | exact HS.out z hz), hid HBN.out.drew, HN⟩
     case measure => have := HK.out; simp [zD]; omega
    have HT := hid t1;go_wp2_with fail
    refine yo ?_;refine zA (.int .i64 (k : Int)) ?_;refine zA (.bool true) ?_ (hC := fun _ _ => by simp [go_sem, kn]);refine zA (.bool true) ?_;refine zA (.slice (some ⟨g, 0, none⟩) (j + 1) c4) ?_;refine zA (.int .i64 (k : Int)) ?_;refine zA (.pointer (some ⟨g, k, none⟩)) ?_ (hC := fun _ _ => by simp [go_sem, bk]);refine zL 3 (⟨g, k, none⟩) (.int .i64 x) (fun w' hb => zC _ _ _ ((hb.cell hbl).trans ck)) ?_;refine zA (.slice (some ⟨g, 0, none⟩) (j + 1) c4) ?_;refine zA (.int .i64 (k : Int)) ?_;refine zA (.int .i64 (kp : Int)) ?_ (hC := fun _ _ => by simp [go_sem, rk]);refine zA (.pointer (some ⟨g, kp, none⟩)) ?_ (hC := fun _ _ => by simp [go_sem, bp]);refine zL 3 (⟨g, kp, none⟩) (.int .i64 y) (fun w' hb => zC _ _ _ ((hb.cell hbl).trans cp)) ?_;refine zA (.bool false) ?_ (hC := fun _ _ => by simp [go_sem, t1]);refine zA (.bool false) ?_;refine wpQuiet_nil ?_;intro w2 hb2;clear ck cp hbl kpos bk bp t1 kn
    have HOF : Hid (yO w2 w.heap.size (.slice (some ⟨g, 0, none⟩) (j + 1) c4) (itg (vg (l.take (j + 1))))) := hid (by
     rw [HX.out.1, ← HPS.out, zBt (lt := ltI) zB0 (by rw [HPS.out]; exact HX.out.2) HS.out (fun z hz => by rw [List.getLast?_append, List.getLast?_singleton] at hz; injection hz with hz; subst hz; exact decide_eq_false (by have := HT.out; omega))];exact yO.on HOC.out hb2)
    exact zNo
  have HE : Hid (l.take j = l) := hid (List.take_of_length_le (by rw [← HN.out]; omega));(go_wp2_with fail);go_ret;rw [HE.out] at HO;exact ⟨_, rfl, HB.out, HO.out⟩
open Go.RowKit Go.Deep
theorem xh {w : World} {g : Nat} {l : List Nte} (h : yk w g l) {i : Nat} (hi : i < l.length) (d : Nat) (v : Value) (hv : (l.getD i zF).cells[d]? = some v) : w.cell? ⟨g, i * 10 + d, none⟩ = some v := h.cell i hi d v (by rw [← hv]; simp [Nte.cs])
def qB (l : List Nte) (x : Nte) (m : Nat) (k : Int) : Prop := (k = -1 ∧ ∀ t, m ≤ t → t < l.length → vK x (l.getD t zF) = false) ∨ ∃ t : Nat, k = t ∧ m ≤ t ∧ t < l.length ∧ vK x (l.getD t zF) = true ∧ ∀ s, m ≤ s → s < t → vK x (l.getD s zF) = false
theorem qB.hit {l : List Nte} {x : Nte} {m : Nat} (hm : m < l.length) (h : vK x (l.getD m zF) = true) : qB l x m (m : Int) := .inr ⟨m, rfl, Nat.le_refl _, hm, h, fun s h1 h2 => by omega⟩
theorem qB.miss {l : List Nte} {x : Nte} {m : Nat} {k : Int} (h : qB l x (m + 1) k) (h2 : vK x (l.getD m zF) = false) : qB l x m k := by
 rcases h with ⟨rfl, h⟩ | ⟨t, rfl, h3, h4, h5, h6⟩
 ·
  refine .inl ⟨rfl, fun t h7 h8 => ?_⟩;rcases Nat.eq_or_lt_of_le h7 with rfl | h7
  · exact h2
  exact h t h7 h8
 refine .inr ⟨t, rfl, by omega, h4, h5, fun s h7 h8 => ?_⟩;rcases Nat.eq_or_lt_of_le h7 with rfl | h7
 · exact h2
 exact h6 s h7 h8
theorem qB.none {l : List Nte} {x : Nte} {k : Int} (h : qB l x 0 k) (hk : ¬ 0 ≤ k) : kw l x = Option.none := by
 rcases h with ⟨-, h⟩ | ⟨t, rfl, -⟩
 · rw [jt]; exact zFe zF fun t ht => h t (Nat.zero_le _) ht
 omega
theorem qB.some {l : List Nte} {x : Nte} {k : Int} (h : qB l x 0 k) (hk : 0 ≤ k) : ∃ t : Nat, k = t ∧ t < l.length ∧ kw l x = Option.some t := by
 rcases h with ⟨rfl, h⟩ | ⟨t, rfl, -, h4, h5, h6⟩
 · omega
 exact ⟨t, rfl, h4, by rw [jt]; exact zFc zF h4 h5 fun s hs => h6 s (Nat.zero_le _) hs⟩
theorem zGd {l : List Nte} {i : Nat} (hi : i < l.length) (h : (l.getD i zF).tied = false ∨ kw l (l.getD i zF) = Option.none) : qj l i = l := by
 unfold qj;rw [List.getElem?_eq_getElem hi];rw [zN hi] at h;rcases h with h | h
 · simp [h]
 simp only []; split <;> simp [h]
theorem zKd {l : List Nte} {i t : Nat} (hi : i < l.length) (h1 : (l.getD i zF).tied = true) (h2 : kw l (l.getD i zF) = Option.some t) : qj l i = l.set i { (l.getD i zF) with place := (l.getD t zF).place } := by
 unfold qj;rw [List.getElem?_eq_getElem hi];rw [zN hi] at h1 h2 ⊢;simp only [h1, if_true, h2]
theorem zGs (w : World) (A : Option Addr) (c : Nat) (l : List Nte) (hl : RdN w w.heap.size A l) (hn : l.length ≤ 100000) :
 Calls Tryz.prog 36 #[.slice A l.length c] w fun e w' => e = .returned (.tuple #[.slice (some ⟨w.heap.size + 1, 0, none⟩) l.length l.length, .slice (some ⟨w.heap.size, 0, none⟩) l.length l.length]) ∧ Below w.heap.size w w' ∧ yk w' (w.heap.size + 1) (vd l) ∧ kA w' w.heap.size (xv l l.length 0) := by
 have HL := hid hl;obtain ⟨n, hn0⟩ : ∃ n, n = l.length := ⟨_, rfl⟩
 rw [← hn0] at hn ⊢;have HN := hid hn0;clear hl hn0;have hmk := zEv n (by omega);have hmn := zDo n (by omega);go_enter Tryz.func36, Tryz.ntmps36
 go_upto_region 3 with (fail)
 clear hmk hmn;obtain ⟨w1, hw1⟩ : ∃ w1, w1 = (w.alloc (.cells (vC (List.replicate n 0)).toArray 3)).alloc (.cells (madeCells zF.cells (n * 10)) 55) := ⟨_, rfl⟩
 have W1 : Hid (Below w.heap.size w w1) := hid (by rw [hw1]; exact ((Below.refl _ _).alloc (Nat.le_refl _) _).alloc (by simp) _)
 have I1 : Hid (kA w1 w.heap.size (xv l 0 0)) := hid (by
  rw [hw1, zHu, ← HN.out];exact (Blk.new w 3 (vC (List.replicate n 0)).toArray).alloc _)
 have N1 : Hid (yk w1 (w.heap.size + 1) (qe l 0)) := hid (by
  rw [hw1, zHJ, ← HN.out];have := zBh (w.alloc (.cells (vC (List.replicate n 0)).toArray 3)) n;rw [show (w.alloc (.cells (vC (List.replicate n 0)).toArray 3)).heap.size = w.heap.size + 1 by simp] at this;exact this)
 rw [← hw1];clear hw1;go_wp2_with fail
 go_loopw [6] (fun v wx => ∃ i : Nat, i ≤ n ∧ v = .int .i64 i ∧ Hid (Below w.heap.size w wx) ∧ Hid (kA wx w.heap.size (xv l i 0)) ∧ Hid (yk wx (w.heap.size + 1) (qe l i))) (fun v _ => n - (zD v).toNat)
 case atStart => exact ⟨0, Nat.zero_le _, rfl, W1, I1, N1⟩
 case round =>
  clear W1 I1 N1;obtain ⟨i, hi, rfl, HB, HI, HR⟩ := hrel;by_cases hin : i < n
  ·
   go_wp2_with fail
   go_loopw [7] (fun v wx => ∃ k : Nat, k ≤ n ∧ v = .int .i64 k ∧ Hid (Below w.heap.size w wx) ∧ Hid (kA wx w.heap.size (xv l i k)) ∧ Hid (yk wx (w.heap.size + 1) (qe l i))) (fun v _ => n - (zD v).toNat)
   case atStart => exact ⟨0, Nat.zero_le _, rfl, HB, HI, HR⟩
   case round =>
    clear HB HI HR;obtain ⟨k, hk, rfl, HB, HI, HR⟩ := hrel;by_cases hkn : k < n
    ·
     obtain ⟨ad, rfl, hld⟩ := yt HL.out (Nat.le_refl _) HB.out (i := k) (by rw [← HN.out]; exact hkn);have hl0 := hld _ (Below.refl _ _);obtain ⟨x, hx⟩ : ∃ x, l.getD k zF = x := ⟨_, rfl⟩
     rw [hx] at hl0;have HX := hid hx;have r2 : IntKind.i64.wrap ((k : Int) + 1) = ((k + 1 : Nat) : Int) := by rw [IntKind.wrap_i64]; omega
     clear hx hld;have hal := x.all_one;go_upto_region 10 with (first | ((with_reducible show wpList _ _ _ (Oper.mk _ (Op.load _ _) _ _ _ _ :: _) _ _); refine yB rfl 55 (.tmp 33) rfl _ x.cells rfl hl0 ?_; try simp only [Act.put, sS]) | ((with_reducible show wpList _ _ _ (Oper.mk _ (Op.store _ _ _) _ _ _ _ :: _) _ _); refine zI rfl 55 (.tmp 8) (.tmp 34) rfl wr.heap.size x.cells rfl rfl 55 zF.cells (Blk.new wr _ _) zx rfl hal ?_; intro w4 b4 g4 z4; replace b4 := hid b4; replace g4 := hid g4; replace z4 := hid z4; try simp only [Act.put, sS]))
     have B4 : Hid (Below wr.heap.size wr w4) := hid (((Below.refl _ _).alloc (Nat.le_refl _) _).grown g4.out (by simp) (fun b e => by injection e with e; omega));obtain ⟨gA, hG⟩ : ∃ g, g = wr.heap.size := ⟨_, rfl⟩
     rw [← hG] at b4 ⊢;have y4 : Hid (gA < w4.heap.size) := hid (by rw [z4.out, hG]; simp);clear hl0 g4 hal z4 hG;have W4 := hid (zB HB.out B4.out);have I4 := hid (HI.out.block (B4.out.block _ (Blk.lt HI.out)));have N4 := hid (HR.out.block (B4.out.block _ HR.out.lt));clear HB HI HR;obtain ⟨ad2, e2, hld⟩ := yt HL.out (Nat.le_refl _) W4.out (i := i) (by rw [← HN.out]; exact hin);injection e2 with e2;subst e2;have hl0 := hld _ (Below.refl _ _);obtain ⟨y, hy⟩ : ∃ x, l.getD i zF = x := ⟨_, rfl⟩
     rw [hy] at hl0;have HY := hid hy;clear hy hld;have hal := y.all_one;go_upto_region 11 with (first | ((with_reducible show wpList _ _ _ (Oper.mk _ (Op.load _ _) _ _ _ _ :: _) _ _); refine yB rfl 55 (.tmp 37) rfl _ y.cells rfl hl0 ?_; try simp only [Act.put, sS]) | ((with_reducible show wpList _ _ _ (Oper.mk _ (Op.store _ _ _) _ _ _ _ :: _) _ _); refine zI rfl 55 (.tmp 9) (.tmp 38) rfl w4.heap.size y.cells rfl rfl 55 zF.cells (Blk.new w4 _ _) zx rfl hal ?_; intro w5 b5 g5 z5; replace b5 := hid b5; replace g5 := hid g5; replace z5 := hid z5; try simp only [Act.put, sS]))
     have B5 : Hid (Below w4.heap.size w4 w5) := hid (((Below.refl _ _).alloc (Nat.le_refl _) _).grown g5.out (by simp) (fun b e => by injection e with e; omega));obtain ⟨gB, hG⟩ : ∃ g, g = w4.heap.size := ⟨_, rfl⟩
     rw [← hG] at b5 ⊢;have y5 : Hid (gB < w5.heap.size) := hid (by rw [z5.out, hG]; simp);clear hl0 g5 hal z5 hG;have W5 := hid (zB W4.out B5.out);have I5 := hid (I4.out.block (B5.out.block _ (Blk.lt I4.out)));have N5 := hid (N4.out.block (B5.out.block _ N4.out.lt));have a5 := hid (b4.out.below B5.out y4.out);clear W4 I4 N4 b4 y4 B4 B5 y5;have a0 := a5.out.cell 0;have a1 := a5.out.cell 1;have b0 := b5.out.cell 0;have b1 := b5.out.cell 1;clear a5 b5
     have cI : w5.cell? ⟨w.heap.size, i, none⟩ = some (.int .i64 (jl l i k : Int)) := by
      have := I5.out.cell i (by rw [vM, ← HN.out]; exact hin)
      rwa [zLh l (by rw [← HN.out]; exact hin)] at this
     have fI := I5.out.frozen i;have r3 : IntKind.i64.wrap ((jl l i k : Int) + 1) = (jl l i k : Int) + 1 := by have := zKZ l i k; rw [IntKind.wrap_i64]; omega
     obtain ⟨rk, hrk⟩ : ∃ r : Int, (jl l i k : Int) = r := ⟨_, rfl⟩
     rw [hrk] at cI r3;have HRK := hid hrk;have HAN : Hid (qM l k i = true ↔ x.start < y.start ∨ (x.start = y.start ∧ (x.voice < y.voice ∨ (x.voice = y.voice ∧ k < i)))) := hid (by have := zI2 l k i; rw [HX.out, HY.out] at this; exact this);clear hrk;by_cases t1 : x.start < y.start
     · exact m31
     by_cases t2 : x.start = y.start
     ·
      by_cases t3 : x.voice < y.voice
      · exact m31
      by_cases t4 : x.voice = y.voice
      ·
       by_cases t5 : k < i
       · exact m31
       exact m64
      exact m64
     exact m64
    go_upto_region 13 with (fail)
    have hkn2 : k = n := by omega
    obtain ⟨ad, rfl, hcy⟩ := zAw HL.out (Nat.le_refl _) HB.out (i := i) (by rw [← HN.out]; exact hin);obtain ⟨y, hy⟩ : ∃ y, l.getD i zF = y := ⟨_, rfl⟩
    rw [hy] at hcy;have HY := hid hy;obtain ⟨pl, hpl⟩ : ∃ p, zj l i = p := ⟨_, rfl⟩
    have hpn : pl < n := by rw [← hpl, HN.out]; exact zCa l (by rw [← HN.out]; exact hin)
    have HPL := hid hpl;rw [hkn2, show xv l i n = xv l (i + 1) 0 by rw [HN.out]; exact zIY l (by rw [← HN.out]; exact hin)] at HI
    have cI0 : wr.cell? ⟨w.heap.size, i, none⟩ = some (.int .i64 (pl : Int)) := by
     have := HI.out.cell i (by rw [vM, ← HN.out]; exact hin);rw [this];(have h2 : i < (xv l (i + 1) 0).length := by rw [vM, ← HN.out]; exact hin);rw [zN h2];simp [xv, hpl]
    have hth : wr.drew.there (w.heap.size + 1) (pl * 10) 10 := xB (HR.out.fr pl (by rw [zAJ, ← HN.out]; exact hpn));have hcw := hcy wr.drew (Below.refl _ wr).drew;obtain ⟨wz, hwz⟩ : ∃ z, z = wr.drew.setCells (w.heap.size + 1) (pl * 10) y.cs := ⟨_, rfl⟩
    have OZ : zH (w.heap.size + 1) wr.drew wz := by rw [hwz]; exact zH.setCells y.cs (pl * 10) wr.drew (zH.refl _ _)
    have SI : Hid (wz.cell? ⟨w.heap.size, i, none⟩ = some (.int .i64 (pl : Int))) := hid ((OZ.cell (p := ⟨w.heap.size, i, none⟩) (by show w.heap.size ≠ w.heap.size + 1; omega) (Blk.lt HI.out)).trans cI0);obtain ⟨ad', e', hb', -⟩ := RdN.at HL.out (i := i) (by rw [← HN.out]; exact hin);injection e' with e';subst e';have hbs := HB.out.size;have SN : Hid (∀ j v, y.cells[j]? = some v → wz.cell? ((ad.add (i * 10)).add j) = some v) := hid fun j v h => (OZ.cell (p := (ad.add (i * 10)).add j) (by rw [zs, zs]; omega) (by rw [zs, zs]; show ad.block < wr.heap.size; omega)).trans (hcw j v h)
    have W9 : Hid (Below w.heap.size w wz) := hid (HB.out.drew.grown (xO OZ) HB.out.size (fun y e => by injection e with e; omega));have I9 : Hid (kA wz w.heap.size (xv l (i + 1) 0)) := hid (HI.out.block (OZ.block w.heap.size (by omega) (Blk.lt HI.out)))
    have N9 : Hid (yk wz (w.heap.size + 1) (qe l (i + 1))) := hid (by
     rw [hwz];have h1 : yk wr.drew (w.heap.size + 1) (qe l i) := HR.out.block rfl;have := h1.set pl y (by rw [zAJ, ← HN.out]; exact hpn)
     rwa [← HPL.out, ← HY.out, zKt l (by rw [← HN.out]; exact hin), HPL.out, HY.out] at this)
    have HWZ := hid hwz;clear hwz OZ hb' hbs;have r1 : IntKind.i64.wrap ((i : Int) + 1) = ((i + 1 : Nat) : Int) := by rw [IntKind.wrap_i64]; omega
    clear hy hpl hkn2 HB HI HR hcy hkn hk;refine jF (fun W => (W.cell? ⟨w.heap.size, i, none⟩ = some (.int .i64 (pl : Int))) ∧ ∀ j v, y.cells[j]? = some v → W.cell? ((ad.add (i * 10)).add j) = some v) ⟨cI0, hcw⟩ fun hHeld => ?_
    refine zJ 0 ?_;refine zJ 1 ?_;refine zJ 2 ?_;refine zJ 3 ?_;refine zJ 4 ?_ (hy := Or.inl ⟨by rfl, fun w hSw => by have c0 := hSw.1; clear hSw; go_simp; try with_reducible rfl⟩);refine zJ 5 ?_;refine zJ 6 ?_;refine zJ 7 ?_;refine tH 8 (.agg y.cells) rfl (by kernel_rfl) (fun _ _ _ h => h) (Or.inl ⟨by rfl, fun w hSw => zFb 55 (.tmp 83) rfl _ _ rfl (jw 55 _ Tryz.underlying55 rfl w _ _ zx (fun j v h => hSw.2 j v (by rw [← Array.getElem?_toList]; exact h)))⟩) hHeld ?_;try (change wpAnyH _ _ _ _ _ _ _ ⟨_, _⟩ _)
    try simp only [Act.put, sS]
    refine zJ 9 ?_;refine yL 10 ?_;intro K hK;refine zDJ (by rfl) 55 (.tmp 85) (.tmp 84) rfl (w.heap.size + 1) (pl * 10) y.cs rfl rfl hth zx y.cs_one ?_;refine zq hK (by rw [← HWZ.out]; exact ⟨SI.out, SN.out⟩) fun hHeld => ?_
    clear hK K;refine jc ?_;rw [← HWZ.out];clear HWZ SI SN hth hcw cI0;go_wp2_with fail
    go_roundw
    case rel => exact ⟨i + 1, by omega, by go_num, W9, I9, N9⟩
    case measure => simp [zD]; omega
  (obtain rfl : i = n := by omega);(obtain ⟨L0, hL0⟩ : ∃ L, L = qe l i := ⟨_, rfl⟩);have HL0 : Hid (L0.length = i) := hid (by rw [hL0, zAJ]; exact HN.out.symm);have HL1 : Hid (zAo L0 i = vd l) := hid (by rw [hL0]; have := HN.out; subst this; unfold vd; rw [zIw]);rw [← hL0] at HR;clear hin hi hL0;(obtain ⟨n, hnn⟩ : ∃ n, n = i := ⟨_, rfl⟩);subst hnn;(go_wp2_with fail);go_loopw [10] (fun v wx => ∃ i : Nat, i ≤ n ∧ v = .int .i64 i ∧ Hid (Below w.heap.size w wx) ∧ Hid (kA wx w.heap.size (xv l n 0)) ∧ Hid (yk wx (w.heap.size + 1) (zAo L0 i))) (fun v _ => n - (zD v).toNat)
  case atStart => exact ⟨0, Nat.zero_le _, rfl, HB, HI, HR⟩
  case round =>
   clear HB HI HR;obtain ⟨i, hi, rfl, HB, HI, HR⟩ := hrel;by_cases hin : i < n
   ·
    obtain ⟨tl, htl⟩ : ∃ tl, tl = zAo L0 i := ⟨_, rfl⟩
    have HLE : Hid (tl.length = n) := hid (by rw [htl, qu]; exact HL0.out);rw [← htl] at HR;have HTL := hid htl;obtain ⟨y, hy⟩ : ∃ y, tl.getD i zF = y := ⟨_, rfl⟩
    have HY := hid hy;have r1 : IntKind.i64.wrap ((i : Int) + 1) = ((i + 1 : Nat) : Int) := by rw [IntKind.wrap_i64]; omega
    have r0 : IntKind.i64.wrap ((n : Int) - 1) = (n : Int) - 1 := by rw [IntKind.wrap_i64]; omega
    have TS : Hid (∀ r, qj tl i = r → zAo L0 (i + 1) = r) := hid (fun r h => by rw [zBi, ← HTL.out]; exact h);clear htl hy;go_wp2_with fail
    go_loopw [11, 12] (fun u v wx => ∃ (m : Nat) (K : Int), m ≤ n ∧ u = .int .i64 K ∧ v = .int .i64 ((m : Int) - 1) ∧ Hid (Below w.heap.size w wx) ∧ Hid (kA wx w.heap.size (xv l n 0)) ∧ Hid (yk wx (w.heap.size + 1) tl) ∧ Hid (qB tl y m K)) (fun _ v _ => (zD v + 1).toNat)
    case atStart => exact ⟨n, -1, Nat.le_refl _, rfl, rfl, HB, HI, HR, hid (.inl ⟨rfl, fun t h1 h2 => by have := HLE.out; omega⟩)⟩
    case round =>
     clear HB HR HI;obtain ⟨m, K, hm, rfl, rfl, HB, HI, HR, HK⟩ := hrel;by_cases hm0 : 0 < m
     ·
      obtain ⟨j, rfl⟩ : ∃ j, m = j + 1 := ⟨m - 1, by omega⟩
      have hjn : j < n := by omega
      have e1 : ((j + 1 : Nat) : Int) - 1 = (j : Int) := by omega
      rw [e1];have hjl : j < tl.length := by rw [HLE.out]; exact hjn
      have hil : i < tl.length := by rw [HLE.out]; exact hin
      have hlr := HR.out.lt;obtain ⟨z, hz⟩ : ∃ z, tl.getD j zF = z := ⟨_, rfl⟩
      have Hz := hid hz;have Hy := HY;have r2 : IntKind.i64.wrap ((j : Int) - 1) = (j : Int) - 1 := by rw [IntKind.wrap_i64]; omega
      clear hz e1;go_wp2_with fail
      by_cases t1 : z.voice = y.voice
      ·
       by_cases t2 : z.stop = y.start
       ·
        have HK2 : Hid (qB tl y j (j : Int)) := hid (qB.hit hjl (by rw [Hz.out]; simp [vK, t1, t2]));refine yo ?_;refine zA (.slice (some ⟨w.heap.size + 1, 0, none⟩) n n) ?_;refine zA (.int .i64 (j : Int)) ?_;refine zA (.pointer (some ⟨w.heap.size + 1, j * 10, none⟩)) ?_ (hC := fun _ _ => by simp [go_sem, hjn]);refine zA (.pointer (some ⟨w.heap.size + 1, j * 10, none⟩)) ?_ (hC := fun _ _ => by simp [go_sem, Addr.add]);refine zL 3 (⟨w.heap.size + 1, j * 10, none⟩) (.int .i64 z.voice) (fun w' hb => zC _ _ _ ((hb.cell hlr).trans (xh HR.out hjl 0 _ (by rw [Hz.out]; rfl)))) ?_;refine zA (.slice (some ⟨w.heap.size + 1, 0, none⟩) n n) ?_;refine zA (.int .i64 (i : Int)) ?_;refine zA (.pointer (some ⟨w.heap.size + 1, i * 10, none⟩)) ?_ (hC := fun _ _ => by simp [go_sem, hin]);refine zA (.pointer (some ⟨w.heap.size + 1, i * 10, none⟩)) ?_ (hC := fun _ _ => by simp [go_sem, Addr.add]);refine zL 3 (⟨w.heap.size + 1, i * 10, none⟩) (.int .i64 y.voice) (fun w' hb => zC _ _ _ ((hb.cell hlr).trans (xh HR.out hil 0 _ (by rw [Hy.out]; rfl)))) ?_;refine zA (.bool true) ?_ (hC := fun _ _ => by simp [go_sem, t1]);refine zA (.bool true) ?_
        refine zA (.slice (some ⟨w.heap.size + 1, 0, none⟩) n n) ?_;refine zA (.int .i64 (j : Int)) ?_;refine zA (.pointer (some ⟨w.heap.size + 1, j * 10, none⟩)) ?_ (hC := fun _ _ => by simp [go_sem, hjn]);refine zA (.pointer (some ⟨w.heap.size + 1, j * 10 + 2, none⟩)) ?_ (hC := fun _ _ => by simp [go_sem, Addr.add]);refine zL 3 (⟨w.heap.size + 1, j * 10 + 2, none⟩) (.int .i64 z.stop) (fun w' hb => zC _ _ _ ((hb.cell hlr).trans (xh HR.out hjl 2 _ (by rw [Hz.out]; rfl)))) ?_;refine zA (.slice (some ⟨w.heap.size + 1, 0, none⟩) n n) ?_;refine zA (.int .i64 (i : Int)) ?_;refine zA (.pointer (some ⟨w.heap.size + 1, i * 10, none⟩)) ?_ (hC := fun _ _ => by simp [go_sem, hin]);refine zA (.pointer (some ⟨w.heap.size + 1, i * 10 + 1, none⟩)) ?_ (hC := fun _ _ => by simp [go_sem, Addr.add]);refine zL 3 (⟨w.heap.size + 1, i * 10 + 1, none⟩) (.int .i64 y.start) (fun w' hb => zC _ _ _ ((hb.cell hlr).trans (xh HR.out hil 1 _ (by rw [Hy.out]; rfl)))) ?_;refine zA (.bool true) ?_ (hC := fun _ _ => by simp [go_sem, t2]);refine zA (.bool true) ?_;refine wpQuiet_nil ?_;intro w2 hb2;have W9 := hid (zB HB.out hb2);have N9 := hid (HR.out.block (hb2.block _ HR.out.lt))
        have I9 := hid (HI.out.block (hb2.block _ (Blk.lt HI.out)));clear HB HR HI;go_wp2_with fail
        go_roundw
        case rel => exact ⟨j, (j : Int), by omega, rfl, rfl, W9, I9, N9, HK2⟩
        case measure => first | (simp [zD]; done) | (simp [zD]; omega)
       have HK2 : Hid (qB tl y j K) := hid (HK.out.miss (by rw [Hz.out]; simp [vK, t2]));refine yo ?_;refine zA (.slice (some ⟨w.heap.size + 1, 0, none⟩) n n) ?_;refine zA (.int .i64 (j : Int)) ?_;refine zA (.pointer (some ⟨w.heap.size + 1, j * 10, none⟩)) ?_ (hC := fun _ _ => by simp [go_sem, hjn]);refine zA (.pointer (some ⟨w.heap.size + 1, j * 10, none⟩)) ?_ (hC := fun _ _ => by simp [go_sem, Addr.add]);refine zL 3 (⟨w.heap.size + 1, j * 10, none⟩) (.int .i64 z.voice) (fun w' hb => zC _ _ _ ((hb.cell hlr).trans (xh HR.out hjl 0 _ (by rw [Hz.out]; rfl)))) ?_;refine zA (.slice (some ⟨w.heap.size + 1, 0, none⟩) n n) ?_;refine zA (.int .i64 (i : Int)) ?_;refine zA (.pointer (some ⟨w.heap.size + 1, i * 10, none⟩)) ?_ (hC := fun _ _ => by simp [go_sem, hin]);refine zA (.pointer (some ⟨w.heap.size + 1, i * 10, none⟩)) ?_ (hC := fun _ _ => by simp [go_sem, Addr.add]);refine zL 3 (⟨w.heap.size + 1, i * 10, none⟩) (.int .i64 y.voice) (fun w' hb => zC _ _ _ ((hb.cell hlr).trans (xh HR.out hil 0 _ (by rw [Hy.out]; rfl)))) ?_;refine zA (.bool true) ?_ (hC := fun _ _ => by simp [go_sem, t1]);refine zA (.bool true) ?_;refine zA (.slice (some ⟨w.heap.size + 1, 0, none⟩) n n) ?_
       refine zA (.int .i64 (j : Int)) ?_;refine zA (.pointer (some ⟨w.heap.size + 1, j * 10, none⟩)) ?_ (hC := fun _ _ => by simp [go_sem, hjn]);refine zA (.pointer (some ⟨w.heap.size + 1, j * 10 + 2, none⟩)) ?_ (hC := fun _ _ => by simp [go_sem, Addr.add]);refine zL 3 (⟨w.heap.size + 1, j * 10 + 2, none⟩) (.int .i64 z.stop) (fun w' hb => zC _ _ _ ((hb.cell hlr).trans (xh HR.out hjl 2 _ (by rw [Hz.out]; rfl)))) ?_;refine zA (.slice (some ⟨w.heap.size + 1, 0, none⟩) n n) ?_;refine zA (.int .i64 (i : Int)) ?_;refine zA (.pointer (some ⟨w.heap.size + 1, i * 10, none⟩)) ?_ (hC := fun _ _ => by simp [go_sem, hin]);refine zA (.pointer (some ⟨w.heap.size + 1, i * 10 + 1, none⟩)) ?_ (hC := fun _ _ => by simp [go_sem, Addr.add]);refine zL 3 (⟨w.heap.size + 1, i * 10 + 1, none⟩) (.int .i64 y.start) (fun w' hb => zC _ _ _ ((hb.cell hlr).trans (xh HR.out hil 1 _ (by rw [Hy.out]; rfl)))) ?_;refine zA (.bool false) ?_ (hC := fun _ _ => by simp [go_sem, t2]);exact m86
      have HK2 : Hid (qB tl y j K) := hid (HK.out.miss (by rw [Hz.out]; simp [vK, t1]));refine yo ?_;refine zA (.slice (some ⟨w.heap.size + 1, 0, none⟩) n n) ?_;refine zA (.int .i64 (j : Int)) ?_;refine zA (.pointer (some ⟨w.heap.size + 1, j * 10, none⟩)) ?_ (hC := fun _ _ => by simp [go_sem, hjn]);refine zA (.pointer (some ⟨w.heap.size + 1, j * 10, none⟩)) ?_ (hC := fun _ _ => by simp [go_sem, Addr.add]);refine zL 3 (⟨w.heap.size + 1, j * 10, none⟩) (.int .i64 z.voice) (fun w' hb => zC _ _ _ ((hb.cell hlr).trans (xh HR.out hjl 0 _ (by rw [Hz.out]; rfl)))) ?_;refine zA (.slice (some ⟨w.heap.size + 1, 0, none⟩) n n) ?_;refine zA (.int .i64 (i : Int)) ?_;refine zA (.pointer (some ⟨w.heap.size + 1, i * 10, none⟩)) ?_ (hC := fun _ _ => by simp [go_sem, hin]);refine zA (.pointer (some ⟨w.heap.size + 1, i * 10, none⟩)) ?_ (hC := fun _ _ => by simp [go_sem, Addr.add]);refine zL 3 (⟨w.heap.size + 1, i * 10, none⟩) (.int .i64 y.voice) (fun w' hb => zC _ _ _ ((hb.cell hlr).trans (xh HR.out hil 0 _ (by rw [Hy.out]; rfl)))) ?_;refine zA (.bool false) ?_ (hC := fun _ _ => by simp [go_sem, t1]);refine zA (.bool false) ?_;iterate 11 with_reducible refine zAF ?_
      exact m86
     obtain rfl : m = 0 := by omega
     have e1 : ((0 : Nat) : Int) - 1 = -1 := by omega
     rw [e1];clear e1 hm;have hil : i < tl.length := by rw [HLE.out]; exact hin
     have ct : wr.cell? ⟨w.heap.size + 1, i * 10 + 9, none⟩ = some (.bool y.tied) := xh HR.out hil 9 _ (by rw [HY.out]; rfl);rcases ht : y.tied with _ | _
     · rw [ht] at ct;have e2 : Hid (qj tl i = tl) := hid (zGd hil (.inl (by rw [HY.out]; exact ht)));exact zNN
     rw [ht] at ct;by_cases hk : 0 ≤ K
     ·
      obtain ⟨t, rfl, htn, hbt⟩ := HK.out.some hk;have e2 : Hid (qj tl i = tl.set i { (tl.getD i zF) with place := (tl.getD t zF).place }) := hid (zKd hil (by rw [HY.out]; exact ht) (by rw [HY.out]; exact hbt));obtain ⟨u, hu9⟩ : ∃ u, u = (tl.getD t zF).place := ⟨_, rfl⟩
      have pr := HR.out.placed t htn;have th := HR.out.there3 i hil;have N6 := hid (HR.out.place i u hil);have W6 : Hid (Below w.heap.size w (wr.setCells (w.heap.size + 1) (i * 10 + 3) u.cells.toList)) := hid (HB.out.grown (xO (zH.setCells u.cells.toList (i * 10 + 3) wr (zH.refl (w.heap.size + 1) wr))) HB.out.size (fun y e => by injection e with e; omega));have I6 : Hid (kA (wr.setCells (w.heap.size + 1) (i * 10 + 3) u.cells.toList) w.heap.size (xv l n 0)) := hid (HI.out.block ((zH.setCells u.cells.toList (i * 10 + 3) wr (zH.refl (w.heap.size + 1) wr)).block w.heap.size (by omega) (Blk.lt HI.out)));rw [← hu9] at e2 pr;have one : u.cells.toList.toArray.all (·.oneCell') = true := by simp [Value.oneCell']
      have htl2 : t < n := by rw [← HLE.out]; exact htn
      have e0 : w.heap.size + 1 = w.heap.size + 1 := rfl;clear hu9 ht hbt htn e0;go_wp2_with (first | ((with_reducible show wpList _ _ _ (Oper.mk _ (Op.load _ _) _ _ _ _ :: _) _ _); refine wpList_load_mid rfl 53 (.tmp 138) rfl (w.heap.size + 1) (t * 10 + 3) rfl u.cells.toList _ pr Tryz.underlying53 rfl zR ?_; try simp only [Act.put, sS]) | ((with_reducible show wpList _ _ _ (Oper.mk _ (Op.store _ _ _) _ _ _ _ :: _) _ _); refine wpList_store_mid rfl 53 (.tmp 141) (.tmp 139) rfl (w.heap.size + 1) (i * 10 + 3) u.cells.toList.toArray rfl rfl th zR one ?_; try simp only [Act.put, sS]; change wpList _ _ _ _ _ (wr.setCells (w.heap.size + 1) (i * 10 + 3) u.cells.toList); clear th pr ct one; generalize wr.setCells (w.heap.size + 1) (i * 10 + 3) u.cells.toList = w9 at N6 W6 I6 ⊢))
      go_roundw
      case rel => exact ⟨i + 1, by omega, by go_num, W6, I6, by rw [TS.out _ e2.out]; exact N6⟩
      case measure => simp [zD]; omega
     have e2 : Hid (qj tl i = tl) := hid (zGd hil (.inr (by rw [HY.out]; exact HK.out.none hk)));exact zNN
   (obtain rfl : i = n := by omega);rw [HL1.out] at HR;(go_wp2_with fail);go_ret2;exact ⟨rfl, HB.out, HR.out, HI.out⟩
open Go.RowKit Go.Deep
theorem zD2 (W : World) (v : Vc) (hv : v.small 1000000000000) :
 Calls Tryz.prog 85 #[.agg v.cells] W fun e w' => e = .returned (.agg v.neg.cells) ∧ Below W.heap.size W w' := by
 obtain ⟨h0, h1, h2, h3, h4, h5⟩ := hv;have r0 : IntKind.i64.wrap (-v.a) = -v.a := by rw [IntKind.wrap_i64]; omega
 have r1 : IntKind.i64.wrap (-v.b) = -v.b := by rw [IntKind.wrap_i64]; omega
 have r2 : IntKind.i64.wrap (-v.c) = -v.c := by rw [IntKind.wrap_i64]; omega
 have r3 : IntKind.i64.wrap (-v.d) = -v.d := by rw [IntKind.wrap_i64]; omega
 have r4 : IntKind.i64.wrap (-v.e) = -v.e := by rw [IntKind.wrap_i64]; omega
 have r5 : IntKind.i64.wrap (-v.f) = -v.f := by rw [IntKind.wrap_i64]; omega
 clear h0 h1 h2 h3 h4 h5;go_enter Tryz.func85, Tryz.ntmps85
 go_wp2
 go_loopw [3] (fun s wx => ∃ i : Nat, i ≤ 6 ∧ s = .int .i64 i ∧ Hid (Blk wx W.heap.size 53 (vX v i).cells) ∧ Hid (Blk wx (W.heap.size + 1) 53 vc0.cells) ∧ Hid (Below W.heap.size W wx)) (fun s _ => 6 - (zD s).toNat)
 case atStart =>
  exact m93
 case round =>
  exact m10
end Go.Proofs.YtcjhihmaegagdaaGreatDoor
