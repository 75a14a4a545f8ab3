/- Walks: matrix.framed, matrix.Rank. -/
import Derived.Test.YtipaapplingbnaaDoorCi
namespace Go.Proofs.YtipaapplingbnaaDoor
open Go.RowKit Go.Deep

/-- A row of numbers of the call's own. -/
def OwnI (w : World) (base : Nat) (v : Value) (l : List Nat) : Prop := w.ownsRow base 3 1 v l.length (icells (ofN l))
theorem OwnI.start (w : World) (base : Nat) : OwnI w base (.slice none 0 0) [] := World.ownsRow_nil _ _ _ 1
theorem OwnI.form {w : World} {base : Nat} {v : Value} {l : List Nat} (h : OwnI w base v l) : ∃ A c, v = .slice A l.length c ∧ l.length ≤ c ∧ RdI w w.heap.size A (ofN l) := by
  have h' := h
  rcases h'.2 with ⟨rfl, h0⟩ | ⟨g, cap, cur, rfl, -, -, hc, -⟩
  · obtain rfl := List.eq_nil_of_length_eq_zero h0
    exact ⟨none, 0, rfl, Nat.le_refl _, Shows.nil_⟩
  · refine ⟨_, cap, rfl, hc, ?_⟩
    have := Shows.of_own h
    unfold RdI
    rw [ofN_length]
    exact this
theorem OwnI.kept {w w' : World} {base : Nat} {v : Value} {l : List Nat} {r : Option Nat} (h : OwnI w base v l) (hg : w.grownBy w' r) (hne : v.ownBlock = none ∨ v.ownBlock ≠ r) : OwnI w' base v l := World.ownsRow.kept h hg hne
theorem OwnI.block {w : World} {base : Nat} {v : Value} {l : List Nat} (h : OwnI w base v l) : ∀ g, v.ownBlock = some g → base ≤ g := fun g hg => (World.ownsRow.lt h g hg).1
theorem OwnI.on {w w' : World} {base : Nat} {v : Value} {l : List Nat} (h : OwnI w base v l) (hb : Below w.heap.size w w') : OwnI w' base v l :=
  OwnI.kept (r := some w.heap.size) h (grown_below hb _) (by
    rcases hv : v.ownBlock with _ | g
    · exact Or.inl rfl
    · right; intro e; injection e with e; have := (World.ownsRow.lt h g hv).2; omega)
theorem OwnI.far {w : World} {base : Nat} {v : Value} {l : List Nat} (h : OwnI w base v l) {p : Addr} (hp : p.block < base) (u : Value) : OwnI (w.setCell p u) base v l :=
  OwnI.kept (r := some p.block) h ⟨rfl, rfl, rfl, by simp, fun k _ hk => heap_setCell_other w p k u (fun e => hk (by rw [e]))⟩ (by
    rcases hv : v.ownBlock with _ | g
    · exact Or.inl rfl
    · right; intro e; injection e with e; have := (World.ownsRow.lt h g hv).1; omega)
theorem OwnI.lower {w : World} {base base' : Nat} {v : Value} {l : List Nat} (h : OwnI w base v l) (hb : base' ≤ base) : OwnI w base' v l := by
  refine ⟨h.1, ?_⟩
  rcases h.2 with h2 | ⟨g, cap, cur, hv, hg, r⟩
  · exact .inl h2
  · exact .inr ⟨g, cap, cur, hv, by omega, r⟩
theorem OwnI.snoc {w : World} {base : Nat} {v : Value} {l : List Nat} {x : Nat} (h : w.ownsRow base 3 1 v (l.length + 1) (icells (ofN l) ++ [.int .i64 (x : Int)])) : OwnI w base v (l ++ [x]) := by
  unfold OwnI
  rw [List.length_append, show icells (ofN (l ++ [x])) = icells (ofN l) ++ [.int .i64 (x : Int)] by simp [icells, ofN]]
  exact h
theorem int_info : (Tryd.prog.info? 3).map (fun i => (i.zero, i.size, i.bytes)) = some (some (.int .i64 0), 1, 8) := by kernel_rfl
theorem clone_own (w : World) (base : Nat) (v : Value) (l : List Nat) (h : OwnI w base v l) (hl : l.length ≤ 100) :
    Calls Tryd.prog 54 #[v] w fun e w' => ∃ v', e = .returned v' ∧ OwnI w' w.heap.size v' l ∧ Below w.heap.size w w' := by
  rcases h.2 with ⟨rfl, h0⟩ | ⟨g, cap, cur, rfl, -, hg, hc, -, -, -⟩
  · obtain rfl := List.eq_nil_of_length_eq_zero h0
    exact (Tryd.slices_Clone_int_nil 0 0 w).mono fun e w' ⟨h1, h2⟩ => ⟨_, h1, by subst h2; exact OwnI.start _ _, by subst h2; exact Below.refl _ _⟩
  · obtain ⟨A, c, e1, -, hr⟩ := h.form
    injection e1 with e1
    subst e1
    by_cases h0 : l.length = 0
    · obtain rfl := List.eq_nil_of_length_eq_zero h0
      exact (Tryd.slices_Clone_int_zero ⟨g, 0, none⟩ cap w).mono fun e w' ⟨v', h1, h2, _, h3⟩ => ⟨v', h1, h2, h3⟩
    · have hcell : ∀ j, j < (ofN l).length → w.cell? ⟨g, 0 + j, none⟩ = some (.int .i64 ((ofN l).getD j 0)) := fun j hj => by
        obtain ⟨ad, e2, -, hx⟩ := hr.at hj
        obtain rfl := Option.some.inj e2
        rw [Nat.zero_add]
        rwa [show (⟨g, 0, none⟩ : Addr).add j = ⟨g, j, none⟩ from by unfold Addr.add; split <;> simp_all] at hx
      refine (Tryd.slices_Clone_int g 0 l.length cap (ofN l) w (by rw [ofN_length]; exact Nat.le_refl _) (by omega) hcell).mono fun e w' ⟨v', h1, h2, _, h3⟩ => ⟨v', h1, ?_, h3⟩
      rw [List.take_of_length_le (by rw [ofN_length]; exact Nat.le_refl _)] at h2
      exact h2

theorem rowf_eq (rows : List Vc) (is : List Nat) : rowf rows is = rowsAt (rows.map Vc.at) is := by
  unfold rowf rowsAt
  refine List.map_congr_left fun i _ => ?_
  unfold rowAt
  by_cases h : i < rows.length
  · simp [List.getD_eq_getElem?_getD, h]
  · rw [List.getD_eq_getElem?_getD, List.getElem?_eq_none (by omega), List.getD_eq_getElem?_getD, List.getElem?_eq_none (by simp; omega)]
    funext j
    simp only [Option.getD_none]
    unfold Vc.at
    split <;> rfl

/-- The frame that has been found in the first k columns. -/
structure FrAt (w wx : World) (Ar : Option Addr) (cr : Nat) (rows : List Vc) (k : Nat) (is js : List Nat) (vi vj : Value) (m : Int) : Prop where
  below : Below w.heap.size w wx
  blk : Blk wx (w.heap.size + 1) 83 #[.slice Ar rows.length cr, vi, vj, .int .i64 m]
  res : Blk wx w.heap.size 83 #[.slice none 0 0, .slice none 0 0, .slice none 0 0, .int .i64 0]
  oi : OwnI wx (w.heap.size + 2) vi is
  oj : OwnI wx (w.heap.size + 2) vj js
  d : Dt (rowf rows is) js ≠ 0
  hi : ∀ i ∈ is, i < rows.length
  hj : ∀ c ∈ js, c < k
  len : is.length = js.length
  jk : js.length ≤ k
  hangs : ∀ c, c < k → c ∉ js → Hangs (rows.map Vc.at) js c
def FrRel (w : World) (Ar : Option Addr) (cr : Nat) (rows : List Vc) (i : Value) (wx : World) : Prop :=
  ∃ k : Nat, k ≤ 6 ∧ i = .int .i64 k ∧ ∃ is js vi vj m, Hid (FrAt w wx Ar cr rows k is js vi vj m)
theorem FrAt.on {w wx wy : World} {Ar : Option Addr} {cr k : Nat} {rows : List Vc} {is js : List Nat} {vi vj : Value} {m : Int} (h : FrAt w wx Ar cr rows k is js vi vj m) (hb : Below wx.heap.size wx wy) : FrAt w wy Ar cr rows k is js vi vj m :=
  ⟨below_on h.below hb, h.blk.below hb h.blk.lt, h.res.below hb h.res.lt, h.oi.on hb, h.oj.on hb, h.d, h.hi, h.hj, h.len, h.jk, h.hangs⟩
theorem FrAt.isle {w wx : World} {Ar : Option Addr} {cr k : Nat} {rows : List Vc} {is js : List Nat} {vi vj : Value} {m : Int} (h : FrAt w wx Ar cr rows k is js vi vj m) : is.length ≤ rows.length := by
  have hn := rowsAt_nodup (by rw [← rowf_eq]; exact h.d)
  have := nodup_sub (m := List.range rows.length) hn (fun x hx => List.mem_range.2 (h.hi x hx))
  simpa using this
/-- A column that is not taken. -/
theorem FrAt.pass {w wx : World} {Ar : Option Addr} {cr k : Nat} {rows : List Vc} {is js : List Nat} {vi vj : Value} {m : Int} (h : FrAt w wx Ar cr rows k is js vi vj m) (hz : ∀ i, i < rows.length → Dt (rowf rows (is ++ [i])) (js ++ [k]) = 0) : FrAt w wx Ar cr rows (k + 1) is js vi vj m :=
  ⟨h.below, h.blk, h.res, h.oi, h.oj, h.d, h.hi, fun c hc => by have := h.hj c hc; omega, h.len, by have := h.jk; omega, fun c hc hcj => by
    rcases Nat.lt_or_ge c k with h1 | h1
    · exact h.hangs c h1 hcj
    · obtain rfl : c = k := by omega
      have hd := h.d
      rw [rowf_eq] at hd
      refine hangs_of hd fun r hr => ?_
      obtain ⟨i, hi, rfl⟩ := List.mem_iff_getElem.1 hr
      have hi' : i < rows.length := by simpa using hi
      have := hz i hi'
      rw [rowf_eq] at this
      have e : rowsAt (rows.map Vc.at) (is ++ [i]) = rowsAt (rows.map Vc.at) is ++ [(rows.map Vc.at)[i]] := by
        simp [rowsAt, rowAt, List.getD_eq_getElem?_getD, hi']
      rw [e] at this
      exact this⟩
/-- A column that is taken. -/
theorem FrAt.take {w wx wy : World} {Ar : Option Addr} {cr k i : Nat} {rows : List Vc} {is js : List Nat} {vi vj vi' vj' : Value} {m d : Int} (h : FrAt w wx Ar cr rows k is js vi vj m) (hi : i < rows.length) (hd : Dt (rowf rows (is ++ [i])) (js ++ [k]) ≠ 0)
    (hb : Below w.heap.size w wy) (hblk : Blk wy (w.heap.size + 1) 83 #[.slice Ar rows.length cr, vi', vj', .int .i64 d]) (hres : Blk wy w.heap.size 83 #[.slice none 0 0, .slice none 0 0, .slice none 0 0, .int .i64 0]) (oi : OwnI wy (w.heap.size + 2) vi' (is ++ [i])) (oj : OwnI wy (w.heap.size + 2) vj' (js ++ [k])) : FrAt w wy Ar cr rows (k + 1) (is ++ [i]) (js ++ [k]) vi' vj' d :=
  ⟨hb, hblk, hres, oi, oj, hd, fun x hx => by
    rcases List.mem_append.1 hx with hx | hx
    · exact h.hi x hx
    · obtain rfl := List.mem_singleton.1 hx; exact hi, fun c hc => by
    rcases List.mem_append.1 hc with hc | hc
    · have := h.hj c hc; omega
    · obtain rfl := List.mem_singleton.1 hc; omega, by simp [h.len], by have := h.jk; simp; omega, fun c hc hcj => by
    have hcj' : c ∉ js := fun e => hcj (List.mem_append_left _ e)
    have hck : c ≠ k := fun e => hcj (by rw [e]; simp)
    exact (h.hangs c (by omega) hcj').more (fun x hx => List.mem_append_left _ hx)⟩
theorem FrAt.full {w wx : World} {Ar : Option Addr} {cr : Nat} {rows : List Vc} {is js : List Nat} {vi vj : Value} {m : Int} (h : FrAt w wx Ar cr rows 6 is js vi vj m) : is.length = rows.length ↔ Indep 6 (rows.map Vc.at) := by
  have := greedy_full (rows := rows.map Vc.at) (is := is) (js := js) (m := 6) (by rw [← rowf_eq]; exact h.d) (fun i hi => by simpa using h.hi i hi) h.hj h.hangs
  simpa using this

end Go.Proofs.YtipaapplingbnaaDoor
