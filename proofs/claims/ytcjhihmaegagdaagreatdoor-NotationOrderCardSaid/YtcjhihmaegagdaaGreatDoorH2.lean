/- Texts of the Notation chapter, together: Sp, Sq, Sr, Ss. -/
import Derived.Test.YtcjhihmaegagdaaGreatDoorG2
import Derived.Test.YtcjhihmaegagdaaGreatDoorG1
import Derived.Test.YtcjhihmaegagdaaGreatDoorG4
import Derived.Deep.MidRow
import Derived.BigRegion
import Derived.Test.YtcjhihmaegagdaaGreatDoorH1
set_option maxRecDepth 100000
set_option maxHeartbeats 8000000
set_option linter.unusedSimpArgs false
set_option linter.unusedVariables false
set_option linter.unusedSectionVars false
set_option linter.unnecessarySimpa false
namespace Go.Proofs.YtcjhihmaegagdaaGreatDoor
open Go.RowKit Go.Deep
section
variable {P : Program} {ops : Array Oper} {o : Oper} {a : Act} {w : World} {K : Act → World → Prop} {Q : Exit → Act → World → Prop} {E : Prop}
theorem step_ldm (hw : Region.wanted o (yielded ops a.tmps) = true) (ty : TypeId) (x : Operand) (ho : o.op = .load ty x) (b s : Nat) (hx : a.eval x = .pointer (some ⟨b, s, none⟩)) (cs : List Value) (d : TypeDesc) (hc : w.rangeAt b s cs)
  (hu : P.underlying ty = some d) (hd : d.isRow = true) (hi : (P.info? ty).map (·.size) = some cs.length) (h : K (a.put o.dst (.agg cs.toArray)) w) :
  if Region.wanted o (yielded ops a.tmps) = true then Oper.wp P o a w K Q else E := by
 rw [if_pos hw]
 exact wp_load_mid ty x ho b s hx cs d hc hu hd hi h
theorem step_stm (hw : Region.wanted o (yielded ops a.tmps) = true) (ty : TypeId) (x y : Operand) (ho : o.op = .store ty x y) (b s : Nat) (cs : List Value) (hx : a.eval x = .pointer (some ⟨b, s, none⟩)) (hy : a.eval y = .agg cs.toArray)
  (ht : w.there b s cs.length) (hi : (P.info? ty).map (·.size) = some cs.length) (h1 : ∀ u ∈ cs, u.oneCell' = true) (h : K (a.put o.dst undef) (w.setCells b s cs)) :
  if Region.wanted o (yielded ops a.tmps) = true then Oper.wp P o a w K Q else E := by
 rw [if_pos hw]
 exact wp_store_mid ty x y ho b s cs.toArray hx hy ht hi (all_oneCell_toArray h1) h
end
theorem isrow_P : ∃ d : TypeDesc, Tryz.prog.underlying 57 = some d ∧ d.isRow = true := by
 have h : (Tryz.prog.underlying 57).map (·.isRow) = some true := by kernel_rfl
 cases hq : Tryz.prog.underlying 57 with
 | none => rw [hq] at h; cases h
 | some d => exact ⟨d, rfl, by rw [hq] at h; simpa using h⟩
theorem load_par (w : World) (b s : Nat) (x : Par) (h : w.rangeAt b s x.cs) : (Instr.loadAt 57 (.pointer (some ⟨b, s, none⟩))).run Tryz.prog w = .ok (.agg x.cs.toArray) w := by
 obtain ⟨d, h1, h2⟩ := isrow_P
 exact run_loadAt_mid w b s _ x.cs d h h1 h2 size_P
section
variable {md : Region.Mode} {ops : Array Oper} {o : Oper} {a : Act} {w : World} {Q : Exit → Act → World → Prop} {fuel i : Nat} {listed : Array Bool} {rs : List Nat}
theorem all_ldp (hop : ops[i]? = some o) (hw : Region.wanted o (yielded ops a.tmps) = true) (x : Operand) (ho : o.op = .load 57 x) (b s : Nat) (hx : a.eval x = .pointer (some ⟨b, s, none⟩)) (y : Par) (hc : w.rangeAt b s y.cs)
  (h : wpAny Tryz.prog md ops Q fuel (listed.setIfInBounds i true) (a.put o.dst (.agg y.cs.toArray)) w) (hs : AllReady Tryz.prog md ops Q fuel listed a w rs) : AllReady Tryz.prog md ops Q fuel listed a w (i :: rs) := by
 obtain ⟨d, h1, h2⟩ := isrow_P
 exact rC hop (fun K hK => step_ldm hw _ x ho b s hx y.cs d hc h1 h2 size_P (hK _ _ h)) hs
theorem all_stp (hop : ops[i]? = some o) (hw : Region.wanted o (yielded ops a.tmps) = true) (x y : Operand) (ho : o.op = .store 57 x y) (b s : Nat) (z : Par) (hx : a.eval x = .pointer (some ⟨b, s, none⟩)) (hy : a.eval y = .agg z.cs.toArray)
  (ht : w.there b s 9) (h : wpAny Tryz.prog md ops Q fuel (listed.setIfInBounds i true) (a.put o.dst undef) (w.setCells b s z.cs)) (hs : AllReady Tryz.prog md ops Q fuel listed a w rs) : AllReady Tryz.prog md ops Q fuel listed a w (i :: rs) :=
 rC hop (fun K hK => step_stm hw _ x y ho b s z.cs hx hy ht size_P z.cs_one (hK _ _ h)) hs
end
theorem range_below {w w' : World} {B b s : Nat} {cs : List Value} (hb : Below B w w') (hl : b < B) (h : w.rangeAt b s cs) : w'.rangeAt b s cs := fun j v hv => (hb.cell (p := ⟨b, s + j, none⟩) hl).trans (h j v hv)
theorem range_drew {w : World} {b s : Nat} {cs : List Value} (h : w.rangeAt b s cs) : w.drew.rangeAt b s cs := h
theorem there_drew {w : World} {b s n : Nat} (h : w.there b s n) : w.drew.there b s n := h
theorem there_below {w w' : World} {B b s n : Nat} (hb : Below B w w') (hl : b < B) (h : w.there b s n) : w'.there b s n := fun j hj => ⟨by rw [hb.cell (p := ⟨b, s + j, none⟩) hl]; exact (h j hj).1, by rw [hb.frozen (p := ⟨b, s + j, none⟩) hl]; exact (h j hj).2⟩
theorem Only.setCells {g : Nat} {a : World} (vs : List Value) : ∀ (i : Nat) (w : World), Only g a w → Only g a (w.setCells g i vs) := by
 induction vs with
 | nil => intro i w h; exact h
 | cons v vs ih => intro i w h; exact ih (i + 1) _ (h.setCell i v)
theorem setCells_size (g : Nat) (vs : List Value) : ∀ (i : Nat) (w : World), (w.setCells g i vs).heap.size = w.heap.size := by
 induction vs with
 | nil => intro i w; rfl
 | cons v vs ih => intro i w; rw [World.setCells, ih]; simp
structure PairsAt (W : World) (blk : Nat) (ok : Par → Prop) (f : Nat → Par) (n : Nat) (w : World) : Prop where
 only : Only blk W w
 cell : ∀ t, t < n → w.rangeAt blk (t * 9) (f t).cs
 fr : ∀ t, t < n → w.there blk (t * 9) 9
 ok : ∀ t, t < n → ok (f t)
 lt : blk < w.heap.size
theorem PairsAt.below {W w w' : World} {blk n : Nat} {ok : Par → Prop} {f : Nat → Par} (h : PairsAt W blk ok f n w) (b : Below w.heap.size w w') : PairsAt W blk ok f n w' :=
 ⟨h.only.trans (Only.of_below b), fun t ht => range_below b h.lt (h.cell t ht), fun t ht => there_below b h.lt (h.fr t ht), h.ok, Nat.lt_of_lt_of_le h.lt b.size⟩
theorem PairsAt.swap {W w : World} {blk n : Nat} {ok : Par → Prop} {f : Nat → Par} (h : PairsAt W blk ok f n w) (i j : Nat) (hi : i < n) (hj : j < n) :
  PairsAt W blk ok (swapF f i j) n ((w.drew.setCells blk (i * 9) (f j).cs).setCells blk (j * 9) (f i).cs) := by
 have l : ∀ x : Par, x.cs.length = 9 := Par.cs_len
 have f0 : ∀ t, t < n → w.drew.there blk (t * 9) 9 := h.fr
 refine ⟨Only.setCells _ _ _ (Only.setCells _ _ _ h.only.drew), fun t ht => ?_, fun t ht => World.there_setCells (World.there_setCells (f0 t ht) _ _ _) _ _ _, fun t ht => ?_, ?_⟩
 ·
  have c3 : w.drew.rangeAt blk (t * 9) (f t).cs := h.cell t ht
  unfold swapF
  by_cases e2 : t = j
  ·
   subst e2
   have r := World.rangeAt_setCells_same (w.drew.setCells blk (i * 9) (f t).cs) blk (t * 9) (f i).cs (World.there_setCells (f0 t ht) _ _ _)
   by_cases e : t = i
   ·
    subst e; rw [if_pos rfl]; exact r
   rw [if_neg e, if_pos rfl]; exact r
  refine World.rangeAt_setCells_apart ?_ _ _ _ (by have h1 := l (f i); have h2 := l (if t = i then f j else if t = j then f i else f t); right; omega)
  by_cases e : t = i
  ·
   subst e; rw [if_pos rfl]; exact World.rangeAt_setCells_same w.drew blk (t * 9) (f j).cs (f0 t ht)
  rw [if_neg e, if_neg e2]
  exact World.rangeAt_setCells_apart c3 _ _ _ (by rw [l, l]; right; omega)
 ·
  unfold swapF
  split
  ·
   exact h.ok j hj
  split
  ·
   exact h.ok i hi
  exact h.ok t ht
 rw [setCells_size, setCells_size]; exact h.lt
def CmpP (W : World) (blk : Nat) (ok : Par → Prop) (lt : Par → Par → Bool) (g : Nat) (cb : Array Value) : Prop :=
 ∀ w, Only blk W w → ∀ x y, ok x → ok y → Calls Tryz.prog g (#[.agg x.cs.toArray, .agg y.cs.toArray] ++ cb) w fun e w' => e = .returned (.int .i64 (if lt x y = true then -1 else if lt y x = true then 1 else 0)) ∧ Below w.heap.size w w'
theorem swapRange_par (W0 W : World) (blk n cap a b k : Nat) (ok : Par → Prop) (f : Nat → Par) (fv : Value) (h : PairsAt W0 blk ok f n W) (hab : a + k ≤ b) (hb : b + k ≤ n) (hn : n < 4611686018427387904) :
  Calls Tryz.prog 184 #[.slice (some ⟨blk, 0, none⟩) n cap, .int .i64 a, .int .i64 b, .int .i64 k, fv] W fun e w' => e = .returned (.tuple #[]) ∧ PairsAt W0 blk ok (swapR f a b k) n w' := by
 have H := hid h
 clear h
 go_enter Tryz.func184, Tryz.ntmps184
 go_wp2
 go_loopw [10] (fun i wx => ∃ j : Nat, j ≤ k ∧ i = .int .i64 j ∧ Hid (PairsAt W0 blk ok (swapR f a b j) n wx)) (fun i _ => k - (intOf i).toNat)
 case atStart => exact ⟨0, Nat.zero_le _, rfl, by rw [swapR_zero]; exact H⟩
 case round =>
  obtain ⟨j, hj, rfl, HR⟩ := hrel
  by_cases hlt : j < k
  ·
   obtain ⟨s, hs⟩ : ∃ s, s = a + j := ⟨_, rfl⟩
   obtain ⟨t, ht⟩ : ∃ t, t = b + j := ⟨_, rfl⟩
   have r1 : IntKind.i64.wrap ((a : Int) + (j : Int)) = (s : Int) := by rw [IntKind.wrap_i64]; omega
   have r2 : IntKind.i64.wrap ((b : Int) + (j : Int)) = (t : Int) := by rw [IntKind.wrap_i64]; omega
   have b1 : s < n := by omega
   have b2 : t < n := by omega
   obtain ⟨x, hx⟩ : ∃ x, x = swapR f a b j s := ⟨_, rfl⟩
   obtain ⟨y, hy⟩ : ∃ y, y = swapR f a b j t := ⟨_, rfl⟩
   have c1 : wr.drew.rangeAt blk (s * 9) x.cs := by rw [hx]; exact range_drew (HR.out.cell s (by omega))
   have c2 : wr.drew.rangeAt blk (t * 9) y.cs := by rw [hy]; exact range_drew (HR.out.cell t (by omega))
   have f1 : wr.drew.there blk (s * 9) 9 := there_drew (HR.out.fr s (by omega))
   have g2 : (wr.drew.setCells blk (s * 9) y.cs).there blk (t * 9) 9 := World.there_setCells (there_drew (HR.out.fr t (by omega))) _ _ _
   have HN := HR.out.swap s t (by omega) (by omega)
   rw [← hx, ← hy] at HN
   replace HN := hid HN
   clear hx hy
   replace hs := hid hs
   replace ht := hid ht
   go_wp2_with fail
   refine wp_region_any (by kernel_rfl) ?_
   change wpAny _ _ _ _ _ _ _ (World.drew _)
   refine tK 0 ?_ rfl (by kernel_rfl) (fun _ _ _ h => h) (Or.inl ⟨by rfl, fun w => ?_⟩) ?_; rotate_left; (go_simp; try with_reducible rfl)
   try (change wpAny _ _ _ _ _ _ ⟨_, _⟩ _)
   try simp only [Act.put, sS]
   refine tK 1 ?_ rfl (by kernel_rfl) (fun _ _ _ h => h) (Or.inl ⟨by rfl, fun w => ?_⟩) ?_; rotate_left; (go_simp; try with_reducible rfl)
   try (change wpAny _ _ _ _ _ _ ⟨_, _⟩ _)
   try simp only [Act.put, sS]
   refine tK 2 ?_ rfl (by kernel_rfl) (fun _ _ _ h => h) (Or.inl ⟨by rfl, fun w => ?_⟩) ?_; rotate_left; (go_simp; try with_reducible rfl)
   try (change wpAny _ _ _ _ _ _ ⟨_, _⟩ _)
   try simp only [Act.put, sS]
   refine tK 3 ?_ rfl (by kernel_rfl) (fun _ _ _ h => h) (Or.inl ⟨by rfl, fun w => ?_⟩) ?_; rotate_left; (go_simp; try with_reducible rfl)
   try (change wpAny _ _ _ _ _ _ ⟨_, _⟩ _)
   try simp only [Act.put, sS]
   refine tK 4 ?_ rfl (by kernel_rfl) (fun _ _ _ h => h) (Or.inl ⟨by rfl, fun w => ?_⟩) ?_; rotate_left; (go_simp; try with_reducible rfl)
   try (change wpAny _ _ _ _ _ _ ⟨_, _⟩ _)
   try simp only [Act.put, sS]
   refine tK 5 ?_ rfl (by kernel_rfl) (fun _ _ _ h => h) (Or.inl ⟨by rfl, fun w => ?_⟩) ?_; rotate_left; (go_simp; try with_reducible rfl)
   try (change wpAny _ _ _ _ _ _ ⟨_, _⟩ _)
   try simp only [Act.put, sS]
   refine tK 6 ?_ rfl (by kernel_rfl) (fun _ _ _ h => h) (Or.inl ⟨by rfl, fun w => ?_⟩) ?_; rotate_left; (go_simp; try with_reducible rfl)
   try (change wpAny _ _ _ _ _ _ ⟨_, _⟩ _)
   try simp only [Act.put, sS]
   refine tK 7 ?_ rfl (by kernel_rfl) (fun _ _ _ h => h) (Or.inl ⟨by rfl, fun w => ?_⟩) ?_; rotate_left; (go_simp; try with_reducible rfl)
   try (change wpAny _ _ _ _ _ _ ⟨_, _⟩ _)
   try simp only [Act.put, sS]
   refine tK 8 ?_ rfl (by kernel_rfl) (fun _ _ _ h => h) (Or.inl ⟨by rfl, fun w => ?_⟩) ?_; rotate_left; (go_simp; try with_reducible rfl)
   try (change wpAny _ _ _ _ _ _ ⟨_, _⟩ _)
   try simp only [Act.put, sS]
   refine tK 9 ?_ rfl (by kernel_rfl) (fun _ _ _ h => h) (Or.inl ⟨by rfl, fun w => ?_⟩) ?_; rotate_left; (go_simp; try with_reducible rfl)
   try (change wpAny _ _ _ _ _ _ ⟨_, _⟩ _)
   try simp only [Act.put, sS]
   refine tK 10 ?_ rfl (by kernel_rfl) (fun _ _ _ h => h) (Or.inl ⟨by rfl, fun w => ?_⟩) ?_; rotate_left; (go_simp; try with_reducible rfl)
   try (change wpAny _ _ _ _ _ _ ⟨_, _⟩ _)
   try simp only [Act.put, sS]
   refine tK 11 ?_ rfl (by kernel_rfl) (fun _ _ _ h => h) (Or.inl ⟨by rfl, fun w => ?_⟩) ?_; rotate_left; (go_simp; try with_reducible rfl)
   try (change wpAny _ _ _ _ _ _ ⟨_, _⟩ _)
   try simp only [Act.put, sS]
   refine tK 12 ?_ rfl (by kernel_rfl) (fun _ _ _ h => h) (Or.inl ⟨by rfl, fun w => ?_⟩) ?_; rotate_left; (go_simp; try with_reducible rfl)
   try (change wpAny _ _ _ _ _ _ ⟨_, _⟩ _)
   try simp only [Act.put, sS]
   refine tK 14 ?_ rfl (by kernel_rfl) (fun _ _ _ h => h) (Or.inl ⟨by rfl, fun w => ?_⟩) ?_; rotate_left; (go_simp; try with_reducible rfl)
   try (change wpAny _ _ _ _ _ _ ⟨_, _⟩ _)
   try simp only [Act.put, sS]
   refine tK 15 ?_ rfl (by kernel_rfl) (fun _ _ _ h => h) (Or.inl ⟨by rfl, fun w => ?_⟩) ?_; rotate_left; (go_simp; try with_reducible rfl)
   try (change wpAny _ _ _ _ _ _ ⟨_, _⟩ _)
   try simp only [Act.put, sS]
   refine tK 16 ?_ rfl (by kernel_rfl) (fun _ _ _ h => h) (Or.inl ⟨by rfl, fun w => ?_⟩) ?_; rotate_left; (go_simp; try with_reducible rfl)
   try (change wpAny _ _ _ _ _ _ ⟨_, _⟩ _)
   try simp only [Act.put, sS]
   refine tK 17 ?_ rfl (by kernel_rfl) (fun _ _ _ h => h) (Or.inl ⟨by rfl, fun w => ?_⟩) ?_; rotate_left; (go_simp; try with_reducible rfl)
   try (change wpAny _ _ _ _ _ _ ⟨_, _⟩ _)
   try simp only [Act.put, sS]
   refine tK 18 ?_ rfl (by kernel_rfl) (fun _ _ _ h => h) (Or.inl ⟨by rfl, fun w => ?_⟩) ?_; rotate_left; (go_simp; try with_reducible rfl)
   try (change wpAny _ _ _ _ _ _ ⟨_, _⟩ _)
   try simp only [Act.put, sS]
   refine tR [13, 19] (by kernel_rfl) rfl ?_
   refine all_ldp (i := 13) rfl (by kernel_rfl) (.tmp 28) rfl blk (t * 9) rfl y c2 ?_ ?_
   ·
    try (change wpAny _ _ _ _ _ _ ⟨_, _⟩ _)
    try simp only [Act.put, sS]
    refine tR [19] (by kernel_rfl) rfl ?_
    refine all_ldp (i := 19) rfl (by kernel_rfl) (.tmp 34) rfl blk (s * 9) rfl x c1 ?_ ?_
    ·
     try (change wpAny _ _ _ _ _ _ ⟨_, _⟩ _)
     try simp only [Act.put, sS]
     refine tK 20 ?_ rfl (by kernel_rfl) (fun _ _ _ h => h) (Or.inl ⟨by rfl, fun w => ?_⟩) ?_; rotate_left; (go_simp; try with_reducible rfl)
     try (change wpAny _ _ _ _ _ _ ⟨_, _⟩ _)
     try simp only [Act.put, sS]
     refine tR [21] (by kernel_rfl) rfl ?_
     refine all_stp (i := 21) rfl (by kernel_rfl) (.tmp 36) (.tmp 29) rfl blk (s * 9) y rfl rfl f1 ?_ ?_
     ·
      try (change wpAny _ _ _ _ _ _ ⟨_, _⟩ _)
      try simp only [Act.put, sS]
      refine tK 22 ?_ rfl (by kernel_rfl) (fun _ _ _ h => h) (Or.inl ⟨by rfl, fun w => ?_⟩) ?_; rotate_left; (go_simp; try with_reducible rfl)
      try (change wpAny _ _ _ _ _ _ ⟨_, _⟩ _)
      try simp only [Act.put, sS]
      refine tR [23] (by kernel_rfl) rfl ?_
      refine all_stp (i := 23) rfl (by kernel_rfl) (.tmp 37) (.tmp 35) rfl blk (t * 9) x rfl rfl g2 ?_ ?_
      ·
       try (change wpAny _ _ _ _ _ _ ⟨_, _⟩ _)
       try simp only [Act.put, sS]
       refine wpAny_done (by kernel_rfl) ?_ _
       clear c1 c2 f1 g2 b1 b2
       generalize (wr.drew.setCells blk (s * 9) y.cs).setCells blk (t * 9) x.cs = w9 at HN ⊢
       go_wp2
       go_roundw
       case rel => exact ⟨j + 1, by omega, by go_num, by have e := HN.out; rw [hs.out, ht.out, swapR_succ a b j (by omega)] at e; exact hid e⟩
       case measure => simp [intOf]; omega
      exact rN
     exact rN
    exact rN
   refine all_ldp (i := 19) rfl (by kernel_rfl) (.tmp 34) rfl blk (s * 9) rfl x c1 ?_ ?_
   ·
    try (change wpAny _ _ _ _ _ _ ⟨_, _⟩ _)
    try simp only [Act.put, sS]
    refine tR [13] (by kernel_rfl) rfl ?_
    refine all_ldp (i := 13) rfl (by kernel_rfl) (.tmp 28) rfl blk (t * 9) rfl y c2 ?_ ?_
    ·
     try (change wpAny _ _ _ _ _ _ ⟨_, _⟩ _)
     try simp only [Act.put, sS]
     refine tK 20 ?_ rfl (by kernel_rfl) (fun _ _ _ h => h) (Or.inl ⟨by rfl, fun w => ?_⟩) ?_; rotate_left; (go_simp; try with_reducible rfl)
     try (change wpAny _ _ _ _ _ _ ⟨_, _⟩ _)
     try simp only [Act.put, sS]
     refine tR [21] (by kernel_rfl) rfl ?_
     refine all_stp (i := 21) rfl (by kernel_rfl) (.tmp 36) (.tmp 29) rfl blk (s * 9) y rfl rfl f1 ?_ ?_
     ·
      try (change wpAny _ _ _ _ _ _ ⟨_, _⟩ _)
      try simp only [Act.put, sS]
      refine tK 22 ?_ rfl (by kernel_rfl) (fun _ _ _ h => h) (Or.inl ⟨by rfl, fun w => ?_⟩) ?_; rotate_left; (go_simp; try with_reducible rfl)
      try (change wpAny _ _ _ _ _ _ ⟨_, _⟩ _)
      try simp only [Act.put, sS]
      refine tR [23] (by kernel_rfl) rfl ?_
      refine all_stp (i := 23) rfl (by kernel_rfl) (.tmp 37) (.tmp 35) rfl blk (t * 9) x rfl rfl g2 ?_ ?_
      ·
       try (change wpAny _ _ _ _ _ _ ⟨_, _⟩ _)
       try simp only [Act.put, sS]
       refine wpAny_done (by kernel_rfl) ?_ _
       clear c1 c2 f1 g2 b1 b2
       generalize (wr.drew.setCells blk (s * 9) y.cs).setCells blk (t * 9) x.cs = w9 at HN ⊢
       go_wp2
       go_roundw
       case rel => exact ⟨j + 1, by omega, by go_num, by have e := HN.out; rw [hs.out, ht.out, swapR_succ a b j (by omega)] at e; exact hid e⟩
       case measure => simp [intOf]; omega
      exact rN
     exact rN
    exact rN
   exact rN
  obtain rfl : j = k := by omega
  go_wp2
  go_end0
  exact ⟨rfl, HR.out⟩
theorem rotate_par (W0 W : World) (blk n cap a m b : Nat) (ok : Par → Prop) (f : Nat → Par) (fv : Value) (h : PairsAt W0 blk ok f n W) (ham : a < m) (hmb : m < b) (hb : b ≤ n) (hn : n < 4611686018427387904) :
  Calls Tryz.prog 171 #[.slice (some ⟨blk, 0, none⟩) n cap, .int .i64 a, .int .i64 m, .int .i64 b, fv] W fun e w' => e = .returned (.tuple #[]) ∧ PairsAt W0 blk ok (rotF f a m b) n w' := by
 have H := hid h
 clear h
 obtain ⟨i0, hi0⟩ : ∃ i0, i0 = m - a := ⟨_, rfl⟩
 obtain ⟨j0, hj0⟩ : ∃ j0, j0 = b - m := ⟨_, rfl⟩
 have r1 : IntKind.i64.wrap ((m : Int) - (a : Int)) = (i0 : Int) := by rw [IntKind.wrap_i64]; omega
 have r2 : IntKind.i64.wrap ((b : Int) - (m : Int)) = (j0 : Int) := by rw [IntKind.wrap_i64]; omega
 have HI0 := hid hi0
 have HJ0 := hid hj0
 clear hi0 hj0
 go_enter Tryz.func171, Tryz.ntmps171
 go_wp2
 go_loopw [10, 11] (fun si sj wx => ∃ (i j : Nat) (g : Nat → Par), 0 < i ∧ 0 < j ∧ a + i ≤ m ∧ m + j ≤ b ∧ si = .int .i64 i ∧ sj = .int .i64 j ∧ Hid (PairsAt W0 blk ok g n wx) ∧ Hid (rotF g (m - i) m (m + j) = rotF f a m b)) (fun si sj _ => (intOf si).toNat + (intOf sj).toNat)
 case atStart =>
  have e1 := HI0.out
  have e2 := HJ0.out
  exact ⟨i0, j0, f, by omega, by omega, by omega, by omega, rfl, rfl, H, by rw [show m - i0 = a by omega, show m + j0 = b by omega]; exact rfl⟩
 case round =>
  obtain ⟨i, j, g, hi, hj, hai, hjb, rfl, rfl, HG, HE⟩ := hrel
  clear r1 r2
  obtain ⟨z, hz⟩ : ∃ z, z = m - i := ⟨_, rfl⟩
  have r1 : IntKind.i64.wrap ((m : Int) - (i : Int)) = (z : Int) := by rw [IntKind.wrap_i64]; omega
  have HZ := hid hz
  clear hz
  rcases Nat.lt_trichotomy i j with hlt | heq | hgt
  ·
   obtain ⟨y, hy⟩ : ∃ y, y = m + j - i := ⟨_, rfl⟩
   obtain ⟨x, hx⟩ : ∃ x, x = j - i := ⟨_, rfl⟩
   have r2 : IntKind.i64.wrap ((m : Int) + (j : Int)) = ((m : Int) + (j : Int)) := by rw [IntKind.wrap_i64]; omega
   have r3 : IntKind.i64.wrap ((m : Int) + (j : Int) - (i : Int)) = (y : Int) := by rw [IntKind.wrap_i64]; omega
   have r4 : IntKind.i64.wrap ((j : Int) - (i : Int)) = (x : Int) := by rw [IntKind.wrap_i64]; omega
   have t1 : ¬ (i : Int) = (j : Int) := by omega
   have t2 : ¬ (j : Int) < (i : Int) := by omega
   have HY := hid hy
   have HX := hid hx
   clear hy hx
   go_wp2_with (go_at_call 184; refine (swapRange_par W0 _ blk n cap z y i ok g fv HG.out (by have := HZ.out; have := HY.out; omega) (by have := HY.out; omega) hn).mono ?_; rintro e w1 ⟨rfl, h1⟩; replace h1 := hid h1)
   go_roundw
   case rel =>
    have e1 := HZ.out
    have e2 := HY.out
    have e3 := HX.out
    exact ⟨i, x, _, hi, by omega, hai, by omega, rfl, rfl, h1, by rw [e1, e2, e3]; exact (rot_lt (f := g) m i j (by omega) hlt hi).trans HE.out⟩
   case measure => have e3 := HX.out; simp [intOf]; omega
  ·
   subst heq
   go_wp2_with (go_at_call 184; refine (swapRange_par W0 _ blk n cap z m i ok g fv HG.out (by have := HZ.out; omega) (by omega) hn).mono ?_; rintro e w1 ⟨rfl, h1⟩; replace h1 := hid h1)
   go_end0
   refine ⟨rfl, ?_⟩
   have e1 := HZ.out
   rw [← HE.out, ← rot_eq (f := g) m i (by omega), ← e1]
   exact h1.out
  obtain ⟨x, hx⟩ : ∃ x, x = i - j := ⟨_, rfl⟩
  have r4 : IntKind.i64.wrap ((i : Int) - (j : Int)) = (x : Int) := by rw [IntKind.wrap_i64]; omega
  have t1 : ¬ (i : Int) = (j : Int) := by omega
  have t2 : (j : Int) < (i : Int) := by omega
  have HX := hid hx
  clear hx
  go_wp2_with (go_at_call 184; refine (swapRange_par W0 _ blk n cap z m j ok g fv HG.out (by have := HZ.out; omega) (by omega) hn).mono ?_; rintro e w1 ⟨rfl, h1⟩; replace h1 := hid h1)
  go_roundw
  case rel =>
   have e1 := HZ.out
   have e3 := HX.out
   exact ⟨x, j, _, by omega, hj, by omega, hjb, rfl, rfl, h1, by rw [e1, e3]; exact (rot_gt (f := g) m i j (by omega) hgt hj).trans HE.out⟩
  case measure => have e3 := HX.out; simp [intOf]; omega
end Go.Proofs.YtcjhihmaegagdaaGreatDoor
namespace Go.Proofs.YtcjhihmaegagdaaGreatDoor
open Go.RowKit Go.Deep
theorem insertion_par (W0 W : World) (blk n cap a b g : Nat) (cb : Array Value) (ok : Par → Prop) (lt : Par → Par → Bool) (f : Nat → Par) (hO : Swo lt) (hC : CmpP W0 blk ok lt g cb) (eg : ∀ args w, (callFunc g args).run Tryz.prog w = .ok (.enter g args) w)
  (h : PairsAt W0 blk ok f n W) (hab : a ≤ b) (hb : b ≤ n) (hn : n < 4611686018427387904) :
  Calls Tryz.prog 145 #[.slice (some ⟨blk, 0, none⟩) n cap, .int .i64 a, .int .i64 b, .func (.func g) #[] cb] W fun e w' => e = .returned (.tuple #[]) ∧ ∃ f', PairsAt W0 blk ok f' n w' ∧ Put f f' a b (sortS lt (seg f a b)) := by
 have H := hid h
 have HC := hid hC
 have HO := hid hO
 clear h hC hO
 go_enter Tryz.func145, Tryz.ntmps145
 have r0 : IntKind.i64.wrap ((a : Int) + 1) = ((a + 1 : Nat) : Int) := by rw [IntKind.wrap_i64]; omega
 go_wp2
 go_loopw [8] (fun si wx => ∃ (i : Nat) (fi : Nat → Par), a ≤ i ∧ (i ≤ b ∨ i = a + 1) ∧ si = .int .i64 i ∧ Hid (PairsAt W0 blk ok fi n wx) ∧ Hid (Put f fi a (min i b) (sortS lt (seg f a (min i b))))) (fun si _ => b + 1 - (intOf si).toNat)
 case atStart =>
  refine ⟨a + 1, f, by omega, Or.inr rfl, rfl, H, hid (Put.refl ?_)⟩
  by_cases hq : a < b
  ·
   rw [show min (a + 1) b = a + 1 by omega, seg_cons f a (a + 1) (by omega), seg_nil f (a + 1) (a + 1) (by omega)]; rfl
  rw [seg_nil f a _ (by omega)]; rfl
 case round =>
  obtain ⟨i, fi, hai, hib, rfl, HI, HP⟩ := hrel
  by_cases hlt : i < b
  ·
   go_wp2_with fail
   go_loopw [9] (fun sj wx => ∃ j : Nat, a ≤ j ∧ j ≤ i ∧ sj = .int .i64 j ∧ Hid (PairsAt W0 blk ok (rotF fi j i (i + 1)) n wx) ∧ Hid (∀ t, j ≤ t → t < i → lt (fi i) (fi t) = true)) (fun sj _ => (intOf sj).toNat)
   case atStart => exact ⟨i, by omega, Nat.le_refl _, rfl, by rw [rot_down0]; exact HI, hid (fun t h1 h2 => absurd h1 (by omega))⟩
   case round =>
    obtain ⟨j, haj, hji, rfl, HJ, HL⟩ := hrel
    by_cases hja : a < j
    ·
     obtain ⟨x, hx⟩ : ∃ x, x = fi i := ⟨_, rfl⟩
     obtain ⟨y, hy⟩ : ∃ y, y = fi (j - 1) := ⟨_, rfl⟩
     obtain ⟨jp, hjp⟩ : ∃ jp, j = jp + 1 := ⟨j - 1, by omega⟩
     have v1 : rotF fi j i (i + 1) j = x := by rw [hx]; unfold rotF; rw [if_pos (by omega)]; congr 1; omega
     have v2 : rotF fi j i (i + 1) jp = y := by rw [hy]; unfold rotF; rw [if_neg (by omega), if_neg (by omega)]; congr 1; omega
     have c1 := HJ.out.cell j (by omega)
     have c2 := HJ.out.cell jp (by omega)
     have o1 := HJ.out.ok j (by omega)
     have o2 := HJ.out.ok jp (by omega)
     rw [v1] at c1 o1
     rw [v2] at c2 o2
     have hbl := HJ.out.lt
     have e1 : IntKind.i64.wrap ((j : Int) - 1) = (jp : Int) := by rw [IntKind.wrap_i64]; omega
     have t1 : (a : Int) < (j : Int) := by omega
     have b1 : j < n := by omega
     have b2 : jp < n := by omega
     have hcall : ∀ w', Below wr.heap.size wr w' → Calls Tryz.prog g (#[.agg x.cs.toArray, .agg y.cs.toArray] ++ cb) w' fun e w'' => e = .returned (.int .i64 (if lt x y = true then -1 else if lt y x = true then 1 else 0)) ∧ Below wr.heap.size wr w'' := fun w' hb => (HC.out w' (HJ.out.only.trans (Only.of_below hb)) x y o1 o2).mono fun e w'' h => ⟨h.1, below_on hb h.2⟩
     obtain ⟨c, hc⟩ : ∃ c : Int, c = (if lt x y = true then -1 else if lt y x = true then 1 else 0) := ⟨_, rfl⟩
     rw [← hc] at hcall
     have V : Hid (x = fi i ∧ y = fi (j - 1) ∧ j = jp + 1) := ⟨hx, hy, hjp⟩
     clear v1 v2 hx hy o1 o2 hjp
     go_wp2_with fail
     refine wp_region_quiet (C := fun w' => Below wr.heap.size wr w') (by kernel_rfl) (by kernel_rfl) (Below.refl _ wr).drew ?_
     refine quiet_val (by kernel_rfl) (.int .i64 (j : Int)) (fun _ _ => rfl) ?_
     simp only [Act.put, sS]
     refine quiet_val (by kernel_rfl) (.int .i64 (a : Int)) (fun _ _ => rfl) ?_
     simp only [Act.put, sS]
     refine quiet_val (by kernel_rfl) (.bool true) (fun _ _ => by simp [go_sem, t1]) ?_
     simp only [Act.put, sS]
     refine quiet_val (by kernel_rfl) (.bool true) (fun _ _ => rfl) ?_
     simp only [Act.put, sS]
     refine quiet_val (by kernel_rfl) (.func (.func g) #[] cb) (fun _ _ => rfl) ?_
     simp only [Act.put, sS]
     refine quiet_val (by kernel_rfl) (.slice (some ⟨blk, 0, none⟩) n cap) (fun _ _ => rfl) ?_
     simp only [Act.put, sS]
     refine quiet_val (by kernel_rfl) (.int .i64 (j : Int)) (fun _ _ => rfl) ?_
     simp only [Act.put, sS]
     refine quiet_val (by kernel_rfl) (.pointer (some ⟨blk, j * 9, none⟩)) (fun _ _ => by simp [go_sem, b1]) ?_
     simp only [Act.put, sS]
     refine quiet_ld (by kernel_rfl) 57 (.tmp 25) rfl ⟨blk, j * 9, none⟩ (.agg x.cs.toArray) rfl (fun w' hb => load_par _ _ _ _ (range_below hb hbl c1)) ?_
     simp only [Act.put, sS]
     refine quiet_val (by kernel_rfl) (.slice (some ⟨blk, 0, none⟩) n cap) (fun _ _ => rfl) ?_
     simp only [Act.put, sS]
     refine quiet_val (by kernel_rfl) (.int .i64 (j : Int)) (fun _ _ => rfl) ?_
     simp only [Act.put, sS]
     refine quiet_val (by kernel_rfl) (.int .i64 (jp : Int)) (fun _ _ => by simp [go_sem, e1]) ?_
     simp only [Act.put, sS]
     refine quiet_val (by kernel_rfl) (.pointer (some ⟨blk, jp * 9, none⟩)) (fun _ _ => by simp [go_sem, b2]) ?_
     simp only [Act.put, sS]
     refine quiet_ld (by kernel_rfl) 57 (.tmp 30) rfl ⟨blk, jp * 9, none⟩ (.agg y.cs.toArray) rfl (fun w' hb => load_par _ _ _ _ (range_below hb hbl c2)) ?_
     simp only [Act.put, sS]
     refine quiet_call (by kernel_rfl) (.int .i64 c) g (#[.agg x.cs.toArray, .agg y.cs.toArray] ++ cb) ?_ ?_ ?_
     ·
      intro w'
      simp [go_sem, eg]
     ·
      intro w' hb
      exact hcall w' hb
     simp only [Act.put, sS]
     refine quiet_val (by kernel_rfl) (.bool (decide (c < 0))) (fun _ _ => by simp [go_sem, e1]) ?_
     simp only [Act.put, sS]
     refine quiet_val (by kernel_rfl) (.bool (decide (c < 0))) (fun _ _ => rfl) ?_
     simp only [Act.put, sS]
     refine wpQuiet_nil ?_
     intro w2 hb2
     have H2 := hid (HJ.out.below hb2)
     rcases hl : lt x y with _ | _
     ·
      have hneg : ¬ c < 0 := by rw [hc, hl]; simp; split <;> omega
      have HQ : Hid (lt (fi i) (fi (j - 1)) = false) := by rw [← V.out.1, ← V.out.2.1]; exact hl
      clear hc hcall c1 c2 hbl hl
      go_wp2
      go_roundw
      case rel => exact ⟨i + 1, _, by omega, by omega, by go_num, H2, by rw [show min (i + 1) b = i + 1 by omega]; exact hid (ins_put HO.out a i j haj hji (show min i b = i by omega ▸ HP.out) HL.out (fun _ => HQ.out))⟩
      case measure => simp [intOf]; omega
     have hneg : c < 0 := by rw [hc, hl]; simp
     have hlx := hid hl
     clear hc hcall c1 c2 hbl hl b1 b2 t1
     go_wp2_with fail
     have b1 : j < n := by omega
     have b2 : jp < n := by have := V.out.2.2; omega
     have u1 : x = rotF fi j i (i + 1) j := by rw [V.out.1]; unfold rotF; rw [if_pos (by omega)]; congr 1; omega
     have u2 : y = rotF fi j i (i + 1) jp := by have := V.out.2.2; rw [V.out.2.1]; unfold rotF; rw [if_neg (by omega), if_neg (by omega)]; congr 1; omega
     have jpl := V.out.2.2
     have c1 : w2.drew.rangeAt blk (j * 9) x.cs := by rw [u1]; exact range_drew (H2.out.cell j (by omega))
     have c2 : w2.drew.rangeAt blk (jp * 9) y.cs := by rw [u2]; exact range_drew (H2.out.cell jp (by omega))
     have f1 : w2.drew.there blk (j * 9) 9 := there_drew (H2.out.fr j (by omega))
     have g2 : (w2.drew.setCells blk (j * 9) y.cs).there blk (jp * 9) 9 := World.there_setCells (there_drew (H2.out.fr jp (by omega))) _ _ _
     have HN := H2.out.swap j jp (by omega) (by omega)
     rw [← u1, ← u2] at HN
     replace HN := hid HN
     clear u1 u2 jpl
     go_wp2_with fail
     refine wp_region_any (by kernel_rfl) ?_
     change wpAny _ _ _ _ _ _ _ (World.drew _)
     refine tK 0 ?_ rfl (by kernel_rfl) (fun _ _ _ h => h) (Or.inl ⟨by rfl, fun w => ?_⟩) ?_; rotate_left; (go_simp; try with_reducible rfl)
     try (change wpAny _ _ _ _ _ _ ⟨_, _⟩ _)
     try simp only [Act.put, sS]
     refine tK 1 ?_ rfl (by kernel_rfl) (fun _ _ _ h => h) (Or.inl ⟨by rfl, fun w => ?_⟩) ?_; rotate_left; (go_simp; try with_reducible rfl)
     try (change wpAny _ _ _ _ _ _ ⟨_, _⟩ _)
     try simp only [Act.put, sS]
     refine tK 2 ?_ rfl (by kernel_rfl) (fun _ _ _ h => h) (Or.inl ⟨by rfl, fun w => ?_⟩) ?_; rotate_left; (go_simp; try with_reducible rfl)
     try (change wpAny _ _ _ _ _ _ ⟨_, _⟩ _)
     try simp only [Act.put, sS]
     refine tK 3 ?_ rfl (by kernel_rfl) (fun _ _ _ h => h) (Or.inl ⟨by rfl, fun w => ?_⟩) ?_; rotate_left; (go_simp; try with_reducible rfl)
     try (change wpAny _ _ _ _ _ _ ⟨_, _⟩ _)
     try simp only [Act.put, sS]
     refine tK 4 ?_ rfl (by kernel_rfl) (fun _ _ _ h => h) (Or.inl ⟨by rfl, fun w => ?_⟩) ?_; rotate_left; (go_simp; try with_reducible rfl)
     try (change wpAny _ _ _ _ _ _ ⟨_, _⟩ _)
     try simp only [Act.put, sS]
     refine tK 5 ?_ rfl (by kernel_rfl) (fun _ _ _ h => h) (Or.inl ⟨by rfl, fun w => ?_⟩) ?_; rotate_left; (go_simp; try with_reducible rfl)
     try (change wpAny _ _ _ _ _ _ ⟨_, _⟩ _)
     try simp only [Act.put, sS]
     refine tK 6 ?_ rfl (by kernel_rfl) (fun _ _ _ h => h) (Or.inl ⟨by rfl, fun w => ?_⟩) ?_; rotate_left; (go_simp; try with_reducible rfl)
     try (change wpAny _ _ _ _ _ _ ⟨_, _⟩ _)
     try simp only [Act.put, sS]
     refine tK 7 ?_ rfl (by kernel_rfl) (fun _ _ _ h => h) (Or.inl ⟨by rfl, fun w => ?_⟩) ?_; rotate_left; (go_simp; try with_reducible rfl)
     try (change wpAny _ _ _ _ _ _ ⟨_, _⟩ _)
     try simp only [Act.put, sS]
     refine tK 8 ?_ rfl (by kernel_rfl) (fun _ _ _ h => h) (Or.inl ⟨by rfl, fun w => ?_⟩) ?_; rotate_left; (go_simp; try with_reducible rfl)
     try (change wpAny _ _ _ _ _ _ ⟨_, _⟩ _)
     try simp only [Act.put, sS]
     refine tK 10 ?_ rfl (by kernel_rfl) (fun _ _ _ h => h) (Or.inl ⟨by rfl, fun w => ?_⟩) ?_; rotate_left; (go_simp; try with_reducible rfl)
     try (change wpAny _ _ _ _ _ _ ⟨_, _⟩ _)
     try simp only [Act.put, sS]
     refine tK 11 ?_ rfl (by kernel_rfl) (fun _ _ _ h => h) (Or.inl ⟨by rfl, fun w => ?_⟩) ?_; rotate_left; (go_simp; try with_reducible rfl)
     try (change wpAny _ _ _ _ _ _ ⟨_, _⟩ _)
     try simp only [Act.put, sS]
     refine tK 12 ?_ rfl (by kernel_rfl) (fun _ _ _ h => h) (Or.inl ⟨by rfl, fun w => ?_⟩) ?_; rotate_left; (go_simp; try with_reducible rfl)
     try (change wpAny _ _ _ _ _ _ ⟨_, _⟩ _)
     try simp only [Act.put, sS]
     refine tR [9, 13] (by kernel_rfl) rfl ?_
     refine all_ldp (i := 9) rfl (by kernel_rfl) (.tmp 45) rfl blk (jp * 9) rfl y c2 ?_ ?_
     ·
      try (change wpAny _ _ _ _ _ _ ⟨_, _⟩ _)
      try simp only [Act.put, sS]
      refine tR [13] (by kernel_rfl) rfl ?_
      refine all_ldp (i := 13) rfl (by kernel_rfl) (.tmp 49) rfl blk (j * 9) rfl x c1 ?_ ?_
      ·
       try (change wpAny _ _ _ _ _ _ ⟨_, _⟩ _)
       try simp only [Act.put, sS]
       refine tK 14 ?_ rfl (by kernel_rfl) (fun _ _ _ h => h) (Or.inl ⟨by rfl, fun w => ?_⟩) ?_; rotate_left; (go_simp; try with_reducible rfl)
       try (change wpAny _ _ _ _ _ _ ⟨_, _⟩ _)
       try simp only [Act.put, sS]
       refine tR [15] (by kernel_rfl) rfl ?_
       refine all_stp (i := 15) rfl (by kernel_rfl) (.tmp 51) (.tmp 46) rfl blk (j * 9) y rfl rfl f1 ?_ ?_
       ·
        try (change wpAny _ _ _ _ _ _ ⟨_, _⟩ _)
        try simp only [Act.put, sS]
        refine tK 16 ?_ rfl (by kernel_rfl) (fun _ _ _ h => h) (Or.inl ⟨by rfl, fun w => ?_⟩) ?_; rotate_left; (go_simp; try with_reducible rfl)
        try (change wpAny _ _ _ _ _ _ ⟨_, _⟩ _)
        try simp only [Act.put, sS]
        refine tR [17] (by kernel_rfl) rfl ?_
        refine all_stp (i := 17) rfl (by kernel_rfl) (.tmp 52) (.tmp 50) rfl blk (jp * 9) x rfl rfl g2 ?_ ?_
        ·
         try (change wpAny _ _ _ _ _ _ ⟨_, _⟩ _)
         try simp only [Act.put, sS]
         refine wpAny_done (by kernel_rfl) ?_ _
         clear c1 c2 f1 g2 b1 b2
         generalize (w2.drew.setCells blk (j * 9) y.cs).setCells blk (jp * 9) x.cs = w9 at HN ⊢
         go_wp2
         go_roundw
         case rel => exact ⟨jp, by have := V.out.2.2; omega, by have := V.out.2.2; omega, rfl, by have h3 := V.out.2.2; have h4 := rot_down (f := fi) i j hji (by omega); rw [show j - 1 = jp by omega] at h4; exact hid (h4 ▸ HN.out), hid (fun t h1 h2 => by
           by_cases ht : j ≤ t
           ·
            exact HL.out t ht h2
           have h3 := V.out.2.2
           obtain rfl : t = jp := by omega
           have h4 := hlx.out
           rw [V.out.1, V.out.2.1, show j - 1 = t by omega] at h4
           exact h4)⟩
         case measure => have := V.out.2.2; simp [intOf]; omega
        exact rN
       exact rN
      exact rN
     refine all_ldp (i := 13) rfl (by kernel_rfl) (.tmp 49) rfl blk (j * 9) rfl x c1 ?_ ?_
     ·
      try (change wpAny _ _ _ _ _ _ ⟨_, _⟩ _)
      try simp only [Act.put, sS]
      refine tR [9] (by kernel_rfl) rfl ?_
      refine all_ldp (i := 9) rfl (by kernel_rfl) (.tmp 45) rfl blk (jp * 9) rfl y c2 ?_ ?_
      ·
       try (change wpAny _ _ _ _ _ _ ⟨_, _⟩ _)
       try simp only [Act.put, sS]
       refine tK 14 ?_ rfl (by kernel_rfl) (fun _ _ _ h => h) (Or.inl ⟨by rfl, fun w => ?_⟩) ?_; rotate_left; (go_simp; try with_reducible rfl)
       try (change wpAny _ _ _ _ _ _ ⟨_, _⟩ _)
       try simp only [Act.put, sS]
       refine tR [15] (by kernel_rfl) rfl ?_
       refine all_stp (i := 15) rfl (by kernel_rfl) (.tmp 51) (.tmp 46) rfl blk (j * 9) y rfl rfl f1 ?_ ?_
       ·
        try (change wpAny _ _ _ _ _ _ ⟨_, _⟩ _)
        try simp only [Act.put, sS]
        refine tK 16 ?_ rfl (by kernel_rfl) (fun _ _ _ h => h) (Or.inl ⟨by rfl, fun w => ?_⟩) ?_; rotate_left; (go_simp; try with_reducible rfl)
        try (change wpAny _ _ _ _ _ _ ⟨_, _⟩ _)
        try simp only [Act.put, sS]
        refine tR [17] (by kernel_rfl) rfl ?_
        refine all_stp (i := 17) rfl (by kernel_rfl) (.tmp 52) (.tmp 50) rfl blk (jp * 9) x rfl rfl g2 ?_ ?_
        ·
         try (change wpAny _ _ _ _ _ _ ⟨_, _⟩ _)
         try simp only [Act.put, sS]
         refine wpAny_done (by kernel_rfl) ?_ _
         clear c1 c2 f1 g2 b1 b2
         generalize (w2.drew.setCells blk (j * 9) y.cs).setCells blk (jp * 9) x.cs = w9 at HN ⊢
         go_wp2
         go_roundw
         case rel => exact ⟨jp, by have := V.out.2.2; omega, by have := V.out.2.2; omega, rfl, by have h3 := V.out.2.2; have h4 := rot_down (f := fi) i j hji (by omega); rw [show j - 1 = jp by omega] at h4; exact hid (h4 ▸ HN.out), hid (fun t h1 h2 => by
           by_cases ht : j ≤ t
           ·
            exact HL.out t ht h2
           have h3 := V.out.2.2
           obtain rfl : t = jp := by omega
           have h4 := hlx.out
           rw [V.out.1, V.out.2.1, show j - 1 = t by omega] at h4
           exact h4)⟩
         case measure => have := V.out.2.2; simp [intOf]; omega
        exact rN
       exact rN
      exact rN
     exact rN
    obtain rfl : j = a := by omega
    have t1 : ¬ (j : Int) < (j : Int) := by omega
    go_wp2_with fail
    have HB : Hid (Below wr.heap.size wr wr.drew) := hid (Below.refl _ _).drew
    go_big_region
    have H2 := hid (HJ.out.below HB.out)
    go_wp2
    go_roundw
    case rel => exact ⟨i + 1, _, by omega, by omega, by go_num, H2, by rw [show min (i + 1) b = i + 1 by omega]; exact hid (ins_put HO.out j i j (Nat.le_refl _) hji (show min i b = i by omega ▸ HP.out) HL.out (fun h => absurd h (by omega)))⟩
    case measure => simp [intOf]; omega
  go_wp2
  go_end0
  refine ⟨rfl, fi, HI.out, ?_⟩
  have e := HP.out
  rw [show min i b = b by omega] at e
  exact e
end Go.Proofs.YtcjhihmaegagdaaGreatDoor
namespace Go.Proofs.YtcjhihmaegagdaaGreatDoor
open Go.RowKit Go.Deep
theorem symLeft_par (W0 W : World) (blk n cap a m b g : Nat) (cb : Array Value) (ok : Par → Prop) (lt : Par → Par → Bool) (f : Nat → Par) (hO : Swo lt) (hC : CmpP W0 blk ok lt g cb) (eg : ∀ args w, (callFunc g args).run Tryz.prog w = .ok (.enter g args) w)
  (h : PairsAt W0 blk ok f n W) (hm : m = a + 1) (hmb : m < b) (hb : b ≤ n) (hn : n < 2305843009213693952) (hs : Sorted lt (seg f m b)) :
  Calls Tryz.prog 146 #[.slice (some ⟨blk, 0, none⟩) n cap, .int .i64 a, .int .i64 m, .int .i64 b, .func (.func g) #[] cb] W fun e w' => e = .returned (.tuple #[]) ∧ ∃ f', PairsAt W0 blk ok f' n w' ∧ Put f f' a b (mergeS lt (seg f a m) (seg f m b)) := by
 have H := hid h
 have HC := hid hC
 have HO := hid hO
 have HS := hid hs
 clear h hC hO hs
 have r0 : IntKind.i64.wrap ((m : Int) - (a : Int)) = 1 := by rw [IntKind.wrap_i64]; omega
 go_enter Tryz.func146, Tryz.ntmps146
 go_wp2
 clear r0
 go_loopw [10, 11] (fun si sj wx => ∃ i j : Nat, m ≤ i ∧ i ≤ j ∧ j ≤ b ∧ si = .int .i64 i ∧ sj = .int .i64 j ∧ Hid (PairsAt W0 blk ok f n wx) ∧ Hid (∀ t, m ≤ t → t < i → lt (f t) (f a) = true) ∧ Hid (∀ t, j ≤ t → t < b → lt (f t) (f a) = false)) (fun si sj _ => (intOf sj).toNat - (intOf si).toNat)
 case atStart => exact ⟨m, b, Nat.le_refl _, Nat.le_of_lt hmb, Nat.le_refl _, rfl, rfl, H, hid (fun t h1 h2 => absurd h1 (by omega)), hid (fun t h1 h2 => absurd h1 (by omega))⟩
 case round =>
  obtain ⟨i, j, hmi, hij, hjb, rfl, rfl, HW, HA, HB⟩ := hrel
  by_cases hlt : i < j
  ·
   obtain ⟨s, hs⟩ : ∃ s, s = i + j := ⟨_, rfl⟩
   obtain ⟨h, hh⟩ : ∃ h, h = s / 2 := ⟨_, rfl⟩
   have HF := hid (half_facts (i := i) (j := j) (n := n) (by omega) hs hh (by omega) (by omega))
   obtain ⟨x, hx⟩ : ∃ x, x = f h := ⟨_, rfl⟩
   obtain ⟨y, hy⟩ : ∃ y, y = f a := ⟨_, rfl⟩
   have c1 := HW.out.cell h (by omega)
   have c2 := HW.out.cell a (by omega)
   have o1 := HW.out.ok h (by omega)
   have o2 := HW.out.ok a (by omega)
   rw [← hx] at c1 o1
   rw [← hy] at c2 o2
   have hbl := HW.out.lt
   have b1 : h < n := by omega
   have b2 : a < n := by omega
   have hcall : ∀ w', Below wr.heap.size wr w' → Calls Tryz.prog g (#[.agg x.cs.toArray, .agg y.cs.toArray] ++ cb) w' fun e w'' => e = .returned (.int .i64 (if lt x y = true then -1 else if lt y x = true then 1 else 0)) ∧ Below wr.heap.size wr w'' := fun w' hb => (HC.out w' (HW.out.only.trans (Only.of_below hb)) x y o1 o2).mono fun e w'' h => ⟨h.1, below_on hb h.2⟩
   obtain ⟨c, hc⟩ : ∃ c : Int, c = (if lt x y = true then -1 else if lt y x = true then 1 else 0) := ⟨_, rfl⟩
   rw [← hc] at hcall
   replace hx := hid hx
   replace hy := hid hy
   have HHH : Hid (h = s / 2 ∧ s = i + j) := hid ⟨hh, hs⟩
   clear o1 o2 hs hh
   obtain ⟨r1, r2, r3, r4, r5⟩ := HF.out
   go_wp2_with fail
   refine wp_region_quiet (C := fun w' => Below wr.heap.size wr w') (by kernel_rfl) (by kernel_rfl) (Below.refl _ wr).drew ?_
   refine quiet_val (by kernel_rfl) (.func (.func g) #[] cb) (fun _ _ => rfl) ?_
   simp only [Act.put, sS]
   refine quiet_val (by kernel_rfl) (.slice (some ⟨blk, 0, none⟩) n cap) (fun _ _ => rfl) ?_
   simp only [Act.put, sS]
   refine quiet_val (by kernel_rfl) (.int .i64 (h : Int)) (fun _ _ => rfl) ?_
   simp only [Act.put, sS]
   refine quiet_val (by kernel_rfl) (.pointer (some ⟨blk, h * 9, none⟩)) (fun _ _ => by simp [go_sem, b1]) ?_
   simp only [Act.put, sS]
   refine quiet_ld (by kernel_rfl) 57 (.tmp 43) rfl ⟨blk, h * 9, none⟩ (.agg x.cs.toArray) rfl (fun w' hb => load_par _ _ _ _ (range_below hb hbl c1)) ?_
   simp only [Act.put, sS]
   refine quiet_val (by kernel_rfl) (.slice (some ⟨blk, 0, none⟩) n cap) (fun _ _ => rfl) ?_
   simp only [Act.put, sS]
   refine quiet_val (by kernel_rfl) (.int .i64 (a : Int)) (fun _ _ => rfl) ?_
   simp only [Act.put, sS]
   refine quiet_val (by kernel_rfl) (.pointer (some ⟨blk, a * 9, none⟩)) (fun _ _ => by simp [go_sem, b2]) ?_
   simp only [Act.put, sS]
   refine quiet_ld (by kernel_rfl) 57 (.tmp 47) rfl ⟨blk, a * 9, none⟩ (.agg y.cs.toArray) rfl (fun w' hb => load_par _ _ _ _ (range_below hb hbl c2)) ?_
   simp only [Act.put, sS]
   refine quiet_call (by kernel_rfl) (.int .i64 c) g (#[.agg x.cs.toArray, .agg y.cs.toArray] ++ cb) ?_ ?_ ?_
   ·
    intro w'
    simp [go_sem, eg]
   ·
    intro w' hb
    exact hcall w' hb
   simp only [Act.put, sS]
   refine quiet_val (by kernel_rfl) (.bool (decide (c < 0))) (fun _ _ => by simp [go_sem, b1]) ?_
   simp only [Act.put, sS]
   refine wpQuiet_nil ?_
   clear r1 r2 r3 r4
   intro w2 hb2
   have H2 := hid (HW.out.below hb2)
   rcases hl : lt x y with _ | _
   ·
    have hneg : ¬ c < 0 := by rw [hc, hl]; simp; split <;> omega
    rw [hx.out, hy.out] at hl
    have HB2 := hid (s1_hi HO.out HS.out (show m ≤ h by have := HHH.out; omega) hl)
    clear hc hcall c1 c2 hbl hl
    go_wp2
    go_roundw
    case rel => exact ⟨i, h, hmi, by have := HHH.out; omega, by have := HHH.out; omega, rfl, rfl, H2, HA, HB2⟩
    case measure => have := HHH.out; simp [intOf]; omega
   have hneg : c < 0 := by rw [hc, hl]; simp
   rw [hx.out, hy.out] at hl
   have HA2 := hid (s1_lo HO.out HS.out (show h < b by have := HHH.out; omega) hl)
   clear hc hcall c1 c2 hbl hl
   go_wp2
   go_roundw
   case rel => exact ⟨h + 1, j, by have := HHH.out; omega, by have := HHH.out; omega, hjb, rfl, rfl, H2, HA2, HB⟩
   case measure => have := HHH.out; simp [intOf]; omega
  obtain rfl : i = j := by omega
  obtain ⟨ip, hip⟩ : ∃ ip, i = ip + 1 := ⟨i - 1, by omega⟩
  have r1 : IntKind.i64.wrap ((i : Int) - 1) = (ip : Int) := by rw [IntKind.wrap_i64]; omega
  clear hlt
  go_wp2
  go_loopw [13] (fun sk wx => ∃ k : Nat, a ≤ k ∧ k ≤ ip ∧ sk = .int .i64 k ∧ Hid (PairsAt W0 blk ok (rotF f a (a + 1) (k + 1)) n wx)) (fun sk _ => ip - (intOf sk).toNat)
  case atStart => exact ⟨a, Nat.le_refl _, by omega, rfl, by rw [rot_up0]; exact HW⟩
  case round =>
   obtain ⟨k, hak, hki, rfl, HK⟩ := hrel
   by_cases hlt : k < ip
   ·
    have e1 : IntKind.i64.wrap ((k : Int) + 1) = ((k + 1 : Nat) : Int) := by rw [IntKind.wrap_i64]; omega
    obtain ⟨kq, hkq⟩ : ∃ kq, kq = k + 1 := ⟨_, rfl⟩
    rw [← hkq] at e1
    have b1 : k < n := by omega
    have b2 : kq < n := by omega
    obtain ⟨x, hx⟩ : ∃ x, x = rotF f a (a + 1) (k + 1) k := ⟨_, rfl⟩
    obtain ⟨y, hy⟩ : ∃ y, y = rotF f a (a + 1) (k + 1) kq := ⟨_, rfl⟩
    have c1 : wr.drew.rangeAt blk (k * 9) x.cs := by rw [hx]; exact range_drew (HK.out.cell k (by omega))
    have c2 : wr.drew.rangeAt blk (kq * 9) y.cs := by rw [hy]; exact range_drew (HK.out.cell kq (by omega))
    have f1 : wr.drew.there blk (k * 9) 9 := there_drew (HK.out.fr k (by omega))
    have g2 : (wr.drew.setCells blk (k * 9) y.cs).there blk (kq * 9) 9 := World.there_setCells (there_drew (HK.out.fr kq (by omega))) _ _ _
    have HN := HK.out.swap k kq (by omega) (by omega)
    rw [← hx, ← hy] at HN
    replace HN := hid HN
    clear hx hy
    replace hkq := hid hkq
    go_wp2_with fail
    refine wp_region_any (by kernel_rfl) ?_
    change wpAny _ _ _ _ _ _ _ (World.drew _)
    refine tK 0 ?_ rfl (by kernel_rfl) (fun _ _ _ h => h) (Or.inl ⟨by rfl, fun w => ?_⟩) ?_; rotate_left; (go_simp; try with_reducible rfl)
    try (change wpAny _ _ _ _ _ _ ⟨_, _⟩ _)
    try simp only [Act.put, sS]
    refine tK 1 ?_ rfl (by kernel_rfl) (fun _ _ _ h => h) (Or.inl ⟨by rfl, fun w => ?_⟩) ?_; rotate_left; (go_simp; try with_reducible rfl)
    try (change wpAny _ _ _ _ _ _ ⟨_, _⟩ _)
    try simp only [Act.put, sS]
    refine tK 2 ?_ rfl (by kernel_rfl) (fun _ _ _ h => h) (Or.inl ⟨by rfl, fun w => ?_⟩) ?_; rotate_left; (go_simp; try with_reducible rfl)
    try (change wpAny _ _ _ _ _ _ ⟨_, _⟩ _)
    try simp only [Act.put, sS]
    refine tK 3 ?_ rfl (by kernel_rfl) (fun _ _ _ h => h) (Or.inl ⟨by rfl, fun w => ?_⟩) ?_; rotate_left; (go_simp; try with_reducible rfl)
    try (change wpAny _ _ _ _ _ _ ⟨_, _⟩ _)
    try simp only [Act.put, sS]
    refine tK 4 ?_ rfl (by kernel_rfl) (fun _ _ _ h => h) (Or.inl ⟨by rfl, fun w => ?_⟩) ?_; rotate_left; (go_simp; try with_reducible rfl)
    try (change wpAny _ _ _ _ _ _ ⟨_, _⟩ _)
    try simp only [Act.put, sS]
    refine tK 5 ?_ rfl (by kernel_rfl) (fun _ _ _ h => h) (Or.inl ⟨by rfl, fun w => ?_⟩) ?_; rotate_left; (go_simp; try with_reducible rfl)
    try (change wpAny _ _ _ _ _ _ ⟨_, _⟩ _)
    try simp only [Act.put, sS]
    refine tK 6 ?_ rfl (by kernel_rfl) (fun _ _ _ h => h) (Or.inl ⟨by rfl, fun w => ?_⟩) ?_; rotate_left; (go_simp; try with_reducible rfl)
    try (change wpAny _ _ _ _ _ _ ⟨_, _⟩ _)
    try simp only [Act.put, sS]
    refine tK 7 ?_ rfl (by kernel_rfl) (fun _ _ _ h => h) (Or.inl ⟨by rfl, fun w => ?_⟩) ?_; rotate_left; (go_simp; try with_reducible rfl)
    try (change wpAny _ _ _ _ _ _ ⟨_, _⟩ _)
    try simp only [Act.put, sS]
    refine tK 8 ?_ rfl (by kernel_rfl) (fun _ _ _ h => h) (Or.inl ⟨by rfl, fun w => ?_⟩) ?_; rotate_left; (go_simp; try with_reducible rfl)
    try (change wpAny _ _ _ _ _ _ ⟨_, _⟩ _)
    try simp only [Act.put, sS]
    refine tK 10 ?_ rfl (by kernel_rfl) (fun _ _ _ h => h) (Or.inl ⟨by rfl, fun w => ?_⟩) ?_; rotate_left; (go_simp; try with_reducible rfl)
    try (change wpAny _ _ _ _ _ _ ⟨_, _⟩ _)
    try simp only [Act.put, sS]
    refine tK 11 ?_ rfl (by kernel_rfl) (fun _ _ _ h => h) (Or.inl ⟨by rfl, fun w => ?_⟩) ?_; rotate_left; (go_simp; try with_reducible rfl)
    try (change wpAny _ _ _ _ _ _ ⟨_, _⟩ _)
    try simp only [Act.put, sS]
    refine tK 12 ?_ rfl (by kernel_rfl) (fun _ _ _ h => h) (Or.inl ⟨by rfl, fun w => ?_⟩) ?_; rotate_left; (go_simp; try with_reducible rfl)
    try (change wpAny _ _ _ _ _ _ ⟨_, _⟩ _)
    try simp only [Act.put, sS]
    refine tR [9, 13] (by kernel_rfl) rfl ?_
    refine all_ldp (i := 9) rfl (by kernel_rfl) (.tmp 69) rfl blk (kq * 9) rfl y c2 ?_ ?_
    ·
     try (change wpAny _ _ _ _ _ _ ⟨_, _⟩ _)
     try simp only [Act.put, sS]
     refine tR [13] (by kernel_rfl) rfl ?_
     refine all_ldp (i := 13) rfl (by kernel_rfl) (.tmp 73) rfl blk (k * 9) rfl x c1 ?_ ?_
     ·
      try (change wpAny _ _ _ _ _ _ ⟨_, _⟩ _)
      try simp only [Act.put, sS]
      refine tK 14 ?_ rfl (by kernel_rfl) (fun _ _ _ h => h) (Or.inl ⟨by rfl, fun w => ?_⟩) ?_; rotate_left; (go_simp; try with_reducible rfl)
      try (change wpAny _ _ _ _ _ _ ⟨_, _⟩ _)
      try simp only [Act.put, sS]
      refine tR [15] (by kernel_rfl) rfl ?_
      refine all_stp (i := 15) rfl (by kernel_rfl) (.tmp 75) (.tmp 70) rfl blk (k * 9) y rfl rfl f1 ?_ ?_
      ·
       try (change wpAny _ _ _ _ _ _ ⟨_, _⟩ _)
       try simp only [Act.put, sS]
       refine tK 16 ?_ rfl (by kernel_rfl) (fun _ _ _ h => h) (Or.inl ⟨by rfl, fun w => ?_⟩) ?_; rotate_left; (go_simp; try with_reducible rfl)
       try (change wpAny _ _ _ _ _ _ ⟨_, _⟩ _)
       try simp only [Act.put, sS]
       refine tR [17] (by kernel_rfl) rfl ?_
       refine all_stp (i := 17) rfl (by kernel_rfl) (.tmp 76) (.tmp 74) rfl blk (kq * 9) x rfl rfl g2 ?_ ?_
       ·
        try (change wpAny _ _ _ _ _ _ ⟨_, _⟩ _)
        try simp only [Act.put, sS]
        refine wpAny_done (by kernel_rfl) ?_ _
        clear c1 c2 f1 g2 b1 b2
        generalize (wr.drew.setCells blk (k * 9) y.cs).setCells blk (kq * 9) x.cs = w9 at HN ⊢
        go_wp2
        go_roundw
        case rel => exact ⟨kq, by have := hkq.out; omega, by have := hkq.out; omega, rfl, by have e := HN.out; rw [hkq.out, rot_up a k hak] at e; rw [hkq.out]; exact hid e⟩
        case measure => have := hkq.out; simp [intOf]; omega
       exact rN
      exact rN
     exact rN
    refine all_ldp (i := 13) rfl (by kernel_rfl) (.tmp 73) rfl blk (k * 9) rfl x c1 ?_ ?_
    ·
     try (change wpAny _ _ _ _ _ _ ⟨_, _⟩ _)
     try simp only [Act.put, sS]
     refine tR [9] (by kernel_rfl) rfl ?_
     refine all_ldp (i := 9) rfl (by kernel_rfl) (.tmp 69) rfl blk (kq * 9) rfl y c2 ?_ ?_
     ·
      try (change wpAny _ _ _ _ _ _ ⟨_, _⟩ _)
      try simp only [Act.put, sS]
      refine tK 14 ?_ rfl (by kernel_rfl) (fun _ _ _ h => h) (Or.inl ⟨by rfl, fun w => ?_⟩) ?_; rotate_left; (go_simp; try with_reducible rfl)
      try (change wpAny _ _ _ _ _ _ ⟨_, _⟩ _)
      try simp only [Act.put, sS]
      refine tR [15] (by kernel_rfl) rfl ?_
      refine all_stp (i := 15) rfl (by kernel_rfl) (.tmp 75) (.tmp 70) rfl blk (k * 9) y rfl rfl f1 ?_ ?_
      ·
       try (change wpAny _ _ _ _ _ _ ⟨_, _⟩ _)
       try simp only [Act.put, sS]
       refine tK 16 ?_ rfl (by kernel_rfl) (fun _ _ _ h => h) (Or.inl ⟨by rfl, fun w => ?_⟩) ?_; rotate_left; (go_simp; try with_reducible rfl)
       try (change wpAny _ _ _ _ _ _ ⟨_, _⟩ _)
       try simp only [Act.put, sS]
       refine tR [17] (by kernel_rfl) rfl ?_
       refine all_stp (i := 17) rfl (by kernel_rfl) (.tmp 76) (.tmp 74) rfl blk (kq * 9) x rfl rfl g2 ?_ ?_
       ·
        try (change wpAny _ _ _ _ _ _ ⟨_, _⟩ _)
        try simp only [Act.put, sS]
        refine wpAny_done (by kernel_rfl) ?_ _
        clear c1 c2 f1 g2 b1 b2
        generalize (wr.drew.setCells blk (k * 9) y.cs).setCells blk (kq * 9) x.cs = w9 at HN ⊢
        go_wp2
        go_roundw
        case rel => exact ⟨kq, by have := hkq.out; omega, by have := hkq.out; omega, rfl, by have e := HN.out; rw [hkq.out, rot_up a k hak] at e; rw [hkq.out]; exact hid e⟩
        case measure => have := hkq.out; simp [intOf]; omega
       exact rN
      exact rN
     exact rN
    exact rN
   obtain rfl : k = ip := by omega
   go_wp2
   (try simp only [Exit.inBlock, Exit.then])
   refine bodyPost_ret (results_none rfl _ _ _) rfl ?_
   refine ⟨rfl, _, HK.out, ?_⟩
   rw [hm, ← hip]
   exact sym_left a b i (by omega) hjb (fun t h1 h2 => HA.out t (by omega) h2) (fun h => HB.out i (Nat.le_refl _) h)
theorem symRight_par (W0 W : World) (blk n cap a m b g : Nat) (cb : Array Value) (ok : Par → Prop) (lt : Par → Par → Bool) (f : Nat → Par) (hO : Swo lt) (hC : CmpP W0 blk ok lt g cb) (eg : ∀ args w, (callFunc g args).run Tryz.prog w = .ok (.enter g args) w)
  (h : PairsAt W0 blk ok f n W) (ham : a < m) (hma : m ≠ a + 1) (hm : b = m + 1) (hb : b ≤ n) (hn : n < 2305843009213693952) (hs : Sorted lt (seg f a m)) :
  Calls Tryz.prog 146 #[.slice (some ⟨blk, 0, none⟩) n cap, .int .i64 a, .int .i64 m, .int .i64 b, .func (.func g) #[] cb] W fun e w' => e = .returned (.tuple #[]) ∧ ∃ f', PairsAt W0 blk ok f' n w' ∧ Put f f' a b (mergeS lt (seg f a m) (seg f m b)) := by
 have H := hid h
 have HC := hid hC
 have HO := hid hO
 have HS := hid hs
 clear h hC hO hs
 obtain ⟨z, hz⟩ : ∃ z, z = m - a := ⟨_, rfl⟩
 have r0 : IntKind.i64.wrap ((m : Int) - (a : Int)) = (z : Int) := by rw [IntKind.wrap_i64]; omega
 have t0 : ¬ (z : Int) = 1 := by omega
 have r9 : IntKind.i64.wrap ((b : Int) - (m : Int)) = 1 := by rw [IntKind.wrap_i64]; omega
 clear hz
 go_enter Tryz.func146, Tryz.ntmps146
 go_wp2
 clear r0 r9 t0
 go_loopw [14, 15] (fun si sj wx => ∃ i j : Nat, a ≤ i ∧ i ≤ j ∧ j ≤ m ∧ si = .int .i64 i ∧ sj = .int .i64 j ∧ Hid (PairsAt W0 blk ok f n wx) ∧ Hid (∀ t, a ≤ t → t < i → lt (f m) (f t) = false) ∧ Hid (j < m → lt (f m) (f j) = true)) (fun si sj _ => (intOf sj).toNat - (intOf si).toNat)
 case atStart => exact ⟨a, m, Nat.le_refl _, Nat.le_of_lt ham, Nat.le_refl _, rfl, rfl, H, hid (fun t h1 h2 => absurd h1 (by omega)), hid (fun h => absurd h (by omega))⟩
 case round =>
  obtain ⟨i, j, hai, hij, hjm, rfl, rfl, HW, HA, HB⟩ := hrel
  by_cases hlt : i < j
  ·
   obtain ⟨s, hs⟩ : ∃ s, s = i + j := ⟨_, rfl⟩
   obtain ⟨h, hh⟩ : ∃ h, h = s / 2 := ⟨_, rfl⟩
   have HF := hid (half_facts (i := i) (j := j) (n := n) (by omega) hs hh (by omega) (by omega))
   obtain ⟨x, hx⟩ : ∃ x, x = f m := ⟨_, rfl⟩
   obtain ⟨y, hy⟩ : ∃ y, y = f h := ⟨_, rfl⟩
   have c1 := HW.out.cell m (by omega)
   have c2 := HW.out.cell h (by omega)
   have o1 := HW.out.ok m (by omega)
   have o2 := HW.out.ok h (by omega)
   rw [← hx] at c1 o1
   rw [← hy] at c2 o2
   have hbl := HW.out.lt
   have b1 : m < n := by omega
   have b2 : h < n := by omega
   have hcall : ∀ w', Below wr.heap.size wr w' → Calls Tryz.prog g (#[.agg x.cs.toArray, .agg y.cs.toArray] ++ cb) w' fun e w'' => e = .returned (.int .i64 (if lt x y = true then -1 else if lt y x = true then 1 else 0)) ∧ Below wr.heap.size wr w'' := fun w' hb => (HC.out w' (HW.out.only.trans (Only.of_below hb)) x y o1 o2).mono fun e w'' h => ⟨h.1, below_on hb h.2⟩
   obtain ⟨c, hc⟩ : ∃ c : Int, c = (if lt x y = true then -1 else if lt y x = true then 1 else 0) := ⟨_, rfl⟩
   rw [← hc] at hcall
   replace hx := hid hx
   replace hy := hid hy
   have HHH : Hid (h = s / 2 ∧ s = i + j) := hid ⟨hh, hs⟩
   clear o1 o2 hs hh
   obtain ⟨r1, r2, r3, r4, r5⟩ := HF.out
   go_wp2_with fail
   refine wp_region_quiet (C := fun w' => Below wr.heap.size wr w') (by kernel_rfl) (by kernel_rfl) (Below.refl _ wr).drew ?_
   refine quiet_val (by kernel_rfl) (.func (.func g) #[] cb) (fun _ _ => rfl) ?_
   simp only [Act.put, sS]
   refine quiet_val (by kernel_rfl) (.slice (some ⟨blk, 0, none⟩) n cap) (fun _ _ => rfl) ?_
   simp only [Act.put, sS]
   refine quiet_val (by kernel_rfl) (.int .i64 (m : Int)) (fun _ _ => rfl) ?_
   simp only [Act.put, sS]
   refine quiet_val (by kernel_rfl) (.pointer (some ⟨blk, m * 9, none⟩)) (fun _ _ => by simp [go_sem, b1]) ?_
   simp only [Act.put, sS]
   refine quiet_ld (by kernel_rfl) 57 (.tmp 95) rfl ⟨blk, m * 9, none⟩ (.agg x.cs.toArray) rfl (fun w' hb => load_par _ _ _ _ (range_below hb hbl c1)) ?_
   simp only [Act.put, sS]
   refine quiet_val (by kernel_rfl) (.slice (some ⟨blk, 0, none⟩) n cap) (fun _ _ => rfl) ?_
   simp only [Act.put, sS]
   refine quiet_val (by kernel_rfl) (.int .i64 (h : Int)) (fun _ _ => rfl) ?_
   simp only [Act.put, sS]
   refine quiet_val (by kernel_rfl) (.pointer (some ⟨blk, h * 9, none⟩)) (fun _ _ => by simp [go_sem, b2]) ?_
   simp only [Act.put, sS]
   refine quiet_ld (by kernel_rfl) 57 (.tmp 99) rfl ⟨blk, h * 9, none⟩ (.agg y.cs.toArray) rfl (fun w' hb => load_par _ _ _ _ (range_below hb hbl c2)) ?_
   simp only [Act.put, sS]
   refine quiet_call (by kernel_rfl) (.int .i64 c) g (#[.agg x.cs.toArray, .agg y.cs.toArray] ++ cb) ?_ ?_ ?_
   ·
    intro w'
    simp [go_sem, eg]
   ·
    intro w' hb
    exact hcall w' hb
   simp only [Act.put, sS]
   refine quiet_val (by kernel_rfl) (.bool (decide (c < 0))) (fun _ _ => by simp [go_sem, b1]) ?_
   simp only [Act.put, sS]
   refine quiet_val (by kernel_rfl) (.bool (!decide (c < 0))) (fun _ _ => by simp [go_sem, b1]) ?_
   simp only [Act.put, sS]
   refine wpQuiet_nil ?_
   clear r1 r2 r3 r4
   intro w2 hb2
   have H2 := hid (HW.out.below hb2)
   rcases hl : lt x y with _ | _
   ·
    have hneg : ¬ c < 0 := by rw [hc, hl]; simp; split <;> omega
    have hnb : (!decide (c < 0)) = true := by simp [hneg]
    rw [hnb]
    rw [hx.out, hy.out] at hl
    have HA2 := hid (s2_lo HO.out HS.out (show h < m by have := HHH.out; omega) hl)
    clear hc hcall c1 c2 hbl hl
    go_wp2
    go_roundw
    case rel => exact ⟨h + 1, j, by have := HHH.out; omega, by have := HHH.out; omega, hjm, rfl, rfl, H2, HA2, HB⟩
    case measure => have := HHH.out; simp [intOf]; omega
   have hneg : c < 0 := by rw [hc, hl]; simp
   have hnb : (!decide (c < 0)) = false := by simp [hneg]
   rw [hnb]
   rw [hx.out, hy.out] at hl
   have HB2 : Hid (h < m → lt (f m) (f h) = true) := hid (fun _ => hl)
   clear hc hcall c1 c2 hbl hl
   go_wp2
   go_roundw
   case rel => exact ⟨i, h, hai, by have := HHH.out; omega, by have := HHH.out; omega, rfl, rfl, H2, HA, HB2⟩
   case measure => have := HHH.out; simp [intOf]; omega
  obtain rfl : i = j := by omega
  clear hlt
  go_wp2
  go_loopw [17] (fun sk wx => ∃ k : Nat, i ≤ k ∧ k ≤ m ∧ sk = .int .i64 k ∧ Hid (PairsAt W0 blk ok (rotF f k m (m + 1)) n wx)) (fun sk _ => (intOf sk).toNat)
  case atStart => exact ⟨m, hjm, Nat.le_refl _, rfl, by rw [rot_down0]; exact HW⟩
  case round =>
   obtain ⟨k, hik, hkm, rfl, HK⟩ := hrel
   by_cases hlt : i < k
   ·
    obtain ⟨kp, hkp⟩ : ∃ kp, k = kp + 1 := ⟨k - 1, by omega⟩
    have e1 : IntKind.i64.wrap ((k : Int) - 1) = (kp : Int) := by rw [IntKind.wrap_i64]; omega
    have b1 : k < n := by omega
    have b2 : kp < n := by omega
    obtain ⟨x, hx⟩ : ∃ x, x = rotF f k m (m + 1) k := ⟨_, rfl⟩
    obtain ⟨y, hy⟩ : ∃ y, y = rotF f k m (m + 1) kp := ⟨_, rfl⟩
    have c1 : wr.drew.rangeAt blk (k * 9) x.cs := by rw [hx]; exact range_drew (HK.out.cell k (by omega))
    have c2 : wr.drew.rangeAt blk (kp * 9) y.cs := by rw [hy]; exact range_drew (HK.out.cell kp (by omega))
    have f1 : wr.drew.there blk (k * 9) 9 := there_drew (HK.out.fr k (by omega))
    have g2 : (wr.drew.setCells blk (k * 9) y.cs).there blk (kp * 9) 9 := World.there_setCells (there_drew (HK.out.fr kp (by omega))) _ _ _
    have HN := HK.out.swap k kp (by omega) (by omega)
    rw [← hx, ← hy] at HN
    replace HN := hid HN
    clear hx hy
    replace hkp := hid hkp
    go_wp2_with fail
    refine wp_region_any (by kernel_rfl) ?_
    change wpAny _ _ _ _ _ _ _ (World.drew _)
    refine tK 0 ?_ rfl (by kernel_rfl) (fun _ _ _ h => h) (Or.inl ⟨by rfl, fun w => ?_⟩) ?_; rotate_left; (go_simp; try with_reducible rfl)
    try (change wpAny _ _ _ _ _ _ ⟨_, _⟩ _)
    try simp only [Act.put, sS]
    refine tK 1 ?_ rfl (by kernel_rfl) (fun _ _ _ h => h) (Or.inl ⟨by rfl, fun w => ?_⟩) ?_; rotate_left; (go_simp; try with_reducible rfl)
    try (change wpAny _ _ _ _ _ _ ⟨_, _⟩ _)
    try simp only [Act.put, sS]
    refine tK 2 ?_ rfl (by kernel_rfl) (fun _ _ _ h => h) (Or.inl ⟨by rfl, fun w => ?_⟩) ?_; rotate_left; (go_simp; try with_reducible rfl)
    try (change wpAny _ _ _ _ _ _ ⟨_, _⟩ _)
    try simp only [Act.put, sS]
    refine tK 3 ?_ rfl (by kernel_rfl) (fun _ _ _ h => h) (Or.inl ⟨by rfl, fun w => ?_⟩) ?_; rotate_left; (go_simp; try with_reducible rfl)
    try (change wpAny _ _ _ _ _ _ ⟨_, _⟩ _)
    try simp only [Act.put, sS]
    refine tK 4 ?_ rfl (by kernel_rfl) (fun _ _ _ h => h) (Or.inl ⟨by rfl, fun w => ?_⟩) ?_; rotate_left; (go_simp; try with_reducible rfl)
    try (change wpAny _ _ _ _ _ _ ⟨_, _⟩ _)
    try simp only [Act.put, sS]
    refine tK 5 ?_ rfl (by kernel_rfl) (fun _ _ _ h => h) (Or.inl ⟨by rfl, fun w => ?_⟩) ?_; rotate_left; (go_simp; try with_reducible rfl)
    try (change wpAny _ _ _ _ _ _ ⟨_, _⟩ _)
    try simp only [Act.put, sS]
    refine tK 6 ?_ rfl (by kernel_rfl) (fun _ _ _ h => h) (Or.inl ⟨by rfl, fun w => ?_⟩) ?_; rotate_left; (go_simp; try with_reducible rfl)
    try (change wpAny _ _ _ _ _ _ ⟨_, _⟩ _)
    try simp only [Act.put, sS]
    refine tK 7 ?_ rfl (by kernel_rfl) (fun _ _ _ h => h) (Or.inl ⟨by rfl, fun w => ?_⟩) ?_; rotate_left; (go_simp; try with_reducible rfl)
    try (change wpAny _ _ _ _ _ _ ⟨_, _⟩ _)
    try simp only [Act.put, sS]
    refine tK 8 ?_ rfl (by kernel_rfl) (fun _ _ _ h => h) (Or.inl ⟨by rfl, fun w => ?_⟩) ?_; rotate_left; (go_simp; try with_reducible rfl)
    try (change wpAny _ _ _ _ _ _ ⟨_, _⟩ _)
    try simp only [Act.put, sS]
    refine tK 10 ?_ rfl (by kernel_rfl) (fun _ _ _ h => h) (Or.inl ⟨by rfl, fun w => ?_⟩) ?_; rotate_left; (go_simp; try with_reducible rfl)
    try (change wpAny _ _ _ _ _ _ ⟨_, _⟩ _)
    try simp only [Act.put, sS]
    refine tK 11 ?_ rfl (by kernel_rfl) (fun _ _ _ h => h) (Or.inl ⟨by rfl, fun w => ?_⟩) ?_; rotate_left; (go_simp; try with_reducible rfl)
    try (change wpAny _ _ _ _ _ _ ⟨_, _⟩ _)
    try simp only [Act.put, sS]
    refine tK 12 ?_ rfl (by kernel_rfl) (fun _ _ _ h => h) (Or.inl ⟨by rfl, fun w => ?_⟩) ?_; rotate_left; (go_simp; try with_reducible rfl)
    try (change wpAny _ _ _ _ _ _ ⟨_, _⟩ _)
    try simp only [Act.put, sS]
    refine tR [9, 13] (by kernel_rfl) rfl ?_
    refine all_ldp (i := 9) rfl (by kernel_rfl) (.tmp 121) rfl blk (kp * 9) rfl y c2 ?_ ?_
    ·
     try (change wpAny _ _ _ _ _ _ ⟨_, _⟩ _)
     try simp only [Act.put, sS]
     refine tR [13] (by kernel_rfl) rfl ?_
     refine all_ldp (i := 13) rfl (by kernel_rfl) (.tmp 125) rfl blk (k * 9) rfl x c1 ?_ ?_
     ·
      try (change wpAny _ _ _ _ _ _ ⟨_, _⟩ _)
      try simp only [Act.put, sS]
      refine tK 14 ?_ rfl (by kernel_rfl) (fun _ _ _ h => h) (Or.inl ⟨by rfl, fun w => ?_⟩) ?_; rotate_left; (go_simp; try with_reducible rfl)
      try (change wpAny _ _ _ _ _ _ ⟨_, _⟩ _)
      try simp only [Act.put, sS]
      refine tR [15] (by kernel_rfl) rfl ?_
      refine all_stp (i := 15) rfl (by kernel_rfl) (.tmp 127) (.tmp 122) rfl blk (k * 9) y rfl rfl f1 ?_ ?_
      ·
       try (change wpAny _ _ _ _ _ _ ⟨_, _⟩ _)
       try simp only [Act.put, sS]
       refine tK 16 ?_ rfl (by kernel_rfl) (fun _ _ _ h => h) (Or.inl ⟨by rfl, fun w => ?_⟩) ?_; rotate_left; (go_simp; try with_reducible rfl)
       try (change wpAny _ _ _ _ _ _ ⟨_, _⟩ _)
       try simp only [Act.put, sS]
       refine tR [17] (by kernel_rfl) rfl ?_
       refine all_stp (i := 17) rfl (by kernel_rfl) (.tmp 128) (.tmp 126) rfl blk (kp * 9) x rfl rfl g2 ?_ ?_
       ·
        try (change wpAny _ _ _ _ _ _ ⟨_, _⟩ _)
        try simp only [Act.put, sS]
        refine wpAny_done (by kernel_rfl) ?_ _
        clear c1 c2 f1 g2 b1 b2
        generalize (wr.drew.setCells blk (k * 9) y.cs).setCells blk (kp * 9) x.cs = w9 at HN ⊢
        go_wp2
        go_roundw
        case rel => exact ⟨kp, by have := hkp.out; omega, by have := hkp.out; omega, rfl, by have h4 := rot_down (f := f) m k hkm (by omega); rw [show k - 1 = kp by have := hkp.out; omega] at h4; exact hid (h4 ▸ HN.out)⟩
        case measure => have := hkp.out; simp [intOf]; omega
       exact rN
      exact rN
     exact rN
    refine all_ldp (i := 13) rfl (by kernel_rfl) (.tmp 125) rfl blk (k * 9) rfl x c1 ?_ ?_
    ·
     try (change wpAny _ _ _ _ _ _ ⟨_, _⟩ _)
     try simp only [Act.put, sS]
     refine tR [9] (by kernel_rfl) rfl ?_
     refine all_ldp (i := 9) rfl (by kernel_rfl) (.tmp 121) rfl blk (kp * 9) rfl y c2 ?_ ?_
     ·
      try (change wpAny _ _ _ _ _ _ ⟨_, _⟩ _)
      try simp only [Act.put, sS]
      refine tK 14 ?_ rfl (by kernel_rfl) (fun _ _ _ h => h) (Or.inl ⟨by rfl, fun w => ?_⟩) ?_; rotate_left; (go_simp; try with_reducible rfl)
      try (change wpAny _ _ _ _ _ _ ⟨_, _⟩ _)
      try simp only [Act.put, sS]
      refine tR [15] (by kernel_rfl) rfl ?_
      refine all_stp (i := 15) rfl (by kernel_rfl) (.tmp 127) (.tmp 122) rfl blk (k * 9) y rfl rfl f1 ?_ ?_
      ·
       try (change wpAny _ _ _ _ _ _ ⟨_, _⟩ _)
       try simp only [Act.put, sS]
       refine tK 16 ?_ rfl (by kernel_rfl) (fun _ _ _ h => h) (Or.inl ⟨by rfl, fun w => ?_⟩) ?_; rotate_left; (go_simp; try with_reducible rfl)
       try (change wpAny _ _ _ _ _ _ ⟨_, _⟩ _)
       try simp only [Act.put, sS]
       refine tR [17] (by kernel_rfl) rfl ?_
       refine all_stp (i := 17) rfl (by kernel_rfl) (.tmp 128) (.tmp 126) rfl blk (kp * 9) x rfl rfl g2 ?_ ?_
       ·
        try (change wpAny _ _ _ _ _ _ ⟨_, _⟩ _)
        try simp only [Act.put, sS]
        refine wpAny_done (by kernel_rfl) ?_ _
        clear c1 c2 f1 g2 b1 b2
        generalize (wr.drew.setCells blk (k * 9) y.cs).setCells blk (kp * 9) x.cs = w9 at HN ⊢
        go_wp2
        go_roundw
        case rel => exact ⟨kp, by have := hkp.out; omega, by have := hkp.out; omega, rfl, by have h4 := rot_down (f := f) m k hkm (by omega); rw [show k - 1 = kp by have := hkp.out; omega] at h4; exact hid (h4 ▸ HN.out)⟩
        case measure => have := hkp.out; simp [intOf]; omega
       exact rN
      exact rN
     exact rN
    exact rN
   obtain rfl : k = i := by omega
   go_wp2
   (try simp only [Exit.inBlock, Exit.then])
   refine bodyPost_ret (results_none rfl _ _ _) rfl ?_
   refine ⟨rfl, _, HK.out, ?_⟩
   rw [hm]
   exact sym_right HO.out a m k hai hkm HA.out (fun h => HB.out h)
theorem symLow_par (W0 W : World) (blk n cap a m b g : Nat) (cb : Array Value) (ok : Par → Prop) (lt : Par → Par → Bool) (f : Nat → Par) (hO : Swo lt) (hC : CmpP W0 blk ok lt g cb) (eg : ∀ args w, (callFunc g args).run Tryz.prog w = .ok (.enter g args) w)
  (h : PairsAt W0 blk ok f n W) (hq : (a + b) / 2 < m) (ham : a < m) (hmb : m < b) (hma : m ≠ a + 1) (hbm : b ≠ m + 1) (hb : b ≤ n) (hn : n < 2305843009213693952) (hs1 : Sorted lt (seg f a m)) (hs2 : Sorted lt (seg f m b))
  (IH : ∀ (a1 m1 b1 : Nat) (f1 : Nat → Par) (W1 : World), b1 - a1 < b - a → a1 < m1 → m1 < b1 → b1 ≤ n → PairsAt W0 blk ok f1 n W1 → Sorted lt (seg f1 a1 m1) → Sorted lt (seg f1 m1 b1) → Calls Tryz.prog 146 #[.slice (some ⟨blk, 0, none⟩) n cap, .int .i64 a1, .int .i64 m1, .int .i64 b1, .func (.func g) #[] cb] W1 fun e w' => e = .returned (.tuple #[]) ∧ ∃ f', PairsAt W0 blk ok f' n w' ∧ Put f1 f' a1 b1 (mergeS lt (seg f1 a1 m1) (seg f1 m1 b1))) :
  Calls Tryz.prog 146 #[.slice (some ⟨blk, 0, none⟩) n cap, .int .i64 a, .int .i64 m, .int .i64 b, .func (.func g) #[] cb] W fun e w' => e = .returned (.tuple #[]) ∧ ∃ f', PairsAt W0 blk ok f' n w' ∧ Put f f' a b (mergeS lt (seg f a m) (seg f m b)) := by
 have H := hid h
 have HC := hid hC
 have HO := hid hO
 have HS1 := hid hs1
 have HS2 := hid hs2
 have HIH := hid IH
 clear h hC hO hs1 hs2 IH
 obtain ⟨z, hz⟩ : ∃ z, z = m - a := ⟨_, rfl⟩
 have r0 : IntKind.i64.wrap ((m : Int) - (a : Int)) = (z : Int) := by rw [IntKind.wrap_i64]; omega
 have t0 : ¬ (z : Int) = 1 := by omega
 obtain ⟨y, hy⟩ : ∃ y, y = b - m := ⟨_, rfl⟩
 have r9 : IntKind.i64.wrap ((b : Int) - (m : Int)) = (y : Int) := by rw [IntKind.wrap_i64]; omega
 have t9 : ¬ (y : Int) = 1 := by omega
 clear hz hy
 obtain ⟨s, hs⟩ : ∃ s, s = a + b := ⟨_, rfl⟩
 obtain ⟨mid, hmid⟩ : ∃ mid, mid = s / 2 := ⟨_, rfl⟩
 have HF := hid (half_facts (i := a) (j := b) (n := n) (by omega) hs hmid (by omega) (by omega))
 have hq2 : mid < m := by omega
 obtain ⟨N, hN⟩ : ∃ N, N = mid + m := ⟨_, rfl⟩
 have rN : IntKind.i64.wrap ((mid : Int) + (m : Int)) = (N : Int) := by rw [IntKind.wrap_i64]; omega
 obtain ⟨p, hp⟩ : ∃ p, p = mid + m - 1 := ⟨_, rfl⟩
 have rp : IntKind.i64.wrap ((N : Int) - 1) = (p : Int) := by rw [IntKind.wrap_i64]; omega
 have HMID : Hid (a ≤ mid ∧ 2 * mid ≤ a + b ∧ a + b ≤ 2 * mid + 1 ∧ a < mid ∧ mid < b ∧ N = mid + m ∧ p = mid + m - 1) := hid ⟨by omega, by omega, by omega, by omega, by omega, hN, hp⟩
 obtain ⟨s0, hs0⟩ : ∃ s0, s0 = N - b := ⟨_, rfl⟩
 have r7 : IntKind.i64.wrap ((N : Int) - (b : Int)) = (s0 : Int) := by rw [IntKind.wrap_i64]; omega
 obtain ⟨r1x, hr0⟩ : ∃ r1x, r1x = mid := ⟨_, rfl⟩
 have HM : Hid ((mid < m ∧ s0 + b = mid + m ∧ r1x = mid ∧ b ≤ mid + m) ∨ (m ≤ mid ∧ s0 = a ∧ r1x = m)) := hid (Or.inl ⟨by omega, by omega, hr0, by omega⟩)
 have HSR : Hid (s0 ≤ r1x ∧ a ≤ s0 ∧ r1x ≤ m ∧ r1x ≤ mid ∧ mid + m ≤ s0 + b) := hid ⟨by omega, by omega, by omega, by omega, by omega⟩
 have HS0 := hid hs0
 have HR0 := hid hr0
 clear hs hmid hN hp hq hs0 hr0
 obtain ⟨r1, r2, r3, r4, r5⟩ := HF.out
 clear r5
 go_enter Tryz.func146, Tryz.ntmps146
 go_wp2
 clear r0 t0 r9 t9 r1 r2 r3 r4 rN rp r7
 go_loopw [20, 21] (fun si sj wx => ∃ i j : Nat, s0 ≤ i ∧ i ≤ j ∧ j ≤ r1x ∧ si = .int .i64 i ∧ sj = .int .i64 j ∧ Hid (PairsAt W0 blk ok f n wx) ∧ Hid (∀ t, s0 ≤ t → t < i → lt (f (mid + m - 1 - t)) (f t) = false) ∧ Hid (∀ t, j ≤ t → t < r1x → lt (f (mid + m - 1 - t)) (f t) = true)) (fun si sj _ => (intOf sj).toNat - (intOf si).toNat)
 case atStart => exact ⟨s0, r1x, Nat.le_refl _, HSR.out.1, Nat.le_refl _, rfl, by rw [HR0.out], H, hid (fun t h1 h2 => absurd h1 (by omega)), hid (fun t h1 h2 => absurd h1 (by omega))⟩
 case round =>
  clear H
  obtain ⟨i, j, hsi, hij, hjr, rfl, rfl, HW, HA, HB⟩ := hrel
  by_cases hlt : i < j
  ·
   have qm := HMID.out
   have qs := HSR.out
   obtain ⟨s, hs⟩ : ∃ s, s = i + j := ⟨_, rfl⟩
   obtain ⟨h, hh⟩ : ∃ h, h = s / 2 := ⟨_, rfl⟩
   have HF := hid (half_facts (i := i) (j := j) (n := n) (by omega) hs hh (by omega) (by omega))
   obtain ⟨q, hq⟩ : ∃ q, q = mid + m - 1 - h := ⟨_, rfl⟩
   have r6 : IntKind.i64.wrap ((p : Int) - (h : Int)) = (q : Int) := by rw [IntKind.wrap_i64]; omega
   have HH : Hid (i ≤ h ∧ h < j) := hid ⟨by omega, by omega⟩
   obtain ⟨x, hx⟩ : ∃ x, x = f q := ⟨_, rfl⟩
   obtain ⟨y, hy⟩ : ∃ y, y = f h := ⟨_, rfl⟩
   have c1 := HW.out.cell q (by omega)
   have c2 := HW.out.cell h (by omega)
   have o1 := HW.out.ok q (by omega)
   have o2 := HW.out.ok h (by omega)
   rw [← hx] at c1 o1
   rw [← hy] at c2 o2
   have hbl := HW.out.lt
   have b1 : q < n := by omega
   have b2 : h < n := by omega
   have hcall : ∀ w', Below wr.heap.size wr w' → Calls Tryz.prog g (#[.agg x.cs.toArray, .agg y.cs.toArray] ++ cb) w' fun e w'' => e = .returned (.int .i64 (if lt x y = true then -1 else if lt y x = true then 1 else 0)) ∧ Below wr.heap.size wr w'' := fun w' hb => (HC.out w' (HW.out.only.trans (Only.of_below hb)) x y o1 o2).mono fun e w'' h => ⟨h.1, below_on hb h.2⟩
   obtain ⟨c, hc⟩ : ∃ c : Int, c = (if lt x y = true then -1 else if lt y x = true then 1 else 0) := ⟨_, rfl⟩
   rw [← hc] at hcall
   replace hx := hid hx
   replace hy := hid hy
   replace hq := hid hq
   have HHH : Hid (h = s / 2 ∧ s = i + j) := hid ⟨hh, hs⟩
   clear o1 o2 qm qs hs hh
   obtain ⟨r1, r2, r3, r4, r5⟩ := HF.out
   go_wp2_with fail
   refine wp_region_quiet (C := fun w' => Below wr.heap.size wr w') (by kernel_rfl) (by kernel_rfl) (Below.refl _ wr).drew ?_
   refine quiet_val (by kernel_rfl) (.func (.func g) #[] cb) (fun _ _ => rfl) ?_
   simp only [Act.put, sS]
   refine quiet_val (by kernel_rfl) (.slice (some ⟨blk, 0, none⟩) n cap) (fun _ _ => rfl) ?_
   simp only [Act.put, sS]
   refine quiet_val (by kernel_rfl) (.int .i64 (p : Int)) (fun _ _ => rfl) ?_
   simp only [Act.put, sS]
   refine quiet_val (by kernel_rfl) (.int .i64 (h : Int)) (fun _ _ => rfl) ?_
   simp only [Act.put, sS]
   refine quiet_val (by kernel_rfl) (.int .i64 (q : Int)) (fun _ _ => by simp [go_sem, r6]) ?_
   simp only [Act.put, sS]
   refine quiet_val (by kernel_rfl) (.pointer (some ⟨blk, q * 9, none⟩)) (fun _ _ => by simp [go_sem, b1]) ?_
   simp only [Act.put, sS]
   refine quiet_ld (by kernel_rfl) 57 (.tmp 163) rfl ⟨blk, q * 9, none⟩ (.agg x.cs.toArray) rfl (fun w' hb => load_par _ _ _ _ (range_below hb hbl c1)) ?_
   simp only [Act.put, sS]
   refine quiet_val (by kernel_rfl) (.slice (some ⟨blk, 0, none⟩) n cap) (fun _ _ => rfl) ?_
   simp only [Act.put, sS]
   refine quiet_val (by kernel_rfl) (.int .i64 (h : Int)) (fun _ _ => rfl) ?_
   simp only [Act.put, sS]
   refine quiet_val (by kernel_rfl) (.pointer (some ⟨blk, h * 9, none⟩)) (fun _ _ => by simp [go_sem, b2]) ?_
   simp only [Act.put, sS]
   refine quiet_ld (by kernel_rfl) 57 (.tmp 167) rfl ⟨blk, h * 9, none⟩ (.agg y.cs.toArray) rfl (fun w' hb => load_par _ _ _ _ (range_below hb hbl c2)) ?_
   simp only [Act.put, sS]
   refine quiet_call (by kernel_rfl) (.int .i64 c) g (#[.agg x.cs.toArray, .agg y.cs.toArray] ++ cb) ?_ ?_ ?_
   ·
    intro w'
    simp [go_sem, eg]
   ·
    intro w' hb
    exact hcall w' hb
   simp only [Act.put, sS]
   refine quiet_val (by kernel_rfl) (.bool (decide (c < 0))) (fun _ _ => by simp [go_sem, b1]) ?_
   simp only [Act.put, sS]
   refine quiet_val (by kernel_rfl) (.bool (!decide (c < 0))) (fun _ _ => by simp [go_sem, b1]) ?_
   simp only [Act.put, sS]
   refine wpQuiet_nil ?_
   clear r1 r2 r3 r4
   intro w2 hb2
   have H2 := hid (HW.out.below hb2)
   rcases hl : lt x y with _ | _
   ·
    have hneg : ¬ c < 0 := by rw [hc, hl]; simp; split <;> omega
    have hnb : (!decide (c < 0)) = true := by simp [hneg]
    rw [hnb]
    rw [hx.out, hy.out, hq.out] at hl
    have HA2 := hid (s3_lo HO.out HS1.out HS2.out HM.out ⟨HMID.out.1, HMID.out.2.1, HMID.out.2.2.1⟩ (Nat.le_of_lt ham) (show h < r1x by have := HH.out; omega) hl)
    clear hc hcall c1 c2 hbl hl
    go_wp2
    go_roundw
    case rel => exact ⟨h + 1, j, by have := HH.out; omega, by have := HH.out; omega, hjr, rfl, rfl, H2, HA2, HB⟩
    case measure => have := HH.out; simp [intOf]; omega
   have hneg : c < 0 := by rw [hc, hl]; simp
   have hnb : (!decide (c < 0)) = false := by simp [hneg]
   rw [hnb]
   rw [hx.out, hy.out, hq.out] at hl
   have HB2 := hid (s3_hi HO.out HS1.out HS2.out HM.out ⟨HMID.out.1, HMID.out.2.1, HMID.out.2.2.1⟩ (Nat.le_of_lt ham) (show s0 ≤ h by have := HH.out; omega) hl)
   clear hc hcall c1 c2 hbl hl
   go_wp2
   go_roundw
   case rel => exact ⟨i, h, hsi, by have := HH.out; omega, by have := HH.out; omega, rfl, rfl, H2, HA, HB2⟩
   case measure => have := HH.out; simp [intOf]; omega
  obtain rfl : i = j := by omega
  have qm := HMID.out
  have qs := HSR.out
  obtain ⟨e2, he2⟩ : ∃ e2, e2 = mid + m - i := ⟨_, rfl⟩
  have r8 : IntKind.i64.wrap ((N : Int) - (i : Int)) = (e2 : Int) := by rw [IntKind.wrap_i64]; omega
  obtain ⟨hp, k1, k2, k3, k4⟩ := sym_part HO.out a m b i s0 r1x mid (by omega) (by omega) hsi hjr HM.out (Or.inr trivial) ⟨HMID.out.1, HMID.out.2.1, HMID.out.2.2.1⟩ HS1.out HS2.out HA.out HB.out
  rw [← he2] at hp k3 k4
  have HP := hid hp
  have k5 : i + (e2 - m) = mid := by omega
  have HK : Hid (a ≤ i ∧ i ≤ m ∧ m ≤ e2 ∧ e2 ≤ b ∧ i + (e2 - m) = mid ∧ a < mid ∧ mid < b) := hid ⟨k1, k2, k3, k4, k5, by omega, by omega⟩
  have hr := rot_put (f := f) k2 k3
  have e3 := rot_left (f := f) k2 k3
  have e4 := rot_right (f := f) k2 k3
  rw [k5] at e3 e4
  obtain ⟨fr, hfr⟩ : ∃ fr, fr = rotF f i m e2 := ⟨_, rfl⟩
  rw [← hfr] at hr e3 e4
  have HL1 : Hid (Sorted lt (seg fr a i)) := by rw [seg_out hr a i (Or.inl (Nat.le_refl _))]; exact hid (sub_sorted HS1.out (Nat.le_refl _) k2)
  have HL2 : Hid (Sorted lt (seg fr i mid)) := by rw [e3]; exact hid (sub_sorted HS2.out (Nat.le_refl _) k4)
  have HL3 : Hid (Sorted lt (seg fr mid e2)) := by rw [e4]; exact hid (sub_sorted HS1.out k1 (Nat.le_refl _))
  have HL4 : Hid (Sorted lt (seg fr e2 b)) := by rw [seg_out hr e2 b (Or.inr (Nat.le_refl _))]; exact hid (sub_sorted HS2.out k3 (Nat.le_refl _))
  have FIN : Hid (∀ g1 g2, Put fr g1 a mid (mergeS lt (seg fr a i) (seg fr i mid)) → Put g1 g2 mid b (mergeS lt (seg g1 mid e2) (seg g1 e2 b)) → Put f g2 a b (mergeS lt (seg f a m) (seg f m b))) := hid (fun g1 g2 q1 q2 => sym_whole HO.out a m b i e2 mid k1 k2 k3 k4 k5 HP.out (hfr ▸ q1) q2)
  have HFR := hid hfr
  clear qm qs he2 hp k1 k2 k3 k4 k5 hr e3 e4 hfr hlt
  by_cases t1 : i < m
  ·
   by_cases t2 : m < e2
   ·
    by_cases t3 : a < i
    ·
     by_cases t6 : e2 < b
     ·
      have t4 : i < mid := by have := HK.out; omega
      have t5 : mid < e2 := by have := HK.out; omega
      have tok1 : True := trivial
      go_wp2_with (first | (go_at_call 171; refine (rotate_par W0 _ blk n cap i m e2 ok f _ HW.out t1 t2 (by have := HK.out; omega) (by omega)).mono ?_; rintro e w1 ⟨rfl, hr1⟩; rw [← HFR.out] at hr1; have HR := hid hr1; clear hr1) | (go_at_call 146; have _t := tok1; refine (HIH.out a i mid fr _ (by have := HK.out; omega) t3 t4 (by have := HK.out; omega) HR.out HL1.out HL2.out).mono ?_; rintro e w2 ⟨rfl, g1, h1, p1⟩; clear tok1; have HG := hid h1; have HP1 := hid p1; clear h1 p1) | (go_at_call 146; refine (HIH.out mid e2 b g1 _ (by have := HK.out; omega) t5 t6 hb HG.out (by rw [seg_out HP1.out mid e2 (Or.inr (Nat.le_refl _))]; exact HL3.out) (by rw [seg_out HP1.out e2 b (Or.inr (by have := HK.out; omega))]; exact HL4.out)).mono ?_; rintro e w3 ⟨rfl, g2, h1, p1⟩; have HG2 := hid h1; have HP2 := hid p1; clear h1 p1))
      go_end0
      exact ⟨rfl, g2, HG2.out, FIN.out g1 g2 HP1.out HP2.out⟩
     have t4 : i < mid := by have := HK.out; omega
     have t5 : mid < e2 := by have := HK.out; omega
     have tok1 : True := trivial
     go_wp2_with (first | (go_at_call 171; refine (rotate_par W0 _ blk n cap i m e2 ok f _ HW.out t1 t2 (by have := HK.out; omega) (by omega)).mono ?_; rintro e w1 ⟨rfl, hr1⟩; rw [← HFR.out] at hr1; have HR := hid hr1; clear hr1) | (go_at_call 146; have _t := tok1; refine (HIH.out a i mid fr _ (by have := HK.out; omega) t3 t4 (by have := HK.out; omega) HR.out HL1.out HL2.out).mono ?_; rintro e w2 ⟨rfl, g1, h1, p1⟩; clear tok1; have HG := hid h1; have HP1 := hid p1; clear h1 p1))
     go_end0
     exact ⟨rfl, g1, HG.out, FIN.out g1 g1 HP1.out (skip_put (by have := HK.out; omega) (by have := HK.out; omega) (by omega))⟩
    by_cases t6 : e2 < b
    ·
     have t4 : i < mid := by have := HK.out; omega
     have t5 : mid < e2 := by have := HK.out; omega
     have HP1 : Hid (Put fr fr a mid (mergeS lt (seg fr a i) (seg fr i mid))) := hid (skip_put (by have := HK.out; omega) (by have := HK.out; omega) (by omega))
     go_wp2_with (first | (go_at_call 171; refine (rotate_par W0 _ blk n cap i m e2 ok f _ HW.out t1 t2 (by have := HK.out; omega) (by omega)).mono ?_; rintro e w1 ⟨rfl, hr1⟩; rw [← HFR.out] at hr1; have HR := hid hr1; clear hr1) | (go_at_call 146; refine (HIH.out mid e2 b fr _ (by have := HK.out; omega) t5 t6 hb HR.out (by rw [seg_out HP1.out mid e2 (Or.inr (Nat.le_refl _))]; exact HL3.out) (by rw [seg_out HP1.out e2 b (Or.inr (by have := HK.out; omega))]; exact HL4.out)).mono ?_; rintro e w3 ⟨rfl, g2, h1, p1⟩; have HG2 := hid h1; have HP2 := hid p1; clear h1 p1))
     go_end0
     exact ⟨rfl, g2, HG2.out, FIN.out fr g2 HP1.out HP2.out⟩
    have t4 : i < mid := by have := HK.out; omega
    have t5 : mid < e2 := by have := HK.out; omega
    have HP1 : Hid (Put fr fr a mid (mergeS lt (seg fr a i) (seg fr i mid))) := hid (skip_put (by have := HK.out; omega) (by have := HK.out; omega) (by omega))
    go_wp2_with (first | (go_at_call 171; refine (rotate_par W0 _ blk n cap i m e2 ok f _ HW.out t1 t2 (by have := HK.out; omega) (by omega)).mono ?_; rintro e w1 ⟨rfl, hr1⟩; rw [← HFR.out] at hr1; have HR := hid hr1; clear hr1))
    go_end0
    exact ⟨rfl, fr, HR.out, FIN.out fr fr HP1.out (skip_put (by have := HK.out; omega) (by have := HK.out; omega) (by omega))⟩
   have t3 : a < i := by have := HK.out; omega
   have t4 : ¬ i < mid := by have := HK.out; omega
   have t5 : mid < e2 := by have := HK.out; omega
   have t6 : e2 < b := by have := HK.out; omega
   have HR : Hid (PairsAt W0 blk ok fr n wr) := by rw [HFR.out, rot_same (by have := HK.out; omega) (by have := HK.out; omega) (by have := HK.out; omega)]; exact HW
   have HP1 : Hid (Put fr fr a mid (mergeS lt (seg fr a i) (seg fr i mid))) := hid (skip_put (by have := HK.out; omega) (by have := HK.out; omega) (by omega))
   go_wp2_with (first | (go_at_call 146; refine (HIH.out mid e2 b fr _ (by have := HK.out; omega) t5 t6 hb HR.out (by rw [seg_out HP1.out mid e2 (Or.inr (Nat.le_refl _))]; exact HL3.out) (by rw [seg_out HP1.out e2 b (Or.inr (by have := HK.out; omega))]; exact HL4.out)).mono ?_; rintro e w3 ⟨rfl, g2, h1, p1⟩; have HG2 := hid h1; have HP2 := hid p1; clear h1 p1))
   go_end0
   exact ⟨rfl, g2, HG2.out, FIN.out fr g2 HP1.out HP2.out⟩
  by_cases t2 : m < e2
  ·
   have t3 : a < i := by have := HK.out; omega
   have t4 : i < mid := by have := HK.out; omega
   have t5 : ¬ mid < e2 := by have := HK.out; omega
   have HR : Hid (PairsAt W0 blk ok fr n wr) := by rw [HFR.out, rot_same (by have := HK.out; omega) (by have := HK.out; omega) (by have := HK.out; omega)]; exact HW
   have tok1 : True := trivial
   go_wp2_with (first | (go_at_call 146; have _t := tok1; refine (HIH.out a i mid fr _ (by have := HK.out; omega) t3 t4 (by have := HK.out; omega) HR.out HL1.out HL2.out).mono ?_; rintro e w2 ⟨rfl, g1, h1, p1⟩; clear tok1; have HG := hid h1; have HP1 := hid p1; clear h1 p1))
   go_end0
   exact ⟨rfl, g1, HG.out, FIN.out g1 g1 HP1.out (skip_put (by have := HK.out; omega) (by have := HK.out; omega) (by omega))⟩
  have t3 : a < i := by have := HK.out; omega
  have t4 : ¬ i < mid := by have := HK.out; omega
  have t5 : ¬ mid < e2 := by have := HK.out; omega
  have HR : Hid (PairsAt W0 blk ok fr n wr) := by rw [HFR.out, rot_same (by have := HK.out; omega) (by have := HK.out; omega) (by have := HK.out; omega)]; exact HW
  have HP1 : Hid (Put fr fr a mid (mergeS lt (seg fr a i) (seg fr i mid))) := hid (skip_put (by have := HK.out; omega) (by have := HK.out; omega) (by omega))
  go_wp2_with fail
  go_end0
  exact ⟨rfl, fr, HR.out, FIN.out fr fr HP1.out (skip_put (by have := HK.out; omega) (by have := HK.out; omega) (by omega))⟩
theorem symHigh_par (W0 W : World) (blk n cap a m b g : Nat) (cb : Array Value) (ok : Par → Prop) (lt : Par → Par → Bool) (f : Nat → Par) (hO : Swo lt) (hC : CmpP W0 blk ok lt g cb) (eg : ∀ args w, (callFunc g args).run Tryz.prog w = .ok (.enter g args) w)
  (h : PairsAt W0 blk ok f n W) (hq : ¬ (a + b) / 2 < m) (ham : a < m) (hmb : m < b) (hma : m ≠ a + 1) (hbm : b ≠ m + 1) (hb : b ≤ n) (hn : n < 2305843009213693952) (hs1 : Sorted lt (seg f a m)) (hs2 : Sorted lt (seg f m b))
  (IH : ∀ (a1 m1 b1 : Nat) (f1 : Nat → Par) (W1 : World), b1 - a1 < b - a → a1 < m1 → m1 < b1 → b1 ≤ n → PairsAt W0 blk ok f1 n W1 → Sorted lt (seg f1 a1 m1) → Sorted lt (seg f1 m1 b1) → Calls Tryz.prog 146 #[.slice (some ⟨blk, 0, none⟩) n cap, .int .i64 a1, .int .i64 m1, .int .i64 b1, .func (.func g) #[] cb] W1 fun e w' => e = .returned (.tuple #[]) ∧ ∃ f', PairsAt W0 blk ok f' n w' ∧ Put f1 f' a1 b1 (mergeS lt (seg f1 a1 m1) (seg f1 m1 b1))) :
  Calls Tryz.prog 146 #[.slice (some ⟨blk, 0, none⟩) n cap, .int .i64 a, .int .i64 m, .int .i64 b, .func (.func g) #[] cb] W fun e w' => e = .returned (.tuple #[]) ∧ ∃ f', PairsAt W0 blk ok f' n w' ∧ Put f f' a b (mergeS lt (seg f a m) (seg f m b)) := by
 have H := hid h
 have HC := hid hC
 have HO := hid hO
 have HS1 := hid hs1
 have HS2 := hid hs2
 have HIH := hid IH
 clear h hC hO hs1 hs2 IH
 obtain ⟨z, hz⟩ : ∃ z, z = m - a := ⟨_, rfl⟩
 have r0 : IntKind.i64.wrap ((m : Int) - (a : Int)) = (z : Int) := by rw [IntKind.wrap_i64]; omega
 have t0 : ¬ (z : Int) = 1 := by omega
 obtain ⟨y, hy⟩ : ∃ y, y = b - m := ⟨_, rfl⟩
 have r9 : IntKind.i64.wrap ((b : Int) - (m : Int)) = (y : Int) := by rw [IntKind.wrap_i64]; omega
 have t9 : ¬ (y : Int) = 1 := by omega
 clear hz hy
 obtain ⟨s, hs⟩ : ∃ s, s = a + b := ⟨_, rfl⟩
 obtain ⟨mid, hmid⟩ : ∃ mid, mid = s / 2 := ⟨_, rfl⟩
 have HF := hid (half_facts (i := a) (j := b) (n := n) (by omega) hs hmid (by omega) (by omega))
 have hq2 : ¬ mid < m := by omega
 obtain ⟨N, hN⟩ : ∃ N, N = mid + m := ⟨_, rfl⟩
 have rN : IntKind.i64.wrap ((mid : Int) + (m : Int)) = (N : Int) := by rw [IntKind.wrap_i64]; omega
 obtain ⟨p, hp⟩ : ∃ p, p = mid + m - 1 := ⟨_, rfl⟩
 have rp : IntKind.i64.wrap ((N : Int) - 1) = (p : Int) := by rw [IntKind.wrap_i64]; omega
 have HMID : Hid (a ≤ mid ∧ 2 * mid ≤ a + b ∧ a + b ≤ 2 * mid + 1 ∧ a < mid ∧ mid < b ∧ N = mid + m ∧ p = mid + m - 1) := hid ⟨by omega, by omega, by omega, by omega, by omega, hN, hp⟩
 obtain ⟨s0, hs0⟩ : ∃ s0, s0 = a := ⟨_, rfl⟩
 obtain ⟨r1x, hr0⟩ : ∃ r1x, r1x = m := ⟨_, rfl⟩
 have HM : Hid ((mid < m ∧ s0 + b = mid + m ∧ r1x = mid ∧ b ≤ mid + m) ∨ (m ≤ mid ∧ s0 = a ∧ r1x = m)) := hid (Or.inr ⟨by omega, hs0, hr0⟩)
 have HSR : Hid (s0 ≤ r1x ∧ a ≤ s0 ∧ r1x ≤ m ∧ r1x ≤ mid ∧ mid + m ≤ s0 + b) := hid ⟨by omega, by omega, by omega, by omega, by omega⟩
 have HS0 := hid hs0
 have HR0 := hid hr0
 clear hs hmid hN hp hq hs0 hr0
 obtain ⟨r1, r2, r3, r4, r5⟩ := HF.out
 clear r5
 go_enter Tryz.func146, Tryz.ntmps146
 go_wp2
 clear r0 t0 r9 t9 r1 r2 r3 r4 rN rp
 go_loopw [20, 21] (fun si sj wx => ∃ i j : Nat, s0 ≤ i ∧ i ≤ j ∧ j ≤ r1x ∧ si = .int .i64 i ∧ sj = .int .i64 j ∧ Hid (PairsAt W0 blk ok f n wx) ∧ Hid (∀ t, s0 ≤ t → t < i → lt (f (mid + m - 1 - t)) (f t) = false) ∧ Hid (∀ t, j ≤ t → t < r1x → lt (f (mid + m - 1 - t)) (f t) = true)) (fun si sj _ => (intOf sj).toNat - (intOf si).toNat)
 case atStart => exact ⟨s0, r1x, Nat.le_refl _, HSR.out.1, Nat.le_refl _, by rw [HS0.out], by rw [HR0.out], H, hid (fun t h1 h2 => absurd h1 (by omega)), hid (fun t h1 h2 => absurd h1 (by omega))⟩
 case round =>
  clear H
  obtain ⟨i, j, hsi, hij, hjr, rfl, rfl, HW, HA, HB⟩ := hrel
  by_cases hlt : i < j
  ·
   have qm := HMID.out
   have qs := HSR.out
   obtain ⟨s, hs⟩ : ∃ s, s = i + j := ⟨_, rfl⟩
   obtain ⟨h, hh⟩ : ∃ h, h = s / 2 := ⟨_, rfl⟩
   have HF := hid (half_facts (i := i) (j := j) (n := n) (by omega) hs hh (by omega) (by omega))
   obtain ⟨q, hq⟩ : ∃ q, q = mid + m - 1 - h := ⟨_, rfl⟩
   have r6 : IntKind.i64.wrap ((p : Int) - (h : Int)) = (q : Int) := by rw [IntKind.wrap_i64]; omega
   have HH : Hid (i ≤ h ∧ h < j) := hid ⟨by omega, by omega⟩
   obtain ⟨x, hx⟩ : ∃ x, x = f q := ⟨_, rfl⟩
   obtain ⟨y, hy⟩ : ∃ y, y = f h := ⟨_, rfl⟩
   have c1 := HW.out.cell q (by omega)
   have c2 := HW.out.cell h (by omega)
   have o1 := HW.out.ok q (by omega)
   have o2 := HW.out.ok h (by omega)
   rw [← hx] at c1 o1
   rw [← hy] at c2 o2
   have hbl := HW.out.lt
   have b1 : q < n := by omega
   have b2 : h < n := by omega
   have hcall : ∀ w', Below wr.heap.size wr w' → Calls Tryz.prog g (#[.agg x.cs.toArray, .agg y.cs.toArray] ++ cb) w' fun e w'' => e = .returned (.int .i64 (if lt x y = true then -1 else if lt y x = true then 1 else 0)) ∧ Below wr.heap.size wr w'' := fun w' hb => (HC.out w' (HW.out.only.trans (Only.of_below hb)) x y o1 o2).mono fun e w'' h => ⟨h.1, below_on hb h.2⟩
   obtain ⟨c, hc⟩ : ∃ c : Int, c = (if lt x y = true then -1 else if lt y x = true then 1 else 0) := ⟨_, rfl⟩
   rw [← hc] at hcall
   replace hx := hid hx
   replace hy := hid hy
   replace hq := hid hq
   have HHH : Hid (h = s / 2 ∧ s = i + j) := hid ⟨hh, hs⟩
   clear o1 o2 qm qs hs hh
   obtain ⟨r1, r2, r3, r4, r5⟩ := HF.out
   go_wp2_with fail
   refine wp_region_quiet (C := fun w' => Below wr.heap.size wr w') (by kernel_rfl) (by kernel_rfl) (Below.refl _ wr).drew ?_
   refine quiet_val (by kernel_rfl) (.func (.func g) #[] cb) (fun _ _ => rfl) ?_
   simp only [Act.put, sS]
   refine quiet_val (by kernel_rfl) (.slice (some ⟨blk, 0, none⟩) n cap) (fun _ _ => rfl) ?_
   simp only [Act.put, sS]
   refine quiet_val (by kernel_rfl) (.int .i64 (p : Int)) (fun _ _ => rfl) ?_
   simp only [Act.put, sS]
   refine quiet_val (by kernel_rfl) (.int .i64 (h : Int)) (fun _ _ => rfl) ?_
   simp only [Act.put, sS]
   refine quiet_val (by kernel_rfl) (.int .i64 (q : Int)) (fun _ _ => by simp [go_sem, r6]) ?_
   simp only [Act.put, sS]
   refine quiet_val (by kernel_rfl) (.pointer (some ⟨blk, q * 9, none⟩)) (fun _ _ => by simp [go_sem, b1]) ?_
   simp only [Act.put, sS]
   refine quiet_ld (by kernel_rfl) 57 (.tmp 163) rfl ⟨blk, q * 9, none⟩ (.agg x.cs.toArray) rfl (fun w' hb => load_par _ _ _ _ (range_below hb hbl c1)) ?_
   simp only [Act.put, sS]
   refine quiet_val (by kernel_rfl) (.slice (some ⟨blk, 0, none⟩) n cap) (fun _ _ => rfl) ?_
   simp only [Act.put, sS]
   refine quiet_val (by kernel_rfl) (.int .i64 (h : Int)) (fun _ _ => rfl) ?_
   simp only [Act.put, sS]
   refine quiet_val (by kernel_rfl) (.pointer (some ⟨blk, h * 9, none⟩)) (fun _ _ => by simp [go_sem, b2]) ?_
   simp only [Act.put, sS]
   refine quiet_ld (by kernel_rfl) 57 (.tmp 167) rfl ⟨blk, h * 9, none⟩ (.agg y.cs.toArray) rfl (fun w' hb => load_par _ _ _ _ (range_below hb hbl c2)) ?_
   simp only [Act.put, sS]
   refine quiet_call (by kernel_rfl) (.int .i64 c) g (#[.agg x.cs.toArray, .agg y.cs.toArray] ++ cb) ?_ ?_ ?_
   ·
    intro w'
    simp [go_sem, eg]
   ·
    intro w' hb
    exact hcall w' hb
   simp only [Act.put, sS]
   refine quiet_val (by kernel_rfl) (.bool (decide (c < 0))) (fun _ _ => by simp [go_sem, b1]) ?_
   simp only [Act.put, sS]
   refine quiet_val (by kernel_rfl) (.bool (!decide (c < 0))) (fun _ _ => by simp [go_sem, b1]) ?_
   simp only [Act.put, sS]
   refine wpQuiet_nil ?_
   clear r1 r2 r3 r4
   intro w2 hb2
   have H2 := hid (HW.out.below hb2)
   rcases hl : lt x y with _ | _
   ·
    have hneg : ¬ c < 0 := by rw [hc, hl]; simp; split <;> omega
    have hnb : (!decide (c < 0)) = true := by simp [hneg]
    rw [hnb]
    rw [hx.out, hy.out, hq.out] at hl
    have HA2 := hid (s3_lo HO.out HS1.out HS2.out HM.out ⟨HMID.out.1, HMID.out.2.1, HMID.out.2.2.1⟩ (Nat.le_of_lt ham) (show h < r1x by have := HH.out; omega) hl)
    clear hc hcall c1 c2 hbl hl
    go_wp2
    go_roundw
    case rel => exact ⟨h + 1, j, by have := HH.out; omega, by have := HH.out; omega, hjr, rfl, rfl, H2, HA2, HB⟩
    case measure => have := HH.out; simp [intOf]; omega
   have hneg : c < 0 := by rw [hc, hl]; simp
   have hnb : (!decide (c < 0)) = false := by simp [hneg]
   rw [hnb]
   rw [hx.out, hy.out, hq.out] at hl
   have HB2 := hid (s3_hi HO.out HS1.out HS2.out HM.out ⟨HMID.out.1, HMID.out.2.1, HMID.out.2.2.1⟩ (Nat.le_of_lt ham) (show s0 ≤ h by have := HH.out; omega) hl)
   clear hc hcall c1 c2 hbl hl
   go_wp2
   go_roundw
   case rel => exact ⟨i, h, hsi, by have := HH.out; omega, by have := HH.out; omega, rfl, rfl, H2, HA, HB2⟩
   case measure => have := HH.out; simp [intOf]; omega
  obtain rfl : i = j := by omega
  have qm := HMID.out
  have qs := HSR.out
  obtain ⟨e2, he2⟩ : ∃ e2, e2 = mid + m - i := ⟨_, rfl⟩
  have r8 : IntKind.i64.wrap ((N : Int) - (i : Int)) = (e2 : Int) := by rw [IntKind.wrap_i64]; omega
  obtain ⟨hp, k1, k2, k3, k4⟩ := sym_part HO.out a m b i s0 r1x mid (by omega) (by omega) hsi hjr HM.out (Or.inr trivial) ⟨HMID.out.1, HMID.out.2.1, HMID.out.2.2.1⟩ HS1.out HS2.out HA.out HB.out
  rw [← he2] at hp k3 k4
  have HP := hid hp
  have k5 : i + (e2 - m) = mid := by omega
  have HK : Hid (a ≤ i ∧ i ≤ m ∧ m ≤ e2 ∧ e2 ≤ b ∧ i + (e2 - m) = mid ∧ a < mid ∧ mid < b) := hid ⟨k1, k2, k3, k4, k5, by omega, by omega⟩
  have hr := rot_put (f := f) k2 k3
  have e3 := rot_left (f := f) k2 k3
  have e4 := rot_right (f := f) k2 k3
  rw [k5] at e3 e4
  obtain ⟨fr, hfr⟩ : ∃ fr, fr = rotF f i m e2 := ⟨_, rfl⟩
  rw [← hfr] at hr e3 e4
  have HL1 : Hid (Sorted lt (seg fr a i)) := by rw [seg_out hr a i (Or.inl (Nat.le_refl _))]; exact hid (sub_sorted HS1.out (Nat.le_refl _) k2)
  have HL2 : Hid (Sorted lt (seg fr i mid)) := by rw [e3]; exact hid (sub_sorted HS2.out (Nat.le_refl _) k4)
  have HL3 : Hid (Sorted lt (seg fr mid e2)) := by rw [e4]; exact hid (sub_sorted HS1.out k1 (Nat.le_refl _))
  have HL4 : Hid (Sorted lt (seg fr e2 b)) := by rw [seg_out hr e2 b (Or.inr (Nat.le_refl _))]; exact hid (sub_sorted HS2.out k3 (Nat.le_refl _))
  have FIN : Hid (∀ g1 g2, Put fr g1 a mid (mergeS lt (seg fr a i) (seg fr i mid)) → Put g1 g2 mid b (mergeS lt (seg g1 mid e2) (seg g1 e2 b)) → Put f g2 a b (mergeS lt (seg f a m) (seg f m b))) := hid (fun g1 g2 q1 q2 => sym_whole HO.out a m b i e2 mid k1 k2 k3 k4 k5 HP.out (hfr ▸ q1) q2)
  have HFR := hid hfr
  clear qm qs he2 hp k1 k2 k3 k4 k5 hr e3 e4 hfr hlt
  by_cases t1 : i < m
  ·
   by_cases t2 : m < e2
   ·
    by_cases t3 : a < i
    ·
     by_cases t6 : e2 < b
     ·
      have t4 : i < mid := by have := HK.out; omega
      have t5 : mid < e2 := by have := HK.out; omega
      have tok1 : True := trivial
      go_wp2_with (first | (go_at_call 171; refine (rotate_par W0 _ blk n cap i m e2 ok f _ HW.out t1 t2 (by have := HK.out; omega) (by omega)).mono ?_; rintro e w1 ⟨rfl, hr1⟩; rw [← HFR.out] at hr1; have HR := hid hr1; clear hr1) | (go_at_call 146; have _t := tok1; refine (HIH.out a i mid fr _ (by have := HK.out; omega) t3 t4 (by have := HK.out; omega) HR.out HL1.out HL2.out).mono ?_; rintro e w2 ⟨rfl, g1, h1, p1⟩; clear tok1; have HG := hid h1; have HP1 := hid p1; clear h1 p1) | (go_at_call 146; refine (HIH.out mid e2 b g1 _ (by have := HK.out; omega) t5 t6 hb HG.out (by rw [seg_out HP1.out mid e2 (Or.inr (Nat.le_refl _))]; exact HL3.out) (by rw [seg_out HP1.out e2 b (Or.inr (by have := HK.out; omega))]; exact HL4.out)).mono ?_; rintro e w3 ⟨rfl, g2, h1, p1⟩; have HG2 := hid h1; have HP2 := hid p1; clear h1 p1))
      go_end0
      exact ⟨rfl, g2, HG2.out, FIN.out g1 g2 HP1.out HP2.out⟩
     have t4 : i < mid := by have := HK.out; omega
     have t5 : mid < e2 := by have := HK.out; omega
     have tok1 : True := trivial
     go_wp2_with (first | (go_at_call 171; refine (rotate_par W0 _ blk n cap i m e2 ok f _ HW.out t1 t2 (by have := HK.out; omega) (by omega)).mono ?_; rintro e w1 ⟨rfl, hr1⟩; rw [← HFR.out] at hr1; have HR := hid hr1; clear hr1) | (go_at_call 146; have _t := tok1; refine (HIH.out a i mid fr _ (by have := HK.out; omega) t3 t4 (by have := HK.out; omega) HR.out HL1.out HL2.out).mono ?_; rintro e w2 ⟨rfl, g1, h1, p1⟩; clear tok1; have HG := hid h1; have HP1 := hid p1; clear h1 p1))
     go_end0
     exact ⟨rfl, g1, HG.out, FIN.out g1 g1 HP1.out (skip_put (by have := HK.out; omega) (by have := HK.out; omega) (by omega))⟩
    by_cases t6 : e2 < b
    ·
     have t4 : i < mid := by have := HK.out; omega
     have t5 : mid < e2 := by have := HK.out; omega
     have HP1 : Hid (Put fr fr a mid (mergeS lt (seg fr a i) (seg fr i mid))) := hid (skip_put (by have := HK.out; omega) (by have := HK.out; omega) (by omega))
     go_wp2_with (first | (go_at_call 171; refine (rotate_par W0 _ blk n cap i m e2 ok f _ HW.out t1 t2 (by have := HK.out; omega) (by omega)).mono ?_; rintro e w1 ⟨rfl, hr1⟩; rw [← HFR.out] at hr1; have HR := hid hr1; clear hr1) | (go_at_call 146; refine (HIH.out mid e2 b fr _ (by have := HK.out; omega) t5 t6 hb HR.out (by rw [seg_out HP1.out mid e2 (Or.inr (Nat.le_refl _))]; exact HL3.out) (by rw [seg_out HP1.out e2 b (Or.inr (by have := HK.out; omega))]; exact HL4.out)).mono ?_; rintro e w3 ⟨rfl, g2, h1, p1⟩; have HG2 := hid h1; have HP2 := hid p1; clear h1 p1))
     go_end0
     exact ⟨rfl, g2, HG2.out, FIN.out fr g2 HP1.out HP2.out⟩
    have t4 : i < mid := by have := HK.out; omega
    have t5 : mid < e2 := by have := HK.out; omega
    have HP1 : Hid (Put fr fr a mid (mergeS lt (seg fr a i) (seg fr i mid))) := hid (skip_put (by have := HK.out; omega) (by have := HK.out; omega) (by omega))
    go_wp2_with (first | (go_at_call 171; refine (rotate_par W0 _ blk n cap i m e2 ok f _ HW.out t1 t2 (by have := HK.out; omega) (by omega)).mono ?_; rintro e w1 ⟨rfl, hr1⟩; rw [← HFR.out] at hr1; have HR := hid hr1; clear hr1))
    go_end0
    exact ⟨rfl, fr, HR.out, FIN.out fr fr HP1.out (skip_put (by have := HK.out; omega) (by have := HK.out; omega) (by omega))⟩
   have t3 : a < i := by have := HK.out; omega
   have t4 : ¬ i < mid := by have := HK.out; omega
   have t5 : mid < e2 := by have := HK.out; omega
   have t6 : e2 < b := by have := HK.out; omega
   have HR : Hid (PairsAt W0 blk ok fr n wr) := by rw [HFR.out, rot_same (by have := HK.out; omega) (by have := HK.out; omega) (by have := HK.out; omega)]; exact HW
   have HP1 : Hid (Put fr fr a mid (mergeS lt (seg fr a i) (seg fr i mid))) := hid (skip_put (by have := HK.out; omega) (by have := HK.out; omega) (by omega))
   go_wp2_with (first | (go_at_call 146; refine (HIH.out mid e2 b fr _ (by have := HK.out; omega) t5 t6 hb HR.out (by rw [seg_out HP1.out mid e2 (Or.inr (Nat.le_refl _))]; exact HL3.out) (by rw [seg_out HP1.out e2 b (Or.inr (by have := HK.out; omega))]; exact HL4.out)).mono ?_; rintro e w3 ⟨rfl, g2, h1, p1⟩; have HG2 := hid h1; have HP2 := hid p1; clear h1 p1))
   go_end0
   exact ⟨rfl, g2, HG2.out, FIN.out fr g2 HP1.out HP2.out⟩
  by_cases t2 : m < e2
  ·
   have t3 : a < i := by have := HK.out; omega
   have t4 : i < mid := by have := HK.out; omega
   have t5 : ¬ mid < e2 := by have := HK.out; omega
   have HR : Hid (PairsAt W0 blk ok fr n wr) := by rw [HFR.out, rot_same (by have := HK.out; omega) (by have := HK.out; omega) (by have := HK.out; omega)]; exact HW
   have tok1 : True := trivial
   go_wp2_with (first | (go_at_call 146; have _t := tok1; refine (HIH.out a i mid fr _ (by have := HK.out; omega) t3 t4 (by have := HK.out; omega) HR.out HL1.out HL2.out).mono ?_; rintro e w2 ⟨rfl, g1, h1, p1⟩; clear tok1; have HG := hid h1; have HP1 := hid p1; clear h1 p1))
   go_end0
   exact ⟨rfl, g1, HG.out, FIN.out g1 g1 HP1.out (skip_put (by have := HK.out; omega) (by have := HK.out; omega) (by omega))⟩
  have t3 : a < i := by have := HK.out; omega
  have t4 : ¬ i < mid := by have := HK.out; omega
  have t5 : ¬ mid < e2 := by have := HK.out; omega
  have HR : Hid (PairsAt W0 blk ok fr n wr) := by rw [HFR.out, rot_same (by have := HK.out; omega) (by have := HK.out; omega) (by have := HK.out; omega)]; exact HW
  have HP1 : Hid (Put fr fr a mid (mergeS lt (seg fr a i) (seg fr i mid))) := hid (skip_put (by have := HK.out; omega) (by have := HK.out; omega) (by omega))
  go_wp2_with fail
  go_end0
  exact ⟨rfl, fr, HR.out, FIN.out fr fr HP1.out (skip_put (by have := HK.out; omega) (by have := HK.out; omega) (by omega))⟩
theorem symMerge_par (W0 : World) (blk n cap g : Nat) (cb : Array Value) (ok : Par → Prop) (lt : Par → Par → Bool) (hO : Swo lt) (hC : CmpP W0 blk ok lt g cb) (eg : ∀ args w, (callFunc g args).run Tryz.prog w = .ok (.enter g args) w) (hn : n < 2305843009213693952) :
  ∀ (d a m b : Nat) (f : Nat → Par) (W : World), b - a < d → a < m → m < b → b ≤ n → PairsAt W0 blk ok f n W → Sorted lt (seg f a m) → Sorted lt (seg f m b) →
  Calls Tryz.prog 146 #[.slice (some ⟨blk, 0, none⟩) n cap, .int .i64 a, .int .i64 m, .int .i64 b, .func (.func g) #[] cb] W fun e w' => e = .returned (.tuple #[]) ∧ ∃ f', PairsAt W0 blk ok f' n w' ∧ Put f f' a b (mergeS lt (seg f a m) (seg f m b)) := by
 intro d
 induction d with
 | zero => intro a m b f W h; omega
 | succ d ih =>
  intro a m b f W hd ham hmb hb h hs1 hs2
  by_cases h1 : m = a + 1
  ·
   exact symLeft_par W0 W blk n cap a m b g cb ok lt f hO hC eg h h1 hmb hb hn hs2
  by_cases h2 : b = m + 1
  ·
   exact symRight_par W0 W blk n cap a m b g cb ok lt f hO hC eg h ham h1 h2 hb hn hs1
  by_cases hq : (a + b) / 2 < m
  ·
   exact symLow_par W0 W blk n cap a m b g cb ok lt f hO hC eg h hq ham hmb h1 h2 hb hn hs1 hs2 (fun a1 m1 b1 f1 W1 h3 h4 h5 h6 h7 h8 h9 => ih a1 m1 b1 f1 W1 (by omega) h4 h5 h6 h7 h8 h9)
  exact symHigh_par W0 W blk n cap a m b g cb ok lt f hO hC eg h hq ham hmb h1 h2 hb hn hs1 hs2 (fun a1 m1 b1 f1 W1 h3 h4 h5 h6 h7 h8 h9 => ih a1 m1 b1 f1 W1 (by omega) h4 h5 h6 h7 h8 h9)
end Go.Proofs.YtcjhihmaegagdaaGreatDoor
namespace Go.Proofs.YtcjhihmaegagdaaGreatDoor
open Go.RowKit Go.Deep
theorem stable_par (W0 W : World) (blk n cap g : Nat) (cb : Array Value) (ok : Par → Prop) (lt : Par → Par → Bool) (f : Nat → Par) (hO : Swo lt) (hC : CmpP W0 blk ok lt g cb) (eg : ∀ args w, (callFunc g args).run Tryz.prog w = .ok (.enter g args) w)
  (h : PairsAt W0 blk ok f n W) (hn : n < 1099511627776) :
  Calls Tryz.prog 112 #[.slice (some ⟨blk, 0, none⟩) n cap, .int .i64 n, .func (.func g) #[] cb] W fun e w' => e = .returned (.tuple #[]) ∧ ∃ f', PairsAt W0 blk ok f' n w' ∧ Put f f' 0 n (sortS lt (seg f 0 n)) := by
 have H := hid h
 have HC := hid hC
 have HO := hid hO
 clear h hC hO
 go_enter Tryz.func112, Tryz.ntmps112
 go_wp2
 go_loopw [7, 8] (fun sa sb wx => ∃ (k a b : Nat) (f1 : Nat → Par), sa = .int .i64 a ∧ sb = .int .i64 b ∧ Hid (a = k * 20 ∧ b = k * 20 + 20 ∧ a ≤ n ∧ InsB lt f f1 20 k) ∧ Hid (PairsAt W0 blk ok f1 n wx)) (fun _ sb _ => n + 20 - (intOf sb).toNat)
 case atStart => exact ⟨0, 0, 20, f, rfl, rfl, hid ⟨rfl, rfl, Nat.zero_le _, InsB.zero 20⟩, H⟩
 case round =>
  obtain ⟨k, a, b, f1, rfl, rfl, HK, HI⟩ := hrel
  by_cases hlt : b ≤ n
  ·
   obtain ⟨b2, hb2⟩ : ∃ b2, b2 = b + 20 := ⟨_, rfl⟩
   have r1 : IntKind.i64.wrap ((b : Int) + 20) = (b2 : Int) := by rw [IntKind.wrap_i64]; omega
   replace hb2 := hid hb2
   go_wp2_with (go_at_call 145; refine (insertion_par W0 _ blk n cap a b g cb ok lt f1 HO.out HC.out eg HI.out (by have := HK.out; omega) hlt (by omega)).mono ?_; rintro e w1 ⟨rfl, f2, h1, h2⟩; replace h1 := hid h1; replace h2 := hid h2)
   go_roundw
   case rel =>
    obtain ⟨k1, k2, k3, k4⟩ := HK.out
    have e2 := hb2.out
    refine ⟨k + 1, b, b2, f2, rfl, rfl, hid ⟨by omega, by omega, hlt, k4.step ?_⟩, h1⟩
    have e := h2.out
    rw [k2, k1] at e
    exact e
   case measure => have := hb2.out; simp [intOf]; omega
  go_wp2_with (go_at_call 145; refine (insertion_par W0 _ blk n cap a n g cb ok lt f1 HO.out HC.out eg HI.out (by have := HK.out; omega) (Nat.le_refl _) (by omega)).mono ?_; rintro e w1 ⟨rfl, f2, h1, h2⟩; replace h1 := hid h1; replace h2 := hid h2)
  have HA : Hid (AllB lt f f2 20 n) := by
   obtain ⟨k1, k2, k3, k4⟩ := HK.out
   have e := h2.out
   rw [k1] at e
   exact hid (k4.all (by omega) (by omega) e)
  clear h2 HI HK hlt
  go_loopw [6] (fun ss wx => ∃ (s : Nat) (f2 : Nat → Par), ss = .int .i64 s ∧ Hid (0 < s ∧ s < 2 * n + 40 ∧ AllB lt f f2 s n) ∧ Hid (PairsAt W0 blk ok f2 n wx)) (fun ss _ => n - (intOf ss).toNat)
  case atStart => exact ⟨20, f2, rfl, hid ⟨by omega, by omega, HA.out⟩, h1⟩
  case round =>
   clear h1 HA
   obtain ⟨s, f2, rfl, HS, HI⟩ := hrel
   by_cases hs : s < n
   ·
    obtain ⟨s2, hs2⟩ : ∃ s2, s2 = 2 * s := ⟨_, rfl⟩
    have r1 : IntKind.i64.wrap (2 * (s : Int)) = (s2 : Int) := by rw [IntKind.wrap_i64]; omega
    have r2 : IntKind.i64.wrap ((s : Int) * 2) = (s2 : Int) := by rw [IntKind.wrap_i64]; omega
    replace hs2 := hid hs2
    go_wp2
    go_loopw [7, 8] (fun sa sb wx => ∃ (k a b : Nat) (f3 : Nat → Par), sa = .int .i64 a ∧ sb = .int .i64 b ∧ Hid (a = k * (2 * s) ∧ b = k * (2 * s) + 2 * s ∧ a ≤ n ∧ MixB lt f f3 s k n) ∧ Hid (PairsAt W0 blk ok f3 n wx)) (fun _ sb _ => n + s2 - (intOf sb).toNat)
    case atStart => exact ⟨0, 0, s2, f2, rfl, rfl, hid ⟨by omega, by have := hs2.out; omega, Nat.zero_le _, MixB.start HS.out.2.2⟩, HI⟩
    case round =>
     clear HI
     obtain ⟨k, a, b, f3, rfl, rfl, HK, HI⟩ := hrel
     obtain ⟨m, hm⟩ : ∃ m, m = a + s := ⟨_, rfl⟩
     have r3 : IntKind.i64.wrap ((a : Int) + (s : Int)) = (m : Int) := by have := HK.out.2.2.1; rw [IntKind.wrap_i64]; omega
     replace hm := hid hm
     by_cases hlt : b ≤ n
     ·
      obtain ⟨b2, hb2⟩ : ∃ b2, b2 = b + s2 := ⟨_, rfl⟩
      have r4 : IntKind.i64.wrap ((b : Int) + (s2 : Int)) = (b2 : Int) := by have := hs2.out; rw [IntKind.wrap_i64]; omega
      replace hb2 := hid hb2
      have HL : Hid (Sorted lt (seg f3 a m)) := by
       obtain ⟨k1, k2, k3, k4⟩ := HK.out
       have e := hm.out
       subst k1
       rw [e]
       exact hid ((k4.left (by omega) HS.out.1).sorted HO.out)
      have HR : Hid (Sorted lt (seg f3 m b)) := by
       obtain ⟨k1, k2, k3, k4⟩ := HK.out
       have e := hm.out
       have p := HS.out.1
       subst k1
       rw [e]
       exact hid ((k4.right (by omega) (by omega)).sorted HO.out)
      go_wp2_with (go_at_call 146; refine (symMerge_par W0 blk n cap g cb ok lt HO.out HC.out eg (by omega) (b - a + 1) a m b f3 _ (Nat.lt_succ_self _) (by have := hm.out; have := HS.out.1; omega) (by have := hm.out; have := HS.out.1; have := HK.out; omega) hlt HI.out HL.out HR.out).mono ?_; rintro e w1 ⟨rfl, f4, h1, h2⟩; replace h1 := hid h1; replace h2 := hid h2)
      go_roundw
      case rel =>
       obtain ⟨k1, k2, k3, k4⟩ := HK.out
       have e1 := hm.out
       have e2 := hb2.out
       have e3 := hs2.out
       have m1 : (k + 1) * (2 * s) = k * (2 * s) + 2 * s := Nat.succ_mul _ _
       refine ⟨k + 1, b, b2, f4, rfl, rfl, hid ⟨by omega, by omega, hlt, k4.step HO.out HS.out.1 (by omega) ?_⟩, h1⟩
       have e := h2.out
       rw [e1, k2, k1] at e
       exact e
      case measure => have := hb2.out; have := hs2.out; have := HS.out.1; simp [intOf]; omega
     by_cases hmn : m < n
     ·
      have HL : Hid (Sorted lt (seg f3 a m)) := by
       obtain ⟨k1, k2, k3, k4⟩ := HK.out
       have e := hm.out
       subst k1
       rw [e]
       exact hid ((k4.left (by omega) HS.out.1).sorted HO.out)
      have HR : Hid (Sorted lt (seg f3 m n)) := by
       obtain ⟨k1, k2, k3, k4⟩ := HK.out
       have e := hm.out
       have p := HS.out.1
       subst k1
       rw [e]
       exact hid ((k4.right (by omega) (by omega)).sorted HO.out)
      go_wp2_with (go_at_call 146; refine (symMerge_par W0 blk n cap g cb ok lt HO.out HC.out eg (by omega) (n - a + 1) a m n f3 _ (Nat.lt_succ_self _) (by have := hm.out; have := HS.out.1; omega) hmn (Nat.le_refl _) HI.out HL.out HR.out).mono ?_; rintro e w1 ⟨rfl, f4, h1, h2⟩; replace h1 := hid h1; replace h2 := hid h2)
      go_roundw
      case rel =>
       obtain ⟨k1, k2, k3, k4⟩ := HK.out
       have e1 := hm.out
       have e3 := hs2.out
       refine ⟨s2, f4, rfl, hid ⟨by omega, by omega, ?_⟩, h1⟩
       rw [e3]
       have e := h2.out
       rw [e1, k1] at e
       exact k4.all HO.out HS.out.1 (by omega) (by omega) (fun _ => e) (fun h => absurd h (by omega))
      case measure => have := hs2.out; have := HS.out.1; simp [intOf]; omega
     go_wp2
     go_roundw
     case rel =>
      obtain ⟨k1, k2, k3, k4⟩ := HK.out
      have e1 := hm.out
      have e3 := hs2.out
      refine ⟨s2, f3, rfl, hid ⟨by omega, by omega, ?_⟩, HI⟩
      rw [e3]
      exact k4.all HO.out HS.out.1 (by omega) (by omega) (fun h => absurd h (by omega)) (fun _ => rfl)
     case measure => have := hs2.out; have := HS.out.1; simp [intOf]; omega
   go_wp2
   go_end0
   exact ⟨rfl, f2, HI.out, HS.out.2.2.put (by omega)⟩
theorem sortStable_par (W0 W : World) (blk n cap g : Nat) (cb : Array Value) (ok : Par → Prop) (lt : Par → Par → Bool) (f : Nat → Par) (hO : Swo lt) (hC : CmpP W0 blk ok lt g cb) (eg : ∀ args w, (callFunc g args).run Tryz.prog w = .ok (.enter g args) w)
  (h : PairsAt W0 blk ok f n W) (hn : n < 1099511627776) :
  Calls Tryz.prog 71 #[.slice (some ⟨blk, 0, none⟩) n cap, .func (.func g) #[] cb] W fun e w' => e = .returned (.tuple #[]) ∧ ∃ f', PairsAt W0 blk ok f' n w' ∧ Put f f' 0 n (sortS lt (seg f 0 n)) := by
 have HS := hid (stable_par W0 W blk n cap g cb ok lt f hO hC eg h hn)
 clear h hC hO
 go_enter Tryz.func71, Tryz.ntmps71
 go_wp2_with (go_at_call 112; refine HS.out.mono ?_; rintro e w1 ⟨rfl, f4, h1, h2⟩; replace h1 := hid h1; replace h2 := hid h2)
 go_end0
 exact ⟨rfl, f4, h1.out, h2.out⟩
end Go.Proofs.YtcjhihmaegagdaaGreatDoor
