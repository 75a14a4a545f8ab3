/- Texts of the Notation chapter, together: Rj. -/
import Derived.Test.YtcjhihmaegagdaaGreatDoorG6
import Derived.Deep.Cut
set_option maxRecDepth 100000
set_option maxHeartbeats 8000000
set_option linter.unusedSimpArgs false
set_option linter.unusedVariables false
set_option linter.unusedSectionVars false
set_option linter.unnecessarySimpa false
namespace Go.Proofs.YtcjhihmaegagdaaGreatDoor
open Go.RowKit Go.Deep Go.Maps Go.WideMaps
def PSt (g gm : Nat) (ns : List (List UInt8)) (w : World) : Prop := w.cell? ⟨g, 2, none⟩ = some (.map (some gm)) ∧ Names w gm ns
theorem PSt.of {W w : World} {g gm en : Nat} {d : Drf} {x : Rc} {ts r : List Tok} (hd : Dr W g gm d x) (h : TkAt W g en x ts) (o : Only g W w) (t : TkAt w g en x r) : PSt g gm d.names w := ⟨hd.m ▸ t.c2, (hd.only h o).names⟩
theorem Only.drw {g : Nat} {a w : World} (h : Only g a w) : Only g a w.drew := ⟨h.os, h.tape, h.output, h.size, h.block⟩
theorem OwnP.drw {w : World} {base : Nat} {v : Value} {l : List Par} (h : OwnP w base v l) : OwnP w.drew base v l := h
section
variable {W w w1 w9 : World} {g en : Nat} {x : Rc} {r : List Tok} {ty : TypeId} {cs cs' : Array Value}
theorem only_put (n : NS w1 g en x r ty cs w) (q : w.grownBy w9 (some w1.heap.size)) : Only g w1 w9 := by
 have o := n.only
 refine ⟨q.os.trans o.os, q.tape.trans o.tape, q.output.trans o.output, Nat.le_trans o.size q.size, fun k hk hlt => ?_⟩
 rw [q.block k (Nat.lt_of_lt_of_le hlt o.size) (by intro e; injection e with e; omega)]
 exact o.block k hk hlt
theorem NS.put9 (n : NS w1 g en x r ty cs w) (b : Blk w9 w1.heap.size ty cs') (q : w.grownBy w9 (some w1.heap.size)) (_s : w9.heap.size = w.heap.size) : NS w1 g en x r ty cs' w9 :=
 ⟨only_put n q, n.tk.grown q (fun b e => by injection e with e; have := n.lt; omega), b, n.lt⟩
end
theorem TkAt.setp {W : World} {g en : Nat} {x : Rc} {ts : List Tok} (h : TkAt W g en x ts) (u : Value) : TkAt (W.setCell ⟨g, 5, none⟩ u) g en { x with p := u } ts := by
 obtain ⟨A, c, h1, h2, h3⟩ := h
 refine ⟨A, c, ?_, h2.setCell (p := ⟨g, 5, none⟩) (Nat.sub_le g 1) u, h3⟩
 have := h1.set_ 5 u
 simpa using this
theorem Dr.addp {w w12 : World} {g gm en : Nat} {d : Drf} {x : Rc} {ts : List Tok} {pr : Par} {o : Obj} {u : Value} (h : Dr w g gm d x) (t : TkAt w g en x ts)
  (hg : (w.alloc o).grownBy w12 x.p.ownBlock) (ho : OwnP w12 (g + 1) u (d.sc.pairs ++ [pr])) :
  TkAt (w12.setCell ⟨g, 5, none⟩ u) g en { x with p := u } ts ∧ Dr (w12.setCell ⟨g, 5, none⟩ u) g gm (d.pair pr) { x with p := u } := by
 have h2 := h.up ((Below.refl w.heap.size w).alloc (Nat.le_refl _) o)
 have t3 := (t.alloc o).grown hg (own_gt h2.p)
 obtain ⟨cs, hb⟩ := t3.blk
 have oo := only_set (W := w12) g 5 u
 have n3 : OwnN w12 (g + 1) x.n d.sc.notes := h2.n.kept hg (rows_apart h2.n h2.p (by decide))
 have q3 : OwnC w12 (g + 1) x.q (itg d.sc.cad) := h2.q.kept hg (rows_apart h2.q h2.p (by decide))
 have m3 : Names w12 gm d.names := h2.names.kept hg (names_row h2.names h2.p)
 exact ⟨t3.setp u, ⟨h.m, h.v, n3.only oo (n3.apart hb (by decide)), ho.only oo (ho.apart hb (by decide)), q3.only oo (q3.apart hb (by decide)), m3.only oo (names_apart m3 hb), h.len, h.gm⟩⟩
theorem pair_any (W : World) (g gm en : Nat) (x : Rc) (ts : List Tok) (d : Drf) (h : TkAt W g en x ts) (hd : Dr W g gm d x) (hl : d.sc.pairs.length ≤ 10000) (hts : TsOk ts) (hM : MaxL W) (hP : Primes W) (hg : 3 < g) :
  Calls Tryz.prog 58 #[.pointer (some ⟨g, 0, none⟩)] W (DEnds W g gm en x (pairR d ts)) := by
 have H := hid h
 have HD := hid hd
 have HTS := hid hts
 have HM := hid hM
 have HPR := hid (And.intro hP hg)
 have HG0 : Hid (0 < g) := by show 0 < g; omega
 obtain ⟨q, hq⟩ : ∃ q, pairR d ts = q := ⟨_, rfl⟩
 rw [hq]
 unfold pairR at hq
 simp only [old_seen] at hq
 have HR := hid hq
 clear hq h hd hts hM hP hg
 go_enter Tryz.func58, Tryz.ntmps58
 go_wp2_with fail
 rcases hq0 : seenR true d.names ts with ⟨s0, r0⟩ | ⟨r0, k⟩
 rotate_left
 ·
  simp only [hq0, Rs.err_bind] at HR
  have HQ0 := hid hq0
  clear hq0
  have QO := hid (Only.refl g W).drw
  have QT := hid H.out.drew
  refine wp_region_held_drew (S := PSt g gm d.names) (by kernel_rfl) (PSt.of HD.out H.out QO.out QT.out) (fun hHeld => ?_)
  refine tH 0 ?_ rfl (by kernel_rfl) (fun _ _ _ h => h) (Or.inl ⟨by rfl, ?_⟩) hHeld ?_
  rotate_left
  ·
   intro w hSw
   clear hSw
   go_simp
   try with_reducible rfl
  try (change wpAnyH _ _ _ _ _ _ _ ⟨_, _⟩ _)
  try simp only [Act.put, sS]
  refine tH 1 ?_ rfl (by kernel_rfl) (fun _ _ _ h => h) (Or.inl ⟨by rfl, ?_⟩) hHeld ?_
  rotate_left
  ·
   intro w hSw
   clear hSw
   go_simp
   try with_reducible rfl
  try (change wpAnyH _ _ _ _ _ _ _ ⟨_, _⟩ _)
  try simp only [Act.put, sS]
  refine tH 2 ?_ rfl (by kernel_rfl) (fun _ _ _ h => h) (Or.inl ⟨by rfl, ?_⟩) hHeld ?_
  rotate_left
  ·
   intro w hSw
   clear hSw
   go_simp
   try with_reducible rfl
  try (change wpAnyH _ _ _ _ _ _ _ ⟨_, _⟩ _)
  try simp only [Act.put, sS]
  refine tH 3 ?_ rfl (by kernel_rfl) (fun _ _ _ h => h) (Or.inl ⟨by rfl, ?_⟩) hHeld ?_
  rotate_left
  ·
   intro w hSw
   obtain ⟨hSc, hSn⟩ := hSw
   go_simp
   try with_reducible rfl
  try (change wpAnyH _ _ _ _ _ _ _ ⟨_, _⟩ _)
  try simp only [Act.put, sS]
  refine tH 4 ?_ rfl (by kernel_rfl) (fun _ _ _ h => h) (Or.inl ⟨by rfl, ?_⟩) hHeld ?_
  rotate_left
  ·
   intro w hSw
   clear hSw
   go_simp
   try with_reducible rfl
  try (change wpAnyH _ _ _ _ _ _ _ ⟨_, _⟩ _)
  try simp only [Act.put, sS]
  refine tH 5 ?_ rfl (by kernel_rfl) (fun _ _ _ h => h) (Or.inl ⟨by rfl, ?_⟩) hHeld ?_
  rotate_left
  ·
   intro w hSw
   clear hSw
   go_simp
   try with_reducible rfl
  try (change wpAnyH _ _ _ _ _ _ _ ⟨_, _⟩ _)
  try simp only [Act.put, sS]
  refine tH 8 ?_ rfl (by kernel_rfl) (fun _ _ _ h => h) (Or.inl ⟨by rfl, ?_⟩) hHeld ?_
  rotate_left
  ·
   intro w hSw
   clear hSw
   go_simp
   try with_reducible rfl
  try (change wpAnyH _ _ _ _ _ _ _ ⟨_, _⟩ _)
  try simp only [Act.put, sS]
  refine tH 9 ?_ rfl (by kernel_rfl) (fun _ _ _ h => h) (Or.inl ⟨by rfl, ?_⟩) hHeld ?_
  rotate_left
  ·
   intro w hSw
   clear hSw
   go_simp
   try with_reducible rfl
  try (change wpAnyH _ _ _ _ _ _ _ ⟨_, _⟩ _)
  try simp only [Act.put, sS]
  refine tH 10 ?_ rfl (by kernel_rfl) (fun _ _ _ h => h) (Or.inl ⟨by rfl, ?_⟩) hHeld ?_
  rotate_left
  ·
   intro w hSw
   clear hSw
   go_simp
   try with_reducible rfl
  try (change wpAnyH _ _ _ _ _ _ _ ⟨_, _⟩ _)
  try simp only [Act.put, sS]
  refine tH 11 ?_ rfl (by kernel_rfl) (fun _ _ _ h => h) (Or.inl ⟨by rfl, ?_⟩) hHeld ?_
  rotate_left
  ·
   intro w hSw
   obtain ⟨hSc, hSn⟩ := hSw
   go_simp
   try with_reducible rfl
  try (change wpAnyH _ _ _ _ _ _ _ ⟨_, _⟩ _)
  try simp only [Act.put, sS]
  refine tH 12 ?_ rfl (by kernel_rfl) (fun _ _ _ h => h) (Or.inl ⟨by rfl, ?_⟩) hHeld ?_
  rotate_left
  ·
   intro w hSw
   clear hSw
   go_simp
   try with_reducible rfl
  try (change wpAnyH _ _ _ _ _ _ _ ⟨_, _⟩ _)
  try simp only [Act.put, sS]
  refine tH 13 ?_ rfl (by kernel_rfl) (fun _ _ _ h => h) (Or.inl ⟨by rfl, ?_⟩) hHeld ?_
  rotate_left
  ·
   intro w hSw
   clear hSw
   go_simp
   try with_reducible rfl
  try (change wpAnyH _ _ _ _ _ _ _ ⟨_, _⟩ _)
  try simp only [Act.put, sS]
  refine wpAnyH_ready (rs := [6, 17]) (by kernel_rfl) (by simp) ?_
  refine AllReadyH.cons rfl (fun K hK => ?_) ?_
  ·
   go_simp
   refine (name_old _ g en gm x ts d.names HD.out.m HD.out.gm.1 QT.out HTS.out (HM.out.only QO.out HG0.out) HG0.out hHeld.2).mono ?_
   rintro e w0 ⟨o, hh⟩
   rw [HQ0.out] at hh
   obtain rfl := hh
   refine ⟨rfl, ?_⟩
   rw [← HR.out]
   exact DEnds.err (QO.out.trans o).away
  refine AllReadyH.cons rfl (fun K hK => ?_) ?_
  ·
   go_simp
   have QA := QO
   have QN := hid (NS.start QT.out 57 #[.int .i64 0, .int .i64 0, .int .i64 0, .int .i64 0, .int .i64 0, .int .i64 0, .int .i64 0, .int .i64 0, .int .i64 0])
   replace QO := hid (QO.out.alloc (.cells #[.int .i64 0, .int .i64 0, .int .i64 0, .int .i64 0, .int .i64 0, .int .i64 0, .int .i64 0, .int .i64 0, .int .i64 0] 57))
   replace QT := hid (QT.out.alloc (.cells #[.int .i64 0, .int .i64 0, .int .i64 0, .int .i64 0, .int .i64 0, .int .i64 0, .int .i64 0, .int .i64 0, .int .i64 0] 57))
   refine hK.out _ _ (PSt.of HD.out H.out QO.out QT.out) (fun hHeld => ?_)
   clear hK K
   try (change wpAnyH _ _ _ _ _ _ _ ⟨_, _⟩ _)
   try simp only [Act.put, sS]
   refine wpAnyH_ready (rs := [6]) (by kernel_rfl) (by simp) ?_
   refine AllReadyH.cons rfl (fun K hK => ?_) ?_
   ·
    go_simp
    refine (name_old _ g en gm x ts d.names HD.out.m HD.out.gm.1 QT.out HTS.out (HM.out.only QO.out HG0.out) HG0.out hHeld.2).mono ?_
    rintro e w0 ⟨o, hh⟩
    rw [HQ0.out] at hh
    obtain rfl := hh
    refine ⟨rfl, ?_⟩
    rw [← HR.out]
    exact DEnds.err (QO.out.trans o).away
   exact AllReadyH.nil
  exact AllReadyH.nil
 have HTS0 := hid (HTS.out.seen hq0).1
 have HL := HTS.out.seen hq0
 have HL0 : Hid (s0.length ≤ 9223372036854775807) := hid (by have := HL.2.1; omega)
 obtain ⟨i0, hi0⟩ := Option.isSome_iff_exists.1 HL.2.2
 simp only [hq0, Rs.ok_bind, hi0, Option.getD_some] at HR
 have HI0 := hid hi0
 have HQ0 := hid hq0
 clear hi0 HL hq0
 rcases hq1 : seenR true d.names r0 with ⟨s1, r1⟩ | ⟨r1, k⟩
 rotate_left
 ·
  simp only [hq1, Rs.err_bind] at HR
  have HQ1 := hid hq1
  clear hq1
  have QO := hid (Only.refl g W).drw
  have QT := hid H.out.drew
  refine wp_region_held_drew (S := PSt g gm d.names) (by kernel_rfl) (PSt.of HD.out H.out QO.out QT.out) (fun hHeld => ?_)
  refine tH 0 ?_ rfl (by kernel_rfl) (fun _ _ _ h => h) (Or.inl ⟨by rfl, ?_⟩) hHeld ?_
  rotate_left
  ·
   intro w hSw
   clear hSw
   go_simp
   try with_reducible rfl
  try (change wpAnyH _ _ _ _ _ _ _ ⟨_, _⟩ _)
  try simp only [Act.put, sS]
  refine tH 1 ?_ rfl (by kernel_rfl) (fun _ _ _ h => h) (Or.inl ⟨by rfl, ?_⟩) hHeld ?_
  rotate_left
  ·
   intro w hSw
   clear hSw
   go_simp
   try with_reducible rfl
  try (change wpAnyH _ _ _ _ _ _ _ ⟨_, _⟩ _)
  try simp only [Act.put, sS]
  refine tH 2 ?_ rfl (by kernel_rfl) (fun _ _ _ h => h) (Or.inl ⟨by rfl, ?_⟩) hHeld ?_
  rotate_left
  ·
   intro w hSw
   clear hSw
   go_simp
   try with_reducible rfl
  try (change wpAnyH _ _ _ _ _ _ _ ⟨_, _⟩ _)
  try simp only [Act.put, sS]
  refine tH 3 ?_ rfl (by kernel_rfl) (fun _ _ _ h => h) (Or.inl ⟨by rfl, ?_⟩) hHeld ?_
  rotate_left
  ·
   intro w hSw
   obtain ⟨hSc, hSn⟩ := hSw
   go_simp
   try with_reducible rfl
  try (change wpAnyH _ _ _ _ _ _ _ ⟨_, _⟩ _)
  try simp only [Act.put, sS]
  refine tH 4 ?_ rfl (by kernel_rfl) (fun _ _ _ h => h) (Or.inl ⟨by rfl, ?_⟩) hHeld ?_
  rotate_left
  ·
   intro w hSw
   clear hSw
   go_simp
   try with_reducible rfl
  try (change wpAnyH _ _ _ _ _ _ _ ⟨_, _⟩ _)
  try simp only [Act.put, sS]
  refine tH 5 ?_ rfl (by kernel_rfl) (fun _ _ _ h => h) (Or.inl ⟨by rfl, ?_⟩) hHeld ?_
  rotate_left
  ·
   intro w hSw
   clear hSw
   go_simp
   try with_reducible rfl
  try (change wpAnyH _ _ _ _ _ _ _ ⟨_, _⟩ _)
  try simp only [Act.put, sS]
  refine tH 8 ?_ rfl (by kernel_rfl) (fun _ _ _ h => h) (Or.inl ⟨by rfl, ?_⟩) hHeld ?_
  rotate_left
  ·
   intro w hSw
   clear hSw
   go_simp
   try with_reducible rfl
  try (change wpAnyH _ _ _ _ _ _ _ ⟨_, _⟩ _)
  try simp only [Act.put, sS]
  refine tH 9 ?_ rfl (by kernel_rfl) (fun _ _ _ h => h) (Or.inl ⟨by rfl, ?_⟩) hHeld ?_
  rotate_left
  ·
   intro w hSw
   clear hSw
   go_simp
   try with_reducible rfl
  try (change wpAnyH _ _ _ _ _ _ _ ⟨_, _⟩ _)
  try simp only [Act.put, sS]
  refine tH 10 ?_ rfl (by kernel_rfl) (fun _ _ _ h => h) (Or.inl ⟨by rfl, ?_⟩) hHeld ?_
  rotate_left
  ·
   intro w hSw
   clear hSw
   go_simp
   try with_reducible rfl
  try (change wpAnyH _ _ _ _ _ _ _ ⟨_, _⟩ _)
  try simp only [Act.put, sS]
  refine tH 11 ?_ rfl (by kernel_rfl) (fun _ _ _ h => h) (Or.inl ⟨by rfl, ?_⟩) hHeld ?_
  rotate_left
  ·
   intro w hSw
   obtain ⟨hSc, hSn⟩ := hSw
   go_simp
   try with_reducible rfl
  try (change wpAnyH _ _ _ _ _ _ _ ⟨_, _⟩ _)
  try simp only [Act.put, sS]
  refine tH 12 ?_ rfl (by kernel_rfl) (fun _ _ _ h => h) (Or.inl ⟨by rfl, ?_⟩) hHeld ?_
  rotate_left
  ·
   intro w hSw
   clear hSw
   go_simp
   try with_reducible rfl
  try (change wpAnyH _ _ _ _ _ _ _ ⟨_, _⟩ _)
  try simp only [Act.put, sS]
  refine tH 13 ?_ rfl (by kernel_rfl) (fun _ _ _ h => h) (Or.inl ⟨by rfl, ?_⟩) hHeld ?_
  rotate_left
  ·
   intro w hSw
   clear hSw
   go_simp
   try with_reducible rfl
  try (change wpAnyH _ _ _ _ _ _ _ ⟨_, _⟩ _)
  try simp only [Act.put, sS]
  refine wpAnyH_ready (rs := [6, 17]) (by kernel_rfl) (by simp) ?_
  refine AllReadyH.cons rfl (fun K hK => ?_) ?_
  ·
   go_simp
   refine (name_old _ g en gm x ts d.names HD.out.m HD.out.gm.1 QT.out HTS.out (HM.out.only QO.out HG0.out) HG0.out hHeld.2).mono ?_
   rintro e w0 ⟨o, hh⟩
   rw [HQ0.out] at hh
   obtain ⟨rfl, t⟩ := hh
   replace QO := hid (QO.out.trans o)
   replace QT := hid t
   clear o t
   refine hK.out _ _ (PSt.of HD.out H.out QO.out QT.out) (fun hHeld => ?_)
   clear hK K
   try (change wpAnyH _ _ _ _ _ _ _ ⟨_, _⟩ _)
   try simp only [Act.put, sS]
   refine tH 7 ?_ rfl (by kernel_rfl) (fun _ _ _ h => h) (Or.inl ⟨by rfl, ?_⟩) hHeld ?_
   rotate_left
   ·
    intro w hSw
    have hlk := look_plain hSw.2 s0 HL0.out i0 HI0.out
    go_simp
    try with_reducible rfl
   try (change wpAnyH _ _ _ _ _ _ _ ⟨_, _⟩ _)
   try simp only [Act.put, sS]
   refine wpAnyH_ready (rs := [14, 17]) (by kernel_rfl) (by simp) ?_
   refine AllReadyH.cons rfl (fun K hK => ?_) ?_
   ·
    go_simp
    refine (name_old _ g en gm x r0 d.names HD.out.m HD.out.gm.1 QT.out HTS0.out (HM.out.only QO.out HG0.out) HG0.out hHeld.2).mono ?_
    rintro e w1 ⟨o, hh⟩
    rw [HQ1.out] at hh
    obtain rfl := hh
    refine ⟨rfl, ?_⟩
    rw [← HR.out]
    exact DEnds.err (QO.out.trans o).away
   refine AllReadyH.cons rfl (fun K hK => ?_) ?_
   ·
    go_simp
    have QA := QO
    have QN := hid (NS.start QT.out 57 #[.int .i64 0, .int .i64 0, .int .i64 0, .int .i64 0, .int .i64 0, .int .i64 0, .int .i64 0, .int .i64 0, .int .i64 0])
    replace QO := hid (QO.out.alloc (.cells #[.int .i64 0, .int .i64 0, .int .i64 0, .int .i64 0, .int .i64 0, .int .i64 0, .int .i64 0, .int .i64 0, .int .i64 0] 57))
    replace QT := hid (QT.out.alloc (.cells #[.int .i64 0, .int .i64 0, .int .i64 0, .int .i64 0, .int .i64 0, .int .i64 0, .int .i64 0, .int .i64 0, .int .i64 0] 57))
    refine hK.out _ _ (PSt.of HD.out H.out QO.out QT.out) (fun hHeld => ?_)
    clear hK K
    try (change wpAnyH _ _ _ _ _ _ _ ⟨_, _⟩ _)
    try simp only [Act.put, sS]
    refine wpAnyH_ready (rs := [14]) (by kernel_rfl) (by simp) ?_
    refine AllReadyH.cons rfl (fun K hK => ?_) ?_
    ·
     go_simp
     refine (name_old _ g en gm x r0 d.names HD.out.m HD.out.gm.1 QT.out HTS0.out (HM.out.only QO.out HG0.out) HG0.out hHeld.2).mono ?_
     rintro e w1 ⟨o, hh⟩
     rw [HQ1.out] at hh
     obtain rfl := hh
     refine ⟨rfl, ?_⟩
     rw [← HR.out]
     exact DEnds.err (QO.out.trans o).away
    exact AllReadyH.nil
   exact AllReadyH.nil
  refine AllReadyH.cons rfl (fun K hK => ?_) ?_
  ·
   go_simp
   have QA := QO
   have QN := hid (NS.start QT.out 57 #[.int .i64 0, .int .i64 0, .int .i64 0, .int .i64 0, .int .i64 0, .int .i64 0, .int .i64 0, .int .i64 0, .int .i64 0])
   replace QO := hid (QO.out.alloc (.cells #[.int .i64 0, .int .i64 0, .int .i64 0, .int .i64 0, .int .i64 0, .int .i64 0, .int .i64 0, .int .i64 0, .int .i64 0] 57))
   replace QT := hid (QT.out.alloc (.cells #[.int .i64 0, .int .i64 0, .int .i64 0, .int .i64 0, .int .i64 0, .int .i64 0, .int .i64 0, .int .i64 0, .int .i64 0] 57))
   refine hK.out _ _ (PSt.of HD.out H.out QO.out QT.out) (fun hHeld => ?_)
   clear hK K
   try (change wpAnyH _ _ _ _ _ _ _ ⟨_, _⟩ _)
   try simp only [Act.put, sS]
   refine wpAnyH_ready (rs := [6]) (by kernel_rfl) (by simp) ?_
   refine AllReadyH.cons rfl (fun K hK => ?_) ?_
   ·
    go_simp
    refine (name_old _ g en gm x ts d.names HD.out.m HD.out.gm.1 QT.out HTS.out (HM.out.only QO.out HG0.out) HG0.out hHeld.2).mono ?_
    rintro e w0 ⟨o, hh⟩
    rw [HQ0.out] at hh
    obtain ⟨rfl, t⟩ := hh
    replace QN := hid (QN.out.on o t)
    replace QO := hid (QO.out.trans o)
    replace QT := hid t
    clear o t
    refine hK.out _ _ (PSt.of HD.out H.out QO.out QT.out) (fun hHeld => ?_)
    clear hK K
    try (change wpAnyH _ _ _ _ _ _ _ ⟨_, _⟩ _)
    try simp only [Act.put, sS]
    refine tH 7 ?_ rfl (by kernel_rfl) (fun _ _ _ h => h) (Or.inl ⟨by rfl, ?_⟩) hHeld ?_
    rotate_left
    ·
     intro w hSw
     have hlk := look_plain hSw.2 s0 HL0.out i0 HI0.out
     go_simp
     try with_reducible rfl
    try (change wpAnyH _ _ _ _ _ _ _ ⟨_, _⟩ _)
    try simp only [Act.put, sS]
    refine wpAnyH_ready (rs := [14]) (by kernel_rfl) (by simp) ?_
    refine AllReadyH.cons rfl (fun K hK => ?_) ?_
    ·
     go_simp
     refine (name_old _ g en gm x r0 d.names HD.out.m HD.out.gm.1 QT.out HTS0.out (HM.out.only QO.out HG0.out) HG0.out hHeld.2).mono ?_
     rintro e w1 ⟨o, hh⟩
     rw [HQ1.out] at hh
     obtain rfl := hh
     refine ⟨rfl, ?_⟩
     rw [← HR.out]
     exact DEnds.err (QO.out.trans o).away
    exact AllReadyH.nil
   exact AllReadyH.nil
  exact AllReadyH.nil
 have HTS1 := hid (HTS0.out.seen hq1).1
 have HL := HTS0.out.seen hq1
 have HL1 : Hid (s1.length ≤ 9223372036854775807) := hid (by have := HL.2.1; omega)
 obtain ⟨i1, hi1⟩ := Option.isSome_iff_exists.1 HL.2.2
 simp only [hq1, Rs.ok_bind, hi1, Option.getD_some] at HR
 have HI1 := hid hi1
 have HQ1 := hid hq1
 clear hi1 HL hq1
 go_cut [3] from 4 (fun u w => ∃ w1, u = .pointer (some ⟨w1.heap.size, 0, none⟩) ∧ Only g W w1 ∧ NS w1 g en x r1 57 #[.int .i64 i0, .int .i64 i1, .int .i64 0, .int .i64 0, .int .i64 0, .int .i64 0, .int .i64 0, .int .i64 0, .int .i64 0] w)
 ·
  have QO := hid (Only.refl g W).drw
  have QT := hid H.out.drew
  refine wp_region_held_drew (S := PSt g gm d.names) (by kernel_rfl) (PSt.of HD.out H.out QO.out QT.out) (fun hHeld => ?_)
  refine tH 0 ?_ rfl (by kernel_rfl) (fun _ _ _ h => h) (Or.inl ⟨by rfl, ?_⟩) hHeld ?_
  rotate_left
  ·
   intro w hSw
   clear hSw
   go_simp
   try with_reducible rfl
  try (change wpAnyH _ _ _ _ _ _ _ ⟨_, _⟩ _)
  try simp only [Act.put, sS]
  refine tH 1 ?_ rfl (by kernel_rfl) (fun _ _ _ h => h) (Or.inl ⟨by rfl, ?_⟩) hHeld ?_
  rotate_left
  ·
   intro w hSw
   clear hSw
   go_simp
   try with_reducible rfl
  try (change wpAnyH _ _ _ _ _ _ _ ⟨_, _⟩ _)
  try simp only [Act.put, sS]
  refine tH 2 ?_ rfl (by kernel_rfl) (fun _ _ _ h => h) (Or.inl ⟨by rfl, ?_⟩) hHeld ?_
  rotate_left
  ·
   intro w hSw
   clear hSw
   go_simp
   try with_reducible rfl
  try (change wpAnyH _ _ _ _ _ _ _ ⟨_, _⟩ _)
  try simp only [Act.put, sS]
  refine tH 3 ?_ rfl (by kernel_rfl) (fun _ _ _ h => h) (Or.inl ⟨by rfl, ?_⟩) hHeld ?_
  rotate_left
  ·
   intro w hSw
   obtain ⟨hSc, hSn⟩ := hSw
   go_simp
   try with_reducible rfl
  try (change wpAnyH _ _ _ _ _ _ _ ⟨_, _⟩ _)
  try simp only [Act.put, sS]
  refine tH 4 ?_ rfl (by kernel_rfl) (fun _ _ _ h => h) (Or.inl ⟨by rfl, ?_⟩) hHeld ?_
  rotate_left
  ·
   intro w hSw
   clear hSw
   go_simp
   try with_reducible rfl
  try (change wpAnyH _ _ _ _ _ _ _ ⟨_, _⟩ _)
  try simp only [Act.put, sS]
  refine tH 5 ?_ rfl (by kernel_rfl) (fun _ _ _ h => h) (Or.inl ⟨by rfl, ?_⟩) hHeld ?_
  rotate_left
  ·
   intro w hSw
   clear hSw
   go_simp
   try with_reducible rfl
  try (change wpAnyH _ _ _ _ _ _ _ ⟨_, _⟩ _)
  try simp only [Act.put, sS]
  refine tH 8 ?_ rfl (by kernel_rfl) (fun _ _ _ h => h) (Or.inl ⟨by rfl, ?_⟩) hHeld ?_
  rotate_left
  ·
   intro w hSw
   clear hSw
   go_simp
   try with_reducible rfl
  try (change wpAnyH _ _ _ _ _ _ _ ⟨_, _⟩ _)
  try simp only [Act.put, sS]
  refine tH 9 ?_ rfl (by kernel_rfl) (fun _ _ _ h => h) (Or.inl ⟨by rfl, ?_⟩) hHeld ?_
  rotate_left
  ·
   intro w hSw
   clear hSw
   go_simp
   try with_reducible rfl
  try (change wpAnyH _ _ _ _ _ _ _ ⟨_, _⟩ _)
  try simp only [Act.put, sS]
  refine tH 10 ?_ rfl (by kernel_rfl) (fun _ _ _ h => h) (Or.inl ⟨by rfl, ?_⟩) hHeld ?_
  rotate_left
  ·
   intro w hSw
   clear hSw
   go_simp
   try with_reducible rfl
  try (change wpAnyH _ _ _ _ _ _ _ ⟨_, _⟩ _)
  try simp only [Act.put, sS]
  refine tH 11 ?_ rfl (by kernel_rfl) (fun _ _ _ h => h) (Or.inl ⟨by rfl, ?_⟩) hHeld ?_
  rotate_left
  ·
   intro w hSw
   obtain ⟨hSc, hSn⟩ := hSw
   go_simp
   try with_reducible rfl
  try (change wpAnyH _ _ _ _ _ _ _ ⟨_, _⟩ _)
  try simp only [Act.put, sS]
  refine tH 12 ?_ rfl (by kernel_rfl) (fun _ _ _ h => h) (Or.inl ⟨by rfl, ?_⟩) hHeld ?_
  rotate_left
  ·
   intro w hSw
   clear hSw
   go_simp
   try with_reducible rfl
  try (change wpAnyH _ _ _ _ _ _ _ ⟨_, _⟩ _)
  try simp only [Act.put, sS]
  refine tH 13 ?_ rfl (by kernel_rfl) (fun _ _ _ h => h) (Or.inl ⟨by rfl, ?_⟩) hHeld ?_
  rotate_left
  ·
   intro w hSw
   clear hSw
   go_simp
   try with_reducible rfl
  try (change wpAnyH _ _ _ _ _ _ _ ⟨_, _⟩ _)
  try simp only [Act.put, sS]
  refine wpAnyH_ready (rs := [6, 17]) (by kernel_rfl) (by simp) ?_
  refine AllReadyH.cons rfl (fun K hK => ?_) ?_
  ·
   go_simp
   refine (name_old _ g en gm x ts d.names HD.out.m HD.out.gm.1 QT.out HTS.out (HM.out.only QO.out HG0.out) HG0.out hHeld.2).mono ?_
   rintro e w0 ⟨o, hh⟩
   rw [HQ0.out] at hh
   obtain ⟨rfl, t⟩ := hh
   replace QO := hid (QO.out.trans o)
   replace QT := hid t
   clear o t
   refine hK.out _ _ (PSt.of HD.out H.out QO.out QT.out) (fun hHeld => ?_)
   clear hK K
   try (change wpAnyH _ _ _ _ _ _ _ ⟨_, _⟩ _)
   try simp only [Act.put, sS]
   refine tH 7 ?_ rfl (by kernel_rfl) (fun _ _ _ h => h) (Or.inl ⟨by rfl, ?_⟩) hHeld ?_
   rotate_left
   ·
    intro w hSw
    have hlk := look_plain hSw.2 s0 HL0.out i0 HI0.out
    go_simp
    try with_reducible rfl
   try (change wpAnyH _ _ _ _ _ _ _ ⟨_, _⟩ _)
   try simp only [Act.put, sS]
   refine wpAnyH_ready (rs := [14, 17]) (by kernel_rfl) (by simp) ?_
   refine AllReadyH.cons rfl (fun K hK => ?_) ?_
   ·
    go_simp
    refine (name_old _ g en gm x r0 d.names HD.out.m HD.out.gm.1 QT.out HTS0.out (HM.out.only QO.out HG0.out) HG0.out hHeld.2).mono ?_
    rintro e w1 ⟨o, hh⟩
    rw [HQ1.out] at hh
    obtain ⟨rfl, t⟩ := hh
    replace QO := hid (QO.out.trans o)
    replace QT := hid t
    clear o t
    refine hK.out _ _ (PSt.of HD.out H.out QO.out QT.out) (fun hHeld => ?_)
    clear hK K
    try (change wpAnyH _ _ _ _ _ _ _ ⟨_, _⟩ _)
    try simp only [Act.put, sS]
    refine tH 15 ?_ rfl (by kernel_rfl) (fun _ _ _ h => h) (Or.inl ⟨by rfl, ?_⟩) hHeld ?_
    rotate_left
    ·
     intro w hSw
     have hlk := look_plain hSw.2 s1 HL1.out i1 HI1.out
     go_simp
     try with_reducible rfl
    try (change wpAnyH _ _ _ _ _ _ _ ⟨_, _⟩ _)
    try simp only [Act.put, sS]
    refine tH 16 ?_ rfl (by kernel_rfl) (fun _ _ _ h => h) (Or.inl ⟨by rfl, ?_⟩) hHeld ?_
    rotate_left
    ·
     intro w hSw
     clear hSw
     go_simp
     try with_reducible rfl
    try (change wpAnyH _ _ _ _ _ _ _ ⟨_, _⟩ _)
    try simp only [Act.put, sS]
    refine wpAnyH_ready (rs := [17]) (by kernel_rfl) (by simp) ?_
    refine AllReadyH.cons rfl (fun K hK => ?_) ?_
    ·
     go_simp
     have QA := QO
     have QN := hid (NS.start QT.out 57 #[.int .i64 0, .int .i64 0, .int .i64 0, .int .i64 0, .int .i64 0, .int .i64 0, .int .i64 0, .int .i64 0, .int .i64 0])
     replace QO := hid (QO.out.alloc (.cells #[.int .i64 0, .int .i64 0, .int .i64 0, .int .i64 0, .int .i64 0, .int .i64 0, .int .i64 0, .int .i64 0, .int .i64 0] 57))
     replace QT := hid (QT.out.alloc (.cells #[.int .i64 0, .int .i64 0, .int .i64 0, .int .i64 0, .int .i64 0, .int .i64 0, .int .i64 0, .int .i64 0, .int .i64 0] 57))
     refine hK.out _ _ (PSt.of HD.out H.out QO.out QT.out) (fun hHeld => ?_)
     clear hK K
     try (change wpAnyH _ _ _ _ _ _ _ ⟨_, _⟩ _)
     try simp only [Act.put, sS]
     refine wpAnyH_ready (rs := [18]) (by kernel_rfl) (by simp) ?_
     refine AllReadyH.cons rfl (fun K hK => ?_) ?_
     ·
      refine step_put rfl 57 (.tmp 3) (.tmp 20) rfl _ #[.int .i64 i0, .int .i64 i1, .int .i64 0, .int .i64 0, .int .i64 0, .int .i64 0, .int .i64 0, .int .i64 0, .int .i64 0] rfl rfl _ _ QN.out.blk size_P rfl (by simp [Value.oneCell']) ?_
      intro w9 b9 q9 s9
      refine hK.out _ _ (PSt.of HD.out H.out (QA.out.trans (NS.put9 QN.out b9 q9 s9).only) (NS.put9 QN.out b9 q9 s9).tk) (fun hHeld => ?_)
      clear hK K
      try (change wpAnyH _ _ _ _ _ _ _ ⟨_, _⟩ _)
      try simp only [Act.put, sS]
      refine wpAnyH_done (by kernel_rfl) ?_ _
      try dsimp only
      try simp only [Act.put, sS]
      go_wp2_with fail
      go_meet
      refine ⟨_, ?_, QA.out, NS.put9 QN.out b9 q9 s9⟩
      rfl
     exact AllReadyH.nil
    exact AllReadyH.nil
   refine AllReadyH.cons rfl (fun K hK => ?_) ?_
   ·
    go_simp
    have QA := QO
    have QN := hid (NS.start QT.out 57 #[.int .i64 0, .int .i64 0, .int .i64 0, .int .i64 0, .int .i64 0, .int .i64 0, .int .i64 0, .int .i64 0, .int .i64 0])
    replace QO := hid (QO.out.alloc (.cells #[.int .i64 0, .int .i64 0, .int .i64 0, .int .i64 0, .int .i64 0, .int .i64 0, .int .i64 0, .int .i64 0, .int .i64 0] 57))
    replace QT := hid (QT.out.alloc (.cells #[.int .i64 0, .int .i64 0, .int .i64 0, .int .i64 0, .int .i64 0, .int .i64 0, .int .i64 0, .int .i64 0, .int .i64 0] 57))
    refine hK.out _ _ (PSt.of HD.out H.out QO.out QT.out) (fun hHeld => ?_)
    clear hK K
    try (change wpAnyH _ _ _ _ _ _ _ ⟨_, _⟩ _)
    try simp only [Act.put, sS]
    refine wpAnyH_ready (rs := [14]) (by kernel_rfl) (by simp) ?_
    refine AllReadyH.cons rfl (fun K hK => ?_) ?_
    ·
     go_simp
     refine (name_old _ g en gm x r0 d.names HD.out.m HD.out.gm.1 QT.out HTS0.out (HM.out.only QO.out HG0.out) HG0.out hHeld.2).mono ?_
     rintro e w1 ⟨o, hh⟩
     rw [HQ1.out] at hh
     obtain ⟨rfl, t⟩ := hh
     replace QN := hid (QN.out.on o t)
     replace QO := hid (QO.out.trans o)
     replace QT := hid t
     clear o t
     refine hK.out _ _ (PSt.of HD.out H.out QO.out QT.out) (fun hHeld => ?_)
     clear hK K
     try (change wpAnyH _ _ _ _ _ _ _ ⟨_, _⟩ _)
     try simp only [Act.put, sS]
     refine tH 15 ?_ rfl (by kernel_rfl) (fun _ _ _ h => h) (Or.inl ⟨by rfl, ?_⟩) hHeld ?_
     rotate_left
     ·
      intro w hSw
      have hlk := look_plain hSw.2 s1 HL1.out i1 HI1.out
      go_simp
      try with_reducible rfl
     try (change wpAnyH _ _ _ _ _ _ _ ⟨_, _⟩ _)
     try simp only [Act.put, sS]
     refine tH 16 ?_ rfl (by kernel_rfl) (fun _ _ _ h => h) (Or.inl ⟨by rfl, ?_⟩) hHeld ?_
     rotate_left
     ·
      intro w hSw
      clear hSw
      go_simp
      try with_reducible rfl
     try (change wpAnyH _ _ _ _ _ _ _ ⟨_, _⟩ _)
     try simp only [Act.put, sS]
     refine wpAnyH_ready (rs := [18]) (by kernel_rfl) (by simp) ?_
     refine AllReadyH.cons rfl (fun K hK => ?_) ?_
     ·
      refine step_put rfl 57 (.tmp 3) (.tmp 20) rfl _ #[.int .i64 i0, .int .i64 i1, .int .i64 0, .int .i64 0, .int .i64 0, .int .i64 0, .int .i64 0, .int .i64 0, .int .i64 0] rfl rfl _ _ QN.out.blk size_P rfl (by simp [Value.oneCell']) ?_
      intro w9 b9 q9 s9
      refine hK.out _ _ (PSt.of HD.out H.out (QA.out.trans (NS.put9 QN.out b9 q9 s9).only) (NS.put9 QN.out b9 q9 s9).tk) (fun hHeld => ?_)
      clear hK K
      try (change wpAnyH _ _ _ _ _ _ _ ⟨_, _⟩ _)
      try simp only [Act.put, sS]
      refine wpAnyH_done (by kernel_rfl) ?_ _
      try dsimp only
      try simp only [Act.put, sS]
      go_wp2_with fail
      go_meet
      refine ⟨_, ?_, QA.out, NS.put9 QN.out b9 q9 s9⟩
      rfl
     exact AllReadyH.nil
    exact AllReadyH.nil
   exact AllReadyH.nil
  refine AllReadyH.cons rfl (fun K hK => ?_) ?_
  ·
   go_simp
   have QA := QO
   have QN := hid (NS.start QT.out 57 #[.int .i64 0, .int .i64 0, .int .i64 0, .int .i64 0, .int .i64 0, .int .i64 0, .int .i64 0, .int .i64 0, .int .i64 0])
   replace QO := hid (QO.out.alloc (.cells #[.int .i64 0, .int .i64 0, .int .i64 0, .int .i64 0, .int .i64 0, .int .i64 0, .int .i64 0, .int .i64 0, .int .i64 0] 57))
   replace QT := hid (QT.out.alloc (.cells #[.int .i64 0, .int .i64 0, .int .i64 0, .int .i64 0, .int .i64 0, .int .i64 0, .int .i64 0, .int .i64 0, .int .i64 0] 57))
   refine hK.out _ _ (PSt.of HD.out H.out QO.out QT.out) (fun hHeld => ?_)
   clear hK K
   try (change wpAnyH _ _ _ _ _ _ _ ⟨_, _⟩ _)
   try simp only [Act.put, sS]
   refine wpAnyH_ready (rs := [6]) (by kernel_rfl) (by simp) ?_
   refine AllReadyH.cons rfl (fun K hK => ?_) ?_
   ·
    go_simp
    refine (name_old _ g en gm x ts d.names HD.out.m HD.out.gm.1 QT.out HTS.out (HM.out.only QO.out HG0.out) HG0.out hHeld.2).mono ?_
    rintro e w0 ⟨o, hh⟩
    rw [HQ0.out] at hh
    obtain ⟨rfl, t⟩ := hh
    replace QN := hid (QN.out.on o t)
    replace QO := hid (QO.out.trans o)
    replace QT := hid t
    clear o t
    refine hK.out _ _ (PSt.of HD.out H.out QO.out QT.out) (fun hHeld => ?_)
    clear hK K
    try (change wpAnyH _ _ _ _ _ _ _ ⟨_, _⟩ _)
    try simp only [Act.put, sS]
    refine tH 7 ?_ rfl (by kernel_rfl) (fun _ _ _ h => h) (Or.inl ⟨by rfl, ?_⟩) hHeld ?_
    rotate_left
    ·
     intro w hSw
     have hlk := look_plain hSw.2 s0 HL0.out i0 HI0.out
     go_simp
     try with_reducible rfl
    try (change wpAnyH _ _ _ _ _ _ _ ⟨_, _⟩ _)
    try simp only [Act.put, sS]
    refine wpAnyH_ready (rs := [14]) (by kernel_rfl) (by simp) ?_
    refine AllReadyH.cons rfl (fun K hK => ?_) ?_
    ·
     go_simp
     refine (name_old _ g en gm x r0 d.names HD.out.m HD.out.gm.1 QT.out HTS0.out (HM.out.only QO.out HG0.out) HG0.out hHeld.2).mono ?_
     rintro e w1 ⟨o, hh⟩
     rw [HQ1.out] at hh
     obtain ⟨rfl, t⟩ := hh
     replace QN := hid (QN.out.on o t)
     replace QO := hid (QO.out.trans o)
     replace QT := hid t
     clear o t
     refine hK.out _ _ (PSt.of HD.out H.out QO.out QT.out) (fun hHeld => ?_)
     clear hK K
     try (change wpAnyH _ _ _ _ _ _ _ ⟨_, _⟩ _)
     try simp only [Act.put, sS]
     refine tH 15 ?_ rfl (by kernel_rfl) (fun _ _ _ h => h) (Or.inl ⟨by rfl, ?_⟩) hHeld ?_
     rotate_left
     ·
      intro w hSw
      have hlk := look_plain hSw.2 s1 HL1.out i1 HI1.out
      go_simp
      try with_reducible rfl
     try (change wpAnyH _ _ _ _ _ _ _ ⟨_, _⟩ _)
     try simp only [Act.put, sS]
     refine tH 16 ?_ rfl (by kernel_rfl) (fun _ _ _ h => h) (Or.inl ⟨by rfl, ?_⟩) hHeld ?_
     rotate_left
     ·
      intro w hSw
      clear hSw
      go_simp
      try with_reducible rfl
     try (change wpAnyH _ _ _ _ _ _ _ ⟨_, _⟩ _)
     try simp only [Act.put, sS]
     refine wpAnyH_ready (rs := [18]) (by kernel_rfl) (by simp) ?_
     refine AllReadyH.cons rfl (fun K hK => ?_) ?_
     ·
      refine step_put rfl 57 (.tmp 3) (.tmp 20) rfl _ #[.int .i64 i0, .int .i64 i1, .int .i64 0, .int .i64 0, .int .i64 0, .int .i64 0, .int .i64 0, .int .i64 0, .int .i64 0] rfl rfl _ _ QN.out.blk size_P rfl (by simp [Value.oneCell']) ?_
      intro w9 b9 q9 s9
      refine hK.out _ _ (PSt.of HD.out H.out (QA.out.trans (NS.put9 QN.out b9 q9 s9).only) (NS.put9 QN.out b9 q9 s9).tk) (fun hHeld => ?_)
      clear hK K
      try (change wpAnyH _ _ _ _ _ _ _ ⟨_, _⟩ _)
      try simp only [Act.put, sS]
      refine wpAnyH_done (by kernel_rfl) ?_ _
      try dsimp only
      try simp only [Act.put, sS]
      go_wp2_with fail
      go_meet
      refine ⟨_, ?_, QA.out, NS.put9 QN.out b9 q9 s9⟩
      rfl
     exact AllReadyH.nil
    exact AllReadyH.nil
   exact AllReadyH.nil
  exact AllReadyH.nil
 obtain ⟨w1, rfl, wo, n0⟩ := hcut
 have WO := hid wo
 have N0 := hid n0
 have BG := hid (Only.away (gm := gm) (x := x) wo)
 have HG1 := hid n0.lt
 have HP1 := hid (And.intro (Primes.onl HPR.out wo) HPR.out.2)
 clear wo n0
 go_wp2_with fail
 rcases hq2 : hasR kw_by r1 with _ | r2
 ·
  have hby : byR r1 = .ok vc0 r1 := by simp only [byR, hq2]
  simp only [hby, Rs.ok_bind] at HR
  refine (has_one _ g en x r1 [98, 121] (by decide) _ hq2 N0.out.tk).mono ?_
  rintro e w2 ⟨rfl, o, t⟩
  have N2 := hid (N0.out.on o t)
  clear o t hq2 hby
  go_wp2_with fail
  rcases hq7 : hasR kw_within r1 with _ | r7
  ·
   have hwt : withinR r1 = .ok 0 r1 := by simp only [withinR, hq7]
   simp only [hwt, Rs.ok_bind] at HR
   refine (has_one _ g en x r1 [119, 105, 116, 104, 105, 110] (by decide) _ hq7 N2.out.tk).mono ?_
   rintro e w6 ⟨rfl, o, t⟩
   have N6 := hid (N2.out.on o t)
   clear o t hq7 hwt
   go_wp2_with fail
   rcases hq9 : wantsR [mSemi] r1 with ⟨u9, r9⟩ | ⟨r9, k⟩
   rotate_left
   ·
    refine (want_at1 _ g en _ x r1 [59] (by decide) _ hq9 N6.out.tk (by simp)).mono ?_
    rintro e w ⟨o, rfl⟩
    simp only [hq9, Rs.err_bind] at HR
    refine ⟨rfl, ?_⟩
    rw [← HR.out]
    exact DEnds.err (BG.out.trans (N6.out.only.trans o).away)
   refine (want_at1 _ g en _ x r1 [59] (by decide) _ hq9 N6.out.tk (by simp)).mono ?_
   rintro e w10 ⟨o, rfl, t⟩
   have N9 := hid (N6.out.on o t)
   have K9 := hid (HTS1.out.wants hq9)
   simp only [hq9, Rs.ok_bind] at HR
   clear o t hq9
   have D10 := hid (HD.out.only H.out (WO.out.trans N9.out.only))
   obtain ⟨AN, cN, hv, hcl, hrd⟩ := D10.out.p.form
   have HV := hid hv
   have g5 := N9.out.tk.c5
   rw [hv] at g5
   have hgz := N9.out.tk.lt
   have hbz := N9.out.blk.lt
   have N9V : Hid (OwnP w10 (g + 1) (.slice AN d.sc.pairs.length cN) d.sc.pairs) := by
    show OwnP w10 (g + 1) (.slice AN d.sc.pairs.length cN) d.sc.pairs
    rw [← hv]; exact D10.out.p
   have HOG := hid (own_gt N9V.out)
   have c0 := N9.out.blk.cell 0
   have c1 := N9.out.blk.cell 1
   have c2 := N9.out.blk.cell 2
   have c3 := N9.out.blk.cell 3
   have c4 := N9.out.blk.cell 4
   have c5 := N9.out.blk.cell 5
   have c6 := N9.out.blk.cell 6
   have c7 := N9.out.blk.cell 7
   have c8 := N9.out.blk.cell 8
   clear hv hcl hrd
   go_wp2_with fail
   refine wp_region_any (by kernel_rfl) ?_
   change wpAny _ _ _ _ _ _ _ (World.drew _)
   refine tK 0 ?_ rfl (by kernel_rfl) (fun _ _ _ h => h) (Or.inl ⟨by rfl, fun w => ?_⟩) ?_; rotate_left; (go_simp; try with_reducible rfl)
   try simp only [Act.put, sS]
   refine tK 1 ?_ rfl (by kernel_rfl) (fun _ _ _ h => h) (Or.inl ⟨by rfl, fun w => ?_⟩) ?_; rotate_left; (go_simp; try with_reducible rfl)
   try simp only [Act.put, sS]
   refine tK 2 ?_ rfl (by kernel_rfl) (fun _ _ _ h => h) (Or.inl ⟨by rfl, fun w => ?_⟩) ?_; rotate_left; (go_simp; try with_reducible rfl)
   try simp only [Act.put, sS]
   refine tK 3 ?_ rfl (by kernel_rfl) (fun _ _ _ h => h) (Or.inl ⟨by rfl, fun w => ?_⟩) ?_; rotate_left; (go_simp; try with_reducible rfl)
   try simp only [Act.put, sS]
   refine tK 4 ?_ rfl (by kernel_rfl) (fun _ _ _ h => h) (Or.inl ⟨by rfl, fun w => ?_⟩) ?_; rotate_left; (go_simp; try with_reducible rfl)
   try simp only [Act.put, sS]
   refine tR [5, 6] (by kernel_rfl) rfl ?_
   refine rC rfl (fun K hK => ?_) ?_
   ·
    (go_simp; refine hK _ _ ?_; clear hK K; try simp only [Act.put, sS])
    refine tR [6] (by kernel_rfl) rfl ?_
    refine rC rfl (fun K hK => ?_) ?_
    ·
     (go_simp; refine hK _ _ ?_; clear hK K; try simp only [Act.put, sS])
     refine tR [7] (by kernel_rfl) rfl ?_
     refine rC rfl (fun K hK => ?_) ?_
     ·
      (go_simp; refine hK _ _ ?_; clear hK K; try simp only [Act.put, sS])
      refine tR [8] (by kernel_rfl) rfl ?_
      refine rC rfl (fun K hK => ?_) ?_
      ·
       refine step_apg _ (by rfl) (.tmp 39) (.tmp 41) 23 57 (.agg #[.int .i64 0, .int .i64 0, .int .i64 0, .int .i64 0, .int .i64 0, .int .i64 0, .int .i64 0, .int .i64 0, .int .i64 0]) 9 72 rfl Tryz.underlying23 info_P rfl (by decide) (g + 1) (.slice AN d.sc.pairs.length cN) d.sc.pairs.length (rcells Par.cs d.sc.pairs) rfl (N9V.out.on ((Below.refl w10.heap.size w10).alloc (Nat.le_refl _) (.cells #[.int .i64 i0, .int .i64 i1, .int .i64 0, .int .i64 0, .int .i64 0, .int .i64 0, .int .i64 0, .int .i64 0, .int .i64 0] 57))).drw _ 1 1 (Par.cs ⟨i0, i1, vc0, 0⟩) rfl ⟨_, shows_drew (shows_P w10 ⟨i0, i1, vc0, 0⟩ _ rfl)⟩ (Par.cs_one ⟨i0, i1, vc0, 0⟩) (by simp only [maxLen]; omega) (by omega) (by simp; omega) ?_
       intro v4 w12 ho4 hg4 _
       replace hg4 := undrewg hg4
       have HO4 := hid (OwnP.snoc (x := ⟨i0, i1, vc0, 0⟩) ho4)
       obtain ⟨A4, c4n, rfl, hc4, hr4⟩ := HO4.out.form
       clear hr4 hc4 ho4
       have t12 := (N9.out.tk.alloc (.cells #[.int .i64 i0, .int .i64 i1, .int .i64 0, .int .i64 0, .int .i64 0, .int .i64 0, .int .i64 0, .int .i64 0, .int .i64 0] 57)).grown hg4 HOG.out
       have h5w := t12.c5
       rw [HV.out] at h5w
       have f5w := t12.fr 5
       refine hK _ _ ?_
       clear hK K
       try simp only [Act.put, sS]
       refine tK 9 ?_ rfl (by kernel_rfl) (fun _ _ _ h => h) (Or.inl ⟨by rfl, fun w => ?_⟩) ?_; rotate_left; (go_simp; try with_reducible rfl)
       try simp only [Act.put, sS]
       refine tK 10 ?_ rfl (by kernel_rfl) (fun _ _ _ h => h) (Or.inl ⟨by rfl, fun w => ?_⟩) ?_; rotate_left; (go_simp; try with_reducible rfl)
       try simp only [Act.put, sS]
       refine tK 11 ?_ rfl (by kernel_rfl) (fun _ _ _ h => h) (Or.inl ⟨by rfl, fun w => ?_⟩) ?_; rotate_left; (go_simp; try with_reducible rfl)
       try simp only [Act.put, sS]
       refine tR [12] (by kernel_rfl) rfl ?_
       refine rC rfl (fun K hK => ?_) ?_
       ·
        (go_simp; refine hK _ _ ?_; clear hK K; try simp only [Act.put, sS])
        refine wpAny_done (by kernel_rfl) ?_ _
        have HO5 : Hid (OwnP w12 (g + 1) (.slice A4 (d.sc.pairs.length + 1) c4n) (d.sc.pairs ++ [⟨i0, i1, vc0, 0⟩])) := by
         have := HO4.out
         rw [List.length_append] at this
         exact this
        have hgx : (w10.alloc (.cells #[.int .i64 i0, .int .i64 i1, .int .i64 0, .int .i64 0, .int .i64 0, .int .i64 0, .int .i64 0, .int .i64 0, .int .i64 0] 57)).grownBy w12 x.p.ownBlock := by rw [HV.out]; exact hg4
        have TD := hid (Dr.addp D10.out N9.out.tk hgx HO5.out)
        have hb0 : Far g gm x W w10 := BG.out.trans N9.out.only.away
        have hb4 : Far g gm x W w12 := (hb0.alloc (.cells #[.int .i64 i0, .int .i64 i1, .int .i64 0, .int .i64 0, .int .i64 0, .int .i64 0, .int .i64 0, .int .i64 0, .int .i64 0] 57)).grown hgx (fun b hb => Or.inr (Or.inr (Or.inr (Or.inl hb))))
        have HB5 := hid (hb4.setCell 5 (.slice A4 (d.sc.pairs.length + 1) c4n))
        go_end0
        rw [← HR.out]
        exact DEnds.ok HB5.out TD.out.1 TD.out.2
       exact rN
      exact rN
     exact rN
    exact rN
   refine rC rfl (fun K hK => ?_) ?_
   ·
    (go_simp; refine hK _ _ ?_; clear hK K; try simp only [Act.put, sS])
    refine tR [5, 7] (by kernel_rfl) rfl ?_
    refine rC rfl (fun K hK => ?_) ?_
    ·
     (go_simp; refine hK _ _ ?_; clear hK K; try simp only [Act.put, sS])
     refine tR [7] (by kernel_rfl) rfl ?_
     refine rC rfl (fun K hK => ?_) ?_
     ·
      (go_simp; refine hK _ _ ?_; clear hK K; try simp only [Act.put, sS])
      refine tR [8] (by kernel_rfl) rfl ?_
      refine rC rfl (fun K hK => ?_) ?_
      ·
       refine step_apg _ (by rfl) (.tmp 39) (.tmp 41) 23 57 (.agg #[.int .i64 0, .int .i64 0, .int .i64 0, .int .i64 0, .int .i64 0, .int .i64 0, .int .i64 0, .int .i64 0, .int .i64 0]) 9 72 rfl Tryz.underlying23 info_P rfl (by decide) (g + 1) (.slice AN d.sc.pairs.length cN) d.sc.pairs.length (rcells Par.cs d.sc.pairs) rfl (N9V.out.on ((Below.refl w10.heap.size w10).alloc (Nat.le_refl _) (.cells #[.int .i64 i0, .int .i64 i1, .int .i64 0, .int .i64 0, .int .i64 0, .int .i64 0, .int .i64 0, .int .i64 0, .int .i64 0] 57))).drw _ 1 1 (Par.cs ⟨i0, i1, vc0, 0⟩) rfl ⟨_, shows_drew (shows_P w10 ⟨i0, i1, vc0, 0⟩ _ rfl)⟩ (Par.cs_one ⟨i0, i1, vc0, 0⟩) (by simp only [maxLen]; omega) (by omega) (by simp; omega) ?_
       intro v4 w12 ho4 hg4 _
       replace hg4 := undrewg hg4
       have HO4 := hid (OwnP.snoc (x := ⟨i0, i1, vc0, 0⟩) ho4)
       obtain ⟨A4, c4n, rfl, hc4, hr4⟩ := HO4.out.form
       clear hr4 hc4 ho4
       have t12 := (N9.out.tk.alloc (.cells #[.int .i64 i0, .int .i64 i1, .int .i64 0, .int .i64 0, .int .i64 0, .int .i64 0, .int .i64 0, .int .i64 0, .int .i64 0] 57)).grown hg4 HOG.out
       have h5w := t12.c5
       rw [HV.out] at h5w
       have f5w := t12.fr 5
       refine hK _ _ ?_
       clear hK K
       try simp only [Act.put, sS]
       refine tK 9 ?_ rfl (by kernel_rfl) (fun _ _ _ h => h) (Or.inl ⟨by rfl, fun w => ?_⟩) ?_; rotate_left; (go_simp; try with_reducible rfl)
       try simp only [Act.put, sS]
       refine tK 10 ?_ rfl (by kernel_rfl) (fun _ _ _ h => h) (Or.inl ⟨by rfl, fun w => ?_⟩) ?_; rotate_left; (go_simp; try with_reducible rfl)
       try simp only [Act.put, sS]
       refine tK 11 ?_ rfl (by kernel_rfl) (fun _ _ _ h => h) (Or.inl ⟨by rfl, fun w => ?_⟩) ?_; rotate_left; (go_simp; try with_reducible rfl)
       try simp only [Act.put, sS]
       refine tR [12] (by kernel_rfl) rfl ?_
       refine rC rfl (fun K hK => ?_) ?_
       ·
        (go_simp; refine hK _ _ ?_; clear hK K; try simp only [Act.put, sS])
        refine wpAny_done (by kernel_rfl) ?_ _
        have HO5 : Hid (OwnP w12 (g + 1) (.slice A4 (d.sc.pairs.length + 1) c4n) (d.sc.pairs ++ [⟨i0, i1, vc0, 0⟩])) := by
         have := HO4.out
         rw [List.length_append] at this
         exact this
        have hgx : (w10.alloc (.cells #[.int .i64 i0, .int .i64 i1, .int .i64 0, .int .i64 0, .int .i64 0, .int .i64 0, .int .i64 0, .int .i64 0, .int .i64 0] 57)).grownBy w12 x.p.ownBlock := by rw [HV.out]; exact hg4
        have TD := hid (Dr.addp D10.out N9.out.tk hgx HO5.out)
        have hb0 : Far g gm x W w10 := BG.out.trans N9.out.only.away
        have hb4 : Far g gm x W w12 := (hb0.alloc (.cells #[.int .i64 i0, .int .i64 i1, .int .i64 0, .int .i64 0, .int .i64 0, .int .i64 0, .int .i64 0, .int .i64 0, .int .i64 0] 57)).grown hgx (fun b hb => Or.inr (Or.inr (Or.inr (Or.inl hb))))
        have HB5 := hid (hb4.setCell 5 (.slice A4 (d.sc.pairs.length + 1) c4n))
        go_end0
        rw [← HR.out]
        exact DEnds.ok HB5.out TD.out.1 TD.out.2
       exact rN
      exact rN
     exact rN
    refine rC rfl (fun K hK => ?_) ?_
    ·
     (go_simp; refine hK _ _ ?_; clear hK K; try simp only [Act.put, sS])
     refine tR [5] (by kernel_rfl) rfl ?_
     refine rC rfl (fun K hK => ?_) ?_
     ·
      (go_simp; refine hK _ _ ?_; clear hK K; try simp only [Act.put, sS])
      refine tR [8] (by kernel_rfl) rfl ?_
      refine rC rfl (fun K hK => ?_) ?_
      ·
       refine step_apg _ (by rfl) (.tmp 39) (.tmp 41) 23 57 (.agg #[.int .i64 0, .int .i64 0, .int .i64 0, .int .i64 0, .int .i64 0, .int .i64 0, .int .i64 0, .int .i64 0, .int .i64 0]) 9 72 rfl Tryz.underlying23 info_P rfl (by decide) (g + 1) (.slice AN d.sc.pairs.length cN) d.sc.pairs.length (rcells Par.cs d.sc.pairs) rfl (N9V.out.on ((Below.refl w10.heap.size w10).alloc (Nat.le_refl _) (.cells #[.int .i64 i0, .int .i64 i1, .int .i64 0, .int .i64 0, .int .i64 0, .int .i64 0, .int .i64 0, .int .i64 0, .int .i64 0] 57))).drw _ 1 1 (Par.cs ⟨i0, i1, vc0, 0⟩) rfl ⟨_, shows_drew (shows_P w10 ⟨i0, i1, vc0, 0⟩ _ rfl)⟩ (Par.cs_one ⟨i0, i1, vc0, 0⟩) (by simp only [maxLen]; omega) (by omega) (by simp; omega) ?_
       intro v4 w12 ho4 hg4 _
       replace hg4 := undrewg hg4
       have HO4 := hid (OwnP.snoc (x := ⟨i0, i1, vc0, 0⟩) ho4)
       obtain ⟨A4, c4n, rfl, hc4, hr4⟩ := HO4.out.form
       clear hr4 hc4 ho4
       have t12 := (N9.out.tk.alloc (.cells #[.int .i64 i0, .int .i64 i1, .int .i64 0, .int .i64 0, .int .i64 0, .int .i64 0, .int .i64 0, .int .i64 0, .int .i64 0] 57)).grown hg4 HOG.out
       have h5w := t12.c5
       rw [HV.out] at h5w
       have f5w := t12.fr 5
       refine hK _ _ ?_
       clear hK K
       try simp only [Act.put, sS]
       refine tK 9 ?_ rfl (by kernel_rfl) (fun _ _ _ h => h) (Or.inl ⟨by rfl, fun w => ?_⟩) ?_; rotate_left; (go_simp; try with_reducible rfl)
       try simp only [Act.put, sS]
       refine tK 10 ?_ rfl (by kernel_rfl) (fun _ _ _ h => h) (Or.inl ⟨by rfl, fun w => ?_⟩) ?_; rotate_left; (go_simp; try with_reducible rfl)
       try simp only [Act.put, sS]
       refine tK 11 ?_ rfl (by kernel_rfl) (fun _ _ _ h => h) (Or.inl ⟨by rfl, fun w => ?_⟩) ?_; rotate_left; (go_simp; try with_reducible rfl)
       try simp only [Act.put, sS]
       refine tR [12] (by kernel_rfl) rfl ?_
       refine rC rfl (fun K hK => ?_) ?_
       ·
        (go_simp; refine hK _ _ ?_; clear hK K; try simp only [Act.put, sS])
        refine wpAny_done (by kernel_rfl) ?_ _
        have HO5 : Hid (OwnP w12 (g + 1) (.slice A4 (d.sc.pairs.length + 1) c4n) (d.sc.pairs ++ [⟨i0, i1, vc0, 0⟩])) := by
         have := HO4.out
         rw [List.length_append] at this
         exact this
        have hgx : (w10.alloc (.cells #[.int .i64 i0, .int .i64 i1, .int .i64 0, .int .i64 0, .int .i64 0, .int .i64 0, .int .i64 0, .int .i64 0, .int .i64 0] 57)).grownBy w12 x.p.ownBlock := by rw [HV.out]; exact hg4
        have TD := hid (Dr.addp D10.out N9.out.tk hgx HO5.out)
        have hb0 : Far g gm x W w10 := BG.out.trans N9.out.only.away
        have hb4 : Far g gm x W w12 := (hb0.alloc (.cells #[.int .i64 i0, .int .i64 i1, .int .i64 0, .int .i64 0, .int .i64 0, .int .i64 0, .int .i64 0, .int .i64 0, .int .i64 0] 57)).grown hgx (fun b hb => Or.inr (Or.inr (Or.inr (Or.inl hb))))
        have HB5 := hid (hb4.setCell 5 (.slice A4 (d.sc.pairs.length + 1) c4n))
        go_end0
        rw [← HR.out]
        exact DEnds.ok HB5.out TD.out.1 TD.out.2
       exact rN
      exact rN
     exact rN
    exact rN
   exact rN
  have hwt : withinR r1 = numR r7 := by simp only [withinR, hq7]
  simp only [hwt] at HR
  have K7 := hid (HTS1.out.has hq7)
  refine (has_one _ g en x r1 [119, 105, 116, 104, 105, 110] (by decide) _ hq7 N2.out.tk).mono ?_
  rintro e w6 ⟨rfl, o, t⟩
  have N6 := hid (N2.out.on o t)
  clear o t hq7 hwt
  go_wp2_with fail
  rcases hq6 : numR r7 with ⟨kb, r8⟩ | ⟨r8, k⟩
  rotate_left
  ·
   refine (number_one _ g en x r7 _ hq6 N6.out.tk).mono ?_
   rintro e w ⟨o, rfl⟩
   simp only [hq6, Rs.err_bind] at HR
   refine ⟨rfl, ?_⟩
   rw [← HR.out]
   exact DEnds.err (BG.out.trans (N6.out.only.trans o).away)
  refine (number_one _ g en x r7 _ hq6 N6.out.tk).mono ?_
  rintro e w7 ⟨o, rfl, t⟩
  have N7 := hid (N6.out.on o t)
  have K8 := hid (K7.out.nr hq6)
  simp only [hq6, Rs.ok_bind] at HR
  have c8 := N7.out.blk.cell 8
  have f8 := N7.out.blk.frozen 8
  have N7 := hid ((N7.out.put 8 (.int .i64 kb)).cast (show _ = #[.int .i64 i0, .int .i64 i1, .int .i64 0, .int .i64 0, .int .i64 0, .int .i64 0, .int .i64 0, .int .i64 0, .int .i64 kb] by simp))
  clear o t hq6
  go_wp2_with fail
  rcases hq9 : wantsR [mSemi] r8 with ⟨u9, r9⟩ | ⟨r9, k⟩
  rotate_left
  ·
   refine (want_at1 _ g en _ x r8 [59] (by decide) _ hq9 N7.out.tk (by simp)).mono ?_
   rintro e w ⟨o, rfl⟩
   simp only [hq9, Rs.err_bind] at HR
   refine ⟨rfl, ?_⟩
   rw [← HR.out]
   exact DEnds.err (BG.out.trans (N7.out.only.trans o).away)
  refine (want_at1 _ g en _ x r8 [59] (by decide) _ hq9 N7.out.tk (by simp)).mono ?_
  rintro e w10 ⟨o, rfl, t⟩
  have N9 := hid (N7.out.on o t)
  have K9 := hid (K8.out.1.wants hq9)
  simp only [hq9, Rs.ok_bind] at HR
  clear o t hq9
  have D10 := hid (HD.out.only H.out (WO.out.trans N9.out.only))
  obtain ⟨AN, cN, hv, hcl, hrd⟩ := D10.out.p.form
  have HV := hid hv
  have g5 := N9.out.tk.c5
  rw [hv] at g5
  have hgz := N9.out.tk.lt
  have hbz := N9.out.blk.lt
  have N9V : Hid (OwnP w10 (g + 1) (.slice AN d.sc.pairs.length cN) d.sc.pairs) := by
   show OwnP w10 (g + 1) (.slice AN d.sc.pairs.length cN) d.sc.pairs
   rw [← hv]; exact D10.out.p
  have HOG := hid (own_gt N9V.out)
  have c0 := N9.out.blk.cell 0
  have c1 := N9.out.blk.cell 1
  have c2 := N9.out.blk.cell 2
  have c3 := N9.out.blk.cell 3
  have c4 := N9.out.blk.cell 4
  have c5 := N9.out.blk.cell 5
  have c6 := N9.out.blk.cell 6
  have c7 := N9.out.blk.cell 7
  have c8 := N9.out.blk.cell 8
  clear hv hcl hrd
  go_wp2_with fail
  refine wp_region_any (by kernel_rfl) ?_
  change wpAny _ _ _ _ _ _ _ (World.drew _)
  refine tK 0 ?_ rfl (by kernel_rfl) (fun _ _ _ h => h) (Or.inl ⟨by rfl, fun w => ?_⟩) ?_; rotate_left; (go_simp; try with_reducible rfl)
  try simp only [Act.put, sS]
  refine tK 1 ?_ rfl (by kernel_rfl) (fun _ _ _ h => h) (Or.inl ⟨by rfl, fun w => ?_⟩) ?_; rotate_left; (go_simp; try with_reducible rfl)
  try simp only [Act.put, sS]
  refine tK 2 ?_ rfl (by kernel_rfl) (fun _ _ _ h => h) (Or.inl ⟨by rfl, fun w => ?_⟩) ?_; rotate_left; (go_simp; try with_reducible rfl)
  try simp only [Act.put, sS]
  refine tK 3 ?_ rfl (by kernel_rfl) (fun _ _ _ h => h) (Or.inl ⟨by rfl, fun w => ?_⟩) ?_; rotate_left; (go_simp; try with_reducible rfl)
  try simp only [Act.put, sS]
  refine tK 4 ?_ rfl (by kernel_rfl) (fun _ _ _ h => h) (Or.inl ⟨by rfl, fun w => ?_⟩) ?_; rotate_left; (go_simp; try with_reducible rfl)
  try simp only [Act.put, sS]
  refine tR [5, 6] (by kernel_rfl) rfl ?_
  refine rC rfl (fun K hK => ?_) ?_
  ·
   (go_simp; refine hK _ _ ?_; clear hK K; try simp only [Act.put, sS])
   refine tR [6] (by kernel_rfl) rfl ?_
   refine rC rfl (fun K hK => ?_) ?_
   ·
    (go_simp; refine hK _ _ ?_; clear hK K; try simp only [Act.put, sS])
    refine tR [7] (by kernel_rfl) rfl ?_
    refine rC rfl (fun K hK => ?_) ?_
    ·
     (go_simp; refine hK _ _ ?_; clear hK K; try simp only [Act.put, sS])
     refine tR [8] (by kernel_rfl) rfl ?_
     refine rC rfl (fun K hK => ?_) ?_
     ·
      refine step_apg _ (by rfl) (.tmp 39) (.tmp 41) 23 57 (.agg #[.int .i64 0, .int .i64 0, .int .i64 0, .int .i64 0, .int .i64 0, .int .i64 0, .int .i64 0, .int .i64 0, .int .i64 0]) 9 72 rfl Tryz.underlying23 info_P rfl (by decide) (g + 1) (.slice AN d.sc.pairs.length cN) d.sc.pairs.length (rcells Par.cs d.sc.pairs) rfl (N9V.out.on ((Below.refl w10.heap.size w10).alloc (Nat.le_refl _) (.cells #[.int .i64 i0, .int .i64 i1, .int .i64 0, .int .i64 0, .int .i64 0, .int .i64 0, .int .i64 0, .int .i64 0, .int .i64 kb] 57))).drw _ 1 1 (Par.cs ⟨i0, i1, vc0, kb⟩) rfl ⟨_, shows_drew (shows_P w10 ⟨i0, i1, vc0, kb⟩ _ rfl)⟩ (Par.cs_one ⟨i0, i1, vc0, kb⟩) (by simp only [maxLen]; omega) (by omega) (by simp; omega) ?_
      intro v4 w12 ho4 hg4 _
      replace hg4 := undrewg hg4
      have HO4 := hid (OwnP.snoc (x := ⟨i0, i1, vc0, kb⟩) ho4)
      obtain ⟨A4, c4n, rfl, hc4, hr4⟩ := HO4.out.form
      clear hr4 hc4 ho4
      have t12 := (N9.out.tk.alloc (.cells #[.int .i64 i0, .int .i64 i1, .int .i64 0, .int .i64 0, .int .i64 0, .int .i64 0, .int .i64 0, .int .i64 0, .int .i64 kb] 57)).grown hg4 HOG.out
      have h5w := t12.c5
      rw [HV.out] at h5w
      have f5w := t12.fr 5
      refine hK _ _ ?_
      clear hK K
      try simp only [Act.put, sS]
      refine tK 9 ?_ rfl (by kernel_rfl) (fun _ _ _ h => h) (Or.inl ⟨by rfl, fun w => ?_⟩) ?_; rotate_left; (go_simp; try with_reducible rfl)
      try simp only [Act.put, sS]
      refine tK 10 ?_ rfl (by kernel_rfl) (fun _ _ _ h => h) (Or.inl ⟨by rfl, fun w => ?_⟩) ?_; rotate_left; (go_simp; try with_reducible rfl)
      try simp only [Act.put, sS]
      refine tK 11 ?_ rfl (by kernel_rfl) (fun _ _ _ h => h) (Or.inl ⟨by rfl, fun w => ?_⟩) ?_; rotate_left; (go_simp; try with_reducible rfl)
      try simp only [Act.put, sS]
      refine tR [12] (by kernel_rfl) rfl ?_
      refine rC rfl (fun K hK => ?_) ?_
      ·
       (go_simp; refine hK _ _ ?_; clear hK K; try simp only [Act.put, sS])
       refine wpAny_done (by kernel_rfl) ?_ _
       have HO5 : Hid (OwnP w12 (g + 1) (.slice A4 (d.sc.pairs.length + 1) c4n) (d.sc.pairs ++ [⟨i0, i1, vc0, kb⟩])) := by
        have := HO4.out
        rw [List.length_append] at this
        exact this
       have hgx : (w10.alloc (.cells #[.int .i64 i0, .int .i64 i1, .int .i64 0, .int .i64 0, .int .i64 0, .int .i64 0, .int .i64 0, .int .i64 0, .int .i64 kb] 57)).grownBy w12 x.p.ownBlock := by rw [HV.out]; exact hg4
       have TD := hid (Dr.addp D10.out N9.out.tk hgx HO5.out)
       have hb0 : Far g gm x W w10 := BG.out.trans N9.out.only.away
       have hb4 : Far g gm x W w12 := (hb0.alloc (.cells #[.int .i64 i0, .int .i64 i1, .int .i64 0, .int .i64 0, .int .i64 0, .int .i64 0, .int .i64 0, .int .i64 0, .int .i64 kb] 57)).grown hgx (fun b hb => Or.inr (Or.inr (Or.inr (Or.inl hb))))
       have HB5 := hid (hb4.setCell 5 (.slice A4 (d.sc.pairs.length + 1) c4n))
       go_end0
       rw [← HR.out]
       exact DEnds.ok HB5.out TD.out.1 TD.out.2
      exact rN
     exact rN
    exact rN
   exact rN
  refine rC rfl (fun K hK => ?_) ?_
  ·
   (go_simp; refine hK _ _ ?_; clear hK K; try simp only [Act.put, sS])
   refine tR [5, 7] (by kernel_rfl) rfl ?_
   refine rC rfl (fun K hK => ?_) ?_
   ·
    (go_simp; refine hK _ _ ?_; clear hK K; try simp only [Act.put, sS])
    refine tR [7] (by kernel_rfl) rfl ?_
    refine rC rfl (fun K hK => ?_) ?_
    ·
     (go_simp; refine hK _ _ ?_; clear hK K; try simp only [Act.put, sS])
     refine tR [8] (by kernel_rfl) rfl ?_
     refine rC rfl (fun K hK => ?_) ?_
     ·
      refine step_apg _ (by rfl) (.tmp 39) (.tmp 41) 23 57 (.agg #[.int .i64 0, .int .i64 0, .int .i64 0, .int .i64 0, .int .i64 0, .int .i64 0, .int .i64 0, .int .i64 0, .int .i64 0]) 9 72 rfl Tryz.underlying23 info_P rfl (by decide) (g + 1) (.slice AN d.sc.pairs.length cN) d.sc.pairs.length (rcells Par.cs d.sc.pairs) rfl (N9V.out.on ((Below.refl w10.heap.size w10).alloc (Nat.le_refl _) (.cells #[.int .i64 i0, .int .i64 i1, .int .i64 0, .int .i64 0, .int .i64 0, .int .i64 0, .int .i64 0, .int .i64 0, .int .i64 kb] 57))).drw _ 1 1 (Par.cs ⟨i0, i1, vc0, kb⟩) rfl ⟨_, shows_drew (shows_P w10 ⟨i0, i1, vc0, kb⟩ _ rfl)⟩ (Par.cs_one ⟨i0, i1, vc0, kb⟩) (by simp only [maxLen]; omega) (by omega) (by simp; omega) ?_
      intro v4 w12 ho4 hg4 _
      replace hg4 := undrewg hg4
      have HO4 := hid (OwnP.snoc (x := ⟨i0, i1, vc0, kb⟩) ho4)
      obtain ⟨A4, c4n, rfl, hc4, hr4⟩ := HO4.out.form
      clear hr4 hc4 ho4
      have t12 := (N9.out.tk.alloc (.cells #[.int .i64 i0, .int .i64 i1, .int .i64 0, .int .i64 0, .int .i64 0, .int .i64 0, .int .i64 0, .int .i64 0, .int .i64 kb] 57)).grown hg4 HOG.out
      have h5w := t12.c5
      rw [HV.out] at h5w
      have f5w := t12.fr 5
      refine hK _ _ ?_
      clear hK K
      try simp only [Act.put, sS]
      refine tK 9 ?_ rfl (by kernel_rfl) (fun _ _ _ h => h) (Or.inl ⟨by rfl, fun w => ?_⟩) ?_; rotate_left; (go_simp; try with_reducible rfl)
      try simp only [Act.put, sS]
      refine tK 10 ?_ rfl (by kernel_rfl) (fun _ _ _ h => h) (Or.inl ⟨by rfl, fun w => ?_⟩) ?_; rotate_left; (go_simp; try with_reducible rfl)
      try simp only [Act.put, sS]
      refine tK 11 ?_ rfl (by kernel_rfl) (fun _ _ _ h => h) (Or.inl ⟨by rfl, fun w => ?_⟩) ?_; rotate_left; (go_simp; try with_reducible rfl)
      try simp only [Act.put, sS]
      refine tR [12] (by kernel_rfl) rfl ?_
      refine rC rfl (fun K hK => ?_) ?_
      ·
       (go_simp; refine hK _ _ ?_; clear hK K; try simp only [Act.put, sS])
       refine wpAny_done (by kernel_rfl) ?_ _
       have HO5 : Hid (OwnP w12 (g + 1) (.slice A4 (d.sc.pairs.length + 1) c4n) (d.sc.pairs ++ [⟨i0, i1, vc0, kb⟩])) := by
        have := HO4.out
        rw [List.length_append] at this
        exact this
       have hgx : (w10.alloc (.cells #[.int .i64 i0, .int .i64 i1, .int .i64 0, .int .i64 0, .int .i64 0, .int .i64 0, .int .i64 0, .int .i64 0, .int .i64 kb] 57)).grownBy w12 x.p.ownBlock := by rw [HV.out]; exact hg4
       have TD := hid (Dr.addp D10.out N9.out.tk hgx HO5.out)
       have hb0 : Far g gm x W w10 := BG.out.trans N9.out.only.away
       have hb4 : Far g gm x W w12 := (hb0.alloc (.cells #[.int .i64 i0, .int .i64 i1, .int .i64 0, .int .i64 0, .int .i64 0, .int .i64 0, .int .i64 0, .int .i64 0, .int .i64 kb] 57)).grown hgx (fun b hb => Or.inr (Or.inr (Or.inr (Or.inl hb))))
       have HB5 := hid (hb4.setCell 5 (.slice A4 (d.sc.pairs.length + 1) c4n))
       go_end0
       rw [← HR.out]
       exact DEnds.ok HB5.out TD.out.1 TD.out.2
      exact rN
     exact rN
    exact rN
   refine rC rfl (fun K hK => ?_) ?_
   ·
    (go_simp; refine hK _ _ ?_; clear hK K; try simp only [Act.put, sS])
    refine tR [5] (by kernel_rfl) rfl ?_
    refine rC rfl (fun K hK => ?_) ?_
    ·
     (go_simp; refine hK _ _ ?_; clear hK K; try simp only [Act.put, sS])
     refine tR [8] (by kernel_rfl) rfl ?_
     refine rC rfl (fun K hK => ?_) ?_
     ·
      refine step_apg _ (by rfl) (.tmp 39) (.tmp 41) 23 57 (.agg #[.int .i64 0, .int .i64 0, .int .i64 0, .int .i64 0, .int .i64 0, .int .i64 0, .int .i64 0, .int .i64 0, .int .i64 0]) 9 72 rfl Tryz.underlying23 info_P rfl (by decide) (g + 1) (.slice AN d.sc.pairs.length cN) d.sc.pairs.length (rcells Par.cs d.sc.pairs) rfl (N9V.out.on ((Below.refl w10.heap.size w10).alloc (Nat.le_refl _) (.cells #[.int .i64 i0, .int .i64 i1, .int .i64 0, .int .i64 0, .int .i64 0, .int .i64 0, .int .i64 0, .int .i64 0, .int .i64 kb] 57))).drw _ 1 1 (Par.cs ⟨i0, i1, vc0, kb⟩) rfl ⟨_, shows_drew (shows_P w10 ⟨i0, i1, vc0, kb⟩ _ rfl)⟩ (Par.cs_one ⟨i0, i1, vc0, kb⟩) (by simp only [maxLen]; omega) (by omega) (by simp; omega) ?_
      intro v4 w12 ho4 hg4 _
      replace hg4 := undrewg hg4
      have HO4 := hid (OwnP.snoc (x := ⟨i0, i1, vc0, kb⟩) ho4)
      obtain ⟨A4, c4n, rfl, hc4, hr4⟩ := HO4.out.form
      clear hr4 hc4 ho4
      have t12 := (N9.out.tk.alloc (.cells #[.int .i64 i0, .int .i64 i1, .int .i64 0, .int .i64 0, .int .i64 0, .int .i64 0, .int .i64 0, .int .i64 0, .int .i64 kb] 57)).grown hg4 HOG.out
      have h5w := t12.c5
      rw [HV.out] at h5w
      have f5w := t12.fr 5
      refine hK _ _ ?_
      clear hK K
      try simp only [Act.put, sS]
      refine tK 9 ?_ rfl (by kernel_rfl) (fun _ _ _ h => h) (Or.inl ⟨by rfl, fun w => ?_⟩) ?_; rotate_left; (go_simp; try with_reducible rfl)
      try simp only [Act.put, sS]
      refine tK 10 ?_ rfl (by kernel_rfl) (fun _ _ _ h => h) (Or.inl ⟨by rfl, fun w => ?_⟩) ?_; rotate_left; (go_simp; try with_reducible rfl)
      try simp only [Act.put, sS]
      refine tK 11 ?_ rfl (by kernel_rfl) (fun _ _ _ h => h) (Or.inl ⟨by rfl, fun w => ?_⟩) ?_; rotate_left; (go_simp; try with_reducible rfl)
      try simp only [Act.put, sS]
      refine tR [12] (by kernel_rfl) rfl ?_
      refine rC rfl (fun K hK => ?_) ?_
      ·
       (go_simp; refine hK _ _ ?_; clear hK K; try simp only [Act.put, sS])
       refine wpAny_done (by kernel_rfl) ?_ _
       have HO5 : Hid (OwnP w12 (g + 1) (.slice A4 (d.sc.pairs.length + 1) c4n) (d.sc.pairs ++ [⟨i0, i1, vc0, kb⟩])) := by
        have := HO4.out
        rw [List.length_append] at this
        exact this
       have hgx : (w10.alloc (.cells #[.int .i64 i0, .int .i64 i1, .int .i64 0, .int .i64 0, .int .i64 0, .int .i64 0, .int .i64 0, .int .i64 0, .int .i64 kb] 57)).grownBy w12 x.p.ownBlock := by rw [HV.out]; exact hg4
       have TD := hid (Dr.addp D10.out N9.out.tk hgx HO5.out)
       have hb0 : Far g gm x W w10 := BG.out.trans N9.out.only.away
       have hb4 : Far g gm x W w12 := (hb0.alloc (.cells #[.int .i64 i0, .int .i64 i1, .int .i64 0, .int .i64 0, .int .i64 0, .int .i64 0, .int .i64 0, .int .i64 0, .int .i64 kb] 57)).grown hgx (fun b hb => Or.inr (Or.inr (Or.inr (Or.inl hb))))
       have HB5 := hid (hb4.setCell 5 (.slice A4 (d.sc.pairs.length + 1) c4n))
       go_end0
       rw [← HR.out]
       exact DEnds.ok HB5.out TD.out.1 TD.out.2
      exact rN
     exact rN
    exact rN
   exact rN
  exact rN
 have hby : byR r1 = ivalR r2 := by simp only [byR, hq2]
 simp only [hby] at HR
 have K2 := hid (HTS1.out.has hq2)
 refine (has_one _ g en x r1 [98, 121] (by decide) _ hq2 N0.out.tk).mono ?_
 rintro e w2 ⟨rfl, o, t⟩
 have N2 := hid (N0.out.on o t)
 clear o t hq2 hby
 go_wp2_with fail
 rcases hq3 : ivalR r2 with ⟨p, r3⟩ | ⟨r3, k⟩
 rotate_left
 ·
  refine (ival_any _ g en x r2 N2.out.tk K2.out.num (Primes.onl HP1.out N2.out.only) HP1.out.2).mono ?_
  rintro e w ⟨o, h⟩
  rw [hq3] at h
  obtain rfl := h
  simp only [hq3, Rs.err_bind] at HR
  refine ⟨rfl, ?_⟩
  rw [← HR.out]
  exact DEnds.err (BG.out.trans (N2.out.only.trans o).away)
 refine (ival_any _ g en x r2 N2.out.tk K2.out.num (Primes.onl HP1.out N2.out.only) HP1.out.2).mono ?_
 rintro e w3 ⟨o, h⟩
 rw [hq3] at h
 obtain ⟨rfl, t⟩ := h
 have N3 := hid (N2.out.on o t)
 have K3 := hid (K2.out.ival hq3)
 simp only [hq3, Rs.ok_bind] at HR
 have c2 := N3.out.blk.cell 2
 have f2 := N3.out.blk.frozen 2
 have c3 := N3.out.blk.cell 3
 have f3 := N3.out.blk.frozen 3
 have c4 := N3.out.blk.cell 4
 have f4 := N3.out.blk.frozen 4
 have c5 := N3.out.blk.cell 5
 have f5 := N3.out.blk.frozen 5
 have c6 := N3.out.blk.cell 6
 have f6 := N3.out.blk.frozen 6
 have c7 := N3.out.blk.cell 7
 have f7 := N3.out.blk.frozen 7
 have N3 := hid (((((((N3.out.put 2 (.int .i64 p.a)).put 3 (.int .i64 p.b)).put 4 (.int .i64 p.c)).put 5 (.int .i64 p.d)).put 6 (.int .i64 p.e)).put 7 (.int .i64 p.f)).cast (show _ = #[.int .i64 i0, .int .i64 i1, .int .i64 p.a, .int .i64 p.b, .int .i64 p.c, .int .i64 p.d, .int .i64 p.e, .int .i64 p.f, .int .i64 0] by simp))
 clear o t hq3
 go_wp2_with fail
 rcases hq7 : hasR kw_within r3 with _ | r7
 ·
  have hwt : withinR r3 = .ok 0 r3 := by simp only [withinR, hq7]
  simp only [hwt, Rs.ok_bind] at HR
  refine (has_one _ g en x r3 [119, 105, 116, 104, 105, 110] (by decide) _ hq7 N3.out.tk).mono ?_
  rintro e w6 ⟨rfl, o, t⟩
  have N6 := hid (N3.out.on o t)
  clear o t hq7 hwt
  go_wp2_with fail
  rcases hq9 : wantsR [mSemi] r3 with ⟨u9, r9⟩ | ⟨r9, k⟩
  rotate_left
  ·
   refine (want_at1 _ g en _ x r3 [59] (by decide) _ hq9 N6.out.tk (by simp)).mono ?_
   rintro e w ⟨o, rfl⟩
   simp only [hq9, Rs.err_bind] at HR
   refine ⟨rfl, ?_⟩
   rw [← HR.out]
   exact DEnds.err (BG.out.trans (N6.out.only.trans o).away)
  refine (want_at1 _ g en _ x r3 [59] (by decide) _ hq9 N6.out.tk (by simp)).mono ?_
  rintro e w10 ⟨o, rfl, t⟩
  have N9 := hid (N6.out.on o t)
  have K9 := hid (K3.out.wants hq9)
  simp only [hq9, Rs.ok_bind] at HR
  clear o t hq9
  have D10 := hid (HD.out.only H.out (WO.out.trans N9.out.only))
  obtain ⟨AN, cN, hv, hcl, hrd⟩ := D10.out.p.form
  have HV := hid hv
  have g5 := N9.out.tk.c5
  rw [hv] at g5
  have hgz := N9.out.tk.lt
  have hbz := N9.out.blk.lt
  have N9V : Hid (OwnP w10 (g + 1) (.slice AN d.sc.pairs.length cN) d.sc.pairs) := by
   show OwnP w10 (g + 1) (.slice AN d.sc.pairs.length cN) d.sc.pairs
   rw [← hv]; exact D10.out.p
  have HOG := hid (own_gt N9V.out)
  have c0 := N9.out.blk.cell 0
  have c1 := N9.out.blk.cell 1
  have c2 := N9.out.blk.cell 2
  have c3 := N9.out.blk.cell 3
  have c4 := N9.out.blk.cell 4
  have c5 := N9.out.blk.cell 5
  have c6 := N9.out.blk.cell 6
  have c7 := N9.out.blk.cell 7
  have c8 := N9.out.blk.cell 8
  clear hv hcl hrd
  go_wp2_with fail
  refine wp_region_any (by kernel_rfl) ?_
  change wpAny _ _ _ _ _ _ _ (World.drew _)
  refine tK 0 ?_ rfl (by kernel_rfl) (fun _ _ _ h => h) (Or.inl ⟨by rfl, fun w => ?_⟩) ?_; rotate_left; (go_simp; try with_reducible rfl)
  try simp only [Act.put, sS]
  refine tK 1 ?_ rfl (by kernel_rfl) (fun _ _ _ h => h) (Or.inl ⟨by rfl, fun w => ?_⟩) ?_; rotate_left; (go_simp; try with_reducible rfl)
  try simp only [Act.put, sS]
  refine tK 2 ?_ rfl (by kernel_rfl) (fun _ _ _ h => h) (Or.inl ⟨by rfl, fun w => ?_⟩) ?_; rotate_left; (go_simp; try with_reducible rfl)
  try simp only [Act.put, sS]
  refine tK 3 ?_ rfl (by kernel_rfl) (fun _ _ _ h => h) (Or.inl ⟨by rfl, fun w => ?_⟩) ?_; rotate_left; (go_simp; try with_reducible rfl)
  try simp only [Act.put, sS]
  refine tK 4 ?_ rfl (by kernel_rfl) (fun _ _ _ h => h) (Or.inl ⟨by rfl, fun w => ?_⟩) ?_; rotate_left; (go_simp; try with_reducible rfl)
  try simp only [Act.put, sS]
  refine tR [5, 6] (by kernel_rfl) rfl ?_
  refine rC rfl (fun K hK => ?_) ?_
  ·
   (go_simp; refine hK _ _ ?_; clear hK K; try simp only [Act.put, sS])
   refine tR [6] (by kernel_rfl) rfl ?_
   refine rC rfl (fun K hK => ?_) ?_
   ·
    (go_simp; refine hK _ _ ?_; clear hK K; try simp only [Act.put, sS])
    refine tR [7] (by kernel_rfl) rfl ?_
    refine rC rfl (fun K hK => ?_) ?_
    ·
     (go_simp; refine hK _ _ ?_; clear hK K; try simp only [Act.put, sS])
     refine tR [8] (by kernel_rfl) rfl ?_
     refine rC rfl (fun K hK => ?_) ?_
     ·
      refine step_apg _ (by rfl) (.tmp 39) (.tmp 41) 23 57 (.agg #[.int .i64 0, .int .i64 0, .int .i64 0, .int .i64 0, .int .i64 0, .int .i64 0, .int .i64 0, .int .i64 0, .int .i64 0]) 9 72 rfl Tryz.underlying23 info_P rfl (by decide) (g + 1) (.slice AN d.sc.pairs.length cN) d.sc.pairs.length (rcells Par.cs d.sc.pairs) rfl (N9V.out.on ((Below.refl w10.heap.size w10).alloc (Nat.le_refl _) (.cells #[.int .i64 i0, .int .i64 i1, .int .i64 p.a, .int .i64 p.b, .int .i64 p.c, .int .i64 p.d, .int .i64 p.e, .int .i64 p.f, .int .i64 0] 57))).drw _ 1 1 (Par.cs ⟨i0, i1, p, 0⟩) rfl ⟨_, shows_drew (shows_P w10 ⟨i0, i1, p, 0⟩ _ rfl)⟩ (Par.cs_one ⟨i0, i1, p, 0⟩) (by simp only [maxLen]; omega) (by omega) (by simp; omega) ?_
      intro v4 w12 ho4 hg4 _
      replace hg4 := undrewg hg4
      have HO4 := hid (OwnP.snoc (x := ⟨i0, i1, p, 0⟩) ho4)
      obtain ⟨A4, c4n, rfl, hc4, hr4⟩ := HO4.out.form
      clear hr4 hc4 ho4
      have t12 := (N9.out.tk.alloc (.cells #[.int .i64 i0, .int .i64 i1, .int .i64 p.a, .int .i64 p.b, .int .i64 p.c, .int .i64 p.d, .int .i64 p.e, .int .i64 p.f, .int .i64 0] 57)).grown hg4 HOG.out
      have h5w := t12.c5
      rw [HV.out] at h5w
      have f5w := t12.fr 5
      refine hK _ _ ?_
      clear hK K
      try simp only [Act.put, sS]
      refine tK 9 ?_ rfl (by kernel_rfl) (fun _ _ _ h => h) (Or.inl ⟨by rfl, fun w => ?_⟩) ?_; rotate_left; (go_simp; try with_reducible rfl)
      try simp only [Act.put, sS]
      refine tK 10 ?_ rfl (by kernel_rfl) (fun _ _ _ h => h) (Or.inl ⟨by rfl, fun w => ?_⟩) ?_; rotate_left; (go_simp; try with_reducible rfl)
      try simp only [Act.put, sS]
      refine tK 11 ?_ rfl (by kernel_rfl) (fun _ _ _ h => h) (Or.inl ⟨by rfl, fun w => ?_⟩) ?_; rotate_left; (go_simp; try with_reducible rfl)
      try simp only [Act.put, sS]
      refine tR [12] (by kernel_rfl) rfl ?_
      refine rC rfl (fun K hK => ?_) ?_
      ·
       (go_simp; refine hK _ _ ?_; clear hK K; try simp only [Act.put, sS])
       refine wpAny_done (by kernel_rfl) ?_ _
       have HO5 : Hid (OwnP w12 (g + 1) (.slice A4 (d.sc.pairs.length + 1) c4n) (d.sc.pairs ++ [⟨i0, i1, p, 0⟩])) := by
        have := HO4.out
        rw [List.length_append] at this
        exact this
       have hgx : (w10.alloc (.cells #[.int .i64 i0, .int .i64 i1, .int .i64 p.a, .int .i64 p.b, .int .i64 p.c, .int .i64 p.d, .int .i64 p.e, .int .i64 p.f, .int .i64 0] 57)).grownBy w12 x.p.ownBlock := by rw [HV.out]; exact hg4
       have TD := hid (Dr.addp D10.out N9.out.tk hgx HO5.out)
       have hb0 : Far g gm x W w10 := BG.out.trans N9.out.only.away
       have hb4 : Far g gm x W w12 := (hb0.alloc (.cells #[.int .i64 i0, .int .i64 i1, .int .i64 p.a, .int .i64 p.b, .int .i64 p.c, .int .i64 p.d, .int .i64 p.e, .int .i64 p.f, .int .i64 0] 57)).grown hgx (fun b hb => Or.inr (Or.inr (Or.inr (Or.inl hb))))
       have HB5 := hid (hb4.setCell 5 (.slice A4 (d.sc.pairs.length + 1) c4n))
       go_end0
       rw [← HR.out]
       exact DEnds.ok HB5.out TD.out.1 TD.out.2
      exact rN
     exact rN
    exact rN
   exact rN
  refine rC rfl (fun K hK => ?_) ?_
  ·
   (go_simp; refine hK _ _ ?_; clear hK K; try simp only [Act.put, sS])
   refine tR [5, 7] (by kernel_rfl) rfl ?_
   refine rC rfl (fun K hK => ?_) ?_
   ·
    (go_simp; refine hK _ _ ?_; clear hK K; try simp only [Act.put, sS])
    refine tR [7] (by kernel_rfl) rfl ?_
    refine rC rfl (fun K hK => ?_) ?_
    ·
     (go_simp; refine hK _ _ ?_; clear hK K; try simp only [Act.put, sS])
     refine tR [8] (by kernel_rfl) rfl ?_
     refine rC rfl (fun K hK => ?_) ?_
     ·
      refine step_apg _ (by rfl) (.tmp 39) (.tmp 41) 23 57 (.agg #[.int .i64 0, .int .i64 0, .int .i64 0, .int .i64 0, .int .i64 0, .int .i64 0, .int .i64 0, .int .i64 0, .int .i64 0]) 9 72 rfl Tryz.underlying23 info_P rfl (by decide) (g + 1) (.slice AN d.sc.pairs.length cN) d.sc.pairs.length (rcells Par.cs d.sc.pairs) rfl (N9V.out.on ((Below.refl w10.heap.size w10).alloc (Nat.le_refl _) (.cells #[.int .i64 i0, .int .i64 i1, .int .i64 p.a, .int .i64 p.b, .int .i64 p.c, .int .i64 p.d, .int .i64 p.e, .int .i64 p.f, .int .i64 0] 57))).drw _ 1 1 (Par.cs ⟨i0, i1, p, 0⟩) rfl ⟨_, shows_drew (shows_P w10 ⟨i0, i1, p, 0⟩ _ rfl)⟩ (Par.cs_one ⟨i0, i1, p, 0⟩) (by simp only [maxLen]; omega) (by omega) (by simp; omega) ?_
      intro v4 w12 ho4 hg4 _
      replace hg4 := undrewg hg4
      have HO4 := hid (OwnP.snoc (x := ⟨i0, i1, p, 0⟩) ho4)
      obtain ⟨A4, c4n, rfl, hc4, hr4⟩ := HO4.out.form
      clear hr4 hc4 ho4
      have t12 := (N9.out.tk.alloc (.cells #[.int .i64 i0, .int .i64 i1, .int .i64 p.a, .int .i64 p.b, .int .i64 p.c, .int .i64 p.d, .int .i64 p.e, .int .i64 p.f, .int .i64 0] 57)).grown hg4 HOG.out
      have h5w := t12.c5
      rw [HV.out] at h5w
      have f5w := t12.fr 5
      refine hK _ _ ?_
      clear hK K
      try simp only [Act.put, sS]
      refine tK 9 ?_ rfl (by kernel_rfl) (fun _ _ _ h => h) (Or.inl ⟨by rfl, fun w => ?_⟩) ?_; rotate_left; (go_simp; try with_reducible rfl)
      try simp only [Act.put, sS]
      refine tK 10 ?_ rfl (by kernel_rfl) (fun _ _ _ h => h) (Or.inl ⟨by rfl, fun w => ?_⟩) ?_; rotate_left; (go_simp; try with_reducible rfl)
      try simp only [Act.put, sS]
      refine tK 11 ?_ rfl (by kernel_rfl) (fun _ _ _ h => h) (Or.inl ⟨by rfl, fun w => ?_⟩) ?_; rotate_left; (go_simp; try with_reducible rfl)
      try simp only [Act.put, sS]
      refine tR [12] (by kernel_rfl) rfl ?_
      refine rC rfl (fun K hK => ?_) ?_
      ·
       (go_simp; refine hK _ _ ?_; clear hK K; try simp only [Act.put, sS])
       refine wpAny_done (by kernel_rfl) ?_ _
       have HO5 : Hid (OwnP w12 (g + 1) (.slice A4 (d.sc.pairs.length + 1) c4n) (d.sc.pairs ++ [⟨i0, i1, p, 0⟩])) := by
        have := HO4.out
        rw [List.length_append] at this
        exact this
       have hgx : (w10.alloc (.cells #[.int .i64 i0, .int .i64 i1, .int .i64 p.a, .int .i64 p.b, .int .i64 p.c, .int .i64 p.d, .int .i64 p.e, .int .i64 p.f, .int .i64 0] 57)).grownBy w12 x.p.ownBlock := by rw [HV.out]; exact hg4
       have TD := hid (Dr.addp D10.out N9.out.tk hgx HO5.out)
       have hb0 : Far g gm x W w10 := BG.out.trans N9.out.only.away
       have hb4 : Far g gm x W w12 := (hb0.alloc (.cells #[.int .i64 i0, .int .i64 i1, .int .i64 p.a, .int .i64 p.b, .int .i64 p.c, .int .i64 p.d, .int .i64 p.e, .int .i64 p.f, .int .i64 0] 57)).grown hgx (fun b hb => Or.inr (Or.inr (Or.inr (Or.inl hb))))
       have HB5 := hid (hb4.setCell 5 (.slice A4 (d.sc.pairs.length + 1) c4n))
       go_end0
       rw [← HR.out]
       exact DEnds.ok HB5.out TD.out.1 TD.out.2
      exact rN
     exact rN
    exact rN
   refine rC rfl (fun K hK => ?_) ?_
   ·
    (go_simp; refine hK _ _ ?_; clear hK K; try simp only [Act.put, sS])
    refine tR [5] (by kernel_rfl) rfl ?_
    refine rC rfl (fun K hK => ?_) ?_
    ·
     (go_simp; refine hK _ _ ?_; clear hK K; try simp only [Act.put, sS])
     refine tR [8] (by kernel_rfl) rfl ?_
     refine rC rfl (fun K hK => ?_) ?_
     ·
      refine step_apg _ (by rfl) (.tmp 39) (.tmp 41) 23 57 (.agg #[.int .i64 0, .int .i64 0, .int .i64 0, .int .i64 0, .int .i64 0, .int .i64 0, .int .i64 0, .int .i64 0, .int .i64 0]) 9 72 rfl Tryz.underlying23 info_P rfl (by decide) (g + 1) (.slice AN d.sc.pairs.length cN) d.sc.pairs.length (rcells Par.cs d.sc.pairs) rfl (N9V.out.on ((Below.refl w10.heap.size w10).alloc (Nat.le_refl _) (.cells #[.int .i64 i0, .int .i64 i1, .int .i64 p.a, .int .i64 p.b, .int .i64 p.c, .int .i64 p.d, .int .i64 p.e, .int .i64 p.f, .int .i64 0] 57))).drw _ 1 1 (Par.cs ⟨i0, i1, p, 0⟩) rfl ⟨_, shows_drew (shows_P w10 ⟨i0, i1, p, 0⟩ _ rfl)⟩ (Par.cs_one ⟨i0, i1, p, 0⟩) (by simp only [maxLen]; omega) (by omega) (by simp; omega) ?_
      intro v4 w12 ho4 hg4 _
      replace hg4 := undrewg hg4
      have HO4 := hid (OwnP.snoc (x := ⟨i0, i1, p, 0⟩) ho4)
      obtain ⟨A4, c4n, rfl, hc4, hr4⟩ := HO4.out.form
      clear hr4 hc4 ho4
      have t12 := (N9.out.tk.alloc (.cells #[.int .i64 i0, .int .i64 i1, .int .i64 p.a, .int .i64 p.b, .int .i64 p.c, .int .i64 p.d, .int .i64 p.e, .int .i64 p.f, .int .i64 0] 57)).grown hg4 HOG.out
      have h5w := t12.c5
      rw [HV.out] at h5w
      have f5w := t12.fr 5
      refine hK _ _ ?_
      clear hK K
      try simp only [Act.put, sS]
      refine tK 9 ?_ rfl (by kernel_rfl) (fun _ _ _ h => h) (Or.inl ⟨by rfl, fun w => ?_⟩) ?_; rotate_left; (go_simp; try with_reducible rfl)
      try simp only [Act.put, sS]
      refine tK 10 ?_ rfl (by kernel_rfl) (fun _ _ _ h => h) (Or.inl ⟨by rfl, fun w => ?_⟩) ?_; rotate_left; (go_simp; try with_reducible rfl)
      try simp only [Act.put, sS]
      refine tK 11 ?_ rfl (by kernel_rfl) (fun _ _ _ h => h) (Or.inl ⟨by rfl, fun w => ?_⟩) ?_; rotate_left; (go_simp; try with_reducible rfl)
      try simp only [Act.put, sS]
      refine tR [12] (by kernel_rfl) rfl ?_
      refine rC rfl (fun K hK => ?_) ?_
      ·
       (go_simp; refine hK _ _ ?_; clear hK K; try simp only [Act.put, sS])
       refine wpAny_done (by kernel_rfl) ?_ _
       have HO5 : Hid (OwnP w12 (g + 1) (.slice A4 (d.sc.pairs.length + 1) c4n) (d.sc.pairs ++ [⟨i0, i1, p, 0⟩])) := by
        have := HO4.out
        rw [List.length_append] at this
        exact this
       have hgx : (w10.alloc (.cells #[.int .i64 i0, .int .i64 i1, .int .i64 p.a, .int .i64 p.b, .int .i64 p.c, .int .i64 p.d, .int .i64 p.e, .int .i64 p.f, .int .i64 0] 57)).grownBy w12 x.p.ownBlock := by rw [HV.out]; exact hg4
       have TD := hid (Dr.addp D10.out N9.out.tk hgx HO5.out)
       have hb0 : Far g gm x W w10 := BG.out.trans N9.out.only.away
       have hb4 : Far g gm x W w12 := (hb0.alloc (.cells #[.int .i64 i0, .int .i64 i1, .int .i64 p.a, .int .i64 p.b, .int .i64 p.c, .int .i64 p.d, .int .i64 p.e, .int .i64 p.f, .int .i64 0] 57)).grown hgx (fun b hb => Or.inr (Or.inr (Or.inr (Or.inl hb))))
       have HB5 := hid (hb4.setCell 5 (.slice A4 (d.sc.pairs.length + 1) c4n))
       go_end0
       rw [← HR.out]
       exact DEnds.ok HB5.out TD.out.1 TD.out.2
      exact rN
     exact rN
    exact rN
   exact rN
  exact rN
 have hwt : withinR r3 = numR r7 := by simp only [withinR, hq7]
 simp only [hwt] at HR
 have K7 := hid (K3.out.has hq7)
 refine (has_one _ g en x r3 [119, 105, 116, 104, 105, 110] (by decide) _ hq7 N3.out.tk).mono ?_
 rintro e w6 ⟨rfl, o, t⟩
 have N6 := hid (N3.out.on o t)
 clear o t hq7 hwt
 go_wp2_with fail
 rcases hq6 : numR r7 with ⟨kb, r8⟩ | ⟨r8, k⟩
 rotate_left
 ·
  refine (number_one _ g en x r7 _ hq6 N6.out.tk).mono ?_
  rintro e w ⟨o, rfl⟩
  simp only [hq6, Rs.err_bind] at HR
  refine ⟨rfl, ?_⟩
  rw [← HR.out]
  exact DEnds.err (BG.out.trans (N6.out.only.trans o).away)
 refine (number_one _ g en x r7 _ hq6 N6.out.tk).mono ?_
 rintro e w7 ⟨o, rfl, t⟩
 have N7 := hid (N6.out.on o t)
 have K8 := hid (K7.out.nr hq6)
 simp only [hq6, Rs.ok_bind] at HR
 have c8 := N7.out.blk.cell 8
 have f8 := N7.out.blk.frozen 8
 have N7 := hid ((N7.out.put 8 (.int .i64 kb)).cast (show _ = #[.int .i64 i0, .int .i64 i1, .int .i64 p.a, .int .i64 p.b, .int .i64 p.c, .int .i64 p.d, .int .i64 p.e, .int .i64 p.f, .int .i64 kb] by simp))
 clear o t hq6
 go_wp2_with fail
 rcases hq9 : wantsR [mSemi] r8 with ⟨u9, r9⟩ | ⟨r9, k⟩
 rotate_left
 ·
  refine (want_at1 _ g en _ x r8 [59] (by decide) _ hq9 N7.out.tk (by simp)).mono ?_
  rintro e w ⟨o, rfl⟩
  simp only [hq9, Rs.err_bind] at HR
  refine ⟨rfl, ?_⟩
  rw [← HR.out]
  exact DEnds.err (BG.out.trans (N7.out.only.trans o).away)
 refine (want_at1 _ g en _ x r8 [59] (by decide) _ hq9 N7.out.tk (by simp)).mono ?_
 rintro e w10 ⟨o, rfl, t⟩
 have N9 := hid (N7.out.on o t)
 have K9 := hid (K8.out.1.wants hq9)
 simp only [hq9, Rs.ok_bind] at HR
 clear o t hq9
 have D10 := hid (HD.out.only H.out (WO.out.trans N9.out.only))
 obtain ⟨AN, cN, hv, hcl, hrd⟩ := D10.out.p.form
 have HV := hid hv
 have g5 := N9.out.tk.c5
 rw [hv] at g5
 have hgz := N9.out.tk.lt
 have hbz := N9.out.blk.lt
 have N9V : Hid (OwnP w10 (g + 1) (.slice AN d.sc.pairs.length cN) d.sc.pairs) := by
  show OwnP w10 (g + 1) (.slice AN d.sc.pairs.length cN) d.sc.pairs
  rw [← hv]; exact D10.out.p
 have HOG := hid (own_gt N9V.out)
 have c0 := N9.out.blk.cell 0
 have c1 := N9.out.blk.cell 1
 have c2 := N9.out.blk.cell 2
 have c3 := N9.out.blk.cell 3
 have c4 := N9.out.blk.cell 4
 have c5 := N9.out.blk.cell 5
 have c6 := N9.out.blk.cell 6
 have c7 := N9.out.blk.cell 7
 have c8 := N9.out.blk.cell 8
 clear hv hcl hrd
 go_wp2_with fail
 refine wp_region_any (by kernel_rfl) ?_
 change wpAny _ _ _ _ _ _ _ (World.drew _)
 refine tK 0 ?_ rfl (by kernel_rfl) (fun _ _ _ h => h) (Or.inl ⟨by rfl, fun w => ?_⟩) ?_; rotate_left; (go_simp; try with_reducible rfl)
 try simp only [Act.put, sS]
 refine tK 1 ?_ rfl (by kernel_rfl) (fun _ _ _ h => h) (Or.inl ⟨by rfl, fun w => ?_⟩) ?_; rotate_left; (go_simp; try with_reducible rfl)
 try simp only [Act.put, sS]
 refine tK 2 ?_ rfl (by kernel_rfl) (fun _ _ _ h => h) (Or.inl ⟨by rfl, fun w => ?_⟩) ?_; rotate_left; (go_simp; try with_reducible rfl)
 try simp only [Act.put, sS]
 refine tK 3 ?_ rfl (by kernel_rfl) (fun _ _ _ h => h) (Or.inl ⟨by rfl, fun w => ?_⟩) ?_; rotate_left; (go_simp; try with_reducible rfl)
 try simp only [Act.put, sS]
 refine tK 4 ?_ rfl (by kernel_rfl) (fun _ _ _ h => h) (Or.inl ⟨by rfl, fun w => ?_⟩) ?_; rotate_left; (go_simp; try with_reducible rfl)
 try simp only [Act.put, sS]
 refine tR [5, 6] (by kernel_rfl) rfl ?_
 refine rC rfl (fun K hK => ?_) ?_
 ·
  (go_simp; refine hK _ _ ?_; clear hK K; try simp only [Act.put, sS])
  refine tR [6] (by kernel_rfl) rfl ?_
  refine rC rfl (fun K hK => ?_) ?_
  ·
   (go_simp; refine hK _ _ ?_; clear hK K; try simp only [Act.put, sS])
   refine tR [7] (by kernel_rfl) rfl ?_
   refine rC rfl (fun K hK => ?_) ?_
   ·
    (go_simp; refine hK _ _ ?_; clear hK K; try simp only [Act.put, sS])
    refine tR [8] (by kernel_rfl) rfl ?_
    refine rC rfl (fun K hK => ?_) ?_
    ·
     refine step_apg _ (by rfl) (.tmp 39) (.tmp 41) 23 57 (.agg #[.int .i64 0, .int .i64 0, .int .i64 0, .int .i64 0, .int .i64 0, .int .i64 0, .int .i64 0, .int .i64 0, .int .i64 0]) 9 72 rfl Tryz.underlying23 info_P rfl (by decide) (g + 1) (.slice AN d.sc.pairs.length cN) d.sc.pairs.length (rcells Par.cs d.sc.pairs) rfl (N9V.out.on ((Below.refl w10.heap.size w10).alloc (Nat.le_refl _) (.cells #[.int .i64 i0, .int .i64 i1, .int .i64 p.a, .int .i64 p.b, .int .i64 p.c, .int .i64 p.d, .int .i64 p.e, .int .i64 p.f, .int .i64 kb] 57))).drw _ 1 1 (Par.cs ⟨i0, i1, p, kb⟩) rfl ⟨_, shows_drew (shows_P w10 ⟨i0, i1, p, kb⟩ _ rfl)⟩ (Par.cs_one ⟨i0, i1, p, kb⟩) (by simp only [maxLen]; omega) (by omega) (by simp; omega) ?_
     intro v4 w12 ho4 hg4 _
     replace hg4 := undrewg hg4
     have HO4 := hid (OwnP.snoc (x := ⟨i0, i1, p, kb⟩) ho4)
     obtain ⟨A4, c4n, rfl, hc4, hr4⟩ := HO4.out.form
     clear hr4 hc4 ho4
     have t12 := (N9.out.tk.alloc (.cells #[.int .i64 i0, .int .i64 i1, .int .i64 p.a, .int .i64 p.b, .int .i64 p.c, .int .i64 p.d, .int .i64 p.e, .int .i64 p.f, .int .i64 kb] 57)).grown hg4 HOG.out
     have h5w := t12.c5
     rw [HV.out] at h5w
     have f5w := t12.fr 5
     refine hK _ _ ?_
     clear hK K
     try simp only [Act.put, sS]
     refine tK 9 ?_ rfl (by kernel_rfl) (fun _ _ _ h => h) (Or.inl ⟨by rfl, fun w => ?_⟩) ?_; rotate_left; (go_simp; try with_reducible rfl)
     try simp only [Act.put, sS]
     refine tK 10 ?_ rfl (by kernel_rfl) (fun _ _ _ h => h) (Or.inl ⟨by rfl, fun w => ?_⟩) ?_; rotate_left; (go_simp; try with_reducible rfl)
     try simp only [Act.put, sS]
     refine tK 11 ?_ rfl (by kernel_rfl) (fun _ _ _ h => h) (Or.inl ⟨by rfl, fun w => ?_⟩) ?_; rotate_left; (go_simp; try with_reducible rfl)
     try simp only [Act.put, sS]
     refine tR [12] (by kernel_rfl) rfl ?_
     refine rC rfl (fun K hK => ?_) ?_
     ·
      (go_simp; refine hK _ _ ?_; clear hK K; try simp only [Act.put, sS])
      refine wpAny_done (by kernel_rfl) ?_ _
      have HO5 : Hid (OwnP w12 (g + 1) (.slice A4 (d.sc.pairs.length + 1) c4n) (d.sc.pairs ++ [⟨i0, i1, p, kb⟩])) := by
       have := HO4.out
       rw [List.length_append] at this
       exact this
      have hgx : (w10.alloc (.cells #[.int .i64 i0, .int .i64 i1, .int .i64 p.a, .int .i64 p.b, .int .i64 p.c, .int .i64 p.d, .int .i64 p.e, .int .i64 p.f, .int .i64 kb] 57)).grownBy w12 x.p.ownBlock := by rw [HV.out]; exact hg4
      have TD := hid (Dr.addp D10.out N9.out.tk hgx HO5.out)
      have hb0 : Far g gm x W w10 := BG.out.trans N9.out.only.away
      have hb4 : Far g gm x W w12 := (hb0.alloc (.cells #[.int .i64 i0, .int .i64 i1, .int .i64 p.a, .int .i64 p.b, .int .i64 p.c, .int .i64 p.d, .int .i64 p.e, .int .i64 p.f, .int .i64 kb] 57)).grown hgx (fun b hb => Or.inr (Or.inr (Or.inr (Or.inl hb))))
      have HB5 := hid (hb4.setCell 5 (.slice A4 (d.sc.pairs.length + 1) c4n))
      go_end0
      rw [← HR.out]
      exact DEnds.ok HB5.out TD.out.1 TD.out.2
     exact rN
    exact rN
   exact rN
  exact rN
 refine rC rfl (fun K hK => ?_) ?_
 ·
  (go_simp; refine hK _ _ ?_; clear hK K; try simp only [Act.put, sS])
  refine tR [5, 7] (by kernel_rfl) rfl ?_
  refine rC rfl (fun K hK => ?_) ?_
  ·
   (go_simp; refine hK _ _ ?_; clear hK K; try simp only [Act.put, sS])
   refine tR [7] (by kernel_rfl) rfl ?_
   refine rC rfl (fun K hK => ?_) ?_
   ·
    (go_simp; refine hK _ _ ?_; clear hK K; try simp only [Act.put, sS])
    refine tR [8] (by kernel_rfl) rfl ?_
    refine rC rfl (fun K hK => ?_) ?_
    ·
     refine step_apg _ (by rfl) (.tmp 39) (.tmp 41) 23 57 (.agg #[.int .i64 0, .int .i64 0, .int .i64 0, .int .i64 0, .int .i64 0, .int .i64 0, .int .i64 0, .int .i64 0, .int .i64 0]) 9 72 rfl Tryz.underlying23 info_P rfl (by decide) (g + 1) (.slice AN d.sc.pairs.length cN) d.sc.pairs.length (rcells Par.cs d.sc.pairs) rfl (N9V.out.on ((Below.refl w10.heap.size w10).alloc (Nat.le_refl _) (.cells #[.int .i64 i0, .int .i64 i1, .int .i64 p.a, .int .i64 p.b, .int .i64 p.c, .int .i64 p.d, .int .i64 p.e, .int .i64 p.f, .int .i64 kb] 57))).drw _ 1 1 (Par.cs ⟨i0, i1, p, kb⟩) rfl ⟨_, shows_drew (shows_P w10 ⟨i0, i1, p, kb⟩ _ rfl)⟩ (Par.cs_one ⟨i0, i1, p, kb⟩) (by simp only [maxLen]; omega) (by omega) (by simp; omega) ?_
     intro v4 w12 ho4 hg4 _
     replace hg4 := undrewg hg4
     have HO4 := hid (OwnP.snoc (x := ⟨i0, i1, p, kb⟩) ho4)
     obtain ⟨A4, c4n, rfl, hc4, hr4⟩ := HO4.out.form
     clear hr4 hc4 ho4
     have t12 := (N9.out.tk.alloc (.cells #[.int .i64 i0, .int .i64 i1, .int .i64 p.a, .int .i64 p.b, .int .i64 p.c, .int .i64 p.d, .int .i64 p.e, .int .i64 p.f, .int .i64 kb] 57)).grown hg4 HOG.out
     have h5w := t12.c5
     rw [HV.out] at h5w
     have f5w := t12.fr 5
     refine hK _ _ ?_
     clear hK K
     try simp only [Act.put, sS]
     refine tK 9 ?_ rfl (by kernel_rfl) (fun _ _ _ h => h) (Or.inl ⟨by rfl, fun w => ?_⟩) ?_; rotate_left; (go_simp; try with_reducible rfl)
     try simp only [Act.put, sS]
     refine tK 10 ?_ rfl (by kernel_rfl) (fun _ _ _ h => h) (Or.inl ⟨by rfl, fun w => ?_⟩) ?_; rotate_left; (go_simp; try with_reducible rfl)
     try simp only [Act.put, sS]
     refine tK 11 ?_ rfl (by kernel_rfl) (fun _ _ _ h => h) (Or.inl ⟨by rfl, fun w => ?_⟩) ?_; rotate_left; (go_simp; try with_reducible rfl)
     try simp only [Act.put, sS]
     refine tR [12] (by kernel_rfl) rfl ?_
     refine rC rfl (fun K hK => ?_) ?_
     ·
      (go_simp; refine hK _ _ ?_; clear hK K; try simp only [Act.put, sS])
      refine wpAny_done (by kernel_rfl) ?_ _
      have HO5 : Hid (OwnP w12 (g + 1) (.slice A4 (d.sc.pairs.length + 1) c4n) (d.sc.pairs ++ [⟨i0, i1, p, kb⟩])) := by
       have := HO4.out
       rw [List.length_append] at this
       exact this
      have hgx : (w10.alloc (.cells #[.int .i64 i0, .int .i64 i1, .int .i64 p.a, .int .i64 p.b, .int .i64 p.c, .int .i64 p.d, .int .i64 p.e, .int .i64 p.f, .int .i64 kb] 57)).grownBy w12 x.p.ownBlock := by rw [HV.out]; exact hg4
      have TD := hid (Dr.addp D10.out N9.out.tk hgx HO5.out)
      have hb0 : Far g gm x W w10 := BG.out.trans N9.out.only.away
      have hb4 : Far g gm x W w12 := (hb0.alloc (.cells #[.int .i64 i0, .int .i64 i1, .int .i64 p.a, .int .i64 p.b, .int .i64 p.c, .int .i64 p.d, .int .i64 p.e, .int .i64 p.f, .int .i64 kb] 57)).grown hgx (fun b hb => Or.inr (Or.inr (Or.inr (Or.inl hb))))
      have HB5 := hid (hb4.setCell 5 (.slice A4 (d.sc.pairs.length + 1) c4n))
      go_end0
      rw [← HR.out]
      exact DEnds.ok HB5.out TD.out.1 TD.out.2
     exact rN
    exact rN
   exact rN
  refine rC rfl (fun K hK => ?_) ?_
  ·
   (go_simp; refine hK _ _ ?_; clear hK K; try simp only [Act.put, sS])
   refine tR [5] (by kernel_rfl) rfl ?_
   refine rC rfl (fun K hK => ?_) ?_
   ·
    (go_simp; refine hK _ _ ?_; clear hK K; try simp only [Act.put, sS])
    refine tR [8] (by kernel_rfl) rfl ?_
    refine rC rfl (fun K hK => ?_) ?_
    ·
     refine step_apg _ (by rfl) (.tmp 39) (.tmp 41) 23 57 (.agg #[.int .i64 0, .int .i64 0, .int .i64 0, .int .i64 0, .int .i64 0, .int .i64 0, .int .i64 0, .int .i64 0, .int .i64 0]) 9 72 rfl Tryz.underlying23 info_P rfl (by decide) (g + 1) (.slice AN d.sc.pairs.length cN) d.sc.pairs.length (rcells Par.cs d.sc.pairs) rfl (N9V.out.on ((Below.refl w10.heap.size w10).alloc (Nat.le_refl _) (.cells #[.int .i64 i0, .int .i64 i1, .int .i64 p.a, .int .i64 p.b, .int .i64 p.c, .int .i64 p.d, .int .i64 p.e, .int .i64 p.f, .int .i64 kb] 57))).drw _ 1 1 (Par.cs ⟨i0, i1, p, kb⟩) rfl ⟨_, shows_drew (shows_P w10 ⟨i0, i1, p, kb⟩ _ rfl)⟩ (Par.cs_one ⟨i0, i1, p, kb⟩) (by simp only [maxLen]; omega) (by omega) (by simp; omega) ?_
     intro v4 w12 ho4 hg4 _
     replace hg4 := undrewg hg4
     have HO4 := hid (OwnP.snoc (x := ⟨i0, i1, p, kb⟩) ho4)
     obtain ⟨A4, c4n, rfl, hc4, hr4⟩ := HO4.out.form
     clear hr4 hc4 ho4
     have t12 := (N9.out.tk.alloc (.cells #[.int .i64 i0, .int .i64 i1, .int .i64 p.a, .int .i64 p.b, .int .i64 p.c, .int .i64 p.d, .int .i64 p.e, .int .i64 p.f, .int .i64 kb] 57)).grown hg4 HOG.out
     have h5w := t12.c5
     rw [HV.out] at h5w
     have f5w := t12.fr 5
     refine hK _ _ ?_
     clear hK K
     try simp only [Act.put, sS]
     refine tK 9 ?_ rfl (by kernel_rfl) (fun _ _ _ h => h) (Or.inl ⟨by rfl, fun w => ?_⟩) ?_; rotate_left; (go_simp; try with_reducible rfl)
     try simp only [Act.put, sS]
     refine tK 10 ?_ rfl (by kernel_rfl) (fun _ _ _ h => h) (Or.inl ⟨by rfl, fun w => ?_⟩) ?_; rotate_left; (go_simp; try with_reducible rfl)
     try simp only [Act.put, sS]
     refine tK 11 ?_ rfl (by kernel_rfl) (fun _ _ _ h => h) (Or.inl ⟨by rfl, fun w => ?_⟩) ?_; rotate_left; (go_simp; try with_reducible rfl)
     try simp only [Act.put, sS]
     refine tR [12] (by kernel_rfl) rfl ?_
     refine rC rfl (fun K hK => ?_) ?_
     ·
      (go_simp; refine hK _ _ ?_; clear hK K; try simp only [Act.put, sS])
      refine wpAny_done (by kernel_rfl) ?_ _
      have HO5 : Hid (OwnP w12 (g + 1) (.slice A4 (d.sc.pairs.length + 1) c4n) (d.sc.pairs ++ [⟨i0, i1, p, kb⟩])) := by
       have := HO4.out
       rw [List.length_append] at this
       exact this
      have hgx : (w10.alloc (.cells #[.int .i64 i0, .int .i64 i1, .int .i64 p.a, .int .i64 p.b, .int .i64 p.c, .int .i64 p.d, .int .i64 p.e, .int .i64 p.f, .int .i64 kb] 57)).grownBy w12 x.p.ownBlock := by rw [HV.out]; exact hg4
      have TD := hid (Dr.addp D10.out N9.out.tk hgx HO5.out)
      have hb0 : Far g gm x W w10 := BG.out.trans N9.out.only.away
      have hb4 : Far g gm x W w12 := (hb0.alloc (.cells #[.int .i64 i0, .int .i64 i1, .int .i64 p.a, .int .i64 p.b, .int .i64 p.c, .int .i64 p.d, .int .i64 p.e, .int .i64 p.f, .int .i64 kb] 57)).grown hgx (fun b hb => Or.inr (Or.inr (Or.inr (Or.inl hb))))
      have HB5 := hid (hb4.setCell 5 (.slice A4 (d.sc.pairs.length + 1) c4n))
      go_end0
      rw [← HR.out]
      exact DEnds.ok HB5.out TD.out.1 TD.out.2
     exact rN
    exact rN
   exact rN
  exact rN
 exact rN
end Go.Proofs.YtcjhihmaegagdaaGreatDoor
