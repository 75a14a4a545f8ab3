/- Texts of the Notation chapter, together: Ri. -/
import Derived.Test.YtcjhihmaegagdaaGreatDoorG5
set_option maxRecDepth 100000
set_option maxHeartbeats 8000000
set_option linter.unusedSimpArgs false
set_option linter.unusedVariables false
set_option linter.unusedSectionVars false
set_option linter.unnecessarySimpa false
namespace Go.Proofs.YtcjhihmaegagdaaGreatDoor
open Go.RowKit Go.Deep Go.Maps Go.WideMaps
theorem TsOk.has {s : List UInt8} {ts r : List Tok} (h : TsOk ts) (e : hasR s ts = some r) : TsOk r := by
 cases ts with
 | nil => cases e
 | cons t l =>
  simp only [hasR] at e
  split at e
  ·
   injection e with e; subst e; exact fun u hu => h u (List.mem_cons_of_mem _ hu)
  cases e
theorem TsOk.nr {ts r : List Tok} {n : Nat} (h : TsOk ts) (e : numR ts = .ok n r) : TsOk r ∧ n ≤ 9999999 := by
 cases ts with
 | nil => cases e
 | cons t l =>
  simp only [numR] at e
  split at e
  ·
   injection e with e1 e2; subst e1 e2; exact ⟨fun u hu => h u (List.mem_cons_of_mem _ hu), (h t (List.mem_cons_self ..)).1⟩
  cases e
theorem TsOk.wants {l : List (List UInt8)} {ts r : List Tok} {u : Unit} (h : TsOk ts) (e : wantsR l ts = .ok u r) : TsOk r := by
 induction l generalizing ts with
 | nil => injection e with _ e; subst e; exact h
 | cons s l ih =>
  rcases hq : hasR s ts with _ | r1
  ·
   rw [wants_none hq] at e; cases e
  rw [wants_some hq] at e; exact ih (h.has hq) e
theorem TsOk.seen {k : Bool} {ns : List (List UInt8)} {ts r : List Tok} {s : List UInt8} (h : TsOk ts) (e : seenR k ns ts = .ok s r) : TsOk r ∧ s.length ≤ 8000 ∧ (idxR ns s).isSome = k := by
 cases ts with
 | nil => cases e
 | cons t l =>
  by_cases hw : t.kind = 1 ∧ t.text ∉ keyWords
  ·
   rw [seen_word hw] at e
   split at e
   case isTrue hk =>
    injection e with e1 e2
    subst e1 e2
    exact ⟨fun u hu => h u (List.mem_cons_of_mem _ hu), (h t (List.mem_cons_self ..)).2.1, hk⟩
   case isFalse => cases e
  rw [seen_bad hw] at e; cases e
theorem TsOk.brk {m : Nat} {v v' : Vc} {ts r : List Tok} (h : TsOk ts) (e : brkR m v ts = .ok v' r) : TsOk r := by
 induction m generalizing v ts with
 | zero =>
  rcases hq : hasR mClose ts with _ | r1
  ·
   rw [brk_full hq] at e; cases e
  rw [brk_close hq] at e; injection e with _ e; subst e; exact h.has hq
 | succ m ih =>
  rcases hq : hasR mClose ts with _ | r1
  ·
   rcases hq2 : hasR mMinus ts with _ | r2
   ·
    rw [brk_plus hq hq2] at e
    rcases hq3 : numR ts with ⟨n, r3⟩ | ⟨r3, k⟩
    ·
     rw [hq3] at e; exact ih (h.nr hq3).1 e
    rw [hq3] at e; cases e
   rw [brk_minus hq hq2] at e
   rcases hq3 : numR r2 with ⟨n, r3⟩ | ⟨r3, k⟩
   ·
    rw [hq3] at e; exact ih ((h.has hq2).nr hq3).1 e
   rw [hq3] at e; cases e
  rw [brk_close hq] at e; injection e with _ e; subst e; exact h.has hq
theorem TsOk.ival {ts r : List Tok} {v : Vc} (h : TsOk ts) (e : ivalR ts = .ok v r) : TsOk r := by
 rcases hq : hasR mOpen ts with _ | r0
 ·
  rw [ival_ratio hq] at e
  rcases hq1 : numR ts with ⟨n, r1⟩ | ⟨r1, k⟩
  ·
   rw [hq1] at e
   simp only [Rs.bind] at e
   rcases hq2 : wantsR [mSlash] r1 with ⟨u, r2⟩ | ⟨r2, k⟩
   ·
    rw [hq2] at e
    simp only at e
    rcases hq3 : numR r2 with ⟨d, r3⟩ | ⟨r3, k⟩
    ·
     rw [hq3] at e
     simp only at e
     rcases hq4 : ratioV n d with _ | v'
     ·
      rw [hq4] at e; cases e
     rw [hq4] at e
     injection e with _ e
     subst e
     exact (((h.nr hq1).1.wants hq2).nr hq3).1
    rw [hq3] at e; cases e
   rw [hq2] at e; cases e
  rw [hq1] at e; cases e
 have e2 : ivalR ts = brkR 6 vc0 r0 := by unfold ivalR; rw [hq]
 rw [e2] at e
 exact (h.has hq).brk e
theorem new_seen (ns : List (List UInt8)) (ts : List Tok) : newR ns ts = seenR false ns ts := by
 unfold newR seenR
 congr 1
 funext s r
 cases idxR ns s <;> rfl
theorem old_seen (ns : List (List UInt8)) (ts : List Tok) : oldR ns ts = (seenR true ns ts).bind fun s r => .ok ((idxR ns s).getD 0) r := by
 unfold oldR seenR
 cases wordR ts with
 | ok s r =>
  simp only [Rs.bind]
  rcases hq : idxR ns s with _ | i
  ·
   simp
  simp [hq]
 | err r k => rfl
structure NS (w1 : World) (g en : Nat) (x : Rc) (r : List Tok) (ty : TypeId) (cs : Array Value) (w : World) : Prop where
 only : Only g w1 w
 tk : TkAt w g en x r
 blk : Blk w w1.heap.size ty cs
 lt : g < w1.heap.size
section
variable {w1 w w' : World} {g en : Nat} {x : Rc} {r r' : List Tok} {ty : TypeId} {cs : Array Value}
theorem NS.start (h : TkAt w1 g en x r) (ty : TypeId) (cs : Array Value) : NS w1 g en x r ty cs (w1.alloc (.cells cs ty)) := ⟨(Only.refl g w1).alloc _, h.alloc _, Blk.new w1 ty cs, h.lt⟩
theorem NS.on (h : NS w1 g en x r ty cs w) (o : Only g w w') (t : TkAt w' g en x r') : NS w1 g en x r' ty cs w' := ⟨h.only.trans o, t, o.blk h.blk (by have := h.lt; omega), h.lt⟩
theorem NS.put (h : NS w1 g en x r ty cs w) (i : Nat) (v : Value) : NS w1 g en x r ty (cs.setIfInBounds i v) (w.setCell ⟨w1.heap.size, i, none⟩ v) :=
 ⟨h.only.far (Nat.le_refl _) i v, h.tk.far h.lt i v, h.blk.set_ i v, h.lt⟩
theorem NS.cast {cs' : Array Value} (h : NS w1 g en x r ty cs w) (e : cs = cs') : NS w1 g en x r ty cs' w := e ▸ h
end
theorem Primes.onl {g : Nat} {w w' : World} (h : Primes w ∧ 3 < g) (k : Only g w w') : Primes w' := fun j hj => by
 rw [k.cell (p := ⟨3, j, none⟩) (Nat.ne_of_lt h.2) (World.block_lt_of_cell? w _ (h.1 j hj))]
 exact h.1 j hj
theorem Rs.ok_bind {α β : Type} (a : α) (r : List Tok) (f : α → List Tok → Rs β) : (Rs.ok a r).bind f = f a r := rfl
theorem Rs.err_bind {α β : Type} (r : List Tok) (k : Nat) (f : α → List Tok → Rs β) : (Rs.err r k : Rs α).bind f = .err r k := rfl
theorem want_at1 (W : World) (g en h : Nat) (x : Rc) (ts : List Tok) (s : List UInt8) (hs : s ≠ []) (q : Rs Unit) (hq : wantsR [s] ts = q) (ht : TkAt W g en x ts) (hh : h = W.heap.size) :
  Calls Tryz.prog 60 #[.pointer (some ⟨g, 0, none⟩), .slice (some ⟨h, 0, none⟩) 1 1] (W.alloc (.cells #[str s] 9)) (TEnds W g en x (fun _ : Unit => .tuple #[]) q) := hh ▸ want_one W g en x ts s hs q hq ht
theorem want_at2 (W : World) (g en h : Nat) (x : Rc) (ts : List Tok) (s u : List UInt8) (hs : s ≠ []) (hu : u ≠ []) (q : Rs Unit) (hq : wantsR [s, u] ts = q) (ht : TkAt W g en x ts) (hh : h = W.heap.size) :
  Calls Tryz.prog 60 #[.pointer (some ⟨g, 0, none⟩), .slice (some ⟨h, 0, none⟩) 2 2] (W.alloc (.cells #[str s, str u] 9)) (TEnds W g en x (fun _ : Unit => .tuple #[]) q) := hh ▸ want_two W g en x ts s u hs hu q hq ht
theorem names_put {w : World} {g : Nat} {ns : List (List UInt8)} (h : Names w g ns) (s : List UInt8) (hs : s.length ≤ 9223372036854775807) (hn : (idxR ns s).isSome = false) (hl : ns.length ≤ 10000) (k : Nat) (hk : ns.length = k) :
  ∃ w', (Instr.mapUpdate 66 (.map (some g)) (str s) (.int .i64 (k : Int))).run Tryz.prog w.drew = .ok () w' ∧ Names w' g (ns ++ [s]) ∧ w.grownBy w' (some g) := by
 subst hk
 have hx : idxR ns s = none := by rcases hq : idxR ns s with _ | i <;> simp_all
 obtain ⟨w', h1, h2, h3⟩ := World.ownsMap.update (w := w.drew) h.1 lawS Tryz.underlying66 (by unfold maxLen; omega) (key_str s hs) (plainElem_int (H := Unit) Tryz.underlying3 (WalkArith.wf_i64 (n := (ns.length : Int)) (by omega)))
 refine ⟨w', h1, ⟨?_, ?_⟩, ⟨h3.os, h3.tape, h3.output, h3.size, h3.block⟩⟩
 ·
  unfold NamesAt
  rw [List.length_append, List.length_singleton, namesK_succ, namesK_snoc _ _ _ (Nat.le_refl _)]
  have e : (ns ++ [s]).getD ns.length [] = s := by simp [List.getD_eq_getElem?_getD]
  rw [e]
  exact h2
 rw [List.nodup_append]
 refine ⟨h.2, by simp, fun a ha b hb => ?_⟩
 rw [List.mem_singleton] at hb
 subst hb
 rintro rfl
 exact idxR_none.1 hx ha
theorem TkAt.setn {W : World} {g en : Nat} {x : Rc} {ts : List Tok} (h : TkAt W g en x ts) (u : Value) : TkAt (W.setCell ⟨g, 4, none⟩ u) g en { x with n := u } ts := by
 obtain ⟨A, c, h1, h2, h3⟩ := h
 refine ⟨A, c, ?_, h2.setCell (p := ⟨g, 4, none⟩) (Nat.sub_le g 1) u, h3⟩
 have := h1.set_ 4 u
 simpa using this
theorem Dr.addn {w w11 w12 : World} {g gm en : Nat} {d : Drf} {x : Rc} {ts : List Tok} {s : List UInt8} {nt : Nte} {o : Obj} {u : Value} (h : Dr w g gm d x) (t : TkAt w g en x ts) (hm : w.grownBy w11 (some gm)) (hn : Names w11 gm (d.names ++ [s]))
  (hg : (w11.alloc o).grownBy w12 x.n.ownBlock) (ho : OwnN w12 (g + 1) u (d.sc.notes ++ [nt])) :
  TkAt (w12.setCell ⟨g, 4, none⟩ u) g en { x with n := u } ts ∧ Dr (w12.setCell ⟨g, 4, none⟩ u) g gm (d.note s nt) { x with n := u } := by
 have n1 : OwnN w11 (g + 1) x.n d.sc.notes := h.n.kept hm (.inr (names_row h.names h.n))
 have p1 : OwnP w11 (g + 1) x.p d.sc.pairs := h.p.kept hm (.inr (names_row h.names h.p))
 have q1 : OwnC w11 (g + 1) x.q (itg d.sc.cad) := h.q.kept hm (.inr (names_row h.names h.q))
 have al := (Below.refl w11.heap.size w11).alloc (Nat.le_refl _) o
 have t2 := (t.grownm hm h.gm).alloc o
 have n2 := n1.on al
 have p2 := p1.on al
 have q2 := q1.on al
 have m2 := hn.up al
 have t3 := t2.grown hg (own_gt n2)
 obtain ⟨cs, hb⟩ := t3.blk
 have oo := only_set (W := w12) g 4 u
 have p3 : OwnP w12 (g + 1) x.p d.sc.pairs := p2.kept hg (rows_apart p2 n2 (by decide))
 have q3 : OwnC w12 (g + 1) x.q (itg d.sc.cad) := q2.kept hg (rows_apart q2 n2 (by decide))
 have m3 : Names w12 gm (d.names ++ [s]) := m2.kept hg (names_row m2 n2)
 exact ⟨t3.setn u, ⟨h.m, h.v, ho.only oo (ho.apart hb (by decide)), p3.only oo (p3.apart hb (by decide)), q3.only oo (q3.apart hb (by decide)), m3.only oo (names_apart m3 hb), by
  show (d.names ++ [s]).length = (d.sc.notes ++ [nt]).length
  have := h.len
  simp [this], h.gm⟩⟩
theorem undrewg {w w' : World} {r : Option Nat} (h : w.drew.grownBy w' r) : w.grownBy w' r := ⟨h.os, h.tape, h.output, h.size, h.block⟩
theorem OwnN.drew {w : World} {base : Nat} {v : Value} {l : List Nte} (h : OwnN w base v l) : OwnN w.drew base v l := h
theorem shows_drew {w : World} {B size : Nat} {A : Option Addr} {n : Nat} {xs : List Value} (h : Shows w B size A n xs) : Shows w.drew B size A n xs := h
theorem note_plain (W : World) (g gm en : Nat) (x : Rc) (ts : List Tok) (d : Drf) (h : TkAt W g en x ts) (hd : Dr W g gm d x) (hl : d.sc.notes.length ≤ 10000) (hts : TsOk ts) (hM : MaxL W) (hP : Primes W) (hg : 3 < g) :
  Calls Tryz.prog 56 #[.pointer (some ⟨g, 0, none⟩), .bool false] W (DEnds W g gm en x (noteR false d ts)) := by
 have H := hid h
 have HD := hid hd
 have HTS := hid hts
 have HM := hid hM
 have HPR := hid (And.intro hP hg)
 have HG0 : Hid (0 < g) := by show 0 < g; omega
 obtain ⟨q, hq⟩ : ∃ q, noteR false d ts = q := ⟨_, rfl⟩
 rw [hq]
 unfold noteR at hq
 rw [new_seen] at hq
 have HR := hid hq
 clear hq h hd hts hM hP hg
 go_enter Tryz.func56, Tryz.ntmps56
 go_wp2_with fail
 rcases hq0 : seenR false d.names ts with ⟨s, r0⟩ | ⟨r0, k⟩
 rotate_left
 ·
  refine (name_new _ g en gm x ts d.names HD.out.m HD.out.gm.1 H.out HTS.out HM.out HG0.out HD.out.names).mono ?_
  rintro e w ⟨o, h⟩
  rw [hq0] at h
  obtain rfl := h
  simp only [hq0, Rs.err_bind] at HR
  refine ⟨rfl, ?_⟩
  rw [← HR.out]
  exact DEnds.err o.away
 refine (name_new _ g en gm x ts d.names HD.out.m HD.out.gm.1 H.out HTS.out HM.out HG0.out HD.out.names).mono ?_
 rintro e w1 ⟨o, h⟩
 rw [hq0] at h
 obtain ⟨rfl, t⟩ := h
 have HD1 := hid (HD.out.only H.out o)
 have BG := hid (Only.away (gm := gm) (x := x) o)
 have HG1 := hid t.lt
 have HT1 := hid t
 have HP1 := hid (And.intro (Primes.onl HPR.out o) HPR.out.2)
 have N0 := hid (NS.start t 55 #[.int .i64 0, .int .i64 0, .int .i64 0, .int .i64 0, .int .i64 0, .int .i64 0, .int .i64 0, .int .i64 0, .int .i64 0, .bool false])
 have K0 := hid (HTS.out.seen hq0).1
 have HS8 := hid (HTS.out.seen hq0).2
 simp only [hq0, Rs.ok_bind] at HR
 clear o t hq0
 go_wp2_with fail
 rcases hq1 : wantsR [mColon, kw_voice] r0 with ⟨u1, r1⟩ | ⟨r1, k⟩
 rotate_left
 ·
  refine (want_at2 _ g en _ x r0 [58] [118, 111, 105, 99, 101] (by decide) (by decide) _ hq1 N0.out.tk (by simp)).mono ?_
  rintro e w ⟨o, rfl⟩
  simp only [hq1, Rs.err_bind] at HR
  refine ⟨rfl, ?_⟩
  rw [← HR.out]
  exact DEnds.err (BG.out.trans (N0.out.only.trans o).away)
 refine (want_at2 _ g en _ x r0 [58] [118, 111, 105, 99, 101] (by decide) (by decide) _ hq1 N0.out.tk (by simp)).mono ?_
 rintro e w2 ⟨o, rfl, t⟩
 have N1 := hid (N0.out.on o t)
 have K1 := hid (K0.out.wants hq1)
 simp only [hq1, Rs.ok_bind] at HR
 clear o t hq1
 go_wp2_with fail
 rcases hq2 : numR r1 with ⟨nv, r2⟩ | ⟨r2, k⟩
 rotate_left
 ·
  refine (number_one _ g en x r1 _ hq2 N1.out.tk).mono ?_
  rintro e w ⟨o, rfl⟩
  simp only [hq2, Rs.err_bind] at HR
  refine ⟨rfl, ?_⟩
  rw [← HR.out]
  exact DEnds.err (BG.out.trans (N1.out.only.trans o).away)
 refine (number_one _ g en x r1 _ hq2 N1.out.tk).mono ?_
 rintro e w3 ⟨o, rfl, t⟩
 have N2 := hid (N1.out.on o t)
 have K2 := hid (K1.out.nr hq2)
 simp only [hq2, Rs.ok_bind] at HR
 have c0 := N2.out.blk.cell 0
 have f0 := N2.out.blk.frozen 0
 have N2 := hid ((N2.out.put 0 (.int .i64 nv)).cast (show _ = #[.int .i64 nv, .int .i64 0, .int .i64 0, .int .i64 0, .int .i64 0, .int .i64 0, .int .i64 0, .int .i64 0, .int .i64 0, .bool false] by simp))
 clear o t hq2
 go_wp2_with fail
 rcases hq3 : wantsR [kw_from] r2 with ⟨u3, r3⟩ | ⟨r3, k⟩
 rotate_left
 ·
  refine (want_at1 _ g en _ x r2 [102, 114, 111, 109] (by decide) _ hq3 N2.out.tk (by simp)).mono ?_
  rintro e w ⟨o, rfl⟩
  simp only [hq3, Rs.err_bind] at HR
  refine ⟨rfl, ?_⟩
  rw [← HR.out]
  exact DEnds.err (BG.out.trans (N2.out.only.trans o).away)
 refine (want_at1 _ g en _ x r2 [102, 114, 111, 109] (by decide) _ hq3 N2.out.tk (by simp)).mono ?_
 rintro e w4 ⟨o, rfl, t⟩
 have N3 := hid (N2.out.on o t)
 have K3 := hid (K2.out.1.wants hq3)
 simp only [hq3, Rs.ok_bind] at HR
 clear o t hq3
 go_wp2_with fail
 rcases hq4 : numR r3 with ⟨na, r4⟩ | ⟨r4, k⟩
 rotate_left
 ·
  refine (number_one _ g en x r3 _ hq4 N3.out.tk).mono ?_
  rintro e w ⟨o, rfl⟩
  simp only [hq4, Rs.err_bind] at HR
  refine ⟨rfl, ?_⟩
  rw [← HR.out]
  exact DEnds.err (BG.out.trans (N3.out.only.trans o).away)
 refine (number_one _ g en x r3 _ hq4 N3.out.tk).mono ?_
 rintro e w5 ⟨o, rfl, t⟩
 have N4 := hid (N3.out.on o t)
 have K4 := hid (K3.out.nr hq4)
 simp only [hq4, Rs.ok_bind] at HR
 have c1 := N4.out.blk.cell 1
 have f1 := N4.out.blk.frozen 1
 have N4 := hid ((N4.out.put 1 (.int .i64 na)).cast (show _ = #[.int .i64 nv, .int .i64 na, .int .i64 0, .int .i64 0, .int .i64 0, .int .i64 0, .int .i64 0, .int .i64 0, .int .i64 0, .bool false] by simp))
 clear o t hq4
 go_wp2_with fail
 rcases hq5 : wantsR [kw_to] r4 with ⟨u5, r5⟩ | ⟨r5, k⟩
 rotate_left
 ·
  refine (want_at1 _ g en _ x r4 [116, 111] (by decide) _ hq5 N4.out.tk (by simp)).mono ?_
  rintro e w ⟨o, rfl⟩
  simp only [hq5, Rs.err_bind] at HR
  refine ⟨rfl, ?_⟩
  rw [← HR.out]
  exact DEnds.err (BG.out.trans (N4.out.only.trans o).away)
 refine (want_at1 _ g en _ x r4 [116, 111] (by decide) _ hq5 N4.out.tk (by simp)).mono ?_
 rintro e w6 ⟨o, rfl, t⟩
 have N5 := hid (N4.out.on o t)
 have K5 := hid (K4.out.1.wants hq5)
 simp only [hq5, Rs.ok_bind] at HR
 clear o t hq5
 go_wp2_with fail
 rcases hq6 : numR r5 with ⟨nb, r6⟩ | ⟨r6, k⟩
 rotate_left
 ·
  refine (number_one _ g en x r5 _ hq6 N5.out.tk).mono ?_
  rintro e w ⟨o, rfl⟩
  simp only [hq6, Rs.err_bind] at HR
  refine ⟨rfl, ?_⟩
  rw [← HR.out]
  exact DEnds.err (BG.out.trans (N5.out.only.trans o).away)
 refine (number_one _ g en x r5 _ hq6 N5.out.tk).mono ?_
 rintro e w7 ⟨o, rfl, t⟩
 have N6 := hid (N5.out.on o t)
 have K6 := hid (K5.out.nr hq6)
 simp only [hq6, Rs.ok_bind] at HR
 have c2 := N6.out.blk.cell 2
 have f2 := N6.out.blk.frozen 2
 have N6 := hid ((N6.out.put 2 (.int .i64 nb)).cast (show _ = #[.int .i64 nv, .int .i64 na, .int .i64 nb, .int .i64 0, .int .i64 0, .int .i64 0, .int .i64 0, .int .i64 0, .int .i64 0, .bool false] by simp))
 clear o t hq6
 go_wp2_with fail
 rcases hq7 : hasR kw_at r6 with _ | r7
 ·
  have hat : atR false r6 = .ok vc0 r6 := by simp only [atR, hq7]; rfl
  simp only [hat, Rs.ok_bind] at HR
  refine (has_one _ g en x r6 [97, 116] (by decide) _ hq7 N6.out.tk).mono ?_
  rintro e w8 ⟨rfl, o, t⟩
  have N8 := hid (N6.out.on o t)
  clear o t hq7 hat
  go_wp2_with fail
  rcases hq9 : wantsR [mSemi] r6 with ⟨u9, r9⟩ | ⟨r9, k⟩
  rotate_left
  ·
   refine (want_at1 _ g en _ x r6 [59] (by decide) _ hq9 N8.out.tk (by simp)).mono ?_
   rintro e w ⟨o, rfl⟩
   simp only [hq9, Rs.err_bind] at HR
   refine ⟨rfl, ?_⟩
   rw [← HR.out]
   exact DEnds.err (BG.out.trans (N8.out.only.trans o).away)
  refine (want_at1 _ g en _ x r6 [59] (by decide) _ hq9 N8.out.tk (by simp)).mono ?_
  rintro e w10 ⟨o, rfl, t⟩
  have N9 := hid (N8.out.on o t)
  have K9 := hid (K6.out.1.wants hq9)
  simp only [hq9, Rs.ok_bind] at HR
  clear o t hq9
  go_wp2_with fail
  obtain ⟨wz, hwz⟩ : ∃ wz, wz = w10 := ⟨_, rfl⟩
  have D10 := hid (HD1.out.only HT1.out N9.out.only)
  have hlen := D10.out.len
  obtain ⟨w11, hmu, NM, hgw⟩ := names_put D10.out.names s (by have := HS8.out.1; omega) HS8.out.2 (by omega) d.sc.notes.length hlen
  obtain ⟨AN, cN, hv, hcl, hrd⟩ := D10.out.n.form
  have HV := hid hv
  have g2 := N9.out.tk.c2
  rw [D10.out.m] at g2
  have g4 := N9.out.tk.c4
  rw [hv] at g4
  have hgz := N9.out.tk.lt
  clear hv hrd hcl hlen hwz wz
  refine wp_region_any (by kernel_rfl) ?_
  change wpAny _ _ _ _ _ _ _ (World.drew _)
  refine tK 0 ?_ rfl (by kernel_rfl) (fun _ _ _ h => h) (Or.inl ⟨by rfl, fun w => ?_⟩) ?_; rotate_left; (go_simp; try with_reducible rfl)
  try simp only [Act.put, sS]
  refine tK 1 ?_ rfl (by kernel_rfl) (fun _ _ _ h => h) (Or.inl ⟨by rfl, fun w => ?_⟩) ?_; rotate_left; (go_simp; try with_reducible rfl)
  try simp only [Act.put, sS]
  refine tK 2 ?_ rfl (by kernel_rfl) (fun _ _ _ h => h) (Or.inl ⟨by rfl, fun w => ?_⟩) ?_; rotate_left; (go_simp; try with_reducible rfl)
  try simp only [Act.put, sS]
  refine tK 4 ?_ rfl (by kernel_rfl) (fun _ _ _ h => h) (Or.inl ⟨by rfl, fun w => ?_⟩) ?_; rotate_left; (go_simp; try with_reducible rfl)
  try simp only [Act.put, sS]
  refine tK 5 ?_ rfl (by kernel_rfl) (fun _ _ _ h => h) (Or.inl ⟨by rfl, fun w => ?_⟩) ?_; rotate_left; (go_simp; try with_reducible rfl)
  try simp only [Act.put, sS]
  refine tK 6 ?_ rfl (by kernel_rfl) (fun _ _ _ h => h) (Or.inl ⟨by rfl, fun w => ?_⟩) ?_; rotate_left; (go_simp; try with_reducible rfl)
  try simp only [Act.put, sS]
  refine tK 7 ?_ rfl (by kernel_rfl) (fun _ _ _ h => h) (Or.inl ⟨by rfl, fun w => ?_⟩) ?_; rotate_left; (go_simp; try with_reducible rfl)
  try simp only [Act.put, sS]
  refine tK 8 ?_ rfl (by kernel_rfl) (fun _ _ _ h => h) (Or.inl ⟨by rfl, fun w => ?_⟩) ?_; rotate_left; (go_simp; try with_reducible rfl)
  try simp only [Act.put, sS]
  refine tR [3, 9] (by kernel_rfl) rfl ?_
  refine rC rfl (fun K hK => ?_) ?_
  ·
   (go_simp; refine hK _ _ ?_; clear hK K; try simp only [Act.put, sS])
   refine tR [9] (by kernel_rfl) rfl ?_
   refine rC rfl (fun K hK => ?_) ?_
   ·
    (go_simp; refine hK _ _ ?_; clear hK K; try simp only [Act.put, sS])
    refine tK 10 ?_ rfl (by kernel_rfl) (fun _ _ _ h => h) (Or.inl ⟨by rfl, fun w => ?_⟩) ?_; rotate_left; (go_simp; try with_reducible rfl)
    try simp only [Act.put, sS]
    refine tR [11] (by kernel_rfl) rfl ?_
    refine rC rfl (fun K hK => ?_) ?_
    ·
     (go_simp; refine hK _ _ ?_; clear hK K; try simp only [Act.put, sS])
     refine wpAny_done (by kernel_rfl) ?_ _
     have T11 := hid (N9.out.tk.grownm hgw D10.out.gm)
     have B11 := hid (N9.out.blk.grown hgw (by intro e; injection e with e; exact names_apart D10.out.names N9.out.blk e.symm))
     have n11 := hid (OwnN.kept D10.out.n hgw (.inr (names_row D10.out.names D10.out.n)))
     have n11v : OwnN w11 (g + 1) (.slice AN d.sc.notes.length cN) d.sc.notes := by rw [← HV.out]; exact n11.out
     have N11V := hid n11v
     have hog := own_gt n11v
     have HOG := hid hog
     clear n11v hog
     have h4 := T11.out.c4
     rw [HV.out] at h4
     have hg11 := T11.out.lt
     have hh11 := B11.out.lt
     have c0 := B11.out.cell 0
     have c1 := B11.out.cell 1
     have c2 := B11.out.cell 2
     have c3 := B11.out.cell 3
     have c4 := B11.out.cell 4
     have c5 := B11.out.cell 5
     have c6 := B11.out.cell 6
     have c7 := B11.out.cell 7
     have c8 := B11.out.cell 8
     have c9 := B11.out.cell 9
     have NM := hid NM
     have HGW := hid hgw
     clear hmu hgw g2 g4
     go_wp2_with fail
     refine wp_region_any (by kernel_rfl) ?_
     change wpAny _ _ _ _ _ _ _ (World.drew _)
     refine tK 0 ?_ rfl (by kernel_rfl) (fun _ _ _ h => h) (Or.inl ⟨by rfl, fun w => ?_⟩) ?_; rotate_left; (go_simp; try with_reducible rfl)
     try simp only [Act.put, sS]
     refine tK 1 ?_ rfl (by kernel_rfl) (fun _ _ _ h => h) (Or.inl ⟨by rfl, fun w => ?_⟩) ?_; rotate_left; (go_simp; try with_reducible rfl)
     try simp only [Act.put, sS]
     refine tK 2 ?_ rfl (by kernel_rfl) (fun _ _ _ h => h) (Or.inl ⟨by rfl, fun w => ?_⟩) ?_; rotate_left; (go_simp; try with_reducible rfl)
     try simp only [Act.put, sS]
     refine tK 3 ?_ rfl (by kernel_rfl) (fun _ _ _ h => h) (Or.inl ⟨by rfl, fun w => ?_⟩) ?_; rotate_left; (go_simp; try with_reducible rfl)
     try simp only [Act.put, sS]
     refine tK 4 ?_ rfl (by kernel_rfl) (fun _ _ _ h => h) (Or.inl ⟨by rfl, fun w => ?_⟩) ?_; rotate_left; (go_simp; try with_reducible rfl)
     try simp only [Act.put, sS]
     refine tR [5, 6] (by kernel_rfl) rfl ?_
     refine rC rfl (fun K hK => ?_) ?_
     ·
      (go_simp; refine hK _ _ ?_; clear hK K; try simp only [Act.put, sS])
      refine tR [6] (by kernel_rfl) rfl ?_
      refine rC rfl (fun K hK => ?_) ?_
      ·
       (go_simp; refine hK _ _ ?_; clear hK K; try simp only [Act.put, sS])
       refine tR [7] (by kernel_rfl) rfl ?_
       refine rC rfl (fun K hK => ?_) ?_
       ·
        (go_simp; refine hK _ _ ?_; clear hK K; try simp only [Act.put, sS])
        refine tR [8] (by kernel_rfl) rfl ?_
        refine rC rfl (fun K hK => ?_) ?_
        ·
         refine step_apg _ (by rfl) (.tmp 56) (.tmp 58) 22 55 (.agg #[.int .i64 0, .int .i64 0, .int .i64 0, .int .i64 0, .int .i64 0, .int .i64 0, .int .i64 0, .int .i64 0, .int .i64 0, .bool false]) 10 80 rfl Tryz.underlying22 info_N rfl (by decide) (g + 1) (.slice AN d.sc.notes.length cN) d.sc.notes.length (rcells Nte.cs d.sc.notes) rfl (N11V.out.on ((Below.refl w11.heap.size w11).alloc (Nat.le_refl _) (.cells #[.int .i64 nv, .int .i64 na, .int .i64 nb, .int .i64 0, .int .i64 0, .int .i64 0, .int .i64 0, .int .i64 0, .int .i64 0, .bool false] 55))).drew _ 1 1 (Nte.cs ⟨nv, na, nb, vc0, false⟩) rfl ⟨_, shows_drew (shows_N w11 ⟨nv, na, nb, vc0, false⟩ _ rfl)⟩ (Nte.cs_one ⟨nv, na, nb, vc0, false⟩) (by simp only [maxLen]; omega) (by omega) (by simp; omega) ?_
         intro v4 w12 ho4 hg4 _
         replace hg4 := undrewg hg4
         have HO4 := hid (OwnN.snoc (x := ⟨nv, na, nb, vc0, false⟩) ho4)
         obtain ⟨A4, c4n, rfl, hc4, hr4⟩ := HO4.out.form
         clear hr4 hc4 ho4
         have t12 := (T11.out.alloc (.cells #[.int .i64 nv, .int .i64 na, .int .i64 nb, .int .i64 0, .int .i64 0, .int .i64 0, .int .i64 0, .int .i64 0, .int .i64 0, .bool false] 55)).grown hg4 HOG.out
         have h4w := t12.c4
         rw [HV.out] at h4w
         have f4w := t12.fr 4
         refine hK _ _ ?_
         clear hK K
         try simp only [Act.put, sS]
         refine tK 9 ?_ rfl (by kernel_rfl) (fun _ _ _ h => h) (Or.inl ⟨by rfl, fun w => ?_⟩) ?_; rotate_left; (go_simp; try with_reducible rfl)
         try simp only [Act.put, sS]
         refine tK 10 ?_ rfl (by kernel_rfl) (fun _ _ _ h => h) (Or.inl ⟨by rfl, fun w => ?_⟩) ?_; rotate_left; (go_simp; try with_reducible rfl)
         try simp only [Act.put, sS]
         refine tK 11 ?_ rfl (by kernel_rfl) (fun _ _ _ h => h) (Or.inl ⟨by rfl, fun w => ?_⟩) ?_; rotate_left; (go_simp; try with_reducible rfl)
         try simp only [Act.put, sS]
         refine tR [12] (by kernel_rfl) rfl ?_
         refine rC rfl (fun K hK => ?_) ?_
         ·
          (go_simp; refine hK _ _ ?_; clear hK K; try simp only [Act.put, sS])
          refine wpAny_done (by kernel_rfl) ?_ _
          have HO5 : Hid (OwnN w12 (g + 1) (.slice A4 (d.sc.notes.length + 1) c4n) (d.sc.notes ++ [⟨nv, na, nb, vc0, false⟩])) := by
           have := HO4.out
           rw [List.length_append] at this
           exact this
          have hgx : (w11.alloc (.cells #[.int .i64 nv, .int .i64 na, .int .i64 nb, .int .i64 0, .int .i64 0, .int .i64 0, .int .i64 0, .int .i64 0, .int .i64 0, .bool false] 55)).grownBy w12 x.n.ownBlock := by rw [HV.out]; exact hg4
          have TD := hid (Dr.addn D10.out N9.out.tk HGW.out NM.out hgx HO5.out)
          have hb0 : Far g gm x W w10 := BG.out.trans N9.out.only.away
          have hb4 : Far g gm x W w12 := (((hb0.grown HGW.out (fun b e => by injection e with e; exact Or.inr (Or.inl e.symm))).alloc (.cells #[.int .i64 nv, .int .i64 na, .int .i64 nb, .int .i64 0, .int .i64 0, .int .i64 0, .int .i64 0, .int .i64 0, .int .i64 0, .bool false] 55)).grown hgx (fun b hb => Or.inr (Or.inr (Or.inl hb))))
          have HB5 := hid (hb4.setCell 4 (.slice A4 (d.sc.notes.length + 1) c4n))
          go_end0
          rw [← HR.out]
          exact DEnds.ok HB5.out TD.out.1 TD.out.2
         exact rN
        exact rN
       exact rN
      exact rN
     refine rC rfl (fun K hK => ?_) ?_
     ·
      (go_simp; refine hK _ _ ?_; clear hK K; try simp only [Act.put, sS])
      refine tR [5, 7] (by kernel_rfl) rfl ?_
      refine rC rfl (fun K hK => ?_) ?_
      ·
       (go_simp; refine hK _ _ ?_; clear hK K; try simp only [Act.put, sS])
       refine tR [7] (by kernel_rfl) rfl ?_
       refine rC rfl (fun K hK => ?_) ?_
       ·
        (go_simp; refine hK _ _ ?_; clear hK K; try simp only [Act.put, sS])
        refine tR [8] (by kernel_rfl) rfl ?_
        refine rC rfl (fun K hK => ?_) ?_
        ·
         refine step_apg _ (by rfl) (.tmp 56) (.tmp 58) 22 55 (.agg #[.int .i64 0, .int .i64 0, .int .i64 0, .int .i64 0, .int .i64 0, .int .i64 0, .int .i64 0, .int .i64 0, .int .i64 0, .bool false]) 10 80 rfl Tryz.underlying22 info_N rfl (by decide) (g + 1) (.slice AN d.sc.notes.length cN) d.sc.notes.length (rcells Nte.cs d.sc.notes) rfl (N11V.out.on ((Below.refl w11.heap.size w11).alloc (Nat.le_refl _) (.cells #[.int .i64 nv, .int .i64 na, .int .i64 nb, .int .i64 0, .int .i64 0, .int .i64 0, .int .i64 0, .int .i64 0, .int .i64 0, .bool false] 55))).drew _ 1 1 (Nte.cs ⟨nv, na, nb, vc0, false⟩) rfl ⟨_, shows_drew (shows_N w11 ⟨nv, na, nb, vc0, false⟩ _ rfl)⟩ (Nte.cs_one ⟨nv, na, nb, vc0, false⟩) (by simp only [maxLen]; omega) (by omega) (by simp; omega) ?_
         intro v4 w12 ho4 hg4 _
         replace hg4 := undrewg hg4
         have HO4 := hid (OwnN.snoc (x := ⟨nv, na, nb, vc0, false⟩) ho4)
         obtain ⟨A4, c4n, rfl, hc4, hr4⟩ := HO4.out.form
         clear hr4 hc4 ho4
         have t12 := (T11.out.alloc (.cells #[.int .i64 nv, .int .i64 na, .int .i64 nb, .int .i64 0, .int .i64 0, .int .i64 0, .int .i64 0, .int .i64 0, .int .i64 0, .bool false] 55)).grown hg4 HOG.out
         have h4w := t12.c4
         rw [HV.out] at h4w
         have f4w := t12.fr 4
         refine hK _ _ ?_
         clear hK K
         try simp only [Act.put, sS]
         refine tK 9 ?_ rfl (by kernel_rfl) (fun _ _ _ h => h) (Or.inl ⟨by rfl, fun w => ?_⟩) ?_; rotate_left; (go_simp; try with_reducible rfl)
         try simp only [Act.put, sS]
         refine tK 10 ?_ rfl (by kernel_rfl) (fun _ _ _ h => h) (Or.inl ⟨by rfl, fun w => ?_⟩) ?_; rotate_left; (go_simp; try with_reducible rfl)
         try simp only [Act.put, sS]
         refine tK 11 ?_ rfl (by kernel_rfl) (fun _ _ _ h => h) (Or.inl ⟨by rfl, fun w => ?_⟩) ?_; rotate_left; (go_simp; try with_reducible rfl)
         try simp only [Act.put, sS]
         refine tR [12] (by kernel_rfl) rfl ?_
         refine rC rfl (fun K hK => ?_) ?_
         ·
          (go_simp; refine hK _ _ ?_; clear hK K; try simp only [Act.put, sS])
          refine wpAny_done (by kernel_rfl) ?_ _
          have HO5 : Hid (OwnN w12 (g + 1) (.slice A4 (d.sc.notes.length + 1) c4n) (d.sc.notes ++ [⟨nv, na, nb, vc0, false⟩])) := by
           have := HO4.out
           rw [List.length_append] at this
           exact this
          have hgx : (w11.alloc (.cells #[.int .i64 nv, .int .i64 na, .int .i64 nb, .int .i64 0, .int .i64 0, .int .i64 0, .int .i64 0, .int .i64 0, .int .i64 0, .bool false] 55)).grownBy w12 x.n.ownBlock := by rw [HV.out]; exact hg4
          have TD := hid (Dr.addn D10.out N9.out.tk HGW.out NM.out hgx HO5.out)
          have hb0 : Far g gm x W w10 := BG.out.trans N9.out.only.away
          have hb4 : Far g gm x W w12 := (((hb0.grown HGW.out (fun b e => by injection e with e; exact Or.inr (Or.inl e.symm))).alloc (.cells #[.int .i64 nv, .int .i64 na, .int .i64 nb, .int .i64 0, .int .i64 0, .int .i64 0, .int .i64 0, .int .i64 0, .int .i64 0, .bool false] 55)).grown hgx (fun b hb => Or.inr (Or.inr (Or.inl hb))))
          have HB5 := hid (hb4.setCell 4 (.slice A4 (d.sc.notes.length + 1) c4n))
          go_end0
          rw [← HR.out]
          exact DEnds.ok HB5.out TD.out.1 TD.out.2
         exact rN
        exact rN
       exact rN
      refine rC rfl (fun K hK => ?_) ?_
      ·
       (go_simp; refine hK _ _ ?_; clear hK K; try simp only [Act.put, sS])
       refine tR [5] (by kernel_rfl) rfl ?_
       refine rC rfl (fun K hK => ?_) ?_
       ·
        (go_simp; refine hK _ _ ?_; clear hK K; try simp only [Act.put, sS])
        refine tR [8] (by kernel_rfl) rfl ?_
        refine rC rfl (fun K hK => ?_) ?_
        ·
         refine step_apg _ (by rfl) (.tmp 56) (.tmp 58) 22 55 (.agg #[.int .i64 0, .int .i64 0, .int .i64 0, .int .i64 0, .int .i64 0, .int .i64 0, .int .i64 0, .int .i64 0, .int .i64 0, .bool false]) 10 80 rfl Tryz.underlying22 info_N rfl (by decide) (g + 1) (.slice AN d.sc.notes.length cN) d.sc.notes.length (rcells Nte.cs d.sc.notes) rfl (N11V.out.on ((Below.refl w11.heap.size w11).alloc (Nat.le_refl _) (.cells #[.int .i64 nv, .int .i64 na, .int .i64 nb, .int .i64 0, .int .i64 0, .int .i64 0, .int .i64 0, .int .i64 0, .int .i64 0, .bool false] 55))).drew _ 1 1 (Nte.cs ⟨nv, na, nb, vc0, false⟩) rfl ⟨_, shows_drew (shows_N w11 ⟨nv, na, nb, vc0, false⟩ _ rfl)⟩ (Nte.cs_one ⟨nv, na, nb, vc0, false⟩) (by simp only [maxLen]; omega) (by omega) (by simp; omega) ?_
         intro v4 w12 ho4 hg4 _
         replace hg4 := undrewg hg4
         have HO4 := hid (OwnN.snoc (x := ⟨nv, na, nb, vc0, false⟩) ho4)
         obtain ⟨A4, c4n, rfl, hc4, hr4⟩ := HO4.out.form
         clear hr4 hc4 ho4
         have t12 := (T11.out.alloc (.cells #[.int .i64 nv, .int .i64 na, .int .i64 nb, .int .i64 0, .int .i64 0, .int .i64 0, .int .i64 0, .int .i64 0, .int .i64 0, .bool false] 55)).grown hg4 HOG.out
         have h4w := t12.c4
         rw [HV.out] at h4w
         have f4w := t12.fr 4
         refine hK _ _ ?_
         clear hK K
         try simp only [Act.put, sS]
         refine tK 9 ?_ rfl (by kernel_rfl) (fun _ _ _ h => h) (Or.inl ⟨by rfl, fun w => ?_⟩) ?_; rotate_left; (go_simp; try with_reducible rfl)
         try simp only [Act.put, sS]
         refine tK 10 ?_ rfl (by kernel_rfl) (fun _ _ _ h => h) (Or.inl ⟨by rfl, fun w => ?_⟩) ?_; rotate_left; (go_simp; try with_reducible rfl)
         try simp only [Act.put, sS]
         refine tK 11 ?_ rfl (by kernel_rfl) (fun _ _ _ h => h) (Or.inl ⟨by rfl, fun w => ?_⟩) ?_; rotate_left; (go_simp; try with_reducible rfl)
         try simp only [Act.put, sS]
         refine tR [12] (by kernel_rfl) rfl ?_
         refine rC rfl (fun K hK => ?_) ?_
         ·
          (go_simp; refine hK _ _ ?_; clear hK K; try simp only [Act.put, sS])
          refine wpAny_done (by kernel_rfl) ?_ _
          have HO5 : Hid (OwnN w12 (g + 1) (.slice A4 (d.sc.notes.length + 1) c4n) (d.sc.notes ++ [⟨nv, na, nb, vc0, false⟩])) := by
           have := HO4.out
           rw [List.length_append] at this
           exact this
          have hgx : (w11.alloc (.cells #[.int .i64 nv, .int .i64 na, .int .i64 nb, .int .i64 0, .int .i64 0, .int .i64 0, .int .i64 0, .int .i64 0, .int .i64 0, .bool false] 55)).grownBy w12 x.n.ownBlock := by rw [HV.out]; exact hg4
          have TD := hid (Dr.addn D10.out N9.out.tk HGW.out NM.out hgx HO5.out)
          have hb0 : Far g gm x W w10 := BG.out.trans N9.out.only.away
          have hb4 : Far g gm x W w12 := (((hb0.grown HGW.out (fun b e => by injection e with e; exact Or.inr (Or.inl e.symm))).alloc (.cells #[.int .i64 nv, .int .i64 na, .int .i64 nb, .int .i64 0, .int .i64 0, .int .i64 0, .int .i64 0, .int .i64 0, .int .i64 0, .bool false] 55)).grown hgx (fun b hb => Or.inr (Or.inr (Or.inl hb))))
          have HB5 := hid (hb4.setCell 4 (.slice A4 (d.sc.notes.length + 1) c4n))
          go_end0
          rw [← HR.out]
          exact DEnds.ok HB5.out TD.out.1 TD.out.2
         exact rN
        exact rN
       exact rN
      exact rN
     exact rN
    exact rN
   exact rN
  refine rC rfl (fun K hK => ?_) ?_
  ·
   (go_simp; refine hK _ _ ?_; clear hK K; try simp only [Act.put, sS])
   refine tK 10 ?_ rfl (by kernel_rfl) (fun _ _ _ h => h) (Or.inl ⟨by rfl, fun w => ?_⟩) ?_; rotate_left; (go_simp; try with_reducible rfl)
   try simp only [Act.put, sS]
   refine tR [3] (by kernel_rfl) rfl ?_
   refine rC rfl (fun K hK => ?_) ?_
   ·
    (go_simp; refine hK _ _ ?_; clear hK K; try simp only [Act.put, sS])
    refine tR [11] (by kernel_rfl) rfl ?_
    refine rC rfl (fun K hK => ?_) ?_
    ·
     (go_simp; refine hK _ _ ?_; clear hK K; try simp only [Act.put, sS])
     refine wpAny_done (by kernel_rfl) ?_ _
     have T11 := hid (N9.out.tk.grownm hgw D10.out.gm)
     have B11 := hid (N9.out.blk.grown hgw (by intro e; injection e with e; exact names_apart D10.out.names N9.out.blk e.symm))
     have n11 := hid (OwnN.kept D10.out.n hgw (.inr (names_row D10.out.names D10.out.n)))
     have n11v : OwnN w11 (g + 1) (.slice AN d.sc.notes.length cN) d.sc.notes := by rw [← HV.out]; exact n11.out
     have N11V := hid n11v
     have hog := own_gt n11v
     have HOG := hid hog
     clear n11v hog
     have h4 := T11.out.c4
     rw [HV.out] at h4
     have hg11 := T11.out.lt
     have hh11 := B11.out.lt
     have c0 := B11.out.cell 0
     have c1 := B11.out.cell 1
     have c2 := B11.out.cell 2
     have c3 := B11.out.cell 3
     have c4 := B11.out.cell 4
     have c5 := B11.out.cell 5
     have c6 := B11.out.cell 6
     have c7 := B11.out.cell 7
     have c8 := B11.out.cell 8
     have c9 := B11.out.cell 9
     have NM := hid NM
     have HGW := hid hgw
     clear hmu hgw g2 g4
     go_wp2_with fail
     refine wp_region_any (by kernel_rfl) ?_
     change wpAny _ _ _ _ _ _ _ (World.drew _)
     refine tK 0 ?_ rfl (by kernel_rfl) (fun _ _ _ h => h) (Or.inl ⟨by rfl, fun w => ?_⟩) ?_; rotate_left; (go_simp; try with_reducible rfl)
     try simp only [Act.put, sS]
     refine tK 1 ?_ rfl (by kernel_rfl) (fun _ _ _ h => h) (Or.inl ⟨by rfl, fun w => ?_⟩) ?_; rotate_left; (go_simp; try with_reducible rfl)
     try simp only [Act.put, sS]
     refine tK 2 ?_ rfl (by kernel_rfl) (fun _ _ _ h => h) (Or.inl ⟨by rfl, fun w => ?_⟩) ?_; rotate_left; (go_simp; try with_reducible rfl)
     try simp only [Act.put, sS]
     refine tK 3 ?_ rfl (by kernel_rfl) (fun _ _ _ h => h) (Or.inl ⟨by rfl, fun w => ?_⟩) ?_; rotate_left; (go_simp; try with_reducible rfl)
     try simp only [Act.put, sS]
     refine tK 4 ?_ rfl (by kernel_rfl) (fun _ _ _ h => h) (Or.inl ⟨by rfl, fun w => ?_⟩) ?_; rotate_left; (go_simp; try with_reducible rfl)
     try simp only [Act.put, sS]
     refine tR [5, 6] (by kernel_rfl) rfl ?_
     refine rC rfl (fun K hK => ?_) ?_
     ·
      (go_simp; refine hK _ _ ?_; clear hK K; try simp only [Act.put, sS])
      refine tR [6] (by kernel_rfl) rfl ?_
      refine rC rfl (fun K hK => ?_) ?_
      ·
       (go_simp; refine hK _ _ ?_; clear hK K; try simp only [Act.put, sS])
       refine tR [7] (by kernel_rfl) rfl ?_
       refine rC rfl (fun K hK => ?_) ?_
       ·
        (go_simp; refine hK _ _ ?_; clear hK K; try simp only [Act.put, sS])
        refine tR [8] (by kernel_rfl) rfl ?_
        refine rC rfl (fun K hK => ?_) ?_
        ·
         refine step_apg _ (by rfl) (.tmp 56) (.tmp 58) 22 55 (.agg #[.int .i64 0, .int .i64 0, .int .i64 0, .int .i64 0, .int .i64 0, .int .i64 0, .int .i64 0, .int .i64 0, .int .i64 0, .bool false]) 10 80 rfl Tryz.underlying22 info_N rfl (by decide) (g + 1) (.slice AN d.sc.notes.length cN) d.sc.notes.length (rcells Nte.cs d.sc.notes) rfl (N11V.out.on ((Below.refl w11.heap.size w11).alloc (Nat.le_refl _) (.cells #[.int .i64 nv, .int .i64 na, .int .i64 nb, .int .i64 0, .int .i64 0, .int .i64 0, .int .i64 0, .int .i64 0, .int .i64 0, .bool false] 55))).drew _ 1 1 (Nte.cs ⟨nv, na, nb, vc0, false⟩) rfl ⟨_, shows_drew (shows_N w11 ⟨nv, na, nb, vc0, false⟩ _ rfl)⟩ (Nte.cs_one ⟨nv, na, nb, vc0, false⟩) (by simp only [maxLen]; omega) (by omega) (by simp; omega) ?_
         intro v4 w12 ho4 hg4 _
         replace hg4 := undrewg hg4
         have HO4 := hid (OwnN.snoc (x := ⟨nv, na, nb, vc0, false⟩) ho4)
         obtain ⟨A4, c4n, rfl, hc4, hr4⟩ := HO4.out.form
         clear hr4 hc4 ho4
         have t12 := (T11.out.alloc (.cells #[.int .i64 nv, .int .i64 na, .int .i64 nb, .int .i64 0, .int .i64 0, .int .i64 0, .int .i64 0, .int .i64 0, .int .i64 0, .bool false] 55)).grown hg4 HOG.out
         have h4w := t12.c4
         rw [HV.out] at h4w
         have f4w := t12.fr 4
         refine hK _ _ ?_
         clear hK K
         try simp only [Act.put, sS]
         refine tK 9 ?_ rfl (by kernel_rfl) (fun _ _ _ h => h) (Or.inl ⟨by rfl, fun w => ?_⟩) ?_; rotate_left; (go_simp; try with_reducible rfl)
         try simp only [Act.put, sS]
         refine tK 10 ?_ rfl (by kernel_rfl) (fun _ _ _ h => h) (Or.inl ⟨by rfl, fun w => ?_⟩) ?_; rotate_left; (go_simp; try with_reducible rfl)
         try simp only [Act.put, sS]
         refine tK 11 ?_ rfl (by kernel_rfl) (fun _ _ _ h => h) (Or.inl ⟨by rfl, fun w => ?_⟩) ?_; rotate_left; (go_simp; try with_reducible rfl)
         try simp only [Act.put, sS]
         refine tR [12] (by kernel_rfl) rfl ?_
         refine rC rfl (fun K hK => ?_) ?_
         ·
          (go_simp; refine hK _ _ ?_; clear hK K; try simp only [Act.put, sS])
          refine wpAny_done (by kernel_rfl) ?_ _
          have HO5 : Hid (OwnN w12 (g + 1) (.slice A4 (d.sc.notes.length + 1) c4n) (d.sc.notes ++ [⟨nv, na, nb, vc0, false⟩])) := by
           have := HO4.out
           rw [List.length_append] at this
           exact this
          have hgx : (w11.alloc (.cells #[.int .i64 nv, .int .i64 na, .int .i64 nb, .int .i64 0, .int .i64 0, .int .i64 0, .int .i64 0, .int .i64 0, .int .i64 0, .bool false] 55)).grownBy w12 x.n.ownBlock := by rw [HV.out]; exact hg4
          have TD := hid (Dr.addn D10.out N9.out.tk HGW.out NM.out hgx HO5.out)
          have hb0 : Far g gm x W w10 := BG.out.trans N9.out.only.away
          have hb4 : Far g gm x W w12 := (((hb0.grown HGW.out (fun b e => by injection e with e; exact Or.inr (Or.inl e.symm))).alloc (.cells #[.int .i64 nv, .int .i64 na, .int .i64 nb, .int .i64 0, .int .i64 0, .int .i64 0, .int .i64 0, .int .i64 0, .int .i64 0, .bool false] 55)).grown hgx (fun b hb => Or.inr (Or.inr (Or.inl hb))))
          have HB5 := hid (hb4.setCell 4 (.slice A4 (d.sc.notes.length + 1) c4n))
          go_end0
          rw [← HR.out]
          exact DEnds.ok HB5.out TD.out.1 TD.out.2
         exact rN
        exact rN
       exact rN
      exact rN
     refine rC rfl (fun K hK => ?_) ?_
     ·
      (go_simp; refine hK _ _ ?_; clear hK K; try simp only [Act.put, sS])
      refine tR [5, 7] (by kernel_rfl) rfl ?_
      refine rC rfl (fun K hK => ?_) ?_
      ·
       (go_simp; refine hK _ _ ?_; clear hK K; try simp only [Act.put, sS])
       refine tR [7] (by kernel_rfl) rfl ?_
       refine rC rfl (fun K hK => ?_) ?_
       ·
        (go_simp; refine hK _ _ ?_; clear hK K; try simp only [Act.put, sS])
        refine tR [8] (by kernel_rfl) rfl ?_
        refine rC rfl (fun K hK => ?_) ?_
        ·
         refine step_apg _ (by rfl) (.tmp 56) (.tmp 58) 22 55 (.agg #[.int .i64 0, .int .i64 0, .int .i64 0, .int .i64 0, .int .i64 0, .int .i64 0, .int .i64 0, .int .i64 0, .int .i64 0, .bool false]) 10 80 rfl Tryz.underlying22 info_N rfl (by decide) (g + 1) (.slice AN d.sc.notes.length cN) d.sc.notes.length (rcells Nte.cs d.sc.notes) rfl (N11V.out.on ((Below.refl w11.heap.size w11).alloc (Nat.le_refl _) (.cells #[.int .i64 nv, .int .i64 na, .int .i64 nb, .int .i64 0, .int .i64 0, .int .i64 0, .int .i64 0, .int .i64 0, .int .i64 0, .bool false] 55))).drew _ 1 1 (Nte.cs ⟨nv, na, nb, vc0, false⟩) rfl ⟨_, shows_drew (shows_N w11 ⟨nv, na, nb, vc0, false⟩ _ rfl)⟩ (Nte.cs_one ⟨nv, na, nb, vc0, false⟩) (by simp only [maxLen]; omega) (by omega) (by simp; omega) ?_
         intro v4 w12 ho4 hg4 _
         replace hg4 := undrewg hg4
         have HO4 := hid (OwnN.snoc (x := ⟨nv, na, nb, vc0, false⟩) ho4)
         obtain ⟨A4, c4n, rfl, hc4, hr4⟩ := HO4.out.form
         clear hr4 hc4 ho4
         have t12 := (T11.out.alloc (.cells #[.int .i64 nv, .int .i64 na, .int .i64 nb, .int .i64 0, .int .i64 0, .int .i64 0, .int .i64 0, .int .i64 0, .int .i64 0, .bool false] 55)).grown hg4 HOG.out
         have h4w := t12.c4
         rw [HV.out] at h4w
         have f4w := t12.fr 4
         refine hK _ _ ?_
         clear hK K
         try simp only [Act.put, sS]
         refine tK 9 ?_ rfl (by kernel_rfl) (fun _ _ _ h => h) (Or.inl ⟨by rfl, fun w => ?_⟩) ?_; rotate_left; (go_simp; try with_reducible rfl)
         try simp only [Act.put, sS]
         refine tK 10 ?_ rfl (by kernel_rfl) (fun _ _ _ h => h) (Or.inl ⟨by rfl, fun w => ?_⟩) ?_; rotate_left; (go_simp; try with_reducible rfl)
         try simp only [Act.put, sS]
         refine tK 11 ?_ rfl (by kernel_rfl) (fun _ _ _ h => h) (Or.inl ⟨by rfl, fun w => ?_⟩) ?_; rotate_left; (go_simp; try with_reducible rfl)
         try simp only [Act.put, sS]
         refine tR [12] (by kernel_rfl) rfl ?_
         refine rC rfl (fun K hK => ?_) ?_
         ·
          (go_simp; refine hK _ _ ?_; clear hK K; try simp only [Act.put, sS])
          refine wpAny_done (by kernel_rfl) ?_ _
          have HO5 : Hid (OwnN w12 (g + 1) (.slice A4 (d.sc.notes.length + 1) c4n) (d.sc.notes ++ [⟨nv, na, nb, vc0, false⟩])) := by
           have := HO4.out
           rw [List.length_append] at this
           exact this
          have hgx : (w11.alloc (.cells #[.int .i64 nv, .int .i64 na, .int .i64 nb, .int .i64 0, .int .i64 0, .int .i64 0, .int .i64 0, .int .i64 0, .int .i64 0, .bool false] 55)).grownBy w12 x.n.ownBlock := by rw [HV.out]; exact hg4
          have TD := hid (Dr.addn D10.out N9.out.tk HGW.out NM.out hgx HO5.out)
          have hb0 : Far g gm x W w10 := BG.out.trans N9.out.only.away
          have hb4 : Far g gm x W w12 := (((hb0.grown HGW.out (fun b e => by injection e with e; exact Or.inr (Or.inl e.symm))).alloc (.cells #[.int .i64 nv, .int .i64 na, .int .i64 nb, .int .i64 0, .int .i64 0, .int .i64 0, .int .i64 0, .int .i64 0, .int .i64 0, .bool false] 55)).grown hgx (fun b hb => Or.inr (Or.inr (Or.inl hb))))
          have HB5 := hid (hb4.setCell 4 (.slice A4 (d.sc.notes.length + 1) c4n))
          go_end0
          rw [← HR.out]
          exact DEnds.ok HB5.out TD.out.1 TD.out.2
         exact rN
        exact rN
       exact rN
      refine rC rfl (fun K hK => ?_) ?_
      ·
       (go_simp; refine hK _ _ ?_; clear hK K; try simp only [Act.put, sS])
       refine tR [5] (by kernel_rfl) rfl ?_
       refine rC rfl (fun K hK => ?_) ?_
       ·
        (go_simp; refine hK _ _ ?_; clear hK K; try simp only [Act.put, sS])
        refine tR [8] (by kernel_rfl) rfl ?_
        refine rC rfl (fun K hK => ?_) ?_
        ·
         refine step_apg _ (by rfl) (.tmp 56) (.tmp 58) 22 55 (.agg #[.int .i64 0, .int .i64 0, .int .i64 0, .int .i64 0, .int .i64 0, .int .i64 0, .int .i64 0, .int .i64 0, .int .i64 0, .bool false]) 10 80 rfl Tryz.underlying22 info_N rfl (by decide) (g + 1) (.slice AN d.sc.notes.length cN) d.sc.notes.length (rcells Nte.cs d.sc.notes) rfl (N11V.out.on ((Below.refl w11.heap.size w11).alloc (Nat.le_refl _) (.cells #[.int .i64 nv, .int .i64 na, .int .i64 nb, .int .i64 0, .int .i64 0, .int .i64 0, .int .i64 0, .int .i64 0, .int .i64 0, .bool false] 55))).drew _ 1 1 (Nte.cs ⟨nv, na, nb, vc0, false⟩) rfl ⟨_, shows_drew (shows_N w11 ⟨nv, na, nb, vc0, false⟩ _ rfl)⟩ (Nte.cs_one ⟨nv, na, nb, vc0, false⟩) (by simp only [maxLen]; omega) (by omega) (by simp; omega) ?_
         intro v4 w12 ho4 hg4 _
         replace hg4 := undrewg hg4
         have HO4 := hid (OwnN.snoc (x := ⟨nv, na, nb, vc0, false⟩) ho4)
         obtain ⟨A4, c4n, rfl, hc4, hr4⟩ := HO4.out.form
         clear hr4 hc4 ho4
         have t12 := (T11.out.alloc (.cells #[.int .i64 nv, .int .i64 na, .int .i64 nb, .int .i64 0, .int .i64 0, .int .i64 0, .int .i64 0, .int .i64 0, .int .i64 0, .bool false] 55)).grown hg4 HOG.out
         have h4w := t12.c4
         rw [HV.out] at h4w
         have f4w := t12.fr 4
         refine hK _ _ ?_
         clear hK K
         try simp only [Act.put, sS]
         refine tK 9 ?_ rfl (by kernel_rfl) (fun _ _ _ h => h) (Or.inl ⟨by rfl, fun w => ?_⟩) ?_; rotate_left; (go_simp; try with_reducible rfl)
         try simp only [Act.put, sS]
         refine tK 10 ?_ rfl (by kernel_rfl) (fun _ _ _ h => h) (Or.inl ⟨by rfl, fun w => ?_⟩) ?_; rotate_left; (go_simp; try with_reducible rfl)
         try simp only [Act.put, sS]
         refine tK 11 ?_ rfl (by kernel_rfl) (fun _ _ _ h => h) (Or.inl ⟨by rfl, fun w => ?_⟩) ?_; rotate_left; (go_simp; try with_reducible rfl)
         try simp only [Act.put, sS]
         refine tR [12] (by kernel_rfl) rfl ?_
         refine rC rfl (fun K hK => ?_) ?_
         ·
          (go_simp; refine hK _ _ ?_; clear hK K; try simp only [Act.put, sS])
          refine wpAny_done (by kernel_rfl) ?_ _
          have HO5 : Hid (OwnN w12 (g + 1) (.slice A4 (d.sc.notes.length + 1) c4n) (d.sc.notes ++ [⟨nv, na, nb, vc0, false⟩])) := by
           have := HO4.out
           rw [List.length_append] at this
           exact this
          have hgx : (w11.alloc (.cells #[.int .i64 nv, .int .i64 na, .int .i64 nb, .int .i64 0, .int .i64 0, .int .i64 0, .int .i64 0, .int .i64 0, .int .i64 0, .bool false] 55)).grownBy w12 x.n.ownBlock := by rw [HV.out]; exact hg4
          have TD := hid (Dr.addn D10.out N9.out.tk HGW.out NM.out hgx HO5.out)
          have hb0 : Far g gm x W w10 := BG.out.trans N9.out.only.away
          have hb4 : Far g gm x W w12 := (((hb0.grown HGW.out (fun b e => by injection e with e; exact Or.inr (Or.inl e.symm))).alloc (.cells #[.int .i64 nv, .int .i64 na, .int .i64 nb, .int .i64 0, .int .i64 0, .int .i64 0, .int .i64 0, .int .i64 0, .int .i64 0, .bool false] 55)).grown hgx (fun b hb => Or.inr (Or.inr (Or.inl hb))))
          have HB5 := hid (hb4.setCell 4 (.slice A4 (d.sc.notes.length + 1) c4n))
          go_end0
          rw [← HR.out]
          exact DEnds.ok HB5.out TD.out.1 TD.out.2
         exact rN
        exact rN
       exact rN
      exact rN
     exact rN
    exact rN
   exact rN
  exact rN
 have hat : atR false r6 = ivalR r7 := by simp only [atR, hq7]; rfl
 simp only [hat] at HR
 have K7 := hid (K6.out.1.has hq7)
 refine (has_one _ g en x r6 [97, 116] (by decide) _ hq7 N6.out.tk).mono ?_
 rintro e w7 ⟨rfl, o, t⟩
 have N7 := hid (N6.out.on o t)
 clear o t hq7 hat
 go_wp2_with fail
 rcases hq8 : ivalR r7 with ⟨p, r8⟩ | ⟨r8, k⟩
 rotate_left
 ·
  refine (ival_any _ g en x r7 N7.out.tk K7.out.num (Primes.onl HP1.out N7.out.only) HP1.out.2).mono ?_
  rintro e w ⟨o, h⟩
  rw [hq8] at h
  obtain rfl := h
  simp only [hq8, Rs.err_bind] at HR
  refine ⟨rfl, ?_⟩
  rw [← HR.out]
  exact DEnds.err (BG.out.trans (N7.out.only.trans o).away)
 refine (ival_any _ g en x r7 N7.out.tk K7.out.num (Primes.onl HP1.out N7.out.only) HP1.out.2).mono ?_
 rintro e w8 ⟨o, h⟩
 rw [hq8] at h
 obtain ⟨rfl, t⟩ := h
 have N8 := hid (N7.out.on o t)
 have K8 := hid (K7.out.ival hq8)
 simp only [hq8, Rs.ok_bind] at HR
 have c3 := N8.out.blk.cell 3
 have f3 := N8.out.blk.frozen 3
 have c4 := N8.out.blk.cell 4
 have f4 := N8.out.blk.frozen 4
 have c5 := N8.out.blk.cell 5
 have f5 := N8.out.blk.frozen 5
 have c6 := N8.out.blk.cell 6
 have f6 := N8.out.blk.frozen 6
 have c7 := N8.out.blk.cell 7
 have f7 := N8.out.blk.frozen 7
 have c8 := N8.out.blk.cell 8
 have f8 := N8.out.blk.frozen 8
 have N8 := hid (((((((N8.out.put 3 (.int .i64 p.a)).put 4 (.int .i64 p.b)).put 5 (.int .i64 p.c)).put 6 (.int .i64 p.d)).put 7 (.int .i64 p.e)).put 8 (.int .i64 p.f)).cast (show _ = #[.int .i64 nv, .int .i64 na, .int .i64 nb, .int .i64 p.a, .int .i64 p.b, .int .i64 p.c, .int .i64 p.d, .int .i64 p.e, .int .i64 p.f, .bool false] by simp))
 clear o t hq8
 go_wp2_with fail
 rcases hq9 : wantsR [mSemi] r8 with ⟨u9, r9⟩ | ⟨r9, k⟩
 rotate_left
 ·
  refine (want_at1 _ g en _ x r8 [59] (by decide) _ hq9 N8.out.tk (by simp)).mono ?_
  rintro e w ⟨o, rfl⟩
  simp only [hq9, Rs.err_bind] at HR
  refine ⟨rfl, ?_⟩
  rw [← HR.out]
  exact DEnds.err (BG.out.trans (N8.out.only.trans o).away)
 refine (want_at1 _ g en _ x r8 [59] (by decide) _ hq9 N8.out.tk (by simp)).mono ?_
 rintro e w10 ⟨o, rfl, t⟩
 have N9 := hid (N8.out.on o t)
 have K9 := hid (K8.out.wants hq9)
 simp only [hq9, Rs.ok_bind] at HR
 clear o t hq9
 go_wp2_with fail
 obtain ⟨wz, hwz⟩ : ∃ wz, wz = w10 := ⟨_, rfl⟩
 have D10 := hid (HD1.out.only HT1.out N9.out.only)
 have hlen := D10.out.len
 obtain ⟨w11, hmu, NM, hgw⟩ := names_put D10.out.names s (by have := HS8.out.1; omega) HS8.out.2 (by omega) d.sc.notes.length hlen
 obtain ⟨AN, cN, hv, hcl, hrd⟩ := D10.out.n.form
 have HV := hid hv
 have g2 := N9.out.tk.c2
 rw [D10.out.m] at g2
 have g4 := N9.out.tk.c4
 rw [hv] at g4
 have hgz := N9.out.tk.lt
 clear hv hrd hcl hlen hwz wz
 refine wp_region_any (by kernel_rfl) ?_
 change wpAny _ _ _ _ _ _ _ (World.drew _)
 refine tK 0 ?_ rfl (by kernel_rfl) (fun _ _ _ h => h) (Or.inl ⟨by rfl, fun w => ?_⟩) ?_; rotate_left; (go_simp; try with_reducible rfl)
 try simp only [Act.put, sS]
 refine tK 1 ?_ rfl (by kernel_rfl) (fun _ _ _ h => h) (Or.inl ⟨by rfl, fun w => ?_⟩) ?_; rotate_left; (go_simp; try with_reducible rfl)
 try simp only [Act.put, sS]
 refine tK 2 ?_ rfl (by kernel_rfl) (fun _ _ _ h => h) (Or.inl ⟨by rfl, fun w => ?_⟩) ?_; rotate_left; (go_simp; try with_reducible rfl)
 try simp only [Act.put, sS]
 refine tK 4 ?_ rfl (by kernel_rfl) (fun _ _ _ h => h) (Or.inl ⟨by rfl, fun w => ?_⟩) ?_; rotate_left; (go_simp; try with_reducible rfl)
 try simp only [Act.put, sS]
 refine tK 5 ?_ rfl (by kernel_rfl) (fun _ _ _ h => h) (Or.inl ⟨by rfl, fun w => ?_⟩) ?_; rotate_left; (go_simp; try with_reducible rfl)
 try simp only [Act.put, sS]
 refine tK 6 ?_ rfl (by kernel_rfl) (fun _ _ _ h => h) (Or.inl ⟨by rfl, fun w => ?_⟩) ?_; rotate_left; (go_simp; try with_reducible rfl)
 try simp only [Act.put, sS]
 refine tK 7 ?_ rfl (by kernel_rfl) (fun _ _ _ h => h) (Or.inl ⟨by rfl, fun w => ?_⟩) ?_; rotate_left; (go_simp; try with_reducible rfl)
 try simp only [Act.put, sS]
 refine tK 8 ?_ rfl (by kernel_rfl) (fun _ _ _ h => h) (Or.inl ⟨by rfl, fun w => ?_⟩) ?_; rotate_left; (go_simp; try with_reducible rfl)
 try simp only [Act.put, sS]
 refine tR [3, 9] (by kernel_rfl) rfl ?_
 refine rC rfl (fun K hK => ?_) ?_
 ·
  (go_simp; refine hK _ _ ?_; clear hK K; try simp only [Act.put, sS])
  refine tR [9] (by kernel_rfl) rfl ?_
  refine rC rfl (fun K hK => ?_) ?_
  ·
   (go_simp; refine hK _ _ ?_; clear hK K; try simp only [Act.put, sS])
   refine tK 10 ?_ rfl (by kernel_rfl) (fun _ _ _ h => h) (Or.inl ⟨by rfl, fun w => ?_⟩) ?_; rotate_left; (go_simp; try with_reducible rfl)
   try simp only [Act.put, sS]
   refine tR [11] (by kernel_rfl) rfl ?_
   refine rC rfl (fun K hK => ?_) ?_
   ·
    (go_simp; refine hK _ _ ?_; clear hK K; try simp only [Act.put, sS])
    refine wpAny_done (by kernel_rfl) ?_ _
    have T11 := hid (N9.out.tk.grownm hgw D10.out.gm)
    have B11 := hid (N9.out.blk.grown hgw (by intro e; injection e with e; exact names_apart D10.out.names N9.out.blk e.symm))
    have n11 := hid (OwnN.kept D10.out.n hgw (.inr (names_row D10.out.names D10.out.n)))
    have n11v : OwnN w11 (g + 1) (.slice AN d.sc.notes.length cN) d.sc.notes := by rw [← HV.out]; exact n11.out
    have N11V := hid n11v
    have hog := own_gt n11v
    have HOG := hid hog
    clear n11v hog
    have h4 := T11.out.c4
    rw [HV.out] at h4
    have hg11 := T11.out.lt
    have hh11 := B11.out.lt
    have c0 := B11.out.cell 0
    have c1 := B11.out.cell 1
    have c2 := B11.out.cell 2
    have c3 := B11.out.cell 3
    have c4 := B11.out.cell 4
    have c5 := B11.out.cell 5
    have c6 := B11.out.cell 6
    have c7 := B11.out.cell 7
    have c8 := B11.out.cell 8
    have c9 := B11.out.cell 9
    have NM := hid NM
    have HGW := hid hgw
    clear hmu hgw g2 g4
    go_wp2_with fail
    refine wp_region_any (by kernel_rfl) ?_
    change wpAny _ _ _ _ _ _ _ (World.drew _)
    refine tK 0 ?_ rfl (by kernel_rfl) (fun _ _ _ h => h) (Or.inl ⟨by rfl, fun w => ?_⟩) ?_; rotate_left; (go_simp; try with_reducible rfl)
    try simp only [Act.put, sS]
    refine tK 1 ?_ rfl (by kernel_rfl) (fun _ _ _ h => h) (Or.inl ⟨by rfl, fun w => ?_⟩) ?_; rotate_left; (go_simp; try with_reducible rfl)
    try simp only [Act.put, sS]
    refine tK 2 ?_ rfl (by kernel_rfl) (fun _ _ _ h => h) (Or.inl ⟨by rfl, fun w => ?_⟩) ?_; rotate_left; (go_simp; try with_reducible rfl)
    try simp only [Act.put, sS]
    refine tK 3 ?_ rfl (by kernel_rfl) (fun _ _ _ h => h) (Or.inl ⟨by rfl, fun w => ?_⟩) ?_; rotate_left; (go_simp; try with_reducible rfl)
    try simp only [Act.put, sS]
    refine tK 4 ?_ rfl (by kernel_rfl) (fun _ _ _ h => h) (Or.inl ⟨by rfl, fun w => ?_⟩) ?_; rotate_left; (go_simp; try with_reducible rfl)
    try simp only [Act.put, sS]
    refine tR [5, 6] (by kernel_rfl) rfl ?_
    refine rC rfl (fun K hK => ?_) ?_
    ·
     (go_simp; refine hK _ _ ?_; clear hK K; try simp only [Act.put, sS])
     refine tR [6] (by kernel_rfl) rfl ?_
     refine rC rfl (fun K hK => ?_) ?_
     ·
      (go_simp; refine hK _ _ ?_; clear hK K; try simp only [Act.put, sS])
      refine tR [7] (by kernel_rfl) rfl ?_
      refine rC rfl (fun K hK => ?_) ?_
      ·
       (go_simp; refine hK _ _ ?_; clear hK K; try simp only [Act.put, sS])
       refine tR [8] (by kernel_rfl) rfl ?_
       refine rC rfl (fun K hK => ?_) ?_
       ·
        refine step_apg _ (by rfl) (.tmp 56) (.tmp 58) 22 55 (.agg #[.int .i64 0, .int .i64 0, .int .i64 0, .int .i64 0, .int .i64 0, .int .i64 0, .int .i64 0, .int .i64 0, .int .i64 0, .bool false]) 10 80 rfl Tryz.underlying22 info_N rfl (by decide) (g + 1) (.slice AN d.sc.notes.length cN) d.sc.notes.length (rcells Nte.cs d.sc.notes) rfl (N11V.out.on ((Below.refl w11.heap.size w11).alloc (Nat.le_refl _) (.cells #[.int .i64 nv, .int .i64 na, .int .i64 nb, .int .i64 p.a, .int .i64 p.b, .int .i64 p.c, .int .i64 p.d, .int .i64 p.e, .int .i64 p.f, .bool false] 55))).drew _ 1 1 (Nte.cs ⟨nv, na, nb, p, false⟩) rfl ⟨_, shows_drew (shows_N w11 ⟨nv, na, nb, p, false⟩ _ rfl)⟩ (Nte.cs_one ⟨nv, na, nb, p, false⟩) (by simp only [maxLen]; omega) (by omega) (by simp; omega) ?_
        intro v4 w12 ho4 hg4 _
        replace hg4 := undrewg hg4
        have HO4 := hid (OwnN.snoc (x := ⟨nv, na, nb, p, false⟩) ho4)
        obtain ⟨A4, c4n, rfl, hc4, hr4⟩ := HO4.out.form
        clear hr4 hc4 ho4
        have t12 := (T11.out.alloc (.cells #[.int .i64 nv, .int .i64 na, .int .i64 nb, .int .i64 p.a, .int .i64 p.b, .int .i64 p.c, .int .i64 p.d, .int .i64 p.e, .int .i64 p.f, .bool false] 55)).grown hg4 HOG.out
        have h4w := t12.c4
        rw [HV.out] at h4w
        have f4w := t12.fr 4
        refine hK _ _ ?_
        clear hK K
        try simp only [Act.put, sS]
        refine tK 9 ?_ rfl (by kernel_rfl) (fun _ _ _ h => h) (Or.inl ⟨by rfl, fun w => ?_⟩) ?_; rotate_left; (go_simp; try with_reducible rfl)
        try simp only [Act.put, sS]
        refine tK 10 ?_ rfl (by kernel_rfl) (fun _ _ _ h => h) (Or.inl ⟨by rfl, fun w => ?_⟩) ?_; rotate_left; (go_simp; try with_reducible rfl)
        try simp only [Act.put, sS]
        refine tK 11 ?_ rfl (by kernel_rfl) (fun _ _ _ h => h) (Or.inl ⟨by rfl, fun w => ?_⟩) ?_; rotate_left; (go_simp; try with_reducible rfl)
        try simp only [Act.put, sS]
        refine tR [12] (by kernel_rfl) rfl ?_
        refine rC rfl (fun K hK => ?_) ?_
        ·
         (go_simp; refine hK _ _ ?_; clear hK K; try simp only [Act.put, sS])
         refine wpAny_done (by kernel_rfl) ?_ _
         have HO5 : Hid (OwnN w12 (g + 1) (.slice A4 (d.sc.notes.length + 1) c4n) (d.sc.notes ++ [⟨nv, na, nb, p, false⟩])) := by
          have := HO4.out
          rw [List.length_append] at this
          exact this
         have hgx : (w11.alloc (.cells #[.int .i64 nv, .int .i64 na, .int .i64 nb, .int .i64 p.a, .int .i64 p.b, .int .i64 p.c, .int .i64 p.d, .int .i64 p.e, .int .i64 p.f, .bool false] 55)).grownBy w12 x.n.ownBlock := by rw [HV.out]; exact hg4
         have TD := hid (Dr.addn D10.out N9.out.tk HGW.out NM.out hgx HO5.out)
         have hb0 : Far g gm x W w10 := BG.out.trans N9.out.only.away
         have hb4 : Far g gm x W w12 := (((hb0.grown HGW.out (fun b e => by injection e with e; exact Or.inr (Or.inl e.symm))).alloc (.cells #[.int .i64 nv, .int .i64 na, .int .i64 nb, .int .i64 p.a, .int .i64 p.b, .int .i64 p.c, .int .i64 p.d, .int .i64 p.e, .int .i64 p.f, .bool false] 55)).grown hgx (fun b hb => Or.inr (Or.inr (Or.inl hb))))
         have HB5 := hid (hb4.setCell 4 (.slice A4 (d.sc.notes.length + 1) c4n))
         go_end0
         rw [← HR.out]
         exact DEnds.ok HB5.out TD.out.1 TD.out.2
        exact rN
       exact rN
      exact rN
     exact rN
    refine rC rfl (fun K hK => ?_) ?_
    ·
     (go_simp; refine hK _ _ ?_; clear hK K; try simp only [Act.put, sS])
     refine tR [5, 7] (by kernel_rfl) rfl ?_
     refine rC rfl (fun K hK => ?_) ?_
     ·
      (go_simp; refine hK _ _ ?_; clear hK K; try simp only [Act.put, sS])
      refine tR [7] (by kernel_rfl) rfl ?_
      refine rC rfl (fun K hK => ?_) ?_
      ·
       (go_simp; refine hK _ _ ?_; clear hK K; try simp only [Act.put, sS])
       refine tR [8] (by kernel_rfl) rfl ?_
       refine rC rfl (fun K hK => ?_) ?_
       ·
        refine step_apg _ (by rfl) (.tmp 56) (.tmp 58) 22 55 (.agg #[.int .i64 0, .int .i64 0, .int .i64 0, .int .i64 0, .int .i64 0, .int .i64 0, .int .i64 0, .int .i64 0, .int .i64 0, .bool false]) 10 80 rfl Tryz.underlying22 info_N rfl (by decide) (g + 1) (.slice AN d.sc.notes.length cN) d.sc.notes.length (rcells Nte.cs d.sc.notes) rfl (N11V.out.on ((Below.refl w11.heap.size w11).alloc (Nat.le_refl _) (.cells #[.int .i64 nv, .int .i64 na, .int .i64 nb, .int .i64 p.a, .int .i64 p.b, .int .i64 p.c, .int .i64 p.d, .int .i64 p.e, .int .i64 p.f, .bool false] 55))).drew _ 1 1 (Nte.cs ⟨nv, na, nb, p, false⟩) rfl ⟨_, shows_drew (shows_N w11 ⟨nv, na, nb, p, false⟩ _ rfl)⟩ (Nte.cs_one ⟨nv, na, nb, p, false⟩) (by simp only [maxLen]; omega) (by omega) (by simp; omega) ?_
        intro v4 w12 ho4 hg4 _
        replace hg4 := undrewg hg4
        have HO4 := hid (OwnN.snoc (x := ⟨nv, na, nb, p, false⟩) ho4)
        obtain ⟨A4, c4n, rfl, hc4, hr4⟩ := HO4.out.form
        clear hr4 hc4 ho4
        have t12 := (T11.out.alloc (.cells #[.int .i64 nv, .int .i64 na, .int .i64 nb, .int .i64 p.a, .int .i64 p.b, .int .i64 p.c, .int .i64 p.d, .int .i64 p.e, .int .i64 p.f, .bool false] 55)).grown hg4 HOG.out
        have h4w := t12.c4
        rw [HV.out] at h4w
        have f4w := t12.fr 4
        refine hK _ _ ?_
        clear hK K
        try simp only [Act.put, sS]
        refine tK 9 ?_ rfl (by kernel_rfl) (fun _ _ _ h => h) (Or.inl ⟨by rfl, fun w => ?_⟩) ?_; rotate_left; (go_simp; try with_reducible rfl)
        try simp only [Act.put, sS]
        refine tK 10 ?_ rfl (by kernel_rfl) (fun _ _ _ h => h) (Or.inl ⟨by rfl, fun w => ?_⟩) ?_; rotate_left; (go_simp; try with_reducible rfl)
        try simp only [Act.put, sS]
        refine tK 11 ?_ rfl (by kernel_rfl) (fun _ _ _ h => h) (Or.inl ⟨by rfl, fun w => ?_⟩) ?_; rotate_left; (go_simp; try with_reducible rfl)
        try simp only [Act.put, sS]
        refine tR [12] (by kernel_rfl) rfl ?_
        refine rC rfl (fun K hK => ?_) ?_
        ·
         (go_simp; refine hK _ _ ?_; clear hK K; try simp only [Act.put, sS])
         refine wpAny_done (by kernel_rfl) ?_ _
         have HO5 : Hid (OwnN w12 (g + 1) (.slice A4 (d.sc.notes.length + 1) c4n) (d.sc.notes ++ [⟨nv, na, nb, p, false⟩])) := by
          have := HO4.out
          rw [List.length_append] at this
          exact this
         have hgx : (w11.alloc (.cells #[.int .i64 nv, .int .i64 na, .int .i64 nb, .int .i64 p.a, .int .i64 p.b, .int .i64 p.c, .int .i64 p.d, .int .i64 p.e, .int .i64 p.f, .bool false] 55)).grownBy w12 x.n.ownBlock := by rw [HV.out]; exact hg4
         have TD := hid (Dr.addn D10.out N9.out.tk HGW.out NM.out hgx HO5.out)
         have hb0 : Far g gm x W w10 := BG.out.trans N9.out.only.away
         have hb4 : Far g gm x W w12 := (((hb0.grown HGW.out (fun b e => by injection e with e; exact Or.inr (Or.inl e.symm))).alloc (.cells #[.int .i64 nv, .int .i64 na, .int .i64 nb, .int .i64 p.a, .int .i64 p.b, .int .i64 p.c, .int .i64 p.d, .int .i64 p.e, .int .i64 p.f, .bool false] 55)).grown hgx (fun b hb => Or.inr (Or.inr (Or.inl hb))))
         have HB5 := hid (hb4.setCell 4 (.slice A4 (d.sc.notes.length + 1) c4n))
         go_end0
         rw [← HR.out]
         exact DEnds.ok HB5.out TD.out.1 TD.out.2
        exact rN
       exact rN
      exact rN
     refine rC rfl (fun K hK => ?_) ?_
     ·
      (go_simp; refine hK _ _ ?_; clear hK K; try simp only [Act.put, sS])
      refine tR [5] (by kernel_rfl) rfl ?_
      refine rC rfl (fun K hK => ?_) ?_
      ·
       (go_simp; refine hK _ _ ?_; clear hK K; try simp only [Act.put, sS])
       refine tR [8] (by kernel_rfl) rfl ?_
       refine rC rfl (fun K hK => ?_) ?_
       ·
        refine step_apg _ (by rfl) (.tmp 56) (.tmp 58) 22 55 (.agg #[.int .i64 0, .int .i64 0, .int .i64 0, .int .i64 0, .int .i64 0, .int .i64 0, .int .i64 0, .int .i64 0, .int .i64 0, .bool false]) 10 80 rfl Tryz.underlying22 info_N rfl (by decide) (g + 1) (.slice AN d.sc.notes.length cN) d.sc.notes.length (rcells Nte.cs d.sc.notes) rfl (N11V.out.on ((Below.refl w11.heap.size w11).alloc (Nat.le_refl _) (.cells #[.int .i64 nv, .int .i64 na, .int .i64 nb, .int .i64 p.a, .int .i64 p.b, .int .i64 p.c, .int .i64 p.d, .int .i64 p.e, .int .i64 p.f, .bool false] 55))).drew _ 1 1 (Nte.cs ⟨nv, na, nb, p, false⟩) rfl ⟨_, shows_drew (shows_N w11 ⟨nv, na, nb, p, false⟩ _ rfl)⟩ (Nte.cs_one ⟨nv, na, nb, p, false⟩) (by simp only [maxLen]; omega) (by omega) (by simp; omega) ?_
        intro v4 w12 ho4 hg4 _
        replace hg4 := undrewg hg4
        have HO4 := hid (OwnN.snoc (x := ⟨nv, na, nb, p, false⟩) ho4)
        obtain ⟨A4, c4n, rfl, hc4, hr4⟩ := HO4.out.form
        clear hr4 hc4 ho4
        have t12 := (T11.out.alloc (.cells #[.int .i64 nv, .int .i64 na, .int .i64 nb, .int .i64 p.a, .int .i64 p.b, .int .i64 p.c, .int .i64 p.d, .int .i64 p.e, .int .i64 p.f, .bool false] 55)).grown hg4 HOG.out
        have h4w := t12.c4
        rw [HV.out] at h4w
        have f4w := t12.fr 4
        refine hK _ _ ?_
        clear hK K
        try simp only [Act.put, sS]
        refine tK 9 ?_ rfl (by kernel_rfl) (fun _ _ _ h => h) (Or.inl ⟨by rfl, fun w => ?_⟩) ?_; rotate_left; (go_simp; try with_reducible rfl)
        try simp only [Act.put, sS]
        refine tK 10 ?_ rfl (by kernel_rfl) (fun _ _ _ h => h) (Or.inl ⟨by rfl, fun w => ?_⟩) ?_; rotate_left; (go_simp; try with_reducible rfl)
        try simp only [Act.put, sS]
        refine tK 11 ?_ rfl (by kernel_rfl) (fun _ _ _ h => h) (Or.inl ⟨by rfl, fun w => ?_⟩) ?_; rotate_left; (go_simp; try with_reducible rfl)
        try simp only [Act.put, sS]
        refine tR [12] (by kernel_rfl) rfl ?_
        refine rC rfl (fun K hK => ?_) ?_
        ·
         (go_simp; refine hK _ _ ?_; clear hK K; try simp only [Act.put, sS])
         refine wpAny_done (by kernel_rfl) ?_ _
         have HO5 : Hid (OwnN w12 (g + 1) (.slice A4 (d.sc.notes.length + 1) c4n) (d.sc.notes ++ [⟨nv, na, nb, p, false⟩])) := by
          have := HO4.out
          rw [List.length_append] at this
          exact this
         have hgx : (w11.alloc (.cells #[.int .i64 nv, .int .i64 na, .int .i64 nb, .int .i64 p.a, .int .i64 p.b, .int .i64 p.c, .int .i64 p.d, .int .i64 p.e, .int .i64 p.f, .bool false] 55)).grownBy w12 x.n.ownBlock := by rw [HV.out]; exact hg4
         have TD := hid (Dr.addn D10.out N9.out.tk HGW.out NM.out hgx HO5.out)
         have hb0 : Far g gm x W w10 := BG.out.trans N9.out.only.away
         have hb4 : Far g gm x W w12 := (((hb0.grown HGW.out (fun b e => by injection e with e; exact Or.inr (Or.inl e.symm))).alloc (.cells #[.int .i64 nv, .int .i64 na, .int .i64 nb, .int .i64 p.a, .int .i64 p.b, .int .i64 p.c, .int .i64 p.d, .int .i64 p.e, .int .i64 p.f, .bool false] 55)).grown hgx (fun b hb => Or.inr (Or.inr (Or.inl hb))))
         have HB5 := hid (hb4.setCell 4 (.slice A4 (d.sc.notes.length + 1) c4n))
         go_end0
         rw [← HR.out]
         exact DEnds.ok HB5.out TD.out.1 TD.out.2
        exact rN
       exact rN
      exact rN
     exact rN
    exact rN
   exact rN
  exact rN
 refine rC rfl (fun K hK => ?_) ?_
 ·
  (go_simp; refine hK _ _ ?_; clear hK K; try simp only [Act.put, sS])
  refine tK 10 ?_ rfl (by kernel_rfl) (fun _ _ _ h => h) (Or.inl ⟨by rfl, fun w => ?_⟩) ?_; rotate_left; (go_simp; try with_reducible rfl)
  try simp only [Act.put, sS]
  refine tR [3] (by kernel_rfl) rfl ?_
  refine rC rfl (fun K hK => ?_) ?_
  ·
   (go_simp; refine hK _ _ ?_; clear hK K; try simp only [Act.put, sS])
   refine tR [11] (by kernel_rfl) rfl ?_
   refine rC rfl (fun K hK => ?_) ?_
   ·
    (go_simp; refine hK _ _ ?_; clear hK K; try simp only [Act.put, sS])
    refine wpAny_done (by kernel_rfl) ?_ _
    have T11 := hid (N9.out.tk.grownm hgw D10.out.gm)
    have B11 := hid (N9.out.blk.grown hgw (by intro e; injection e with e; exact names_apart D10.out.names N9.out.blk e.symm))
    have n11 := hid (OwnN.kept D10.out.n hgw (.inr (names_row D10.out.names D10.out.n)))
    have n11v : OwnN w11 (g + 1) (.slice AN d.sc.notes.length cN) d.sc.notes := by rw [← HV.out]; exact n11.out
    have N11V := hid n11v
    have hog := own_gt n11v
    have HOG := hid hog
    clear n11v hog
    have h4 := T11.out.c4
    rw [HV.out] at h4
    have hg11 := T11.out.lt
    have hh11 := B11.out.lt
    have c0 := B11.out.cell 0
    have c1 := B11.out.cell 1
    have c2 := B11.out.cell 2
    have c3 := B11.out.cell 3
    have c4 := B11.out.cell 4
    have c5 := B11.out.cell 5
    have c6 := B11.out.cell 6
    have c7 := B11.out.cell 7
    have c8 := B11.out.cell 8
    have c9 := B11.out.cell 9
    have NM := hid NM
    have HGW := hid hgw
    clear hmu hgw g2 g4
    go_wp2_with fail
    refine wp_region_any (by kernel_rfl) ?_
    change wpAny _ _ _ _ _ _ _ (World.drew _)
    refine tK 0 ?_ rfl (by kernel_rfl) (fun _ _ _ h => h) (Or.inl ⟨by rfl, fun w => ?_⟩) ?_; rotate_left; (go_simp; try with_reducible rfl)
    try simp only [Act.put, sS]
    refine tK 1 ?_ rfl (by kernel_rfl) (fun _ _ _ h => h) (Or.inl ⟨by rfl, fun w => ?_⟩) ?_; rotate_left; (go_simp; try with_reducible rfl)
    try simp only [Act.put, sS]
    refine tK 2 ?_ rfl (by kernel_rfl) (fun _ _ _ h => h) (Or.inl ⟨by rfl, fun w => ?_⟩) ?_; rotate_left; (go_simp; try with_reducible rfl)
    try simp only [Act.put, sS]
    refine tK 3 ?_ rfl (by kernel_rfl) (fun _ _ _ h => h) (Or.inl ⟨by rfl, fun w => ?_⟩) ?_; rotate_left; (go_simp; try with_reducible rfl)
    try simp only [Act.put, sS]
    refine tK 4 ?_ rfl (by kernel_rfl) (fun _ _ _ h => h) (Or.inl ⟨by rfl, fun w => ?_⟩) ?_; rotate_left; (go_simp; try with_reducible rfl)
    try simp only [Act.put, sS]
    refine tR [5, 6] (by kernel_rfl) rfl ?_
    refine rC rfl (fun K hK => ?_) ?_
    ·
     (go_simp; refine hK _ _ ?_; clear hK K; try simp only [Act.put, sS])
     refine tR [6] (by kernel_rfl) rfl ?_
     refine rC rfl (fun K hK => ?_) ?_
     ·
      (go_simp; refine hK _ _ ?_; clear hK K; try simp only [Act.put, sS])
      refine tR [7] (by kernel_rfl) rfl ?_
      refine rC rfl (fun K hK => ?_) ?_
      ·
       (go_simp; refine hK _ _ ?_; clear hK K; try simp only [Act.put, sS])
       refine tR [8] (by kernel_rfl) rfl ?_
       refine rC rfl (fun K hK => ?_) ?_
       ·
        refine step_apg _ (by rfl) (.tmp 56) (.tmp 58) 22 55 (.agg #[.int .i64 0, .int .i64 0, .int .i64 0, .int .i64 0, .int .i64 0, .int .i64 0, .int .i64 0, .int .i64 0, .int .i64 0, .bool false]) 10 80 rfl Tryz.underlying22 info_N rfl (by decide) (g + 1) (.slice AN d.sc.notes.length cN) d.sc.notes.length (rcells Nte.cs d.sc.notes) rfl (N11V.out.on ((Below.refl w11.heap.size w11).alloc (Nat.le_refl _) (.cells #[.int .i64 nv, .int .i64 na, .int .i64 nb, .int .i64 p.a, .int .i64 p.b, .int .i64 p.c, .int .i64 p.d, .int .i64 p.e, .int .i64 p.f, .bool false] 55))).drew _ 1 1 (Nte.cs ⟨nv, na, nb, p, false⟩) rfl ⟨_, shows_drew (shows_N w11 ⟨nv, na, nb, p, false⟩ _ rfl)⟩ (Nte.cs_one ⟨nv, na, nb, p, false⟩) (by simp only [maxLen]; omega) (by omega) (by simp; omega) ?_
        intro v4 w12 ho4 hg4 _
        replace hg4 := undrewg hg4
        have HO4 := hid (OwnN.snoc (x := ⟨nv, na, nb, p, false⟩) ho4)
        obtain ⟨A4, c4n, rfl, hc4, hr4⟩ := HO4.out.form
        clear hr4 hc4 ho4
        have t12 := (T11.out.alloc (.cells #[.int .i64 nv, .int .i64 na, .int .i64 nb, .int .i64 p.a, .int .i64 p.b, .int .i64 p.c, .int .i64 p.d, .int .i64 p.e, .int .i64 p.f, .bool false] 55)).grown hg4 HOG.out
        have h4w := t12.c4
        rw [HV.out] at h4w
        have f4w := t12.fr 4
        refine hK _ _ ?_
        clear hK K
        try simp only [Act.put, sS]
        refine tK 9 ?_ rfl (by kernel_rfl) (fun _ _ _ h => h) (Or.inl ⟨by rfl, fun w => ?_⟩) ?_; rotate_left; (go_simp; try with_reducible rfl)
        try simp only [Act.put, sS]
        refine tK 10 ?_ rfl (by kernel_rfl) (fun _ _ _ h => h) (Or.inl ⟨by rfl, fun w => ?_⟩) ?_; rotate_left; (go_simp; try with_reducible rfl)
        try simp only [Act.put, sS]
        refine tK 11 ?_ rfl (by kernel_rfl) (fun _ _ _ h => h) (Or.inl ⟨by rfl, fun w => ?_⟩) ?_; rotate_left; (go_simp; try with_reducible rfl)
        try simp only [Act.put, sS]
        refine tR [12] (by kernel_rfl) rfl ?_
        refine rC rfl (fun K hK => ?_) ?_
        ·
         (go_simp; refine hK _ _ ?_; clear hK K; try simp only [Act.put, sS])
         refine wpAny_done (by kernel_rfl) ?_ _
         have HO5 : Hid (OwnN w12 (g + 1) (.slice A4 (d.sc.notes.length + 1) c4n) (d.sc.notes ++ [⟨nv, na, nb, p, false⟩])) := by
          have := HO4.out
          rw [List.length_append] at this
          exact this
         have hgx : (w11.alloc (.cells #[.int .i64 nv, .int .i64 na, .int .i64 nb, .int .i64 p.a, .int .i64 p.b, .int .i64 p.c, .int .i64 p.d, .int .i64 p.e, .int .i64 p.f, .bool false] 55)).grownBy w12 x.n.ownBlock := by rw [HV.out]; exact hg4
         have TD := hid (Dr.addn D10.out N9.out.tk HGW.out NM.out hgx HO5.out)
         have hb0 : Far g gm x W w10 := BG.out.trans N9.out.only.away
         have hb4 : Far g gm x W w12 := (((hb0.grown HGW.out (fun b e => by injection e with e; exact Or.inr (Or.inl e.symm))).alloc (.cells #[.int .i64 nv, .int .i64 na, .int .i64 nb, .int .i64 p.a, .int .i64 p.b, .int .i64 p.c, .int .i64 p.d, .int .i64 p.e, .int .i64 p.f, .bool false] 55)).grown hgx (fun b hb => Or.inr (Or.inr (Or.inl hb))))
         have HB5 := hid (hb4.setCell 4 (.slice A4 (d.sc.notes.length + 1) c4n))
         go_end0
         rw [← HR.out]
         exact DEnds.ok HB5.out TD.out.1 TD.out.2
        exact rN
       exact rN
      exact rN
     exact rN
    refine rC rfl (fun K hK => ?_) ?_
    ·
     (go_simp; refine hK _ _ ?_; clear hK K; try simp only [Act.put, sS])
     refine tR [5, 7] (by kernel_rfl) rfl ?_
     refine rC rfl (fun K hK => ?_) ?_
     ·
      (go_simp; refine hK _ _ ?_; clear hK K; try simp only [Act.put, sS])
      refine tR [7] (by kernel_rfl) rfl ?_
      refine rC rfl (fun K hK => ?_) ?_
      ·
       (go_simp; refine hK _ _ ?_; clear hK K; try simp only [Act.put, sS])
       refine tR [8] (by kernel_rfl) rfl ?_
       refine rC rfl (fun K hK => ?_) ?_
       ·
        refine step_apg _ (by rfl) (.tmp 56) (.tmp 58) 22 55 (.agg #[.int .i64 0, .int .i64 0, .int .i64 0, .int .i64 0, .int .i64 0, .int .i64 0, .int .i64 0, .int .i64 0, .int .i64 0, .bool false]) 10 80 rfl Tryz.underlying22 info_N rfl (by decide) (g + 1) (.slice AN d.sc.notes.length cN) d.sc.notes.length (rcells Nte.cs d.sc.notes) rfl (N11V.out.on ((Below.refl w11.heap.size w11).alloc (Nat.le_refl _) (.cells #[.int .i64 nv, .int .i64 na, .int .i64 nb, .int .i64 p.a, .int .i64 p.b, .int .i64 p.c, .int .i64 p.d, .int .i64 p.e, .int .i64 p.f, .bool false] 55))).drew _ 1 1 (Nte.cs ⟨nv, na, nb, p, false⟩) rfl ⟨_, shows_drew (shows_N w11 ⟨nv, na, nb, p, false⟩ _ rfl)⟩ (Nte.cs_one ⟨nv, na, nb, p, false⟩) (by simp only [maxLen]; omega) (by omega) (by simp; omega) ?_
        intro v4 w12 ho4 hg4 _
        replace hg4 := undrewg hg4
        have HO4 := hid (OwnN.snoc (x := ⟨nv, na, nb, p, false⟩) ho4)
        obtain ⟨A4, c4n, rfl, hc4, hr4⟩ := HO4.out.form
        clear hr4 hc4 ho4
        have t12 := (T11.out.alloc (.cells #[.int .i64 nv, .int .i64 na, .int .i64 nb, .int .i64 p.a, .int .i64 p.b, .int .i64 p.c, .int .i64 p.d, .int .i64 p.e, .int .i64 p.f, .bool false] 55)).grown hg4 HOG.out
        have h4w := t12.c4
        rw [HV.out] at h4w
        have f4w := t12.fr 4
        refine hK _ _ ?_
        clear hK K
        try simp only [Act.put, sS]
        refine tK 9 ?_ rfl (by kernel_rfl) (fun _ _ _ h => h) (Or.inl ⟨by rfl, fun w => ?_⟩) ?_; rotate_left; (go_simp; try with_reducible rfl)
        try simp only [Act.put, sS]
        refine tK 10 ?_ rfl (by kernel_rfl) (fun _ _ _ h => h) (Or.inl ⟨by rfl, fun w => ?_⟩) ?_; rotate_left; (go_simp; try with_reducible rfl)
        try simp only [Act.put, sS]
        refine tK 11 ?_ rfl (by kernel_rfl) (fun _ _ _ h => h) (Or.inl ⟨by rfl, fun w => ?_⟩) ?_; rotate_left; (go_simp; try with_reducible rfl)
        try simp only [Act.put, sS]
        refine tR [12] (by kernel_rfl) rfl ?_
        refine rC rfl (fun K hK => ?_) ?_
        ·
         (go_simp; refine hK _ _ ?_; clear hK K; try simp only [Act.put, sS])
         refine wpAny_done (by kernel_rfl) ?_ _
         have HO5 : Hid (OwnN w12 (g + 1) (.slice A4 (d.sc.notes.length + 1) c4n) (d.sc.notes ++ [⟨nv, na, nb, p, false⟩])) := by
          have := HO4.out
          rw [List.length_append] at this
          exact this
         have hgx : (w11.alloc (.cells #[.int .i64 nv, .int .i64 na, .int .i64 nb, .int .i64 p.a, .int .i64 p.b, .int .i64 p.c, .int .i64 p.d, .int .i64 p.e, .int .i64 p.f, .bool false] 55)).grownBy w12 x.n.ownBlock := by rw [HV.out]; exact hg4
         have TD := hid (Dr.addn D10.out N9.out.tk HGW.out NM.out hgx HO5.out)
         have hb0 : Far g gm x W w10 := BG.out.trans N9.out.only.away
         have hb4 : Far g gm x W w12 := (((hb0.grown HGW.out (fun b e => by injection e with e; exact Or.inr (Or.inl e.symm))).alloc (.cells #[.int .i64 nv, .int .i64 na, .int .i64 nb, .int .i64 p.a, .int .i64 p.b, .int .i64 p.c, .int .i64 p.d, .int .i64 p.e, .int .i64 p.f, .bool false] 55)).grown hgx (fun b hb => Or.inr (Or.inr (Or.inl hb))))
         have HB5 := hid (hb4.setCell 4 (.slice A4 (d.sc.notes.length + 1) c4n))
         go_end0
         rw [← HR.out]
         exact DEnds.ok HB5.out TD.out.1 TD.out.2
        exact rN
       exact rN
      exact rN
     refine rC rfl (fun K hK => ?_) ?_
     ·
      (go_simp; refine hK _ _ ?_; clear hK K; try simp only [Act.put, sS])
      refine tR [5] (by kernel_rfl) rfl ?_
      refine rC rfl (fun K hK => ?_) ?_
      ·
       (go_simp; refine hK _ _ ?_; clear hK K; try simp only [Act.put, sS])
       refine tR [8] (by kernel_rfl) rfl ?_
       refine rC rfl (fun K hK => ?_) ?_
       ·
        refine step_apg _ (by rfl) (.tmp 56) (.tmp 58) 22 55 (.agg #[.int .i64 0, .int .i64 0, .int .i64 0, .int .i64 0, .int .i64 0, .int .i64 0, .int .i64 0, .int .i64 0, .int .i64 0, .bool false]) 10 80 rfl Tryz.underlying22 info_N rfl (by decide) (g + 1) (.slice AN d.sc.notes.length cN) d.sc.notes.length (rcells Nte.cs d.sc.notes) rfl (N11V.out.on ((Below.refl w11.heap.size w11).alloc (Nat.le_refl _) (.cells #[.int .i64 nv, .int .i64 na, .int .i64 nb, .int .i64 p.a, .int .i64 p.b, .int .i64 p.c, .int .i64 p.d, .int .i64 p.e, .int .i64 p.f, .bool false] 55))).drew _ 1 1 (Nte.cs ⟨nv, na, nb, p, false⟩) rfl ⟨_, shows_drew (shows_N w11 ⟨nv, na, nb, p, false⟩ _ rfl)⟩ (Nte.cs_one ⟨nv, na, nb, p, false⟩) (by simp only [maxLen]; omega) (by omega) (by simp; omega) ?_
        intro v4 w12 ho4 hg4 _
        replace hg4 := undrewg hg4
        have HO4 := hid (OwnN.snoc (x := ⟨nv, na, nb, p, false⟩) ho4)
        obtain ⟨A4, c4n, rfl, hc4, hr4⟩ := HO4.out.form
        clear hr4 hc4 ho4
        have t12 := (T11.out.alloc (.cells #[.int .i64 nv, .int .i64 na, .int .i64 nb, .int .i64 p.a, .int .i64 p.b, .int .i64 p.c, .int .i64 p.d, .int .i64 p.e, .int .i64 p.f, .bool false] 55)).grown hg4 HOG.out
        have h4w := t12.c4
        rw [HV.out] at h4w
        have f4w := t12.fr 4
        refine hK _ _ ?_
        clear hK K
        try simp only [Act.put, sS]
        refine tK 9 ?_ rfl (by kernel_rfl) (fun _ _ _ h => h) (Or.inl ⟨by rfl, fun w => ?_⟩) ?_; rotate_left; (go_simp; try with_reducible rfl)
        try simp only [Act.put, sS]
        refine tK 10 ?_ rfl (by kernel_rfl) (fun _ _ _ h => h) (Or.inl ⟨by rfl, fun w => ?_⟩) ?_; rotate_left; (go_simp; try with_reducible rfl)
        try simp only [Act.put, sS]
        refine tK 11 ?_ rfl (by kernel_rfl) (fun _ _ _ h => h) (Or.inl ⟨by rfl, fun w => ?_⟩) ?_; rotate_left; (go_simp; try with_reducible rfl)
        try simp only [Act.put, sS]
        refine tR [12] (by kernel_rfl) rfl ?_
        refine rC rfl (fun K hK => ?_) ?_
        ·
         (go_simp; refine hK _ _ ?_; clear hK K; try simp only [Act.put, sS])
         refine wpAny_done (by kernel_rfl) ?_ _
         have HO5 : Hid (OwnN w12 (g + 1) (.slice A4 (d.sc.notes.length + 1) c4n) (d.sc.notes ++ [⟨nv, na, nb, p, false⟩])) := by
          have := HO4.out
          rw [List.length_append] at this
          exact this
         have hgx : (w11.alloc (.cells #[.int .i64 nv, .int .i64 na, .int .i64 nb, .int .i64 p.a, .int .i64 p.b, .int .i64 p.c, .int .i64 p.d, .int .i64 p.e, .int .i64 p.f, .bool false] 55)).grownBy w12 x.n.ownBlock := by rw [HV.out]; exact hg4
         have TD := hid (Dr.addn D10.out N9.out.tk HGW.out NM.out hgx HO5.out)
         have hb0 : Far g gm x W w10 := BG.out.trans N9.out.only.away
         have hb4 : Far g gm x W w12 := (((hb0.grown HGW.out (fun b e => by injection e with e; exact Or.inr (Or.inl e.symm))).alloc (.cells #[.int .i64 nv, .int .i64 na, .int .i64 nb, .int .i64 p.a, .int .i64 p.b, .int .i64 p.c, .int .i64 p.d, .int .i64 p.e, .int .i64 p.f, .bool false] 55)).grown hgx (fun b hb => Or.inr (Or.inr (Or.inl hb))))
         have HB5 := hid (hb4.setCell 4 (.slice A4 (d.sc.notes.length + 1) c4n))
         go_end0
         rw [← HR.out]
         exact DEnds.ok HB5.out TD.out.1 TD.out.2
        exact rN
       exact rN
      exact rN
     exact rN
    exact rN
   exact rN
  exact rN
 exact rN
theorem note_tied (W : World) (g gm en : Nat) (x : Rc) (ts : List Tok) (d : Drf) (h : TkAt W g en x ts) (hd : Dr W g gm d x) (hl : d.sc.notes.length ≤ 10000) (hts : TsOk ts) (hM : MaxL W) (hP : Primes W) (hg : 3 < g) :
  Calls Tryz.prog 56 #[.pointer (some ⟨g, 0, none⟩), .bool true] W (DEnds W g gm en x (noteR true d ts)) := by
 have H := hid h
 have HD := hid hd
 have HTS := hid hts
 have HM := hid hM
 have HPR := hid (And.intro hP hg)
 have HG0 : Hid (0 < g) := by show 0 < g; omega
 obtain ⟨q, hq⟩ : ∃ q, noteR true d ts = q := ⟨_, rfl⟩
 rw [hq]
 unfold noteR at hq
 rw [new_seen] at hq
 have HR := hid hq
 clear hq h hd hts hM hP hg
 go_enter Tryz.func56, Tryz.ntmps56
 go_wp2_with fail
 rcases hq0 : seenR false d.names ts with ⟨s, r0⟩ | ⟨r0, k⟩
 rotate_left
 ·
  refine (name_new _ g en gm x ts d.names HD.out.m HD.out.gm.1 H.out HTS.out HM.out HG0.out HD.out.names).mono ?_
  rintro e w ⟨o, h⟩
  rw [hq0] at h
  obtain rfl := h
  simp only [hq0, Rs.err_bind] at HR
  refine ⟨rfl, ?_⟩
  rw [← HR.out]
  exact DEnds.err o.away
 refine (name_new _ g en gm x ts d.names HD.out.m HD.out.gm.1 H.out HTS.out HM.out HG0.out HD.out.names).mono ?_
 rintro e w1 ⟨o, h⟩
 rw [hq0] at h
 obtain ⟨rfl, t⟩ := h
 have HD1 := hid (HD.out.only H.out o)
 have BG := hid (Only.away (gm := gm) (x := x) o)
 have HG1 := hid t.lt
 have HT1 := hid t
 have HP1 := hid (And.intro (Primes.onl HPR.out o) HPR.out.2)
 have N0 := hid (NS.start t 55 #[.int .i64 0, .int .i64 0, .int .i64 0, .int .i64 0, .int .i64 0, .int .i64 0, .int .i64 0, .int .i64 0, .int .i64 0, .bool true])
 have K0 := hid (HTS.out.seen hq0).1
 have HS8 := hid (HTS.out.seen hq0).2
 simp only [hq0, Rs.ok_bind] at HR
 clear o t hq0
 go_wp2_with fail
 rcases hq1 : wantsR [mColon, kw_voice] r0 with ⟨u1, r1⟩ | ⟨r1, k⟩
 rotate_left
 ·
  refine (want_at2 _ g en _ x r0 [58] [118, 111, 105, 99, 101] (by decide) (by decide) _ hq1 N0.out.tk (by simp)).mono ?_
  rintro e w ⟨o, rfl⟩
  simp only [hq1, Rs.err_bind] at HR
  refine ⟨rfl, ?_⟩
  rw [← HR.out]
  exact DEnds.err (BG.out.trans (N0.out.only.trans o).away)
 refine (want_at2 _ g en _ x r0 [58] [118, 111, 105, 99, 101] (by decide) (by decide) _ hq1 N0.out.tk (by simp)).mono ?_
 rintro e w2 ⟨o, rfl, t⟩
 have N1 := hid (N0.out.on o t)
 have K1 := hid (K0.out.wants hq1)
 simp only [hq1, Rs.ok_bind] at HR
 clear o t hq1
 go_wp2_with fail
 rcases hq2 : numR r1 with ⟨nv, r2⟩ | ⟨r2, k⟩
 rotate_left
 ·
  refine (number_one _ g en x r1 _ hq2 N1.out.tk).mono ?_
  rintro e w ⟨o, rfl⟩
  simp only [hq2, Rs.err_bind] at HR
  refine ⟨rfl, ?_⟩
  rw [← HR.out]
  exact DEnds.err (BG.out.trans (N1.out.only.trans o).away)
 refine (number_one _ g en x r1 _ hq2 N1.out.tk).mono ?_
 rintro e w3 ⟨o, rfl, t⟩
 have N2 := hid (N1.out.on o t)
 have K2 := hid (K1.out.nr hq2)
 simp only [hq2, Rs.ok_bind] at HR
 have c0 := N2.out.blk.cell 0
 have f0 := N2.out.blk.frozen 0
 have N2 := hid ((N2.out.put 0 (.int .i64 nv)).cast (show _ = #[.int .i64 nv, .int .i64 0, .int .i64 0, .int .i64 0, .int .i64 0, .int .i64 0, .int .i64 0, .int .i64 0, .int .i64 0, .bool true] by simp))
 clear o t hq2
 go_wp2_with fail
 rcases hq3 : wantsR [kw_from] r2 with ⟨u3, r3⟩ | ⟨r3, k⟩
 rotate_left
 ·
  refine (want_at1 _ g en _ x r2 [102, 114, 111, 109] (by decide) _ hq3 N2.out.tk (by simp)).mono ?_
  rintro e w ⟨o, rfl⟩
  simp only [hq3, Rs.err_bind] at HR
  refine ⟨rfl, ?_⟩
  rw [← HR.out]
  exact DEnds.err (BG.out.trans (N2.out.only.trans o).away)
 refine (want_at1 _ g en _ x r2 [102, 114, 111, 109] (by decide) _ hq3 N2.out.tk (by simp)).mono ?_
 rintro e w4 ⟨o, rfl, t⟩
 have N3 := hid (N2.out.on o t)
 have K3 := hid (K2.out.1.wants hq3)
 simp only [hq3, Rs.ok_bind] at HR
 clear o t hq3
 go_wp2_with fail
 rcases hq4 : numR r3 with ⟨na, r4⟩ | ⟨r4, k⟩
 rotate_left
 ·
  refine (number_one _ g en x r3 _ hq4 N3.out.tk).mono ?_
  rintro e w ⟨o, rfl⟩
  simp only [hq4, Rs.err_bind] at HR
  refine ⟨rfl, ?_⟩
  rw [← HR.out]
  exact DEnds.err (BG.out.trans (N3.out.only.trans o).away)
 refine (number_one _ g en x r3 _ hq4 N3.out.tk).mono ?_
 rintro e w5 ⟨o, rfl, t⟩
 have N4 := hid (N3.out.on o t)
 have K4 := hid (K3.out.nr hq4)
 simp only [hq4, Rs.ok_bind] at HR
 have c1 := N4.out.blk.cell 1
 have f1 := N4.out.blk.frozen 1
 have N4 := hid ((N4.out.put 1 (.int .i64 na)).cast (show _ = #[.int .i64 nv, .int .i64 na, .int .i64 0, .int .i64 0, .int .i64 0, .int .i64 0, .int .i64 0, .int .i64 0, .int .i64 0, .bool true] by simp))
 clear o t hq4
 go_wp2_with fail
 rcases hq5 : wantsR [kw_to] r4 with ⟨u5, r5⟩ | ⟨r5, k⟩
 rotate_left
 ·
  refine (want_at1 _ g en _ x r4 [116, 111] (by decide) _ hq5 N4.out.tk (by simp)).mono ?_
  rintro e w ⟨o, rfl⟩
  simp only [hq5, Rs.err_bind] at HR
  refine ⟨rfl, ?_⟩
  rw [← HR.out]
  exact DEnds.err (BG.out.trans (N4.out.only.trans o).away)
 refine (want_at1 _ g en _ x r4 [116, 111] (by decide) _ hq5 N4.out.tk (by simp)).mono ?_
 rintro e w6 ⟨o, rfl, t⟩
 have N5 := hid (N4.out.on o t)
 have K5 := hid (K4.out.1.wants hq5)
 simp only [hq5, Rs.ok_bind] at HR
 clear o t hq5
 go_wp2_with fail
 rcases hq6 : numR r5 with ⟨nb, r6⟩ | ⟨r6, k⟩
 rotate_left
 ·
  refine (number_one _ g en x r5 _ hq6 N5.out.tk).mono ?_
  rintro e w ⟨o, rfl⟩
  simp only [hq6, Rs.err_bind] at HR
  refine ⟨rfl, ?_⟩
  rw [← HR.out]
  exact DEnds.err (BG.out.trans (N5.out.only.trans o).away)
 refine (number_one _ g en x r5 _ hq6 N5.out.tk).mono ?_
 rintro e w7 ⟨o, rfl, t⟩
 have N6 := hid (N5.out.on o t)
 have K6 := hid (K5.out.nr hq6)
 simp only [hq6, Rs.ok_bind] at HR
 have c2 := N6.out.blk.cell 2
 have f2 := N6.out.blk.frozen 2
 have N6 := hid ((N6.out.put 2 (.int .i64 nb)).cast (show _ = #[.int .i64 nv, .int .i64 na, .int .i64 nb, .int .i64 0, .int .i64 0, .int .i64 0, .int .i64 0, .int .i64 0, .int .i64 0, .bool true] by simp))
 clear o t hq6
 go_wp2_with fail
 rw [show atR true r6 = .ok vc0 r6 from rfl] at HR
 simp only [Rs.ok_bind] at HR
 rcases hq9 : wantsR [mSemi] r6 with ⟨u9, r9⟩ | ⟨r9, k⟩
 rotate_left
 ·
  refine (want_at1 _ g en _ x r6 [59] (by decide) _ hq9 N6.out.tk (by simp)).mono ?_
  rintro e w ⟨o, rfl⟩
  simp only [hq9, Rs.err_bind] at HR
  refine ⟨rfl, ?_⟩
  rw [← HR.out]
  exact DEnds.err (BG.out.trans (N6.out.only.trans o).away)
 refine (want_at1 _ g en _ x r6 [59] (by decide) _ hq9 N6.out.tk (by simp)).mono ?_
 rintro e w10 ⟨o, rfl, t⟩
 have N9 := hid (N6.out.on o t)
 have K9 := hid (K6.out.1.wants hq9)
 simp only [hq9, Rs.ok_bind] at HR
 clear o t hq9
 go_wp2_with fail
 obtain ⟨wz, hwz⟩ : ∃ wz, wz = w10 := ⟨_, rfl⟩
 have D10 := hid (HD1.out.only HT1.out N9.out.only)
 have hlen := D10.out.len
 obtain ⟨w11, hmu, NM, hgw⟩ := names_put D10.out.names s (by have := HS8.out.1; omega) HS8.out.2 (by omega) d.sc.notes.length hlen
 obtain ⟨AN, cN, hv, hcl, hrd⟩ := D10.out.n.form
 have HV := hid hv
 have g2 := N9.out.tk.c2
 rw [D10.out.m] at g2
 have g4 := N9.out.tk.c4
 rw [hv] at g4
 have hgz := N9.out.tk.lt
 clear hv hrd hcl hlen hwz wz
 refine wp_region_any (by kernel_rfl) ?_
 change wpAny _ _ _ _ _ _ _ (World.drew _)
 refine tK 0 ?_ rfl (by kernel_rfl) (fun _ _ _ h => h) (Or.inl ⟨by rfl, fun w => ?_⟩) ?_; rotate_left; (go_simp; try with_reducible rfl)
 try simp only [Act.put, sS]
 refine tK 1 ?_ rfl (by kernel_rfl) (fun _ _ _ h => h) (Or.inl ⟨by rfl, fun w => ?_⟩) ?_; rotate_left; (go_simp; try with_reducible rfl)
 try simp only [Act.put, sS]
 refine tK 2 ?_ rfl (by kernel_rfl) (fun _ _ _ h => h) (Or.inl ⟨by rfl, fun w => ?_⟩) ?_; rotate_left; (go_simp; try with_reducible rfl)
 try simp only [Act.put, sS]
 refine tK 4 ?_ rfl (by kernel_rfl) (fun _ _ _ h => h) (Or.inl ⟨by rfl, fun w => ?_⟩) ?_; rotate_left; (go_simp; try with_reducible rfl)
 try simp only [Act.put, sS]
 refine tK 5 ?_ rfl (by kernel_rfl) (fun _ _ _ h => h) (Or.inl ⟨by rfl, fun w => ?_⟩) ?_; rotate_left; (go_simp; try with_reducible rfl)
 try simp only [Act.put, sS]
 refine tK 6 ?_ rfl (by kernel_rfl) (fun _ _ _ h => h) (Or.inl ⟨by rfl, fun w => ?_⟩) ?_; rotate_left; (go_simp; try with_reducible rfl)
 try simp only [Act.put, sS]
 refine tK 7 ?_ rfl (by kernel_rfl) (fun _ _ _ h => h) (Or.inl ⟨by rfl, fun w => ?_⟩) ?_; rotate_left; (go_simp; try with_reducible rfl)
 try simp only [Act.put, sS]
 refine tK 8 ?_ rfl (by kernel_rfl) (fun _ _ _ h => h) (Or.inl ⟨by rfl, fun w => ?_⟩) ?_; rotate_left; (go_simp; try with_reducible rfl)
 try simp only [Act.put, sS]
 refine tR [3, 9] (by kernel_rfl) rfl ?_
 refine rC rfl (fun K hK => ?_) ?_
 ·
  (go_simp; refine hK _ _ ?_; clear hK K; try simp only [Act.put, sS])
  refine tR [9] (by kernel_rfl) rfl ?_
  refine rC rfl (fun K hK => ?_) ?_
  ·
   (go_simp; refine hK _ _ ?_; clear hK K; try simp only [Act.put, sS])
   refine tK 10 ?_ rfl (by kernel_rfl) (fun _ _ _ h => h) (Or.inl ⟨by rfl, fun w => ?_⟩) ?_; rotate_left; (go_simp; try with_reducible rfl)
   try simp only [Act.put, sS]
   refine tR [11] (by kernel_rfl) rfl ?_
   refine rC rfl (fun K hK => ?_) ?_
   ·
    (go_simp; refine hK _ _ ?_; clear hK K; try simp only [Act.put, sS])
    refine wpAny_done (by kernel_rfl) ?_ _
    have T11 := hid (N9.out.tk.grownm hgw D10.out.gm)
    have B11 := hid (N9.out.blk.grown hgw (by intro e; injection e with e; exact names_apart D10.out.names N9.out.blk e.symm))
    have n11 := hid (OwnN.kept D10.out.n hgw (.inr (names_row D10.out.names D10.out.n)))
    have n11v : OwnN w11 (g + 1) (.slice AN d.sc.notes.length cN) d.sc.notes := by rw [← HV.out]; exact n11.out
    have N11V := hid n11v
    have hog := own_gt n11v
    have HOG := hid hog
    clear n11v hog
    have h4 := T11.out.c4
    rw [HV.out] at h4
    have hg11 := T11.out.lt
    have hh11 := B11.out.lt
    have c0 := B11.out.cell 0
    have c1 := B11.out.cell 1
    have c2 := B11.out.cell 2
    have c3 := B11.out.cell 3
    have c4 := B11.out.cell 4
    have c5 := B11.out.cell 5
    have c6 := B11.out.cell 6
    have c7 := B11.out.cell 7
    have c8 := B11.out.cell 8
    have c9 := B11.out.cell 9
    have NM := hid NM
    have HGW := hid hgw
    clear hmu hgw g2 g4
    go_wp2_with fail
    refine wp_region_any (by kernel_rfl) ?_
    change wpAny _ _ _ _ _ _ _ (World.drew _)
    refine tK 0 ?_ rfl (by kernel_rfl) (fun _ _ _ h => h) (Or.inl ⟨by rfl, fun w => ?_⟩) ?_; rotate_left; (go_simp; try with_reducible rfl)
    try simp only [Act.put, sS]
    refine tK 1 ?_ rfl (by kernel_rfl) (fun _ _ _ h => h) (Or.inl ⟨by rfl, fun w => ?_⟩) ?_; rotate_left; (go_simp; try with_reducible rfl)
    try simp only [Act.put, sS]
    refine tK 2 ?_ rfl (by kernel_rfl) (fun _ _ _ h => h) (Or.inl ⟨by rfl, fun w => ?_⟩) ?_; rotate_left; (go_simp; try with_reducible rfl)
    try simp only [Act.put, sS]
    refine tK 3 ?_ rfl (by kernel_rfl) (fun _ _ _ h => h) (Or.inl ⟨by rfl, fun w => ?_⟩) ?_; rotate_left; (go_simp; try with_reducible rfl)
    try simp only [Act.put, sS]
    refine tK 4 ?_ rfl (by kernel_rfl) (fun _ _ _ h => h) (Or.inl ⟨by rfl, fun w => ?_⟩) ?_; rotate_left; (go_simp; try with_reducible rfl)
    try simp only [Act.put, sS]
    refine tR [5, 6] (by kernel_rfl) rfl ?_
    refine rC rfl (fun K hK => ?_) ?_
    ·
     (go_simp; refine hK _ _ ?_; clear hK K; try simp only [Act.put, sS])
     refine tR [6] (by kernel_rfl) rfl ?_
     refine rC rfl (fun K hK => ?_) ?_
     ·
      (go_simp; refine hK _ _ ?_; clear hK K; try simp only [Act.put, sS])
      refine tR [7] (by kernel_rfl) rfl ?_
      refine rC rfl (fun K hK => ?_) ?_
      ·
       (go_simp; refine hK _ _ ?_; clear hK K; try simp only [Act.put, sS])
       refine tR [8] (by kernel_rfl) rfl ?_
       refine rC rfl (fun K hK => ?_) ?_
       ·
        refine step_apg _ (by rfl) (.tmp 56) (.tmp 58) 22 55 (.agg #[.int .i64 0, .int .i64 0, .int .i64 0, .int .i64 0, .int .i64 0, .int .i64 0, .int .i64 0, .int .i64 0, .int .i64 0, .bool false]) 10 80 rfl Tryz.underlying22 info_N rfl (by decide) (g + 1) (.slice AN d.sc.notes.length cN) d.sc.notes.length (rcells Nte.cs d.sc.notes) rfl (N11V.out.on ((Below.refl w11.heap.size w11).alloc (Nat.le_refl _) (.cells #[.int .i64 nv, .int .i64 na, .int .i64 nb, .int .i64 0, .int .i64 0, .int .i64 0, .int .i64 0, .int .i64 0, .int .i64 0, .bool true] 55))).drew _ 1 1 (Nte.cs ⟨nv, na, nb, vc0, true⟩) rfl ⟨_, shows_drew (shows_N w11 ⟨nv, na, nb, vc0, true⟩ _ rfl)⟩ (Nte.cs_one ⟨nv, na, nb, vc0, true⟩) (by simp only [maxLen]; omega) (by omega) (by simp; omega) ?_
        intro v4 w12 ho4 hg4 _
        replace hg4 := undrewg hg4
        have HO4 := hid (OwnN.snoc (x := ⟨nv, na, nb, vc0, true⟩) ho4)
        obtain ⟨A4, c4n, rfl, hc4, hr4⟩ := HO4.out.form
        clear hr4 hc4 ho4
        have t12 := (T11.out.alloc (.cells #[.int .i64 nv, .int .i64 na, .int .i64 nb, .int .i64 0, .int .i64 0, .int .i64 0, .int .i64 0, .int .i64 0, .int .i64 0, .bool true] 55)).grown hg4 HOG.out
        have h4w := t12.c4
        rw [HV.out] at h4w
        have f4w := t12.fr 4
        refine hK _ _ ?_
        clear hK K
        try simp only [Act.put, sS]
        refine tK 9 ?_ rfl (by kernel_rfl) (fun _ _ _ h => h) (Or.inl ⟨by rfl, fun w => ?_⟩) ?_; rotate_left; (go_simp; try with_reducible rfl)
        try simp only [Act.put, sS]
        refine tK 10 ?_ rfl (by kernel_rfl) (fun _ _ _ h => h) (Or.inl ⟨by rfl, fun w => ?_⟩) ?_; rotate_left; (go_simp; try with_reducible rfl)
        try simp only [Act.put, sS]
        refine tK 11 ?_ rfl (by kernel_rfl) (fun _ _ _ h => h) (Or.inl ⟨by rfl, fun w => ?_⟩) ?_; rotate_left; (go_simp; try with_reducible rfl)
        try simp only [Act.put, sS]
        refine tR [12] (by kernel_rfl) rfl ?_
        refine rC rfl (fun K hK => ?_) ?_
        ·
         (go_simp; refine hK _ _ ?_; clear hK K; try simp only [Act.put, sS])
         refine wpAny_done (by kernel_rfl) ?_ _
         have HO5 : Hid (OwnN w12 (g + 1) (.slice A4 (d.sc.notes.length + 1) c4n) (d.sc.notes ++ [⟨nv, na, nb, vc0, true⟩])) := by
          have := HO4.out
          rw [List.length_append] at this
          exact this
         have hgx : (w11.alloc (.cells #[.int .i64 nv, .int .i64 na, .int .i64 nb, .int .i64 0, .int .i64 0, .int .i64 0, .int .i64 0, .int .i64 0, .int .i64 0, .bool true] 55)).grownBy w12 x.n.ownBlock := by rw [HV.out]; exact hg4
         have TD := hid (Dr.addn D10.out N9.out.tk HGW.out NM.out hgx HO5.out)
         have hb0 : Far g gm x W w10 := BG.out.trans N9.out.only.away
         have hb4 : Far g gm x W w12 := (((hb0.grown HGW.out (fun b e => by injection e with e; exact Or.inr (Or.inl e.symm))).alloc (.cells #[.int .i64 nv, .int .i64 na, .int .i64 nb, .int .i64 0, .int .i64 0, .int .i64 0, .int .i64 0, .int .i64 0, .int .i64 0, .bool true] 55)).grown hgx (fun b hb => Or.inr (Or.inr (Or.inl hb))))
         have HB5 := hid (hb4.setCell 4 (.slice A4 (d.sc.notes.length + 1) c4n))
         go_end0
         rw [← HR.out]
         exact DEnds.ok HB5.out TD.out.1 TD.out.2
        exact rN
       exact rN
      exact rN
     exact rN
    refine rC rfl (fun K hK => ?_) ?_
    ·
     (go_simp; refine hK _ _ ?_; clear hK K; try simp only [Act.put, sS])
     refine tR [5, 7] (by kernel_rfl) rfl ?_
     refine rC rfl (fun K hK => ?_) ?_
     ·
      (go_simp; refine hK _ _ ?_; clear hK K; try simp only [Act.put, sS])
      refine tR [7] (by kernel_rfl) rfl ?_
      refine rC rfl (fun K hK => ?_) ?_
      ·
       (go_simp; refine hK _ _ ?_; clear hK K; try simp only [Act.put, sS])
       refine tR [8] (by kernel_rfl) rfl ?_
       refine rC rfl (fun K hK => ?_) ?_
       ·
        refine step_apg _ (by rfl) (.tmp 56) (.tmp 58) 22 55 (.agg #[.int .i64 0, .int .i64 0, .int .i64 0, .int .i64 0, .int .i64 0, .int .i64 0, .int .i64 0, .int .i64 0, .int .i64 0, .bool false]) 10 80 rfl Tryz.underlying22 info_N rfl (by decide) (g + 1) (.slice AN d.sc.notes.length cN) d.sc.notes.length (rcells Nte.cs d.sc.notes) rfl (N11V.out.on ((Below.refl w11.heap.size w11).alloc (Nat.le_refl _) (.cells #[.int .i64 nv, .int .i64 na, .int .i64 nb, .int .i64 0, .int .i64 0, .int .i64 0, .int .i64 0, .int .i64 0, .int .i64 0, .bool true] 55))).drew _ 1 1 (Nte.cs ⟨nv, na, nb, vc0, true⟩) rfl ⟨_, shows_drew (shows_N w11 ⟨nv, na, nb, vc0, true⟩ _ rfl)⟩ (Nte.cs_one ⟨nv, na, nb, vc0, true⟩) (by simp only [maxLen]; omega) (by omega) (by simp; omega) ?_
        intro v4 w12 ho4 hg4 _
        replace hg4 := undrewg hg4
        have HO4 := hid (OwnN.snoc (x := ⟨nv, na, nb, vc0, true⟩) ho4)
        obtain ⟨A4, c4n, rfl, hc4, hr4⟩ := HO4.out.form
        clear hr4 hc4 ho4
        have t12 := (T11.out.alloc (.cells #[.int .i64 nv, .int .i64 na, .int .i64 nb, .int .i64 0, .int .i64 0, .int .i64 0, .int .i64 0, .int .i64 0, .int .i64 0, .bool true] 55)).grown hg4 HOG.out
        have h4w := t12.c4
        rw [HV.out] at h4w
        have f4w := t12.fr 4
        refine hK _ _ ?_
        clear hK K
        try simp only [Act.put, sS]
        refine tK 9 ?_ rfl (by kernel_rfl) (fun _ _ _ h => h) (Or.inl ⟨by rfl, fun w => ?_⟩) ?_; rotate_left; (go_simp; try with_reducible rfl)
        try simp only [Act.put, sS]
        refine tK 10 ?_ rfl (by kernel_rfl) (fun _ _ _ h => h) (Or.inl ⟨by rfl, fun w => ?_⟩) ?_; rotate_left; (go_simp; try with_reducible rfl)
        try simp only [Act.put, sS]
        refine tK 11 ?_ rfl (by kernel_rfl) (fun _ _ _ h => h) (Or.inl ⟨by rfl, fun w => ?_⟩) ?_; rotate_left; (go_simp; try with_reducible rfl)
        try simp only [Act.put, sS]
        refine tR [12] (by kernel_rfl) rfl ?_
        refine rC rfl (fun K hK => ?_) ?_
        ·
         (go_simp; refine hK _ _ ?_; clear hK K; try simp only [Act.put, sS])
         refine wpAny_done (by kernel_rfl) ?_ _
         have HO5 : Hid (OwnN w12 (g + 1) (.slice A4 (d.sc.notes.length + 1) c4n) (d.sc.notes ++ [⟨nv, na, nb, vc0, true⟩])) := by
          have := HO4.out
          rw [List.length_append] at this
          exact this
         have hgx : (w11.alloc (.cells #[.int .i64 nv, .int .i64 na, .int .i64 nb, .int .i64 0, .int .i64 0, .int .i64 0, .int .i64 0, .int .i64 0, .int .i64 0, .bool true] 55)).grownBy w12 x.n.ownBlock := by rw [HV.out]; exact hg4
         have TD := hid (Dr.addn D10.out N9.out.tk HGW.out NM.out hgx HO5.out)
         have hb0 : Far g gm x W w10 := BG.out.trans N9.out.only.away
         have hb4 : Far g gm x W w12 := (((hb0.grown HGW.out (fun b e => by injection e with e; exact Or.inr (Or.inl e.symm))).alloc (.cells #[.int .i64 nv, .int .i64 na, .int .i64 nb, .int .i64 0, .int .i64 0, .int .i64 0, .int .i64 0, .int .i64 0, .int .i64 0, .bool true] 55)).grown hgx (fun b hb => Or.inr (Or.inr (Or.inl hb))))
         have HB5 := hid (hb4.setCell 4 (.slice A4 (d.sc.notes.length + 1) c4n))
         go_end0
         rw [← HR.out]
         exact DEnds.ok HB5.out TD.out.1 TD.out.2
        exact rN
       exact rN
      exact rN
     refine rC rfl (fun K hK => ?_) ?_
     ·
      (go_simp; refine hK _ _ ?_; clear hK K; try simp only [Act.put, sS])
      refine tR [5] (by kernel_rfl) rfl ?_
      refine rC rfl (fun K hK => ?_) ?_
      ·
       (go_simp; refine hK _ _ ?_; clear hK K; try simp only [Act.put, sS])
       refine tR [8] (by kernel_rfl) rfl ?_
       refine rC rfl (fun K hK => ?_) ?_
       ·
        refine step_apg _ (by rfl) (.tmp 56) (.tmp 58) 22 55 (.agg #[.int .i64 0, .int .i64 0, .int .i64 0, .int .i64 0, .int .i64 0, .int .i64 0, .int .i64 0, .int .i64 0, .int .i64 0, .bool false]) 10 80 rfl Tryz.underlying22 info_N rfl (by decide) (g + 1) (.slice AN d.sc.notes.length cN) d.sc.notes.length (rcells Nte.cs d.sc.notes) rfl (N11V.out.on ((Below.refl w11.heap.size w11).alloc (Nat.le_refl _) (.cells #[.int .i64 nv, .int .i64 na, .int .i64 nb, .int .i64 0, .int .i64 0, .int .i64 0, .int .i64 0, .int .i64 0, .int .i64 0, .bool true] 55))).drew _ 1 1 (Nte.cs ⟨nv, na, nb, vc0, true⟩) rfl ⟨_, shows_drew (shows_N w11 ⟨nv, na, nb, vc0, true⟩ _ rfl)⟩ (Nte.cs_one ⟨nv, na, nb, vc0, true⟩) (by simp only [maxLen]; omega) (by omega) (by simp; omega) ?_
        intro v4 w12 ho4 hg4 _
        replace hg4 := undrewg hg4
        have HO4 := hid (OwnN.snoc (x := ⟨nv, na, nb, vc0, true⟩) ho4)
        obtain ⟨A4, c4n, rfl, hc4, hr4⟩ := HO4.out.form
        clear hr4 hc4 ho4
        have t12 := (T11.out.alloc (.cells #[.int .i64 nv, .int .i64 na, .int .i64 nb, .int .i64 0, .int .i64 0, .int .i64 0, .int .i64 0, .int .i64 0, .int .i64 0, .bool true] 55)).grown hg4 HOG.out
        have h4w := t12.c4
        rw [HV.out] at h4w
        have f4w := t12.fr 4
        refine hK _ _ ?_
        clear hK K
        try simp only [Act.put, sS]
        refine tK 9 ?_ rfl (by kernel_rfl) (fun _ _ _ h => h) (Or.inl ⟨by rfl, fun w => ?_⟩) ?_; rotate_left; (go_simp; try with_reducible rfl)
        try simp only [Act.put, sS]
        refine tK 10 ?_ rfl (by kernel_rfl) (fun _ _ _ h => h) (Or.inl ⟨by rfl, fun w => ?_⟩) ?_; rotate_left; (go_simp; try with_reducible rfl)
        try simp only [Act.put, sS]
        refine tK 11 ?_ rfl (by kernel_rfl) (fun _ _ _ h => h) (Or.inl ⟨by rfl, fun w => ?_⟩) ?_; rotate_left; (go_simp; try with_reducible rfl)
        try simp only [Act.put, sS]
        refine tR [12] (by kernel_rfl) rfl ?_
        refine rC rfl (fun K hK => ?_) ?_
        ·
         (go_simp; refine hK _ _ ?_; clear hK K; try simp only [Act.put, sS])
         refine wpAny_done (by kernel_rfl) ?_ _
         have HO5 : Hid (OwnN w12 (g + 1) (.slice A4 (d.sc.notes.length + 1) c4n) (d.sc.notes ++ [⟨nv, na, nb, vc0, true⟩])) := by
          have := HO4.out
          rw [List.length_append] at this
          exact this
         have hgx : (w11.alloc (.cells #[.int .i64 nv, .int .i64 na, .int .i64 nb, .int .i64 0, .int .i64 0, .int .i64 0, .int .i64 0, .int .i64 0, .int .i64 0, .bool true] 55)).grownBy w12 x.n.ownBlock := by rw [HV.out]; exact hg4
         have TD := hid (Dr.addn D10.out N9.out.tk HGW.out NM.out hgx HO5.out)
         have hb0 : Far g gm x W w10 := BG.out.trans N9.out.only.away
         have hb4 : Far g gm x W w12 := (((hb0.grown HGW.out (fun b e => by injection e with e; exact Or.inr (Or.inl e.symm))).alloc (.cells #[.int .i64 nv, .int .i64 na, .int .i64 nb, .int .i64 0, .int .i64 0, .int .i64 0, .int .i64 0, .int .i64 0, .int .i64 0, .bool true] 55)).grown hgx (fun b hb => Or.inr (Or.inr (Or.inl hb))))
         have HB5 := hid (hb4.setCell 4 (.slice A4 (d.sc.notes.length + 1) c4n))
         go_end0
         rw [← HR.out]
         exact DEnds.ok HB5.out TD.out.1 TD.out.2
        exact rN
       exact rN
      exact rN
     exact rN
    exact rN
   exact rN
  exact rN
 refine rC rfl (fun K hK => ?_) ?_
 ·
  (go_simp; refine hK _ _ ?_; clear hK K; try simp only [Act.put, sS])
  refine tK 10 ?_ rfl (by kernel_rfl) (fun _ _ _ h => h) (Or.inl ⟨by rfl, fun w => ?_⟩) ?_; rotate_left; (go_simp; try with_reducible rfl)
  try simp only [Act.put, sS]
  refine tR [3] (by kernel_rfl) rfl ?_
  refine rC rfl (fun K hK => ?_) ?_
  ·
   (go_simp; refine hK _ _ ?_; clear hK K; try simp only [Act.put, sS])
   refine tR [11] (by kernel_rfl) rfl ?_
   refine rC rfl (fun K hK => ?_) ?_
   ·
    (go_simp; refine hK _ _ ?_; clear hK K; try simp only [Act.put, sS])
    refine wpAny_done (by kernel_rfl) ?_ _
    have T11 := hid (N9.out.tk.grownm hgw D10.out.gm)
    have B11 := hid (N9.out.blk.grown hgw (by intro e; injection e with e; exact names_apart D10.out.names N9.out.blk e.symm))
    have n11 := hid (OwnN.kept D10.out.n hgw (.inr (names_row D10.out.names D10.out.n)))
    have n11v : OwnN w11 (g + 1) (.slice AN d.sc.notes.length cN) d.sc.notes := by rw [← HV.out]; exact n11.out
    have N11V := hid n11v
    have hog := own_gt n11v
    have HOG := hid hog
    clear n11v hog
    have h4 := T11.out.c4
    rw [HV.out] at h4
    have hg11 := T11.out.lt
    have hh11 := B11.out.lt
    have c0 := B11.out.cell 0
    have c1 := B11.out.cell 1
    have c2 := B11.out.cell 2
    have c3 := B11.out.cell 3
    have c4 := B11.out.cell 4
    have c5 := B11.out.cell 5
    have c6 := B11.out.cell 6
    have c7 := B11.out.cell 7
    have c8 := B11.out.cell 8
    have c9 := B11.out.cell 9
    have NM := hid NM
    have HGW := hid hgw
    clear hmu hgw g2 g4
    go_wp2_with fail
    refine wp_region_any (by kernel_rfl) ?_
    change wpAny _ _ _ _ _ _ _ (World.drew _)
    refine tK 0 ?_ rfl (by kernel_rfl) (fun _ _ _ h => h) (Or.inl ⟨by rfl, fun w => ?_⟩) ?_; rotate_left; (go_simp; try with_reducible rfl)
    try simp only [Act.put, sS]
    refine tK 1 ?_ rfl (by kernel_rfl) (fun _ _ _ h => h) (Or.inl ⟨by rfl, fun w => ?_⟩) ?_; rotate_left; (go_simp; try with_reducible rfl)
    try simp only [Act.put, sS]
    refine tK 2 ?_ rfl (by kernel_rfl) (fun _ _ _ h => h) (Or.inl ⟨by rfl, fun w => ?_⟩) ?_; rotate_left; (go_simp; try with_reducible rfl)
    try simp only [Act.put, sS]
    refine tK 3 ?_ rfl (by kernel_rfl) (fun _ _ _ h => h) (Or.inl ⟨by rfl, fun w => ?_⟩) ?_; rotate_left; (go_simp; try with_reducible rfl)
    try simp only [Act.put, sS]
    refine tK 4 ?_ rfl (by kernel_rfl) (fun _ _ _ h => h) (Or.inl ⟨by rfl, fun w => ?_⟩) ?_; rotate_left; (go_simp; try with_reducible rfl)
    try simp only [Act.put, sS]
    refine tR [5, 6] (by kernel_rfl) rfl ?_
    refine rC rfl (fun K hK => ?_) ?_
    ·
     (go_simp; refine hK _ _ ?_; clear hK K; try simp only [Act.put, sS])
     refine tR [6] (by kernel_rfl) rfl ?_
     refine rC rfl (fun K hK => ?_) ?_
     ·
      (go_simp; refine hK _ _ ?_; clear hK K; try simp only [Act.put, sS])
      refine tR [7] (by kernel_rfl) rfl ?_
      refine rC rfl (fun K hK => ?_) ?_
      ·
       (go_simp; refine hK _ _ ?_; clear hK K; try simp only [Act.put, sS])
       refine tR [8] (by kernel_rfl) rfl ?_
       refine rC rfl (fun K hK => ?_) ?_
       ·
        refine step_apg _ (by rfl) (.tmp 56) (.tmp 58) 22 55 (.agg #[.int .i64 0, .int .i64 0, .int .i64 0, .int .i64 0, .int .i64 0, .int .i64 0, .int .i64 0, .int .i64 0, .int .i64 0, .bool false]) 10 80 rfl Tryz.underlying22 info_N rfl (by decide) (g + 1) (.slice AN d.sc.notes.length cN) d.sc.notes.length (rcells Nte.cs d.sc.notes) rfl (N11V.out.on ((Below.refl w11.heap.size w11).alloc (Nat.le_refl _) (.cells #[.int .i64 nv, .int .i64 na, .int .i64 nb, .int .i64 0, .int .i64 0, .int .i64 0, .int .i64 0, .int .i64 0, .int .i64 0, .bool true] 55))).drew _ 1 1 (Nte.cs ⟨nv, na, nb, vc0, true⟩) rfl ⟨_, shows_drew (shows_N w11 ⟨nv, na, nb, vc0, true⟩ _ rfl)⟩ (Nte.cs_one ⟨nv, na, nb, vc0, true⟩) (by simp only [maxLen]; omega) (by omega) (by simp; omega) ?_
        intro v4 w12 ho4 hg4 _
        replace hg4 := undrewg hg4
        have HO4 := hid (OwnN.snoc (x := ⟨nv, na, nb, vc0, true⟩) ho4)
        obtain ⟨A4, c4n, rfl, hc4, hr4⟩ := HO4.out.form
        clear hr4 hc4 ho4
        have t12 := (T11.out.alloc (.cells #[.int .i64 nv, .int .i64 na, .int .i64 nb, .int .i64 0, .int .i64 0, .int .i64 0, .int .i64 0, .int .i64 0, .int .i64 0, .bool true] 55)).grown hg4 HOG.out
        have h4w := t12.c4
        rw [HV.out] at h4w
        have f4w := t12.fr 4
        refine hK _ _ ?_
        clear hK K
        try simp only [Act.put, sS]
        refine tK 9 ?_ rfl (by kernel_rfl) (fun _ _ _ h => h) (Or.inl ⟨by rfl, fun w => ?_⟩) ?_; rotate_left; (go_simp; try with_reducible rfl)
        try simp only [Act.put, sS]
        refine tK 10 ?_ rfl (by kernel_rfl) (fun _ _ _ h => h) (Or.inl ⟨by rfl, fun w => ?_⟩) ?_; rotate_left; (go_simp; try with_reducible rfl)
        try simp only [Act.put, sS]
        refine tK 11 ?_ rfl (by kernel_rfl) (fun _ _ _ h => h) (Or.inl ⟨by rfl, fun w => ?_⟩) ?_; rotate_left; (go_simp; try with_reducible rfl)
        try simp only [Act.put, sS]
        refine tR [12] (by kernel_rfl) rfl ?_
        refine rC rfl (fun K hK => ?_) ?_
        ·
         (go_simp; refine hK _ _ ?_; clear hK K; try simp only [Act.put, sS])
         refine wpAny_done (by kernel_rfl) ?_ _
         have HO5 : Hid (OwnN w12 (g + 1) (.slice A4 (d.sc.notes.length + 1) c4n) (d.sc.notes ++ [⟨nv, na, nb, vc0, true⟩])) := by
          have := HO4.out
          rw [List.length_append] at this
          exact this
         have hgx : (w11.alloc (.cells #[.int .i64 nv, .int .i64 na, .int .i64 nb, .int .i64 0, .int .i64 0, .int .i64 0, .int .i64 0, .int .i64 0, .int .i64 0, .bool true] 55)).grownBy w12 x.n.ownBlock := by rw [HV.out]; exact hg4
         have TD := hid (Dr.addn D10.out N9.out.tk HGW.out NM.out hgx HO5.out)
         have hb0 : Far g gm x W w10 := BG.out.trans N9.out.only.away
         have hb4 : Far g gm x W w12 := (((hb0.grown HGW.out (fun b e => by injection e with e; exact Or.inr (Or.inl e.symm))).alloc (.cells #[.int .i64 nv, .int .i64 na, .int .i64 nb, .int .i64 0, .int .i64 0, .int .i64 0, .int .i64 0, .int .i64 0, .int .i64 0, .bool true] 55)).grown hgx (fun b hb => Or.inr (Or.inr (Or.inl hb))))
         have HB5 := hid (hb4.setCell 4 (.slice A4 (d.sc.notes.length + 1) c4n))
         go_end0
         rw [← HR.out]
         exact DEnds.ok HB5.out TD.out.1 TD.out.2
        exact rN
       exact rN
      exact rN
     exact rN
    refine rC rfl (fun K hK => ?_) ?_
    ·
     (go_simp; refine hK _ _ ?_; clear hK K; try simp only [Act.put, sS])
     refine tR [5, 7] (by kernel_rfl) rfl ?_
     refine rC rfl (fun K hK => ?_) ?_
     ·
      (go_simp; refine hK _ _ ?_; clear hK K; try simp only [Act.put, sS])
      refine tR [7] (by kernel_rfl) rfl ?_
      refine rC rfl (fun K hK => ?_) ?_
      ·
       (go_simp; refine hK _ _ ?_; clear hK K; try simp only [Act.put, sS])
       refine tR [8] (by kernel_rfl) rfl ?_
       refine rC rfl (fun K hK => ?_) ?_
       ·
        refine step_apg _ (by rfl) (.tmp 56) (.tmp 58) 22 55 (.agg #[.int .i64 0, .int .i64 0, .int .i64 0, .int .i64 0, .int .i64 0, .int .i64 0, .int .i64 0, .int .i64 0, .int .i64 0, .bool false]) 10 80 rfl Tryz.underlying22 info_N rfl (by decide) (g + 1) (.slice AN d.sc.notes.length cN) d.sc.notes.length (rcells Nte.cs d.sc.notes) rfl (N11V.out.on ((Below.refl w11.heap.size w11).alloc (Nat.le_refl _) (.cells #[.int .i64 nv, .int .i64 na, .int .i64 nb, .int .i64 0, .int .i64 0, .int .i64 0, .int .i64 0, .int .i64 0, .int .i64 0, .bool true] 55))).drew _ 1 1 (Nte.cs ⟨nv, na, nb, vc0, true⟩) rfl ⟨_, shows_drew (shows_N w11 ⟨nv, na, nb, vc0, true⟩ _ rfl)⟩ (Nte.cs_one ⟨nv, na, nb, vc0, true⟩) (by simp only [maxLen]; omega) (by omega) (by simp; omega) ?_
        intro v4 w12 ho4 hg4 _
        replace hg4 := undrewg hg4
        have HO4 := hid (OwnN.snoc (x := ⟨nv, na, nb, vc0, true⟩) ho4)
        obtain ⟨A4, c4n, rfl, hc4, hr4⟩ := HO4.out.form
        clear hr4 hc4 ho4
        have t12 := (T11.out.alloc (.cells #[.int .i64 nv, .int .i64 na, .int .i64 nb, .int .i64 0, .int .i64 0, .int .i64 0, .int .i64 0, .int .i64 0, .int .i64 0, .bool true] 55)).grown hg4 HOG.out
        have h4w := t12.c4
        rw [HV.out] at h4w
        have f4w := t12.fr 4
        refine hK _ _ ?_
        clear hK K
        try simp only [Act.put, sS]
        refine tK 9 ?_ rfl (by kernel_rfl) (fun _ _ _ h => h) (Or.inl ⟨by rfl, fun w => ?_⟩) ?_; rotate_left; (go_simp; try with_reducible rfl)
        try simp only [Act.put, sS]
        refine tK 10 ?_ rfl (by kernel_rfl) (fun _ _ _ h => h) (Or.inl ⟨by rfl, fun w => ?_⟩) ?_; rotate_left; (go_simp; try with_reducible rfl)
        try simp only [Act.put, sS]
        refine tK 11 ?_ rfl (by kernel_rfl) (fun _ _ _ h => h) (Or.inl ⟨by rfl, fun w => ?_⟩) ?_; rotate_left; (go_simp; try with_reducible rfl)
        try simp only [Act.put, sS]
        refine tR [12] (by kernel_rfl) rfl ?_
        refine rC rfl (fun K hK => ?_) ?_
        ·
         (go_simp; refine hK _ _ ?_; clear hK K; try simp only [Act.put, sS])
         refine wpAny_done (by kernel_rfl) ?_ _
         have HO5 : Hid (OwnN w12 (g + 1) (.slice A4 (d.sc.notes.length + 1) c4n) (d.sc.notes ++ [⟨nv, na, nb, vc0, true⟩])) := by
          have := HO4.out
          rw [List.length_append] at this
          exact this
         have hgx : (w11.alloc (.cells #[.int .i64 nv, .int .i64 na, .int .i64 nb, .int .i64 0, .int .i64 0, .int .i64 0, .int .i64 0, .int .i64 0, .int .i64 0, .bool true] 55)).grownBy w12 x.n.ownBlock := by rw [HV.out]; exact hg4
         have TD := hid (Dr.addn D10.out N9.out.tk HGW.out NM.out hgx HO5.out)
         have hb0 : Far g gm x W w10 := BG.out.trans N9.out.only.away
         have hb4 : Far g gm x W w12 := (((hb0.grown HGW.out (fun b e => by injection e with e; exact Or.inr (Or.inl e.symm))).alloc (.cells #[.int .i64 nv, .int .i64 na, .int .i64 nb, .int .i64 0, .int .i64 0, .int .i64 0, .int .i64 0, .int .i64 0, .int .i64 0, .bool true] 55)).grown hgx (fun b hb => Or.inr (Or.inr (Or.inl hb))))
         have HB5 := hid (hb4.setCell 4 (.slice A4 (d.sc.notes.length + 1) c4n))
         go_end0
         rw [← HR.out]
         exact DEnds.ok HB5.out TD.out.1 TD.out.2
        exact rN
       exact rN
      exact rN
     refine rC rfl (fun K hK => ?_) ?_
     ·
      (go_simp; refine hK _ _ ?_; clear hK K; try simp only [Act.put, sS])
      refine tR [5] (by kernel_rfl) rfl ?_
      refine rC rfl (fun K hK => ?_) ?_
      ·
       (go_simp; refine hK _ _ ?_; clear hK K; try simp only [Act.put, sS])
       refine tR [8] (by kernel_rfl) rfl ?_
       refine rC rfl (fun K hK => ?_) ?_
       ·
        refine step_apg _ (by rfl) (.tmp 56) (.tmp 58) 22 55 (.agg #[.int .i64 0, .int .i64 0, .int .i64 0, .int .i64 0, .int .i64 0, .int .i64 0, .int .i64 0, .int .i64 0, .int .i64 0, .bool false]) 10 80 rfl Tryz.underlying22 info_N rfl (by decide) (g + 1) (.slice AN d.sc.notes.length cN) d.sc.notes.length (rcells Nte.cs d.sc.notes) rfl (N11V.out.on ((Below.refl w11.heap.size w11).alloc (Nat.le_refl _) (.cells #[.int .i64 nv, .int .i64 na, .int .i64 nb, .int .i64 0, .int .i64 0, .int .i64 0, .int .i64 0, .int .i64 0, .int .i64 0, .bool true] 55))).drew _ 1 1 (Nte.cs ⟨nv, na, nb, vc0, true⟩) rfl ⟨_, shows_drew (shows_N w11 ⟨nv, na, nb, vc0, true⟩ _ rfl)⟩ (Nte.cs_one ⟨nv, na, nb, vc0, true⟩) (by simp only [maxLen]; omega) (by omega) (by simp; omega) ?_
        intro v4 w12 ho4 hg4 _
        replace hg4 := undrewg hg4
        have HO4 := hid (OwnN.snoc (x := ⟨nv, na, nb, vc0, true⟩) ho4)
        obtain ⟨A4, c4n, rfl, hc4, hr4⟩ := HO4.out.form
        clear hr4 hc4 ho4
        have t12 := (T11.out.alloc (.cells #[.int .i64 nv, .int .i64 na, .int .i64 nb, .int .i64 0, .int .i64 0, .int .i64 0, .int .i64 0, .int .i64 0, .int .i64 0, .bool true] 55)).grown hg4 HOG.out
        have h4w := t12.c4
        rw [HV.out] at h4w
        have f4w := t12.fr 4
        refine hK _ _ ?_
        clear hK K
        try simp only [Act.put, sS]
        refine tK 9 ?_ rfl (by kernel_rfl) (fun _ _ _ h => h) (Or.inl ⟨by rfl, fun w => ?_⟩) ?_; rotate_left; (go_simp; try with_reducible rfl)
        try simp only [Act.put, sS]
        refine tK 10 ?_ rfl (by kernel_rfl) (fun _ _ _ h => h) (Or.inl ⟨by rfl, fun w => ?_⟩) ?_; rotate_left; (go_simp; try with_reducible rfl)
        try simp only [Act.put, sS]
        refine tK 11 ?_ rfl (by kernel_rfl) (fun _ _ _ h => h) (Or.inl ⟨by rfl, fun w => ?_⟩) ?_; rotate_left; (go_simp; try with_reducible rfl)
        try simp only [Act.put, sS]
        refine tR [12] (by kernel_rfl) rfl ?_
        refine rC rfl (fun K hK => ?_) ?_
        ·
         (go_simp; refine hK _ _ ?_; clear hK K; try simp only [Act.put, sS])
         refine wpAny_done (by kernel_rfl) ?_ _
         have HO5 : Hid (OwnN w12 (g + 1) (.slice A4 (d.sc.notes.length + 1) c4n) (d.sc.notes ++ [⟨nv, na, nb, vc0, true⟩])) := by
          have := HO4.out
          rw [List.length_append] at this
          exact this
         have hgx : (w11.alloc (.cells #[.int .i64 nv, .int .i64 na, .int .i64 nb, .int .i64 0, .int .i64 0, .int .i64 0, .int .i64 0, .int .i64 0, .int .i64 0, .bool true] 55)).grownBy w12 x.n.ownBlock := by rw [HV.out]; exact hg4
         have TD := hid (Dr.addn D10.out N9.out.tk HGW.out NM.out hgx HO5.out)
         have hb0 : Far g gm x W w10 := BG.out.trans N9.out.only.away
         have hb4 : Far g gm x W w12 := (((hb0.grown HGW.out (fun b e => by injection e with e; exact Or.inr (Or.inl e.symm))).alloc (.cells #[.int .i64 nv, .int .i64 na, .int .i64 nb, .int .i64 0, .int .i64 0, .int .i64 0, .int .i64 0, .int .i64 0, .int .i64 0, .bool true] 55)).grown hgx (fun b hb => Or.inr (Or.inr (Or.inl hb))))
         have HB5 := hid (hb4.setCell 4 (.slice A4 (d.sc.notes.length + 1) c4n))
         go_end0
         rw [← HR.out]
         exact DEnds.ok HB5.out TD.out.1 TD.out.2
        exact rN
       exact rN
      exact rN
     exact rN
    exact rN
   exact rN
  exact rN
 exact rN
end Go.Proofs.YtcjhihmaegagdaaGreatDoor
