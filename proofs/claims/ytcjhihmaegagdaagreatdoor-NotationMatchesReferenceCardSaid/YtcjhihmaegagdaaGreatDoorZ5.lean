/- Texts of the Notation chapter, together: Zi, Zv, Zw. -/
import Derived.Test.YtcjhihmaegagdaaGreatDoorG1
import Derived.Test.YtcjhihmaegagdaaGreatDoorZ4
import Derived.Test.YtcjhihmaegagdaaGreatDoorH6
import Derived.Test.YtcjhihmaegagdaaGreatDoorG3
set_option maxRecDepth 100000
set_option maxHeartbeats 8000000
set_option linter.unusedSimpArgs false
set_option linter.unusedVariables false
set_option linter.unusedSectionVars false
set_option linter.unnecessarySimpa false
namespace Go.Proofs.YtcjhihmaegagdaaGreatDoor
open Go.RowKit Go.Deep
theorem zHr (x : Nte) {j : Nat} {u : Value} (h : x.place.cells.toList[j]? = some u) : x.cells[3 + j]? = some u := by
 have hj : j < 6 := (List.getElem?_eq_some_iff.1 h).1;rcases (by omega : j = 0 ∨ j = 1 ∨ j = 2 ∨ j = 3 ∨ j = 4 ∨ j = 5) with rfl | rfl | rfl | rfl | rfl | rfl <;> exact h
theorem zAc {w' : World} {p : Addr} {x : Nte} (h : ∀ j v, x.cells[j]? = some v → w'.cell? (p.add j) = some v) : (Instr.loadAt 53 (.pointer (some (p.add 3)))).run Tryz.prog w' = .ok (.agg x.place.cells) w' :=
 jw _ _ Tryz.underlying53 rfl _ _ _ zR fun j u hu => by rw [zBu]; exact h (3 + j) u (zHr x hu)
theorem zHy (w : World) (B : Nat) (v : Value) (s : Scr) (h : kU w B v s) : Calls Tryz.prog 86 #[v] w fun e w' => e = .returned (.bool (vQ s && xz s)) ∧ Below w.heap.size w w' := by
 have HA := hid fun W (hb : Below w.heap.size w W) vo t => zHs W B v s (h.up hb) vo t
 obtain ⟨r, hr⟩ : ∃ r, r = (vQ s && xz s) := ⟨_, rfl⟩
 rw [← hr];have HR := zJt s;rw [← hr] at HR;replace HR := hid HR;obtain ⟨An, cn, Ap, cp, Aq, cq, rfl, h1, -, -⟩ := h.ex;have HQ := hid h1;have HBB := hid h.le;have hln := h.ln;obtain ⟨V, hV⟩ : ∃ V, V = s.voices := ⟨_, rfl⟩
 obtain ⟨l, hl⟩ : ∃ l, l = s.notes := ⟨_, rfl⟩
 obtain ⟨nc, hnc⟩ : ∃ nc, nc = s.cad.length := ⟨_, rfl⟩
 obtain ⟨np, hnp⟩ : ∃ np, np = s.pairs.length := ⟨_, rfl⟩
 rw [← hV, ← hl, ← hnc, ← hnp] at HA ⊢;rw [← hl] at HQ hln HR;rw [← hV] at HR;obtain ⟨n, hn⟩ : ∃ n, n = l.length := ⟨_, rfl⟩
 rw [← hn] at hln HR HA ⊢;have HN := hid hn;clear hr h1 hV hl hnc hnp hn h;have HNO := hid fun W x => zIs W V An Ap Aq n np nc cn cp cq x
 have S0 := hid (Blk.new w 26 #[.int .i64 V, .slice An n cn, .slice Ap np cp, .slice Aq nc cq]);have B0 := hid ((Below.refl w.heap.size w).alloc (Nat.le_refl _) (.cells #[.int .i64 V, .slice An n cn, .slice Ap np cp, .slice Aq nc cq] 26));obtain ⟨w0, hw0⟩ : ∃ w0, w0 = w.alloc (.cells #[.int .i64 V, .slice An n cn, .slice Ap np cp, .slice Aq nc cq] 26) := ⟨_, rfl⟩
 rw [← hw0] at S0 B0;go_enter Tryz.func86, Tryz.ntmps86
 go_upto_region 1 with (fail)
 rw [← hw0];clear hw0;go_wp2_with fail
 go_loopw [3] (fun i wx => ∃ j : Nat, j ≤ n ∧ i = .int .i64 j ∧ Hid (Below w.heap.size w wx) ∧ Hid (Blk wx w.heap.size 26 #[.int .i64 V, .slice An n cn, .slice Ap np cp, .slice Aq nc cq]) ∧ Hid (okN V l j)) (fun i _ => n - (zD i).toNat)
 case atStart => exact ⟨0, Nat.zero_le _, rfl, B0, S0, hid fun t ht => by omega⟩
 case round =>
  clear B0 S0;obtain ⟨j, hj, rfl, HB, HS, HT⟩ := hrel;have s1 := HS.out.cell 1;by_cases hlt : j < n
  ·
   obtain ⟨ad, rfl, hld⟩ := yt HQ.out HBB.out HB.out (i := j) (by rw [← HN.out]; exact hlt);have hl0 := hld _ (Below.refl _ _);obtain ⟨x, hx⟩ : ∃ x, l.getD j zF = x := ⟨_, rfl⟩
   rw [hx] at hl0;have HX := hid hx;have r1 : IntKind.i64.wrap ((j : Int) + 1) = ((j + 1 : Nat) : Int) := by rw [IntKind.wrap_i64]; omega
   clear hx hld;have hal := x.all_one;go_upto_region 5 with (first | ((with_reducible show wpList _ _ _ (Oper.mk _ (Op.load _ _) _ _ _ _ :: _) _ _); refine yB rfl 55 (.tmp 19) rfl _ x.cells rfl hl0 ?_; try simp only [Act.put, sS]) | ((with_reducible show wpList _ _ _ (Oper.mk _ (Op.store _ _ _) _ _ _ _ :: _) _ _); refine zI rfl 55 (.tmp 4) (.tmp 20) rfl wr.heap.size x.cells rfl rfl 55 zF.cells (Blk.new wr _ _) zx rfl hal ?_; intro w4 b4 g4 z4; replace b4 := hid b4; replace g4 := hid g4; replace z4 := hid z4; try simp only [Act.put, sS]))
   have B4 : Hid (Below wr.heap.size wr w4) := hid (((Below.refl _ _).alloc (Nat.le_refl _) _).grown g4.out (by simp) (fun b e => by injection e with e; omega));have W4 := hid (zB HB.out B4.out);have S4 := hid (HS.out.below B4.out HS.out.lt);clear hl0 g4 hal;obtain ⟨gN, hgN⟩ : ∃ g, g = wr.heap.size := ⟨_, rfl⟩
   rw [← hgN] at b4 ⊢;have z5 : Hid (gN < w4.heap.size) := hid (by rw [z4.out, hgN]; simp);clear z4 hgN;obtain ⟨q, hq⟩ : ∃ q, zAn V x = q := ⟨_, rfl⟩
   have HNx : Hid (∀ W, Calls Tryz.prog 126 #[.agg #[.int .i64 V, .slice (some ad) n cn, .slice Ap np cp, .slice Aq nc cq], .agg x.cells] W fun e w' => e = .returned (.bool q) ∧ Below W.heap.size W w') := hid fun W => by rw [← hq]; exact HNO.out W x
   have HQ1 := hid hq;clear hq s1
   cases q with
   | false =>
    have HR2 : Hid (r = false) := hid (by
     rw [Bool.eq_false_iff];intro e;have := ((HR.out.1 e).1 j hlt).1;rw [HX.out, HQ1.out] at this;exact absurd this (by decide))
    go_wp2_with (first | ((with_reducible show wpList _ _ _ (Oper.mk _ (Op.load _ _) _ _ _ _ :: _) _ _); refine zp 26 S4.out Tryz.underlying26 (by kernel_rfl) ?_ (cs := #[.int .i64 V, .slice (some ad) n cn, .slice Ap np cp, .slice Aq nc cq])) | ((with_reducible show wpList _ _ _ (Oper.mk _ (Op.load _ _) _ _ _ _ :: _) _ _); refine zp 55 b4.out Tryz.underlying55 zx ?_ (cs := x.cells)) | (go_at_call 126; refine (HNx.out _).mono ?_; rintro e w6 ⟨rfl, b6⟩; replace b6 := hid b6))
    go_ret;rw [HR2.out];exact ⟨rfl, zB W4.out b6.out⟩
   | true =>
    go_upto_region 7 with (first | ((with_reducible show wpList _ _ _ (Oper.mk _ (Op.load _ _) _ _ _ _ :: _) _ _); refine zp 26 S4.out Tryz.underlying26 (by kernel_rfl) ?_ (cs := #[.int .i64 V, .slice (some ad) n cn, .slice Ap np cp, .slice Aq nc cq])) | ((with_reducible show wpList _ _ _ (Oper.mk _ (Op.load _ _) _ _ _ _ :: _) _ _); refine zp 55 b4.out Tryz.underlying55 zx ?_ (cs := x.cells)) | (go_at_call 126; refine (HNx.out _).mono ?_; rintro e w6 ⟨rfl, b6⟩; replace b6 := hid b6))
    have W6 := hid (zB W4.out b6.out);have S6 := hid (S4.out.below b6.out S4.out.lt);have x6 := hid (b4.out.below b6.out z5.out);clear W4 S4 b4 B4 b6 z5 HNx;have s1 := S6.out.cell 1;have k0 := x6.out.cell 0;have k1 := x6.out.cell 1;go_cut [4, 62] from 25 to 61 (fun u v wx => ∃ b : Bool, u = .pointer (some ⟨gN, 0, none⟩) ∧ v = .bool b ∧ Hid (Below w6.heap.size w6 wx) ∧ Hid (b = true ↔ 0 < j ∧ ¬ yK (l.getD (j - 1) zF) x = true))
    case first =>
     by_cases hj0 : j = 0
     ·
      have jneg : ¬ 0 < j := by omega
      have HJ : Hid (false = true ↔ 0 < j ∧ ¬ yK (l.getD (j - 1) zF) x = true) := hid ⟨fun e => (by cases e), fun e => absurd e.1 jneg⟩;clear hj0;refine yo ?_;refine zA (.int .i64 (j : Int)) ?_;refine zA (.bool false) ?_ (hC := fun _ _ => by simp [go_sem]; omega);refine zA (.bool false) ?_;iterate 34 with_reducible refine zAF ?_
      refine zA (.bool false) ?_;refine wpQuiet_nil ?_;intro w2 hb2;go_wp2_with fail
      go_meet
      case rel => exact ⟨false, rfl, rfl, hid hb2, HJ⟩
     (obtain ⟨jp, hjp⟩ : ∃ jp, j = jp + 1 := ⟨j - 1, by omega⟩);(have jpos : (0 : Int) < (j : Int) := by omega);(have jn : 0 < j := by omega);(have rp : IntKind.i64.wrap ((j : Int) - 1) = (jp : Int) := by rw [IntKind.wrap_i64]; omega);obtain ⟨ad2, e2, hc⟩ := zAw HQ.out HBB.out W6.out (i := jp) (by rw [← HN.out]; omega);injection e2 with e2;subst e2;(obtain ⟨y, hy⟩ : ∃ y, l.getD jp zF = y := ⟨_, rfl⟩);rw [hy] at hc;have hcy := hc;have HY : Hid (l.getD (j - 1) zF = y) := hid (by rw [hjp, Nat.add_sub_cancel]; exact hy);(have hjl : jp < n := by omega);clear hy hc hjp hj0;by_cases t1 : x.start < y.start
     · refine yo ?_;refine zA (.int .i64 (j : Int)) ?_;refine zA (.bool true) ?_ (hC := fun _ _ => by simp [go_sem, jpos, jn]);refine zA (.bool true) ?_;refine zA (.pointer (some ⟨gN, 1, none⟩)) ?_;refine zL 3 (⟨gN, 1, none⟩) (.int .i64 x.start) (fun w' hb => zC _ _ _ ((x6.out.below hb x6.out.lt).cell 1)) ?_;refine zA (.pointer (some ⟨w.heap.size, 1, none⟩)) ?_;refine zL 22 (⟨w.heap.size, 1, none⟩) (.slice (some ad) n cn) (fun w' hb => by have s1 := (S6.out.below hb S6.out.lt).cell 1; go_simp) ?_;refine zA (.int .i64 (j : Int)) ?_;refine zA (.int .i64 (jp : Int)) ?_ (hC := fun _ _ => by simp [go_sem, rp]);refine zA (.pointer (some (ad.add (jp * 10)))) ?_ (hC := fun _ _ => by simp [go_sem, hjl]);refine zA (.pointer (some ({ block := (ad.add (jp * 10)).block, off := (ad.add (jp * 10)).off + 1 }))) ?_ (hC := fun _ _ => by simp [go_sem, Addr.add]);refine zL 3 ({ block := (ad.add (jp * 10)).block, off := (ad.add (jp * 10)).off + 1 }) (.int .i64 y.start) (fun w' hb => zC _ _ _ (hcy _ hb 1 _ rfl)) ?_;refine zA (.bool true) ?_ (hC := fun _ _ => by simp [go_sem, t1]);refine zA (.bool true) ?_;iterate 22 with_reducible refine zAF ?_
       exact m79
     by_cases t2 : x.start = y.start
     ·
      by_cases t3 : x.voice ≤ y.voice
      ·
       refine yo ?_;refine zA (.int .i64 (j : Int)) ?_;refine zA (.bool true) ?_ (hC := fun _ _ => by simp [go_sem, jpos, jn]);refine zA (.bool true) ?_;refine zA (.pointer (some ⟨gN, 1, none⟩)) ?_;refine zL 3 (⟨gN, 1, none⟩) (.int .i64 x.start) (fun w' hb => zC _ _ _ ((x6.out.below hb x6.out.lt).cell 1)) ?_;refine zA (.pointer (some ⟨w.heap.size, 1, none⟩)) ?_;refine zL 22 (⟨w.heap.size, 1, none⟩) (.slice (some ad) n cn) (fun w' hb => by have s1 := (S6.out.below hb S6.out.lt).cell 1; go_simp) ?_;refine zA (.int .i64 (j : Int)) ?_;refine zA (.int .i64 (jp : Int)) ?_ (hC := fun _ _ => by simp [go_sem, rp]);refine zA (.pointer (some (ad.add (jp * 10)))) ?_ (hC := fun _ _ => by simp [go_sem, hjl]);refine zA (.pointer (some ({ block := (ad.add (jp * 10)).block, off := (ad.add (jp * 10)).off + 1 }))) ?_ (hC := fun _ _ => by simp [go_sem, Addr.add]);refine zL 3 ({ block := (ad.add (jp * 10)).block, off := (ad.add (jp * 10)).off + 1 }) (.int .i64 y.start) (fun w' hb => zC _ _ _ (hcy _ hb 1 _ rfl)) ?_;refine zA (.bool false) ?_ (hC := fun _ _ => by simp [go_sem, t1]);refine zA (.bool false) ?_;refine zA (.pointer (some ⟨gN, 1, none⟩)) ?_
       refine zL 3 (⟨gN, 1, none⟩) (.int .i64 x.start) (fun w' hb => zC _ _ _ ((x6.out.below hb x6.out.lt).cell 1)) ?_;refine zA (.pointer (some ⟨w.heap.size, 1, none⟩)) ?_;refine zL 22 (⟨w.heap.size, 1, none⟩) (.slice (some ad) n cn) (fun w' hb => by have s1 := (S6.out.below hb S6.out.lt).cell 1; go_simp) ?_;refine zA (.int .i64 (j : Int)) ?_;refine zA (.int .i64 (jp : Int)) ?_ (hC := fun _ _ => by simp [go_sem, rp]);refine zA (.pointer (some (ad.add (jp * 10)))) ?_ (hC := fun _ _ => by simp [go_sem, hjl]);refine zA (.pointer (some ({ block := (ad.add (jp * 10)).block, off := (ad.add (jp * 10)).off + 1 }))) ?_ (hC := fun _ _ => by simp [go_sem, Addr.add]);refine zL 3 ({ block := (ad.add (jp * 10)).block, off := (ad.add (jp * 10)).off + 1 }) (.int .i64 y.start) (fun w' hb => zC _ _ _ (hcy _ hb 1 _ rfl)) ?_;refine zA (.bool true) ?_ (hC := fun _ _ => by simp [go_sem, t2]);refine zA (.bool true) ?_;refine zA (.pointer (some ⟨gN, 0, none⟩)) ?_;refine zL 3 (⟨gN, 0, none⟩) (.int .i64 x.voice) (fun w' hb => zC _ _ _ ((x6.out.below hb x6.out.lt).cell 0)) ?_;refine zA (.pointer (some ⟨w.heap.size, 1, none⟩)) ?_;refine zL 22 (⟨w.heap.size, 1, none⟩) (.slice (some ad) n cn) (fun w' hb => by have s1 := (S6.out.below hb S6.out.lt).cell 1; go_simp) ?_
       refine zA (.int .i64 (j : Int)) ?_;refine zA (.int .i64 (jp : Int)) ?_ (hC := fun _ _ => by simp [go_sem, rp]);refine zA (.pointer (some (ad.add (jp * 10)))) ?_ (hC := fun _ _ => by simp [go_sem, hjl]);refine zA (.pointer (some (ad.add (jp * 10)))) ?_ (hC := fun _ _ => by simp [go_sem, Addr.add]);refine zL 3 (ad.add (jp * 10)) (.int .i64 y.voice) (fun w' hb => zC _ _ _ (hcy _ hb 0 _ rfl)) ?_;refine zA (.bool true) ?_ (hC := fun _ _ => by simp [go_sem, t3]);refine zA (.bool true) ?_;exact m79
      refine yo ?_;refine zA (.int .i64 (j : Int)) ?_;refine zA (.bool true) ?_ (hC := fun _ _ => by simp [go_sem, jpos, jn]);refine zA (.bool true) ?_;refine zA (.pointer (some ⟨gN, 1, none⟩)) ?_;refine zL 3 (⟨gN, 1, none⟩) (.int .i64 x.start) (fun w' hb => zC _ _ _ ((x6.out.below hb x6.out.lt).cell 1)) ?_;refine zA (.pointer (some ⟨w.heap.size, 1, none⟩)) ?_;refine zL 22 (⟨w.heap.size, 1, none⟩) (.slice (some ad) n cn) (fun w' hb => by have s1 := (S6.out.below hb S6.out.lt).cell 1; go_simp) ?_;refine zA (.int .i64 (j : Int)) ?_;refine zA (.int .i64 (jp : Int)) ?_ (hC := fun _ _ => by simp [go_sem, rp]);refine zA (.pointer (some (ad.add (jp * 10)))) ?_ (hC := fun _ _ => by simp [go_sem, hjl]);refine zA (.pointer (some ({ block := (ad.add (jp * 10)).block, off := (ad.add (jp * 10)).off + 1 }))) ?_ (hC := fun _ _ => by simp [go_sem, Addr.add]);refine zL 3 ({ block := (ad.add (jp * 10)).block, off := (ad.add (jp * 10)).off + 1 }) (.int .i64 y.start) (fun w' hb => zC _ _ _ (hcy _ hb 1 _ rfl)) ?_;refine zA (.bool false) ?_ (hC := fun _ _ => by simp [go_sem, t1]);refine zA (.bool false) ?_;refine zA (.pointer (some ⟨gN, 1, none⟩)) ?_
      refine zL 3 (⟨gN, 1, none⟩) (.int .i64 x.start) (fun w' hb => zC _ _ _ ((x6.out.below hb x6.out.lt).cell 1)) ?_;refine zA (.pointer (some ⟨w.heap.size, 1, none⟩)) ?_;refine zL 22 (⟨w.heap.size, 1, none⟩) (.slice (some ad) n cn) (fun w' hb => by have s1 := (S6.out.below hb S6.out.lt).cell 1; go_simp) ?_;refine zA (.int .i64 (j : Int)) ?_;refine zA (.int .i64 (jp : Int)) ?_ (hC := fun _ _ => by simp [go_sem, rp]);refine zA (.pointer (some (ad.add (jp * 10)))) ?_ (hC := fun _ _ => by simp [go_sem, hjl]);refine zA (.pointer (some ({ block := (ad.add (jp * 10)).block, off := (ad.add (jp * 10)).off + 1 }))) ?_ (hC := fun _ _ => by simp [go_sem, Addr.add]);refine zL 3 ({ block := (ad.add (jp * 10)).block, off := (ad.add (jp * 10)).off + 1 }) (.int .i64 y.start) (fun w' hb => zC _ _ _ (hcy _ hb 1 _ rfl)) ?_;refine zA (.bool true) ?_ (hC := fun _ _ => by simp [go_sem, t2]);refine zA (.bool true) ?_;refine zA (.pointer (some ⟨gN, 0, none⟩)) ?_;refine zL 3 (⟨gN, 0, none⟩) (.int .i64 x.voice) (fun w' hb => zC _ _ _ ((x6.out.below hb x6.out.lt).cell 0)) ?_;refine zA (.pointer (some ⟨w.heap.size, 1, none⟩)) ?_;refine zL 22 (⟨w.heap.size, 1, none⟩) (.slice (some ad) n cn) (fun w' hb => by have s1 := (S6.out.below hb S6.out.lt).cell 1; go_simp) ?_
      refine zA (.int .i64 (j : Int)) ?_;refine zA (.int .i64 (jp : Int)) ?_ (hC := fun _ _ => by simp [go_sem, rp]);refine zA (.pointer (some (ad.add (jp * 10)))) ?_ (hC := fun _ _ => by simp [go_sem, hjl]);refine zA (.pointer (some (ad.add (jp * 10)))) ?_ (hC := fun _ _ => by simp [go_sem, Addr.add]);refine zL 3 (ad.add (jp * 10)) (.int .i64 y.voice) (fun w' hb => zC _ _ _ (hcy _ hb 0 _ rfl)) ?_;refine zA (.bool false) ?_ (hC := fun _ _ => by simp [go_sem, t3]);exact m76
     refine yo ?_;refine zA (.int .i64 (j : Int)) ?_;refine zA (.bool true) ?_ (hC := fun _ _ => by simp [go_sem, jpos, jn]);refine zA (.bool true) ?_;refine zA (.pointer (some ⟨gN, 1, none⟩)) ?_;refine zL 3 (⟨gN, 1, none⟩) (.int .i64 x.start) (fun w' hb => zC _ _ _ ((x6.out.below hb x6.out.lt).cell 1)) ?_;refine zA (.pointer (some ⟨w.heap.size, 1, none⟩)) ?_;refine zL 22 (⟨w.heap.size, 1, none⟩) (.slice (some ad) n cn) (fun w' hb => by have s1 := (S6.out.below hb S6.out.lt).cell 1; go_simp) ?_;refine zA (.int .i64 (j : Int)) ?_;refine zA (.int .i64 (jp : Int)) ?_ (hC := fun _ _ => by simp [go_sem, rp]);refine zA (.pointer (some (ad.add (jp * 10)))) ?_ (hC := fun _ _ => by simp [go_sem, hjl]);refine zA (.pointer (some ({ block := (ad.add (jp * 10)).block, off := (ad.add (jp * 10)).off + 1 }))) ?_ (hC := fun _ _ => by simp [go_sem, Addr.add]);refine zL 3 ({ block := (ad.add (jp * 10)).block, off := (ad.add (jp * 10)).off + 1 }) (.int .i64 y.start) (fun w' hb => zC _ _ _ (hcy _ hb 1 _ rfl)) ?_;refine zA (.bool false) ?_ (hC := fun _ _ => by simp [go_sem, t1]);refine zA (.bool false) ?_;refine zA (.pointer (some ⟨gN, 1, none⟩)) ?_
     refine zL 3 (⟨gN, 1, none⟩) (.int .i64 x.start) (fun w' hb => zC _ _ _ ((x6.out.below hb x6.out.lt).cell 1)) ?_;refine zA (.pointer (some ⟨w.heap.size, 1, none⟩)) ?_;refine zL 22 (⟨w.heap.size, 1, none⟩) (.slice (some ad) n cn) (fun w' hb => by have s1 := (S6.out.below hb S6.out.lt).cell 1; go_simp) ?_;refine zA (.int .i64 (j : Int)) ?_;refine zA (.int .i64 (jp : Int)) ?_ (hC := fun _ _ => by simp [go_sem, rp]);refine zA (.pointer (some (ad.add (jp * 10)))) ?_ (hC := fun _ _ => by simp [go_sem, hjl]);refine zA (.pointer (some ({ block := (ad.add (jp * 10)).block, off := (ad.add (jp * 10)).off + 1 }))) ?_ (hC := fun _ _ => by simp [go_sem, Addr.add]);refine zL 3 ({ block := (ad.add (jp * 10)).block, off := (ad.add (jp * 10)).off + 1 }) (.int .i64 y.start) (fun w' hb => zC _ _ _ (hcy _ hb 1 _ rfl)) ?_;refine zA (.bool false) ?_ (hC := fun _ _ => by simp [go_sem, t2]);refine zA (.bool false) ?_;(iterate 10 with_reducible refine zAF ?_);exact m76
    case rest =>
     obtain ⟨b, rfl, rfl, HB7, HL⟩ := hcut;have W7 := hid (zB W6.out HB7.out);have S7 := hid (S6.out.below HB7.out S6.out.lt);have x7 := hid (x6.out.below HB7.out x6.out.lt);clear W6 S6 x6 HB7
     cases b with
     | true =>
      have HR2 : Hid (r = false) := hid (by
       rw [Bool.eq_false_iff];intro e;obtain ⟨h1, h2⟩ := HL.out.1 rfl;have := ((HR.out.1 e).1 j hlt).2.1 h1;rw [HX.out] at this;exact h2 this)
      (go_wp2_with fail);go_ret;rw [HR2.out];exact ⟨rfl, W7.out⟩
     | false =>
      have HNJ : Hid (0 < j → yK (l.getD (j - 1) zF) x = true) := hid fun h0 => by
       by_cases hh : yK (l.getD (j - 1) zF) x = true
       · exact hh
       exact absurd (HL.out.2 ⟨h0, hh⟩) (by decide)
      clear HL;(go_wp2_with fail);go_loopw [5] (fun u wx => ∃ k : Nat, k ≤ j ∧ u = .int .i64 k ∧ Hid (Below w.heap.size w wx) ∧ Hid (Blk wx w.heap.size 26 #[.int .i64 V, .slice (some ad) n cn, .slice Ap np cp, .slice Aq nc cq]) ∧ Hid (Blk wx gN 55 x.cells) ∧ Hid (∀ t, t < k → (l.getD t zF).voice = x.voice → (l.getD t zF).stop ≤ x.start)) (fun u _ => j - (zD u).toNat)
      case atStart => exact ⟨0, Nat.zero_le _, rfl, W7, S7, x7, hid fun t ht => by omega⟩
      case round =>
       clear W7 S7 x7;obtain ⟨k, hk, rfl, W8, S8, x8, HK⟩ := hrel;by_cases hkj : k < j
       ·
        obtain ⟨ad2, e2, hcy⟩ := zAw HQ.out HBB.out W8.out (i := k) (by rw [← HN.out]; omega);injection e2 with e2;subst e2;obtain ⟨y, hy⟩ : ∃ y, l.getD k zF = y := ⟨_, rfl⟩
        rw [hy] at hcy;have HY := hid hy;have hkn : k < n := by omega
        have r2 : IntKind.i64.wrap ((k : Int) + 1) = ((k + 1 : Nat) : Int) := by rw [IntKind.wrap_i64]; omega
        clear hy;go_upto_region 12 with (fail)
        by_cases t1 : y.voice = x.voice
        ·
         by_cases t2 : x.start < y.stop
         ·
          refine yo ?_;refine zA (.pointer (some ⟨w.heap.size, 1, none⟩)) ?_;refine zL 22 (⟨w.heap.size, 1, none⟩) (.slice (some ad) n cn) (fun w' hb => by have s1 := (S8.out.below hb S8.out.lt).cell 1; go_simp) ?_;refine zA (.int .i64 (k : Int)) ?_;refine zA (.pointer (some (ad.add (k * 10)))) ?_ (hC := fun _ _ => by simp [go_sem, hkn]);refine zA (.pointer (some (ad.add (k * 10)))) ?_ (hC := fun _ _ => by simp [go_sem, Addr.add]);refine zL 3 (ad.add (k * 10)) (.int .i64 y.voice) (fun w' hb => zC _ _ _ (hcy _ hb 0 _ rfl)) ?_;refine zA (.pointer (some ⟨gN, 0, none⟩)) ?_;refine zL 3 (⟨gN, 0, none⟩) (.int .i64 x.voice) (fun w' hb => zC _ _ _ ((x8.out.below hb x8.out.lt).cell 0)) ?_;refine zA (.bool true) ?_ (hC := fun _ _ => by simp [go_sem, t1]);refine zA (.bool true) ?_;refine zA (.pointer (some ⟨w.heap.size, 1, none⟩)) ?_;refine zL 22 (⟨w.heap.size, 1, none⟩) (.slice (some ad) n cn) (fun w' hb => by have s1 := (S8.out.below hb S8.out.lt).cell 1; go_simp) ?_;refine zA (.int .i64 (k : Int)) ?_;refine zA (.pointer (some (ad.add (k * 10)))) ?_ (hC := fun _ _ => by simp [go_sem, hkn]);refine zA (.pointer (some ({ block := (ad.add (k * 10)).block, off := (ad.add (k * 10)).off + 2 }))) ?_ (hC := fun _ _ => by simp [go_sem, Addr.add])
          refine zL 3 ({ block := (ad.add (k * 10)).block, off := (ad.add (k * 10)).off + 2 }) (.int .i64 y.stop) (fun w' hb => zC _ _ _ (hcy _ hb 2 _ rfl)) ?_;refine zA (.pointer (some ⟨gN, 1, none⟩)) ?_;refine zL 3 (⟨gN, 1, none⟩) (.int .i64 x.start) (fun w' hb => zC _ _ _ ((x8.out.below hb x8.out.lt).cell 1)) ?_;refine zA (.bool true) ?_ (hC := fun _ _ => by simp [go_sem, t2]);refine zA (.bool true) ?_;refine wpQuiet_nil ?_;intro w2 hb2
          have HR2 : Hid (r = false) := hid (by
           rw [Bool.eq_false_iff];intro e;have := ((HR.out.1 e).1 j hlt).2.2 k hkj;rw [HX.out, HY.out] at this;have := this t1;omega)
          go_wp2_with fail
          go_ret;rw [HR2.out];exact ⟨rfl, zB W8.out hb2⟩
         refine yo ?_;refine zA (.pointer (some ⟨w.heap.size, 1, none⟩)) ?_;refine zL 22 (⟨w.heap.size, 1, none⟩) (.slice (some ad) n cn) (fun w' hb => by have s1 := (S8.out.below hb S8.out.lt).cell 1; go_simp) ?_;refine zA (.int .i64 (k : Int)) ?_;refine zA (.pointer (some (ad.add (k * 10)))) ?_ (hC := fun _ _ => by simp [go_sem, hkn]);refine zA (.pointer (some (ad.add (k * 10)))) ?_ (hC := fun _ _ => by simp [go_sem, Addr.add]);refine zL 3 (ad.add (k * 10)) (.int .i64 y.voice) (fun w' hb => zC _ _ _ (hcy _ hb 0 _ rfl)) ?_;refine zA (.pointer (some ⟨gN, 0, none⟩)) ?_;refine zL 3 (⟨gN, 0, none⟩) (.int .i64 x.voice) (fun w' hb => zC _ _ _ ((x8.out.below hb x8.out.lt).cell 0)) ?_;refine zA (.bool true) ?_ (hC := fun _ _ => by simp [go_sem, t1]);refine zA (.bool true) ?_;refine zA (.pointer (some ⟨w.heap.size, 1, none⟩)) ?_;refine zL 22 (⟨w.heap.size, 1, none⟩) (.slice (some ad) n cn) (fun w' hb => by have s1 := (S8.out.below hb S8.out.lt).cell 1; go_simp) ?_;refine zA (.int .i64 (k : Int)) ?_;refine zA (.pointer (some (ad.add (k * 10)))) ?_ (hC := fun _ _ => by simp [go_sem, hkn]);refine zA (.pointer (some ({ block := (ad.add (k * 10)).block, off := (ad.add (k * 10)).off + 2 }))) ?_ (hC := fun _ _ => by simp [go_sem, Addr.add])
         refine zL 3 ({ block := (ad.add (k * 10)).block, off := (ad.add (k * 10)).off + 2 }) (.int .i64 y.stop) (fun w' hb => zC _ _ _ (hcy _ hb 2 _ rfl)) ?_;refine zA (.pointer (some ⟨gN, 1, none⟩)) ?_;refine zL 3 (⟨gN, 1, none⟩) (.int .i64 x.start) (fun w' hb => zC _ _ _ ((x8.out.below hb x8.out.lt).cell 1)) ?_;refine zA (.bool false) ?_ (hC := fun _ _ => by simp [go_sem, t2]);exact m72
        refine yo ?_;refine zA (.pointer (some ⟨w.heap.size, 1, none⟩)) ?_;refine zL 22 (⟨w.heap.size, 1, none⟩) (.slice (some ad) n cn) (fun w' hb => by have s1 := (S8.out.below hb S8.out.lt).cell 1; go_simp) ?_;refine zA (.int .i64 (k : Int)) ?_;refine zA (.pointer (some (ad.add (k * 10)))) ?_ (hC := fun _ _ => by simp [go_sem, hkn]);refine zA (.pointer (some (ad.add (k * 10)))) ?_ (hC := fun _ _ => by simp [go_sem, Addr.add]);refine zL 3 (ad.add (k * 10)) (.int .i64 y.voice) (fun w' hb => zC _ _ _ (hcy _ hb 0 _ rfl)) ?_;refine zA (.pointer (some ⟨gN, 0, none⟩)) ?_;refine zL 3 (⟨gN, 0, none⟩) (.int .i64 x.voice) (fun w' hb => zC _ _ _ ((x8.out.below hb x8.out.lt).cell 0)) ?_;refine zA (.bool false) ?_ (hC := fun _ _ => by simp [go_sem, t1]);refine zA (.bool false) ?_;iterate 9 with_reducible refine zAF ?_
        exact m72
       have HT2 : Hid (okN V l (j + 1)) := hid fun i hi => by
        rcases Nat.lt_or_ge i j with h | h
        · exact HT.out i h
        (obtain rfl : i = j := by omega);rw [HX.out];exact ⟨HQ1.out, HNJ.out, fun t ht e => HK.out t (by omega) e⟩
       (go_wp2_with fail);go_roundw
       case rel => exact ⟨j + 1, by omega, by go_num, W8, S8, HT2⟩
       case measure => simp [zD]; omega
  (have HN1 : Hid (okN V l n) := by rw [show n = j by omega]; exact HT);(go_wp2_with fail);clear s1 hlt hj HT;go_loopw [6] (fun i wx => ∃ j : Nat, j ≤ n ∧ i = .int .i64 j ∧ Hid (Below w.heap.size w wx) ∧ Hid (Blk wx w.heap.size 26 #[.int .i64 V, .slice An n cn, .slice Ap np cp, .slice Aq nc cq]) ∧ Hid (okT l j)) (fun i _ => n - (zD i).toNat)
  case atStart => exact ⟨0, Nat.zero_le _, rfl, HB, HS, hid fun t ht => by omega⟩
  case round =>
   clear HB HS;obtain ⟨j, hj, rfl, HB, HS, HT⟩ := hrel;have s1 := HS.out.cell 1;by_cases hlt : j < n
   ·
    obtain ⟨ad, rfl, hld⟩ := yt HQ.out HBB.out HB.out (i := j) (by rw [← HN.out]; exact hlt);have hl0 := hld _ (Below.refl _ _);obtain ⟨x, hx⟩ : ∃ x, l.getD j zF = x := ⟨_, rfl⟩
    rw [hx] at hl0;have HX := hid hx;have r1 : IntKind.i64.wrap ((j : Int) + 1) = ((j + 1 : Nat) : Int) := by rw [IntKind.wrap_i64]; omega
    clear hx hld;have hal := x.all_one;go_upto_region 18 with (first | ((with_reducible show wpList _ _ _ (Oper.mk _ (Op.load _ _) _ _ _ _ :: _) _ _); refine yB rfl 55 (.tmp 98) rfl _ x.cells rfl hl0 ?_; try simp only [Act.put, sS]) | ((with_reducible show wpList _ _ _ (Oper.mk _ (Op.store _ _ _) _ _ _ _ :: _) _ _); refine zI rfl 55 (.tmp 7) (.tmp 99) rfl wr.heap.size x.cells rfl rfl 55 zF.cells (Blk.new wr _ _) zx rfl hal ?_; intro w4 b4 g4 z4; replace b4 := hid b4; replace g4 := hid g4; replace z4 := hid z4; try simp only [Act.put, sS]))
    have B4 : Hid (Below wr.heap.size wr w4) := hid (((Below.refl _ _).alloc (Nat.le_refl _) _).grown g4.out (by simp) (fun b e => by injection e with e; omega));have W4 := hid (zB HB.out B4.out);have S4 := hid (HS.out.below B4.out HS.out.lt);clear hl0 g4 hal;obtain ⟨gN, hgN⟩ : ∃ g, g = wr.heap.size := ⟨_, rfl⟩
    rw [← hgN] at b4 ⊢;have z5 : Hid (gN < w4.heap.size) := hid (by rw [z4.out, hgN]; simp);clear z4 hgN;obtain ⟨ka, hka⟩ : ∃ k, jg l x.voice x.start = k := ⟨_, rfl⟩
    have HA2 : Hid (∀ W, Below w.heap.size w W → Calls Tryz.prog 127 #[.agg #[.int .i64 V, .slice (some ad) n cn, .slice Ap np cp, .slice Aq nc cq], .int .i64 x.voice, .int .i64 x.start] W fun e w' => e = .returned (.int .i64 ka) ∧ Below W.heap.size W w') := hid fun W hb => by rw [← hka]; exact HA.out W hb _ _
    have HKA := hid hka;obtain ⟨td, htd⟩ : ∃ t, x.tied = t := ⟨_, rfl⟩
    have HTD := hid htd;have c0 := b4.out.cell 0;have c1 := b4.out.cell 1;clear hka htd s1;go_upto_region 19 with (first | ((with_reducible show wpList _ _ _ (Oper.mk _ (Op.load _ _) _ _ _ _ :: _) _ _); refine zp 26 S4.out Tryz.underlying26 (by kernel_rfl) ?_ (cs := #[.int .i64 V, .slice (some ad) n cn, .slice Ap np cp, .slice Aq nc cq])) | (go_at_call 127; with_reducible refine (HA2.out _ W4.out).mono ?_; rintro e w6 ⟨rfl, b6⟩; replace b6 := hid b6))
    have W6 := hid (zB W4.out b6.out);have S6 := hid (S4.out.below b6.out S4.out.lt);have x6 := hid (b4.out.below b6.out z5.out);clear W4 S4 b4 B4 b6 z5 HA2 c0 c1;cases td
    ·
     refine yo ?_;refine zA (.pointer (some ⟨gN, 9, none⟩)) ?_;refine zL 4 (⟨gN, 9, none⟩) (.bool false) (fun w' hb => by have s1 : w'.cell? ⟨gN, 9, none⟩ = some (.bool x.tied) := (x6.out.below hb x6.out.lt).cell 9; rw [HTD.out] at s1; go_simp) ?_;refine zA (.bool false) ?_;iterate 13 with_reducible refine zAF ?_
     refine zA (.bool false) ?_;refine wpQuiet_nil ?_;intro w2 hb2
     have HT2 : Hid (okT l (j + 1)) := hid fun i hi => by
      rcases Nat.lt_or_ge i j with h | h
      · exact HT.out i h
      obtain rfl : i = j := by omega
      rw [HX.out, HTD.out];intro e; cases e
     exact zMF
    by_cases k1 : ka < 0
    ·
     refine yo ?_;refine zA (.pointer (some ⟨gN, 9, none⟩)) ?_;refine zL 4 (⟨gN, 9, none⟩) (.bool true) (fun w' hb => by have s1 : w'.cell? ⟨gN, 9, none⟩ = some (.bool x.tied) := (x6.out.below hb x6.out.lt).cell 9; rw [HTD.out] at s1; go_simp) ?_;refine zA (.bool true) ?_;refine zA (.int .i64 ka) ?_;refine zA (.bool true) ?_ (hC := fun _ _ => by simp [go_sem, k1]);refine zA (.bool true) ?_;iterate 9 with_reducible refine zAF ?_
     refine zA (.bool true) ?_;refine zA (.bool true) ?_;refine wpQuiet_nil ?_;intro w2 hb2
     have HR2 : Hid (r = false) := hid (by
      rw [Bool.eq_false_iff];intro e;obtain ⟨m2, h1, h2, h3⟩ := (HR.out.1 e).2 j hlt (by rw [HX.out]; exact HTD.out);rw [HX.out] at h2 h3;rw [HKA.out] at h2;omega)
     go_wp2_with fail
     go_ret;rw [HR2.out];exact ⟨rfl, zB W6.out hb2⟩
    obtain ⟨m, hm⟩ : ∃ m : Nat, ka = m := ⟨ka.toNat, by omega⟩
    subst hm;obtain ⟨hml, -, -⟩ := zCi HKA.out;have hmn : m < n := by rw [HN.out]; exact hml
    obtain ⟨ad2, e2, hcy⟩ := zAw HQ.out HBB.out W6.out (i := m) hml;injection e2 with e2;subst e2;obtain ⟨y, hy⟩ : ∃ y, l.getD m zF = y := ⟨_, rfl⟩
    rw [hy] at hcy;have HY := hid hy;clear hy hml k1;by_cases hpp : y.place = x.place
    ·
     have hne : ∀ w, (binOp .neq 53 (.agg y.place.cells) (.agg x.place.cells)).run Tryz.prog w = .ok (.bool false) w := fun w => by rw [vj, hpp]; simp
     have HPP := hid hpp;clear hpp;refine yo ?_;refine zA (.pointer (some ⟨gN, 9, none⟩)) ?_;refine zL 4 (⟨gN, 9, none⟩) (.bool true) (fun w' hb => by have s1 : w'.cell? ⟨gN, 9, none⟩ = some (.bool x.tied) := (x6.out.below hb x6.out.lt).cell 9; rw [HTD.out] at s1; go_simp) ?_;refine zA (.bool true) ?_;refine zA (.int .i64 (m : Int)) ?_;refine zA (.bool false) ?_;refine zA (.bool false) ?_;refine zA (.pointer (some ⟨w.heap.size, 1, none⟩)) ?_;refine zL 22 (⟨w.heap.size, 1, none⟩) (.slice (some ad) n cn) (fun w' hb => by have s1 := (S6.out.below hb S6.out.lt).cell 1; go_simp) ?_;refine zA (.int .i64 (m : Int)) ?_;refine zA (.pointer (some (ad.add (m * 10)))) ?_ (hC := fun _ _ => by simp [go_sem, hmn]);refine zA (.pointer (some ({ block := (ad.add (m * 10)).block, off := (ad.add (m * 10)).off + 3 }))) ?_ (hC := fun _ _ => by simp [go_sem, Addr.add]);refine zL 53 ({ block := (ad.add (m * 10)).block, off := (ad.add (m * 10)).off + 3 }) (.agg y.place.cells) (fun w' hb => zAc (p := ad.add (m * 10)) (hcy _ hb)) ?_;refine zA (.pointer (some ⟨gN, 3, none⟩)) ?_;refine zL 53 (⟨gN, 3, none⟩) (.agg x.place.cells) (fun w' hb => zAc (p := ⟨gN, 0, none⟩) (fun j v h => zO (x6.out.below hb x6.out.lt) j v (by rw [Array.getElem?_toList]; exact h))) ?_
     refine zA (.bool false) ?_ (hC := fun _ _ => by simp [go_sem, hne]);refine zA (.bool false) ?_;refine zA (.bool false) ?_;refine wpQuiet_nil ?_;intro w2 hb2
     have HT2 : Hid (okT l (j + 1)) := hid fun i hi => by
      rcases Nat.lt_or_ge i j with h | h
      · exact HT.out i h
      obtain rfl : i = j := by omega
      rw [HX.out, HTD.out];exact fun _ => ⟨m, by rw [← HN.out]; exact hmn, HKA.out, by rw [HY.out]; exact HPP.out⟩
     exact zMF
    have hne : ∀ w, (binOp .neq 53 (.agg y.place.cells) (.agg x.place.cells)).run Tryz.prog w = .ok (.bool true) w := fun w => by rw [vj]; simp [hpp]
    have HPP := hid hpp;clear hpp;refine yo ?_;refine zA (.pointer (some ⟨gN, 9, none⟩)) ?_;refine zL 4 (⟨gN, 9, none⟩) (.bool true) (fun w' hb => by have s1 : w'.cell? ⟨gN, 9, none⟩ = some (.bool x.tied) := (x6.out.below hb x6.out.lt).cell 9; rw [HTD.out] at s1; go_simp) ?_;refine zA (.bool true) ?_;refine zA (.int .i64 (m : Int)) ?_;refine zA (.bool false) ?_;refine zA (.bool false) ?_;refine zA (.pointer (some ⟨w.heap.size, 1, none⟩)) ?_;refine zL 22 (⟨w.heap.size, 1, none⟩) (.slice (some ad) n cn) (fun w' hb => by have s1 := (S6.out.below hb S6.out.lt).cell 1; go_simp) ?_;refine zA (.int .i64 (m : Int)) ?_;refine zA (.pointer (some (ad.add (m * 10)))) ?_ (hC := fun _ _ => by simp [go_sem, hmn]);refine zA (.pointer (some ({ block := (ad.add (m * 10)).block, off := (ad.add (m * 10)).off + 3 }))) ?_ (hC := fun _ _ => by simp [go_sem, Addr.add]);refine zL 53 ({ block := (ad.add (m * 10)).block, off := (ad.add (m * 10)).off + 3 }) (.agg y.place.cells) (fun w' hb => zAc (p := ad.add (m * 10)) (hcy _ hb)) ?_;refine zA (.pointer (some ⟨gN, 3, none⟩)) ?_;refine zL 53 (⟨gN, 3, none⟩) (.agg x.place.cells) (fun w' hb => zAc (p := ⟨gN, 0, none⟩) (fun j v h => zO (x6.out.below hb x6.out.lt) j v (by rw [Array.getElem?_toList]; exact h))) ?_
    refine zA (.bool true) ?_ (hC := fun _ _ => by simp [go_sem, hne]);refine zA (.bool true) ?_;refine zA (.bool true) ?_;refine wpQuiet_nil ?_;intro w2 hb2
    have HR2 : Hid (r = false) := hid (by
     rw [Bool.eq_false_iff];intro e;obtain ⟨m2, h1, h2, h3⟩ := (HR.out.1 e).2 j hlt (by rw [HX.out]; exact HTD.out);rw [HX.out] at h2 h3;rw [HKA.out] at h2;obtain rfl : m = m2 := by omega
     rw [HY.out] at h3;exact HPP.out h3)
    go_wp2_with fail
    go_ret;rw [HR2.out];exact ⟨rfl, zB W6.out hb2⟩
   have HR2 : Hid (r = true) := hid (HR.out.2 ⟨HN1.out, by rw [show n = j by omega]; exact HT.out⟩);(go_wp2_with fail);go_ret;rw [HR2.out];exact ⟨rfl, HB.out⟩
open Go.RowKit Go.Deep
theorem zKc (s : Scr) : vu s = true ↔ ∀ i, i < s.pairs.length → vG s (s.pairs.getD i zt) = true ∧ (0 < i → zv (s.pairs.getD (i - 1) zt) (s.pairs.getD i zt) = true) := by
 unfold vu;rw [Bool.and_eq_true, xN _ _ zt];constructor
 · rintro ⟨h1, h2⟩ i hi;refine ⟨h1 i hi, fun h0 => ?_⟩;have := List.pairwise_iff_getElem.1 (vO jY _ h2) (i - 1) i (by omega) hi (by omega);rw [zN hi, zN (show i - 1 < s.pairs.length by omega)];exact this
 intro h;refine ⟨fun i hi => (h i hi).1, kf zv _ zt fun t ht => ?_⟩;have := (h (t + 1) ht).2 (by omega)
 rwa [Nat.add_sub_cancel] at this
theorem kV {s : Scr} {p : Par} : vG s p = true ↔ 0 ≤ p.a ∧ p.a < p.b ∧ p.b < s.notes.length ∧ p.wish.le 16 = true ∧ 0 ≤ p.bound ∧ p.bound ≤ 100000 ∧ (s.notes.getD p.a.toNat zF).voice ≠ (s.notes.getD p.b.toNat zF).voice ∧ (s.notes.getD p.b.toNat zF).start < (s.notes.getD p.a.toNat zF).stop := by
 unfold vG;simp only [Bool.and_eq_true, decide_eq_true_eq, Bool.not_eq_true', decide_eq_false_iff_not, and_assoc, ne_eq]
theorem zHF {s : Scr} (h : vQ s = true) : (∀ i k, i < k → k < s.notes.length → (s.notes.getD i zF).start ≤ (s.notes.getD k zF).start) ∧ ∀ k, k < s.notes.length → (s.notes.getD k zF).start < (s.notes.getD k zF).stop := by
 rw [zAY, Bool.and_eq_true, xN _ _ zF] at h;refine ⟨fun i k hik hk => ?_, fun k hk => (zCc.1 (h.1 k hk)).2.2.2.1⟩;have := List.pairwise_iff_getElem.1 (vO ja _ h.2) i k (by omega) hk hik;rw [zN hk, zN (Nat.lt_trans hik hk)];simp only [yK, Bool.or_eq_true, Bool.and_eq_true, decide_eq_true_eq] at this;omega
theorem zJ0 {w wx : World} {B : Nat} {A : Option Addr} {l : List Par} (h : RdP w B A l) (hB : B ≤ w.heap.size) (hb : Below w.heap.size w wx) {i : Nat} (hi : i < l.length) :
 ∃ ad, A = some ad ∧ ∀ w', Below wx.heap.size wx w' → ∀ j v, (l.getD i zt).cells[j]? = some v → w'.cell? ((ad.add (i * 9)).add j) = some v := by
 obtain ⟨ad, rfl, h1, h2⟩ := zQ.rec Par.cs 9 Par.cs_len h rfl hi;refine ⟨ad, rfl, fun w' hb' j v hv => ?_⟩
 have hj : j < 9 := by
  have := (Array.getElem?_eq_some_iff.1 hv).1;exact this
 have hblk : ((ad.add (i * 9)).add j).block < B := by rw [zs, zs]; exact h1
 rw [hb'.cell (Nat.lt_of_lt_of_le hblk (Nat.le_trans hB hb.size)), hb.cell (Nat.lt_of_lt_of_le hblk hB), h2 j hj, ← hv, zN hi];simp [Par.cells, Par.cs]
theorem zGQ (w : World) (B : Nat) (v : Value) (s : Scr) (h : kU w B v s) (hN : vQ s = true) : Calls Tryz.prog 87 #[v] w fun e w' => e = .returned (.bool (vu s)) ∧ Below w.heap.size w w' := by
 have HNT := zHF hN;obtain ⟨r, hr⟩ : ∃ r, r = vu s := ⟨_, rfl⟩
 rw [← hr];have HR := zKc s;rw [← hr] at HR;obtain ⟨An, cn, Ap, cp, Aq, cq, rfl, h1, h2, -⟩ := h.ex;have HQ := hid h1;have HP := hid h2;have HBB := hid h.le;have hln := h.ln;have hlp := h.lp;obtain ⟨V, hV⟩ : ∃ V, V = s.voices := ⟨_, rfl⟩
 obtain ⟨l, hl⟩ : ∃ l, l = s.notes := ⟨_, rfl⟩
 obtain ⟨ps, hps⟩ : ∃ l, l = s.pairs := ⟨_, rfl⟩
 obtain ⟨nc, hnc⟩ : ∃ nc, nc = s.cad.length := ⟨_, rfl⟩
 rw [← hl] at HQ hln HNT;rw [← hps] at HP hlp HR;have HLS := hid hl;rw [← hV, ← hl, ← hps, ← hnc];obtain ⟨n, hn⟩ : ∃ n, n = l.length := ⟨_, rfl⟩
 obtain ⟨np, hnp⟩ : ∃ n, n = ps.length := ⟨_, rfl⟩
 rw [← hn] at hln ⊢;rw [← hnp] at hlp HR ⊢;have HN := hid hn;have HNP := hid hnp;replace HR := hid HR;replace HNT := hid HNT;clear hr h1 h2 hV hl hps hnc hn hnp h hN;have S0 := hid (Blk.new w 26 #[.int .i64 V, .slice An n cn, .slice Ap np cp, .slice Aq nc cq]);have B0 := hid ((Below.refl w.heap.size w).alloc (Nat.le_refl _) (.cells #[.int .i64 V, .slice An n cn, .slice Ap np cp, .slice Aq nc cq] 26));obtain ⟨w0, hw0⟩ : ∃ w0, w0 = w.alloc (.cells #[.int .i64 V, .slice An n cn, .slice Ap np cp, .slice Aq nc cq] 26) := ⟨_, rfl⟩
 rw [← hw0] at S0 B0;go_enter Tryz.func87, Tryz.ntmps87
 go_upto_region 1 with (fail)
 rw [← hw0];clear hw0;go_wp2_with fail
 go_loopw [3] (fun i wx => ∃ j : Nat, j ≤ np ∧ i = .int .i64 j ∧ Hid (Below w.heap.size w wx) ∧ Hid (Blk wx w.heap.size 26 #[.int .i64 V, .slice An n cn, .slice Ap np cp, .slice Aq nc cq]) ∧ Hid (∀ i, i < j → vG s (ps.getD i zt) = true ∧ (0 < i → zv (ps.getD (i - 1) zt) (ps.getD i zt) = true))) (fun i _ => np - (zD i).toNat)
 case atStart => exact ⟨0, Nat.zero_le _, rfl, B0, S0, hid fun t ht => by omega⟩
 case round =>
  clear B0 S0;obtain ⟨j, hj, rfl, HB, HS, HT⟩ := hrel;have s2 := HS.out.cell 2;by_cases hlt : j < np
  ·
   obtain ⟨ap, rfl, hld⟩ := kC HP.out HBB.out HB.out (i := j) (by rw [← HNP.out]; exact hlt);have hl0 := hld _ (Below.refl _ _);obtain ⟨x, hx⟩ : ∃ x, ps.getD j zt = x := ⟨_, rfl⟩
   rw [hx] at hl0;have HX := hid hx;have r1 : IntKind.i64.wrap ((j : Int) + 1) = ((j + 1 : Nat) : Int) := by rw [IntKind.wrap_i64]; omega
   clear hx hld;have hal := x.all_one;go_upto_region 5 with (first | ((with_reducible show wpList _ _ _ (Oper.mk _ (Op.load _ _) _ _ _ _ :: _) _ _); refine yB rfl 57 (.tmp 17) rfl _ x.cells rfl hl0 ?_; try simp only [Act.put, sS]) | ((with_reducible show wpList _ _ _ (Oper.mk _ (Op.store _ _ _) _ _ _ _ :: _) _ _); refine zI rfl 57 (.tmp 4) (.tmp 18) rfl wr.heap.size x.cells rfl rfl 57 zt.cells (Blk.new wr _ _) vN rfl hal ?_; intro w4 b4 g4 z4; replace b4 := hid b4; replace g4 := hid g4; replace z4 := hid z4; try simp only [Act.put, sS]))
   have B4 : Hid (Below wr.heap.size wr w4) := hid (((Below.refl _ _).alloc (Nat.le_refl _) _).grown g4.out (by simp) (fun b e => by injection e with e; omega));obtain ⟨gP, hG⟩ : ∃ g, g = wr.heap.size := ⟨_, rfl⟩
   rw [← hG] at b4 ⊢;have y4 : Hid (gP < w4.heap.size) := hid (by rw [z4.out, hG]; simp);clear hl0 g4 hal z4 hG;have W4 := hid (zB HB.out B4.out);have S4 := hid (HS.out.below B4.out HS.out.lt);clear s2;have p0 := b4.out.cell 0;have p1 := b4.out.cell 1;have p8 := b4.out.cell 8;have s1 := S4.out.cell 1;obtain ⟨qb, hqb⟩ : ∃ q, x.wish.le 16 = q := ⟨_, rfl⟩
   have HBD : Hid (∀ W, Calls Tryz.prog 128 #[.agg x.wish.cells, .int .i64 16] W fun e w' => e = .returned (.bool qb) ∧ Below W.heap.size W w') := hid fun W => by rw [← hqb]; exact zBM W x.wish 16 (by omega)
   have HQB := hid hqb;clear hqb;by_cases h0 : ¬ 0 ≤ x.a
   · exact zOi
   have g0 := Decidable.not_not.1 h0;clear h0;by_cases h1 : ¬ x.a < x.b
   · exact zOi
   have g1 := Decidable.not_not.1 h1;clear h1;by_cases h2 : ¬ x.b < (n : Int)
   ·
    have HR2 : Hid (r = false) := hid (by
     rw [Bool.eq_false_iff];intro e;have h9 := (HR.out.1 e) j hlt;rw [HX.out] at h9;have h8 := kV.1 h9.1;rw [← HLS.out] at h8;have := HN.out; omega)
    go_wp2_with fail
    go_ret;rw [HR2.out];exact ⟨rfl, W4.out⟩
   have g2 := Decidable.not_not.1 h2;clear h2;have p2 := b4.out.cell 2;have p3 := b4.out.cell 3;have p4 := b4.out.cell 4;have p5 := b4.out.cell 5;have p6 := b4.out.cell 6;have p7 := b4.out.cell 7
   cases qb with
   | false =>
    have HR2 : Hid (r = false) := hid (by
     rw [Bool.eq_false_iff];intro e;have h9 := (HR.out.1 e) j hlt;rw [HX.out] at h9;have h8 := kV.1 h9.1;rw [← HLS.out] at h8;rw [HQB.out] at h8;exact absurd h8.2.2.2.1 (by decide))
    exact m77
   | true =>
    by_cases h4 : ¬ 0 ≤ x.bound
    · exact zNA
    have g4 := Decidable.not_not.1 h4;clear h4;by_cases h5 : ¬ x.bound ≤ 100000
    · exact zNA
    have g5 := Decidable.not_not.1 h5;clear h5;obtain ⟨ia, hia⟩ : ∃ i : Nat, x.a = i := ⟨x.a.toNat, by omega⟩
    obtain ⟨ib, hib⟩ : ∃ i : Nat, x.b = i := ⟨x.b.toNat, by omega⟩
    have hab : ia < ib := by omega
    have hbn : ib < n := by omega
    have GG := hid (And.intro g0 (And.intro g1 (And.intro g2 (And.intro g4 g5))));have GI := hid (And.intro hia hib);go_upto_region 7 with (go_at_call 128; with_reducible refine (HBD.out _).mono ?_; rintro e w6 ⟨rfl, b6⟩; have p9 := (b4.out.below b6 y4.out).cell 8; replace b6 := hid b6)
    have W6 := hid (zB W4.out b6.out);have S6 := hid (S4.out.below b6.out S4.out.lt);have x6 := hid (b4.out.below b6.out y4.out);have s1 := S6.out.cell 1;have p0 : w6.cell? ⟨gP, 0, none⟩ = some (.int .i64 (ia : Int)) := by rw [← GI.out.1]; exact x6.out.cell 0
    clear W4 S4 b4 B4 b6 y4 g0 g1 g2 g4 g5 hia hib HBD;obtain ⟨ad, rfl, hld⟩ := yt HQ.out HBB.out W6.out (i := ia) (by rw [← HN.out]; omega);have hl0 := hld _ (Below.refl _ _);obtain ⟨ya, hya⟩ : ∃ x, l.getD ia zF = x := ⟨_, rfl⟩
    rw [hya] at hl0;have HYA := hid hya;have hna : ia < n := by omega
    clear hya hld;have hal := ya.all_one;go_upto_region 8 with (first | ((with_reducible show wpList _ _ _ (Oper.mk _ (Op.load _ _) _ _ _ _ :: _) _ _); refine yB rfl 55 (.tmp 57) rfl _ ya.cells rfl hl0 ?_; try simp only [Act.put, sS]) | ((with_reducible show wpList _ _ _ (Oper.mk _ (Op.store _ _ _) _ _ _ _ :: _) _ _); refine zI rfl 55 (.tmp 5) (.tmp 58) rfl w6.heap.size ya.cells rfl rfl 55 zF.cells (Blk.new w6 _ _) zx rfl hal ?_; intro w7 b7 g7 z7; replace b7 := hid b7; replace g7 := hid g7; replace z7 := hid z7; try simp only [Act.put, sS]))
    have B7 : Hid (Below w6.heap.size w6 w7) := hid (((Below.refl _ _).alloc (Nat.le_refl _) _).grown g7.out (by simp) (fun b e => by injection e with e; omega));obtain ⟨gA, hG⟩ : ∃ g, g = w6.heap.size := ⟨_, rfl⟩
    rw [← hG] at b7 ⊢;have y7 : Hid (gA < w7.heap.size) := hid (by rw [z7.out, hG]; simp);clear hl0 g7 hal z7 hG;have W7 := hid (zB W6.out B7.out);have S7 := hid (S6.out.below B7.out S6.out.lt);have x7 := hid (x6.out.below B7.out x6.out.lt);have s1 := S7.out.cell 1;have p1 : w7.cell? ⟨gP, 1, none⟩ = some (.int .i64 (ib : Int)) := by rw [← GI.out.2]; exact x7.out.cell 1
    clear W6 S6 x6 B7 p0;obtain ⟨ad2, e2, hld⟩ := yt HQ.out HBB.out W7.out (i := ib) (by rw [← HN.out]; omega);injection e2 with e2;subst e2;have hl0 := hld _ (Below.refl _ _);obtain ⟨yb, hyb⟩ : ∃ x, l.getD ib zF = x := ⟨_, rfl⟩
    rw [hyb] at hl0;have HYB := hid hyb;clear hyb hld;have hal := yb.all_one;go_upto_region 9 with (first | ((with_reducible show wpList _ _ _ (Oper.mk _ (Op.load _ _) _ _ _ _ :: _) _ _); refine yB rfl 55 (.tmp 63) rfl _ yb.cells rfl hl0 ?_; try simp only [Act.put, sS]) | ((with_reducible show wpList _ _ _ (Oper.mk _ (Op.store _ _ _) _ _ _ _ :: _) _ _); refine zI rfl 55 (.tmp 6) (.tmp 64) rfl w7.heap.size yb.cells rfl rfl 55 zF.cells (Blk.new w7 _ _) zx rfl hal ?_; intro w8 b8 g8 z8; replace b8 := hid b8; replace g8 := hid g8; replace z8 := hid z8; try simp only [Act.put, sS]))
    have B8 : Hid (Below w7.heap.size w7 w8) := hid (((Below.refl _ _).alloc (Nat.le_refl _) _).grown g8.out (by simp) (fun b e => by injection e with e; omega));obtain ⟨gB, hG⟩ : ∃ g, g = w7.heap.size := ⟨_, rfl⟩
    rw [← hG] at b8 ⊢;have y8 : Hid (gB < w8.heap.size) := hid (by rw [z8.out, hG]; simp);clear hl0 g8 hal z8 hG;have W8 := hid (zB W7.out B8.out);have S8 := hid (S7.out.below B8.out S7.out.lt);have x8 := hid (x7.out.below B8.out x7.out.lt);have a8 := hid (b7.out.below B8.out y7.out);clear W7 S7 x7 b7 y7 B8 p1 s1;have a0 := a8.out.cell 0;have a1 := a8.out.cell 1;have a2 := a8.out.cell 2;have b0 := b8.out.cell 0;have b1 := b8.out.cell 1;have b2 := b8.out.cell 2;have f1 : ya.start ≤ yb.start := by have := HNT.out.1 ia ib hab (by rw [← HN.out]; exact hbn); rw [HYA.out, HYB.out] at this; exact this
    have f2 : yb.start < yb.stop := by have := HNT.out.2 ib (by rw [← HN.out]; exact hbn); rw [HYB.out] at this; exact this
    have hmx : max ya.start yb.start = yb.start := by omega
    obtain ⟨M, hM⟩ : ∃ M, min ya.stop yb.stop = M := ⟨_, rfl⟩
    have HAB : ∀ z : Par, z.a = x.a → z.b = x.b → (l.getD z.a.toNat zF) = ya ∧ (l.getD z.b.toNat zF) = yb := fun z h1 h2 => by
     rw [h1, h2, GI.out.1, GI.out.2, Int.toNat_natCast, Int.toNat_natCast];exact ⟨HYA.out, HYB.out⟩
    have HL2 := hid (HAB x rfl rfl);clear HAB f1;by_cases hvv : ya.voice = yb.voice
    ·
     have HVV := hid hvv;clear hvv
     have HR2 : Hid (r = false) := hid (by
      rw [Bool.eq_false_iff];intro e;have h9 := (HR.out.1 e) j hlt;rw [HX.out] at h9;have h8 := kV.1 h9.1;rw [← HLS.out] at h8;rw [HL2.out.1, HL2.out.2] at h8;exact h8.2.2.2.2.2.2.1 HVV.out)
     have hvt : ya.voice = yb.voice := HVV.out;go_wp2_with fail
     go_ret;rw [HR2.out];exact ⟨rfl, W8.out⟩
    by_cases hst : yb.start < ya.stop
    ·
     have hge : ¬ M ≤ yb.start := by rw [← hM]; omega
     have HPV : Hid (vG s x = true) := hid (by
      rw [kV, ← HLS.out, HL2.out.1, HL2.out.2, ← HN.out];have := GG.out;exact ⟨this.1, this.2.1, this.2.2.1, HQB.out, this.2.2.2.1, this.2.2.2.2, hvv, hst⟩)
     clear hst f2;go_upto_region 11 with (fail)
     clear hge hvv hmx hM a0 a1 a2 b0 b1 b2;by_cases hj0 : j = 0
     ·
      refine yo ?_;refine zA (.int .i64 (j : Int)) ?_;refine zA (.bool false) ?_ (hC := fun _ _ => by simp [go_sem]; omega);refine zA (.bool false) ?_;iterate 34 with_reducible refine zAF ?_
      refine zA (.bool false) ?_;refine wpQuiet_nil ?_;intro w2 hb2
      have HT2 : Hid (∀ i, i < j + 1 → vG s (ps.getD i zt) = true ∧ (0 < i → zv (ps.getD (i - 1) zt) (ps.getD i zt) = true)) := hid fun i hi => by
       rcases Nat.lt_or_ge i j with h | h
       · exact HT.out i h
       obtain rfl : i = j := by omega
       rw [HX.out];refine ⟨HPV.out, ?_⟩;intro h0; omega
      exact zML
     obtain ⟨jp, hjp⟩ : ∃ jp, j = jp + 1 := ⟨j - 1, by omega⟩
     have jn : 0 < j := by omega
     have rp : IntKind.i64.wrap ((j : Int) - 1) = (jp : Int) := by rw [IntKind.wrap_i64]; omega
     obtain ⟨ap2, e2, hcy⟩ := zJ0 HP.out HBB.out W8.out (i := jp) (by rw [← HNP.out]; omega);injection e2 with e2;subst e2;obtain ⟨y, hy⟩ : ∃ y, ps.getD jp zt = y := ⟨_, rfl⟩
     rw [hy] at hcy;have HY : Hid (ps.getD (j - 1) zt = y) := hid (by rw [hjp, Nat.add_sub_cancel]; exact hy);have hjl : jp < np := by omega
     clear hy hjp hj0;by_cases t1 : x.a < y.a
     ·
      refine yo ?_;refine zA (.int .i64 (j : Int)) ?_;refine zA (.bool true) ?_ (hC := fun _ _ => by simp [go_sem, jn]);refine zA (.bool true) ?_;refine zA (.pointer (some ⟨gP, 0, none⟩)) ?_;refine zL 3 (⟨gP, 0, none⟩) (.int .i64 x.a) (fun w' hb => zC _ _ _ ((x8.out.below hb x8.out.lt).cell 0)) ?_;refine zA (.pointer (some ⟨w.heap.size, 2, none⟩)) ?_;refine zL 23 (⟨w.heap.size, 2, none⟩) (.slice (some ap) np cp) (fun w' hb => by have s1 := (S8.out.below hb S8.out.lt).cell 2; go_simp) ?_;refine zA (.int .i64 (j : Int)) ?_;refine zA (.int .i64 (jp : Int)) ?_ (hC := fun _ _ => by simp [go_sem, rp]);refine zA (.pointer (some (ap.add (jp * 9)))) ?_ (hC := fun _ _ => by simp [go_sem, hjl]);refine zA (.pointer (some (ap.add (jp * 9)))) ?_ (hC := fun _ _ => by simp [go_sem, Addr.add]);refine zL 3 (ap.add (jp * 9)) (.int .i64 y.a) (fun w' hb => zC _ _ _ (hcy _ hb 0 _ rfl)) ?_;refine zA (.bool true) ?_ (hC := fun _ _ => by simp [go_sem, t1]);refine zA (.bool true) ?_;iterate 22 with_reducible refine zAF ?_
      exact m87
     by_cases t2 : x.a = y.a
     ·
      by_cases t3 : x.b ≤ y.b
      ·
       refine yo ?_;refine zA (.int .i64 (j : Int)) ?_;refine zA (.bool true) ?_ (hC := fun _ _ => by simp [go_sem, jn]);refine zA (.bool true) ?_;refine zA (.pointer (some ⟨gP, 0, none⟩)) ?_;refine zL 3 (⟨gP, 0, none⟩) (.int .i64 x.a) (fun w' hb => zC _ _ _ ((x8.out.below hb x8.out.lt).cell 0)) ?_;refine zA (.pointer (some ⟨w.heap.size, 2, none⟩)) ?_;refine zL 23 (⟨w.heap.size, 2, none⟩) (.slice (some ap) np cp) (fun w' hb => by have s1 := (S8.out.below hb S8.out.lt).cell 2; go_simp) ?_;refine zA (.int .i64 (j : Int)) ?_;refine zA (.int .i64 (jp : Int)) ?_ (hC := fun _ _ => by simp [go_sem, rp]);refine zA (.pointer (some (ap.add (jp * 9)))) ?_ (hC := fun _ _ => by simp [go_sem, hjl]);refine zA (.pointer (some (ap.add (jp * 9)))) ?_ (hC := fun _ _ => by simp [go_sem, Addr.add]);refine zL 3 (ap.add (jp * 9)) (.int .i64 y.a) (fun w' hb => zC _ _ _ (hcy _ hb 0 _ rfl)) ?_;refine zA (.bool false) ?_ (hC := fun _ _ => by simp [go_sem, t1]);refine zA (.bool false) ?_;refine zA (.pointer (some ⟨gP, 0, none⟩)) ?_;refine zL 3 (⟨gP, 0, none⟩) (.int .i64 x.a) (fun w' hb => zC _ _ _ ((x8.out.below hb x8.out.lt).cell 0)) ?_
       refine zA (.pointer (some ⟨w.heap.size, 2, none⟩)) ?_;refine zL 23 (⟨w.heap.size, 2, none⟩) (.slice (some ap) np cp) (fun w' hb => by have s1 := (S8.out.below hb S8.out.lt).cell 2; go_simp) ?_;refine zA (.int .i64 (j : Int)) ?_;refine zA (.int .i64 (jp : Int)) ?_ (hC := fun _ _ => by simp [go_sem, rp]);refine zA (.pointer (some (ap.add (jp * 9)))) ?_ (hC := fun _ _ => by simp [go_sem, hjl]);refine zA (.pointer (some (ap.add (jp * 9)))) ?_ (hC := fun _ _ => by simp [go_sem, Addr.add]);refine zL 3 (ap.add (jp * 9)) (.int .i64 y.a) (fun w' hb => zC _ _ _ (hcy _ hb 0 _ rfl)) ?_;refine zA (.bool true) ?_ (hC := fun _ _ => by simp [go_sem, t2]);refine zA (.bool true) ?_;refine zA (.pointer (some ⟨gP, 1, none⟩)) ?_;refine zL 3 (⟨gP, 1, none⟩) (.int .i64 x.b) (fun w' hb => zC _ _ _ ((x8.out.below hb x8.out.lt).cell 1)) ?_;refine zA (.pointer (some ⟨w.heap.size, 2, none⟩)) ?_;refine zL 23 (⟨w.heap.size, 2, none⟩) (.slice (some ap) np cp) (fun w' hb => by have s1 := (S8.out.below hb S8.out.lt).cell 2; go_simp) ?_;refine zA (.int .i64 (j : Int)) ?_;refine zA (.int .i64 (jp : Int)) ?_ (hC := fun _ _ => by simp [go_sem, rp])
       refine zA (.pointer (some (ap.add (jp * 9)))) ?_ (hC := fun _ _ => by simp [go_sem, hjl]);refine zA (.pointer (some ({ block := (ap.add (jp * 9)).block, off := (ap.add (jp * 9)).off + 1 }))) ?_ (hC := fun _ _ => by simp [go_sem, Addr.add]);refine zL 3 ({ block := (ap.add (jp * 9)).block, off := (ap.add (jp * 9)).off + 1 }) (.int .i64 y.b) (fun w' hb => zC _ _ _ (hcy _ hb 1 _ rfl)) ?_;refine zA (.bool true) ?_ (hC := fun _ _ => by simp [go_sem, t3]);refine zA (.bool true) ?_;exact m87
      refine yo ?_;refine zA (.int .i64 (j : Int)) ?_;refine zA (.bool true) ?_ (hC := fun _ _ => by simp [go_sem, jn]);refine zA (.bool true) ?_;refine zA (.pointer (some ⟨gP, 0, none⟩)) ?_;refine zL 3 (⟨gP, 0, none⟩) (.int .i64 x.a) (fun w' hb => zC _ _ _ ((x8.out.below hb x8.out.lt).cell 0)) ?_;refine zA (.pointer (some ⟨w.heap.size, 2, none⟩)) ?_;refine zL 23 (⟨w.heap.size, 2, none⟩) (.slice (some ap) np cp) (fun w' hb => by have s1 := (S8.out.below hb S8.out.lt).cell 2; go_simp) ?_;refine zA (.int .i64 (j : Int)) ?_;refine zA (.int .i64 (jp : Int)) ?_ (hC := fun _ _ => by simp [go_sem, rp]);refine zA (.pointer (some (ap.add (jp * 9)))) ?_ (hC := fun _ _ => by simp [go_sem, hjl]);refine zA (.pointer (some (ap.add (jp * 9)))) ?_ (hC := fun _ _ => by simp [go_sem, Addr.add]);refine zL 3 (ap.add (jp * 9)) (.int .i64 y.a) (fun w' hb => zC _ _ _ (hcy _ hb 0 _ rfl)) ?_;refine zA (.bool false) ?_ (hC := fun _ _ => by simp [go_sem, t1]);refine zA (.bool false) ?_;refine zA (.pointer (some ⟨gP, 0, none⟩)) ?_;refine zL 3 (⟨gP, 0, none⟩) (.int .i64 x.a) (fun w' hb => zC _ _ _ ((x8.out.below hb x8.out.lt).cell 0)) ?_
      refine zA (.pointer (some ⟨w.heap.size, 2, none⟩)) ?_;refine zL 23 (⟨w.heap.size, 2, none⟩) (.slice (some ap) np cp) (fun w' hb => by have s1 := (S8.out.below hb S8.out.lt).cell 2; go_simp) ?_;refine zA (.int .i64 (j : Int)) ?_;refine zA (.int .i64 (jp : Int)) ?_ (hC := fun _ _ => by simp [go_sem, rp]);refine zA (.pointer (some (ap.add (jp * 9)))) ?_ (hC := fun _ _ => by simp [go_sem, hjl]);refine zA (.pointer (some (ap.add (jp * 9)))) ?_ (hC := fun _ _ => by simp [go_sem, Addr.add]);refine zL 3 (ap.add (jp * 9)) (.int .i64 y.a) (fun w' hb => zC _ _ _ (hcy _ hb 0 _ rfl)) ?_;refine zA (.bool true) ?_ (hC := fun _ _ => by simp [go_sem, t2]);refine zA (.bool true) ?_;refine zA (.pointer (some ⟨gP, 1, none⟩)) ?_;refine zL 3 (⟨gP, 1, none⟩) (.int .i64 x.b) (fun w' hb => zC _ _ _ ((x8.out.below hb x8.out.lt).cell 1)) ?_;refine zA (.pointer (some ⟨w.heap.size, 2, none⟩)) ?_;refine zL 23 (⟨w.heap.size, 2, none⟩) (.slice (some ap) np cp) (fun w' hb => by have s1 := (S8.out.below hb S8.out.lt).cell 2; go_simp) ?_;refine zA (.int .i64 (j : Int)) ?_;refine zA (.int .i64 (jp : Int)) ?_ (hC := fun _ _ => by simp [go_sem, rp])
      refine zA (.pointer (some (ap.add (jp * 9)))) ?_ (hC := fun _ _ => by simp [go_sem, hjl]);refine zA (.pointer (some ({ block := (ap.add (jp * 9)).block, off := (ap.add (jp * 9)).off + 1 }))) ?_ (hC := fun _ _ => by simp [go_sem, Addr.add]);refine zL 3 ({ block := (ap.add (jp * 9)).block, off := (ap.add (jp * 9)).off + 1 }) (.int .i64 y.b) (fun w' hb => zC _ _ _ (hcy _ hb 1 _ rfl)) ?_;refine zA (.bool false) ?_ (hC := fun _ _ => by simp [go_sem, t3]);exact m62
     refine yo ?_;refine zA (.int .i64 (j : Int)) ?_;refine zA (.bool true) ?_ (hC := fun _ _ => by simp [go_sem, jn]);refine zA (.bool true) ?_;refine zA (.pointer (some ⟨gP, 0, none⟩)) ?_;refine zL 3 (⟨gP, 0, none⟩) (.int .i64 x.a) (fun w' hb => zC _ _ _ ((x8.out.below hb x8.out.lt).cell 0)) ?_;refine zA (.pointer (some ⟨w.heap.size, 2, none⟩)) ?_;refine zL 23 (⟨w.heap.size, 2, none⟩) (.slice (some ap) np cp) (fun w' hb => by have s1 := (S8.out.below hb S8.out.lt).cell 2; go_simp) ?_;refine zA (.int .i64 (j : Int)) ?_;refine zA (.int .i64 (jp : Int)) ?_ (hC := fun _ _ => by simp [go_sem, rp]);refine zA (.pointer (some (ap.add (jp * 9)))) ?_ (hC := fun _ _ => by simp [go_sem, hjl]);refine zA (.pointer (some (ap.add (jp * 9)))) ?_ (hC := fun _ _ => by simp [go_sem, Addr.add]);refine zL 3 (ap.add (jp * 9)) (.int .i64 y.a) (fun w' hb => zC _ _ _ (hcy _ hb 0 _ rfl)) ?_;refine zA (.bool false) ?_ (hC := fun _ _ => by simp [go_sem, t1]);refine zA (.bool false) ?_;refine zA (.pointer (some ⟨gP, 0, none⟩)) ?_;refine zL 3 (⟨gP, 0, none⟩) (.int .i64 x.a) (fun w' hb => zC _ _ _ ((x8.out.below hb x8.out.lt).cell 0)) ?_
     refine zA (.pointer (some ⟨w.heap.size, 2, none⟩)) ?_;refine zL 23 (⟨w.heap.size, 2, none⟩) (.slice (some ap) np cp) (fun w' hb => by have s1 := (S8.out.below hb S8.out.lt).cell 2; go_simp) ?_;refine zA (.int .i64 (j : Int)) ?_;refine zA (.int .i64 (jp : Int)) ?_ (hC := fun _ _ => by simp [go_sem, rp]);refine zA (.pointer (some (ap.add (jp * 9)))) ?_ (hC := fun _ _ => by simp [go_sem, hjl]);refine zA (.pointer (some (ap.add (jp * 9)))) ?_ (hC := fun _ _ => by simp [go_sem, Addr.add]);refine zL 3 (ap.add (jp * 9)) (.int .i64 y.a) (fun w' hb => zC _ _ _ (hcy _ hb 0 _ rfl)) ?_;refine zA (.bool false) ?_ (hC := fun _ _ => by simp [go_sem, t2]);refine zA (.bool false) ?_;iterate 10 with_reducible refine zAF ?_
     exact m62
    have hge : M ≤ yb.start := by rw [← hM]; omega
    have HVV := hid hst;clear hst f2
    have HR2 : Hid (r = false) := hid (by
     rw [Bool.eq_false_iff];intro e;have h9 := (HR.out.1 e) j hlt;rw [HX.out] at h9;have h8 := kV.1 h9.1;rw [← HLS.out] at h8;rw [HL2.out.1, HL2.out.2] at h8;have := HVV.out;omega)
    go_wp2_with fail
    go_ret;rw [HR2.out];exact ⟨rfl, W8.out⟩
  have HR2 : Hid (r = true) := hid (HR.out.2 (by rw [show np = j by omega]; exact HT.out));(go_wp2_with fail);go_ret;rw [HR2.out];exact ⟨rfl, HB.out⟩
open Go.RowKit Go.Deep
theorem zMC (s : Scr) : zCD s = true ↔ ∀ i, i < s.cad.length → jd (s.cad.getD i 0) = true ∧ (0 < i → s.cad.getD (i - 1) 0 < s.cad.getD i 0) := by
 rw [zH2, Bool.and_eq_true, xN _ _ 0];constructor
 · rintro ⟨h1, h2⟩ i hi;refine ⟨h1 i hi, fun h0 => ?_⟩;have := List.pairwise_iff_getElem.1 (vO zB0 _ h2) (i - 1) i (by omega) hi (by omega);rw [zN hi, zN (show i - 1 < s.cad.length by omega)];exact of_decide_eq_true this
 intro h;refine ⟨fun i hi => (h i hi).1, kf ltI _ 0 fun t ht => ?_⟩;have := (h (t + 1) ht).2 (by omega);rw [Nat.add_sub_cancel] at this;exact decide_eq_true this
theorem zCu (s : Scr) : xd s = (jH s && (zCD s && ((vQ s && xz s) && vu s))) := by
 unfold xd;cases jH s <;> cases vQ s <;> cases xz s <;> cases vu s <;> cases zCD s <;> rfl
theorem zEF {s : Scr} : jH s = true ↔ 1 ≤ s.voices ∧ s.voices ≤ 8 ∧ s.notes.length ≤ 200 ∧ s.pairs.length ≤ 400 ∧ s.cad.length < 16 := by
 unfold jH;simp only [Bool.and_eq_true, decide_eq_true_eq, and_assoc]
theorem zDN (w : World) (B : Nat) (v : Value) (s : Scr) (h : kU w B v s) : Calls Tryz.prog 39 #[v] w fun e w' => e = .returned (.bool (xd s)) ∧ Below w.heap.size w w' := by
 have HCO := hid (zMC s);obtain ⟨r, hr⟩ : ∃ r, r = xd s := ⟨_, rfl⟩
 rw [← hr];obtain ⟨An, cn, Ap, cp, Aq, cq, rfl, -, -, h3⟩ := h.ex;have HC := hid h3;have HBB := hid h.le;have HSA := hid h;have hln := h.ln;have hlp := h.lp;have hlc := h.lc;obtain ⟨V, hV⟩ : ∃ V, V = s.voices := ⟨_, rfl⟩
 obtain ⟨n, hn⟩ : ∃ n, n = s.notes.length := ⟨_, rfl⟩
 obtain ⟨np, hnp⟩ : ∃ n, n = s.pairs.length := ⟨_, rfl⟩
 obtain ⟨nc, hnc⟩ : ∃ nc, nc = s.cad.length := ⟨_, rfl⟩
 obtain ⟨c, hc⟩ : ∃ l, l = s.cad := ⟨_, rfl⟩
 rw [← hV, ← hn, ← hnp, ← hnc] at HSA ⊢;rw [← hnc, ← hc] at HCO;rw [← hc] at HC;rw [← hn] at hln;rw [← hnp] at hlp;rw [← hnc] at hlc;have HNC : Hid (nc = c.length) := hid (by rw [hnc, hc]);have HV5 := hid (And.intro hV (And.intro hn (And.intro hnp hnc)));have HRR := hid hr;clear h3 hc h hV hn hnp hnc hr;have S0 := hid (Blk.new w 26 #[.int .i64 V, .slice An n cn, .slice Ap np cp, .slice Aq nc cq]);have B0 := hid ((Below.refl w.heap.size w).alloc (Nat.le_refl _) (.cells #[.int .i64 V, .slice An n cn, .slice Ap np cp, .slice Aq nc cq] 26));obtain ⟨w0, hw0⟩ : ∃ w0, w0 = w.alloc (.cells #[.int .i64 V, .slice An n cn, .slice Ap np cp, .slice Aq nc cq] 26) := ⟨_, rfl⟩
 rw [← hw0] at S0 B0;have s0 := S0.out.cell 0;have s1 := S0.out.cell 1;have s2 := S0.out.cell 2;have s3 := S0.out.cell 3;go_enter Tryz.func39, Tryz.ntmps39
 go_upto_region 1 with (fail)
 rw [← hw0];clear hw0;by_cases h0 : V < 1
 · exact m39
 skip
 by_cases h1 : (8 : Int) < V
 · exact m39
 skip
 by_cases h2 : 200 < n
 · exact m39
 skip
 by_cases h3 : 400 < np
 · exact m39
 skip
 by_cases h4 : 15 < nc
 · exact m39
 skip
 have HR : Hid (r = (zCD s && ((vQ s && xz s) && vu s))) := hid (by
  rw [HRR.out, zCu];have : jH s = true := zEF.2 (by rw [← HV5.out.1, ← HV5.out.2.1, ← HV5.out.2.2.1, ← HV5.out.2.2.2]; omega);rw [this, Bool.true_and])
 go_upto_region 3 with (fail)
 clear h0 h1 h2 h3 h4 s0 s1 s2 s3;go_wp2_with fail
 go_loopw [3] (fun i wx => ∃ j : Nat, j ≤ nc ∧ i = .int .i64 j ∧ Hid (Below w.heap.size w wx) ∧ Hid (Blk wx w.heap.size 26 #[.int .i64 V, .slice An n cn, .slice Ap np cp, .slice Aq nc cq]) ∧ Hid (∀ i, i < j → jd (c.getD i 0) = true ∧ (0 < i → c.getD (i - 1) 0 < c.getD i 0))) (fun i _ => nc - (zD i).toNat)
 case atStart => exact ⟨0, Nat.zero_le _, rfl, B0, S0, hid fun t ht => by omega⟩
 case round =>
  clear B0 S0;obtain ⟨j, hj, rfl, HB, HS, HT⟩ := hrel;have s3 := HS.out.cell 3;by_cases hjn : j < nc
  ·
   obtain ⟨ad, rfl, hcx⟩ := ji HC.out HBB.out HB.out (i := j) (by rw [← HNC.out]; exact hjn);obtain ⟨x, hx⟩ : ∃ x, c.getD j 0 = x := ⟨_, rfl⟩
   rw [hx] at hcx;have HX := hid hx;have r1 : IntKind.i64.wrap ((j : Int) + 1) = ((j + 1 : Nat) : Int) := by rw [IntKind.wrap_i64]; omega
   clear hx;go_upto_region 6 with (fail)
   clear s3;by_cases t1 : x < 1
   ·
    refine yo ?_;refine zA (.pointer (some ⟨w.heap.size, 3, none⟩)) ?_;refine zL 24 (⟨w.heap.size, 3, none⟩) (.slice (some ad) nc cq) (fun w' hb => by have s1 := (HS.out.below hb HS.out.lt).cell 3; go_simp) ?_;refine zA (.int .i64 (j : Int)) ?_;refine zA (.pointer (some (ad.add j))) ?_ (hC := fun _ _ => by simp [go_sem, hjn]);refine zL 3 (ad.add j) (.int .i64 x) (fun w' hb => zC _ _ _ (hcx _ hb)) ?_;refine zA (.bool true) ?_ (hC := fun _ _ => by simp [go_sem, t1]);refine zA (.bool true) ?_;iterate 6 with_reducible refine zAF ?_
    exact m78
   by_cases t2 : 99999 < x
   · refine yo ?_;refine zA (.pointer (some ⟨w.heap.size, 3, none⟩)) ?_;refine zL 24 (⟨w.heap.size, 3, none⟩) (.slice (some ad) nc cq) (fun w' hb => by have s1 := (HS.out.below hb HS.out.lt).cell 3; go_simp) ?_;refine zA (.int .i64 (j : Int)) ?_;refine zA (.pointer (some (ad.add j))) ?_ (hC := fun _ _ => by simp [go_sem, hjn]);refine zL 3 (ad.add j) (.int .i64 x) (fun w' hb => zC _ _ _ (hcx _ hb)) ?_;refine zA (.bool false) ?_ (hC := fun _ _ => by simp [go_sem, t1]);refine zA (.bool false) ?_;refine zA (.pointer (some ⟨w.heap.size, 3, none⟩)) ?_;refine zL 24 (⟨w.heap.size, 3, none⟩) (.slice (some ad) nc cq) (fun w' hb => by have s1 := (HS.out.below hb HS.out.lt).cell 3; go_simp) ?_;refine zA (.int .i64 (j : Int)) ?_;refine zA (.pointer (some (ad.add j))) ?_ (hC := fun _ _ => by simp [go_sem, hjn]);refine zL 3 (ad.add j) (.int .i64 x) (fun w' hb => zC _ _ _ (hcx _ hb)) ?_;refine zA (.bool true) ?_ (hC := fun _ _ => by simp [go_sem, t2]);exact m78
   by_cases hj0 : j = 0
   ·
    refine yo ?_;refine zA (.pointer (some ⟨w.heap.size, 3, none⟩)) ?_;refine zL 24 (⟨w.heap.size, 3, none⟩) (.slice (some ad) nc cq) (fun w' hb => by have s1 := (HS.out.below hb HS.out.lt).cell 3; go_simp) ?_;refine zA (.int .i64 (j : Int)) ?_;refine zA (.pointer (some (ad.add j))) ?_ (hC := fun _ _ => by simp [go_sem, hjn]);refine zL 3 (ad.add j) (.int .i64 x) (fun w' hb => zC _ _ _ (hcx _ hb)) ?_;refine zA (.bool false) ?_ (hC := fun _ _ => by simp [go_sem, t1]);refine zA (.bool false) ?_;refine zA (.pointer (some ⟨w.heap.size, 3, none⟩)) ?_;refine zL 24 (⟨w.heap.size, 3, none⟩) (.slice (some ad) nc cq) (fun w' hb => by have s1 := (HS.out.below hb HS.out.lt).cell 3; go_simp) ?_;refine zA (.int .i64 (j : Int)) ?_;refine zA (.pointer (some (ad.add j))) ?_ (hC := fun _ _ => by simp [go_sem, hjn]);refine zL 3 (ad.add j) (.int .i64 x) (fun w' hb => zC _ _ _ (hcx _ hb)) ?_;refine zA (.bool false) ?_ (hC := fun _ _ => by simp [go_sem, t2]);refine zA (.bool false) ?_;refine zA (.bool false) ?_;refine zA (.int .i64 (j : Int)) ?_;refine zA (.bool false) ?_ (hC := fun _ _ => by simp [go_sem]; omega);refine zA (.bool false) ?_
    iterate 12 with_reducible refine zAF ?_
    refine zA (.bool false) ?_;refine zA (.bool false) ?_;refine wpQuiet_nil ?_;intro w2 hb2
    have HT2 : Hid (∀ i, i < j + 1 → jd (c.getD i 0) = true ∧ (0 < i → c.getD (i - 1) 0 < c.getD i 0)) := hid fun i hi => by
     rcases Nat.lt_or_ge i j with h | h
     · exact HT.out i h
     obtain rfl : i = j := by omega
     rw [HX.out];refine ⟨by unfold jd; simp only [Bool.and_eq_true, decide_eq_true_eq]; omega, ?_⟩;intro h0; omega
    exact zNL
   obtain ⟨jp, hjp⟩ : ∃ jp, j = jp + 1 := ⟨j - 1, by omega⟩
   have jn : 0 < j := by omega
   have rp : IntKind.i64.wrap ((j : Int) - 1) = (jp : Int) := by rw [IntKind.wrap_i64]; omega
   obtain ⟨ad2, e2, hcy⟩ := ji HC.out HBB.out HB.out (i := jp) (by rw [← HNC.out]; omega);injection e2 with e2;subst e2;obtain ⟨y, hy⟩ : ∃ y, c.getD jp 0 = y := ⟨_, rfl⟩
   rw [hy] at hcy;have HY : Hid (c.getD (j - 1) 0 = y) := hid (by rw [hjp, Nat.add_sub_cancel]; exact hy);have hjl : jp < nc := by omega
   clear hy hjp hj0;by_cases t3 : x ≤ y
   ·
    refine yo ?_;refine zA (.pointer (some ⟨w.heap.size, 3, none⟩)) ?_;refine zL 24 (⟨w.heap.size, 3, none⟩) (.slice (some ad) nc cq) (fun w' hb => by have s1 := (HS.out.below hb HS.out.lt).cell 3; go_simp) ?_;refine zA (.int .i64 (j : Int)) ?_;refine zA (.pointer (some (ad.add j))) ?_ (hC := fun _ _ => by simp [go_sem, hjn]);refine zL 3 (ad.add j) (.int .i64 x) (fun w' hb => zC _ _ _ (hcx _ hb)) ?_;refine zA (.bool false) ?_ (hC := fun _ _ => by simp [go_sem, t1]);refine zA (.bool false) ?_;refine zA (.pointer (some ⟨w.heap.size, 3, none⟩)) ?_;refine zL 24 (⟨w.heap.size, 3, none⟩) (.slice (some ad) nc cq) (fun w' hb => by have s1 := (HS.out.below hb HS.out.lt).cell 3; go_simp) ?_;refine zA (.int .i64 (j : Int)) ?_;refine zA (.pointer (some (ad.add j))) ?_ (hC := fun _ _ => by simp [go_sem, hjn]);refine zL 3 (ad.add j) (.int .i64 x) (fun w' hb => zC _ _ _ (hcx _ hb)) ?_;refine zA (.bool false) ?_ (hC := fun _ _ => by simp [go_sem, t2]);refine zA (.bool false) ?_;refine zA (.bool false) ?_;refine zA (.int .i64 (j : Int)) ?_;refine zA (.bool true) ?_ (hC := fun _ _ => by simp [go_sem, jn]);refine zA (.bool true) ?_
    refine zA (.pointer (some ⟨w.heap.size, 3, none⟩)) ?_;refine zL 24 (⟨w.heap.size, 3, none⟩) (.slice (some ad) nc cq) (fun w' hb => by have s1 := (HS.out.below hb HS.out.lt).cell 3; go_simp) ?_;refine zA (.int .i64 (j : Int)) ?_;refine zA (.pointer (some (ad.add j))) ?_ (hC := fun _ _ => by simp [go_sem, hjn]);refine zL 3 (ad.add j) (.int .i64 x) (fun w' hb => zC _ _ _ (hcx _ hb)) ?_;refine zA (.pointer (some ⟨w.heap.size, 3, none⟩)) ?_;refine zL 24 (⟨w.heap.size, 3, none⟩) (.slice (some ad) nc cq) (fun w' hb => by have s1 := (HS.out.below hb HS.out.lt).cell 3; go_simp) ?_;refine zA (.int .i64 (j : Int)) ?_;refine zA (.int .i64 (jp : Int)) ?_ (hC := fun _ _ => by simp [go_sem, rp]);refine zA (.pointer (some (ad.add jp))) ?_ (hC := fun _ _ => by simp [go_sem, hjl]);refine zL 3 (ad.add jp) (.int .i64 y) (fun w' hb => zC _ _ _ (hcy _ hb)) ?_;refine zA (.bool true) ?_ (hC := fun _ _ => by simp [go_sem, t3]);refine zA (.bool true) ?_;refine zA (.bool true) ?_;refine wpQuiet_nil ?_;intro w2 hb2
    have HR2 : Hid (r = false) := hid (by
     rw [HR.out, Bool.and_eq_false_iff]
     left
     rw [Bool.eq_false_iff];intro e;have h9 := (HCO.out.1 e) j hjn;rw [HX.out] at h9;have := h9.2 jn;rw [HY.out] at this;omega)
    go_wp2_with fail
    go_ret;rw [HR2.out];exact ⟨rfl, zB HB.out hb2⟩
   refine yo ?_;refine zA (.pointer (some ⟨w.heap.size, 3, none⟩)) ?_;refine zL 24 (⟨w.heap.size, 3, none⟩) (.slice (some ad) nc cq) (fun w' hb => by have s1 := (HS.out.below hb HS.out.lt).cell 3; go_simp) ?_;refine zA (.int .i64 (j : Int)) ?_;refine zA (.pointer (some (ad.add j))) ?_ (hC := fun _ _ => by simp [go_sem, hjn]);refine zL 3 (ad.add j) (.int .i64 x) (fun w' hb => zC _ _ _ (hcx _ hb)) ?_;refine zA (.bool false) ?_ (hC := fun _ _ => by simp [go_sem, t1]);refine zA (.bool false) ?_;refine zA (.pointer (some ⟨w.heap.size, 3, none⟩)) ?_;refine zL 24 (⟨w.heap.size, 3, none⟩) (.slice (some ad) nc cq) (fun w' hb => by have s1 := (HS.out.below hb HS.out.lt).cell 3; go_simp) ?_;refine zA (.int .i64 (j : Int)) ?_;refine zA (.pointer (some (ad.add j))) ?_ (hC := fun _ _ => by simp [go_sem, hjn]);refine zL 3 (ad.add j) (.int .i64 x) (fun w' hb => zC _ _ _ (hcx _ hb)) ?_;refine zA (.bool false) ?_ (hC := fun _ _ => by simp [go_sem, t2]);refine zA (.bool false) ?_;refine zA (.bool false) ?_;refine zA (.int .i64 (j : Int)) ?_;refine zA (.bool true) ?_ (hC := fun _ _ => by simp [go_sem, jn]);refine zA (.bool true) ?_
   refine zA (.pointer (some ⟨w.heap.size, 3, none⟩)) ?_;refine zL 24 (⟨w.heap.size, 3, none⟩) (.slice (some ad) nc cq) (fun w' hb => by have s1 := (HS.out.below hb HS.out.lt).cell 3; go_simp) ?_;refine zA (.int .i64 (j : Int)) ?_;refine zA (.pointer (some (ad.add j))) ?_ (hC := fun _ _ => by simp [go_sem, hjn]);refine zL 3 (ad.add j) (.int .i64 x) (fun w' hb => zC _ _ _ (hcx _ hb)) ?_;refine zA (.pointer (some ⟨w.heap.size, 3, none⟩)) ?_;refine zL 24 (⟨w.heap.size, 3, none⟩) (.slice (some ad) nc cq) (fun w' hb => by have s1 := (HS.out.below hb HS.out.lt).cell 3; go_simp) ?_;refine zA (.int .i64 (j : Int)) ?_;refine zA (.int .i64 (jp : Int)) ?_ (hC := fun _ _ => by simp [go_sem, rp]);refine zA (.pointer (some (ad.add jp))) ?_ (hC := fun _ _ => by simp [go_sem, hjl]);refine zL 3 (ad.add jp) (.int .i64 y) (fun w' hb => zC _ _ _ (hcy _ hb)) ?_;refine zA (.bool false) ?_ (hC := fun _ _ => by simp [go_sem, t3]);refine zA (.bool false) ?_;refine zA (.bool false) ?_;refine wpQuiet_nil ?_;intro w2 hb2
   have HT2 : Hid (∀ i, i < j + 1 → jd (c.getD i 0) = true ∧ (0 < i → c.getD (i - 1) 0 < c.getD i 0)) := hid fun i hi => by
    rcases Nat.lt_or_ge i j with h | h
    · exact HT.out i h
    obtain rfl : i = j := by omega
    rw [HX.out];refine ⟨by unfold jd; simp only [Bool.and_eq_true, decide_eq_true_eq]; omega, ?_⟩;intro _; rw [HY.out]; omega
   exact zNL
  have HCV : Hid (zCD s = true) := hid (HCO.out.2 (by rw [show nc = j by omega]; exact HT.out));obtain ⟨a, ha⟩ : ∃ a, (vQ s && xz s) = a := ⟨_, rfl⟩
  have HNO : Hid (∀ W, Below w.heap.size w W → Calls Tryz.prog 86 #[.agg #[.int .i64 V, .slice An n cn, .slice Ap np cp, .slice Aq nc cq]] W fun e w' => e = .returned (.bool a) ∧ Below W.heap.size W w') := hid fun W hb => by
   have := zHy W B _ s (HSA.out.up hb);rw [ha] at this;exact this
  cases a with
  | false =>
   have HR2 : Hid (r = false) := hid (by rw [HR.out, ha]; simp);clear ha;(go_wp2_with (first | ((with_reducible show wpList _ _ _ (Oper.mk _ (Op.load _ _) _ _ _ _ :: _) _ _); refine zp 26 HS.out Tryz.underlying26 (by kernel_rfl) ?_ (cs := #[.int .i64 V, .slice An n cn, .slice Ap np cp, .slice Aq nc cq])) | (go_at_call 86; with_reducible refine (HNO.out _ HB.out).mono ?_; rintro e w6 ⟨rfl, b6⟩; replace b6 := hid b6)));go_ret;rw [HR2.out];exact ⟨rfl, zB HB.out b6.out⟩
  | true =>
   have HPA : Hid (∀ W, Below w.heap.size w W → Calls Tryz.prog 87 #[.agg #[.int .i64 V, .slice An n cn, .slice Ap np cp, .slice Aq nc cq]] W fun e w' => e = .returned (.bool r) ∧ Below W.heap.size W w') := hid fun W hb => by
    have := zGQ W B _ s (HSA.out.up hb) (by rw [Bool.and_eq_true] at ha; exact ha.1);rw [show r = vu s by rw [HR.out, HCV.out, ha]; simp];exact this
   clear ha;(go_wp2_with (first | ((with_reducible show wpList _ _ _ (Oper.mk _ (Op.load _ _) _ _ _ _ :: _) _ _); refine zp 26 HS.out Tryz.underlying26 (by kernel_rfl) ?_ (cs := #[.int .i64 V, .slice An n cn, .slice Ap np cp, .slice Aq nc cq])) | (go_at_call 86; with_reducible refine (HNO.out _ HB.out).mono ?_; rintro e w6 ⟨rfl, b6⟩; have k6 := HS.out.below b6 HS.out.lt; have e0 := k6.cell 0; have e1 := k6.cell 1; have e2 := k6.cell 2; have e3 := k6.cell 3; clear k6; replace b6 := hid b6) | (go_at_call 87; with_reducible refine (HPA.out _ (zB HB.out b6.out)).mono ?_; rintro e w7 ⟨rfl, b7⟩; replace b7 := hid b7)));go_ret;exact ⟨rfl, zB (zB HB.out b6.out) b7.out⟩
end Go.Proofs.YtcjhihmaegagdaaGreatDoor
