/- Texts of the Notation chapter, together: Ea, Eb, Ec. -/
import Derived.Test.YtcjhihmaegagdaaGreatDoorH6
import Derived.BigQuiet
import Derived.Deep.QuietTactic
set_option maxRecDepth 100000
set_option maxHeartbeats 8000000
set_option linter.unusedSimpArgs false
set_option linter.unusedVariables false
set_option linter.unusedSectionVars false
set_option linter.unnecessarySimpa false
namespace Go.Proofs.YtcjhihmaegagdaaGreatDoor
open Go.RowKit Go.Deep
theorem neq_note (x y : Nte) (w : World) : (binOp .neq 55 (.agg x.cells) (.agg y.cells)).run Tryz.prog w = .ok (.bool (!decide (x = y))) w := by
 have hv := fun w => eq_vec 9997 x.place y.place w
 have hl : (x = y) ↔ (x.voice = y.voice ∧ x.start = y.start ∧ x.stop = y.stop ∧ x.place = y.place ∧ x.tied = y.tied) := by
  cases x; cases y; simp
 simp only [decide_eq_decide.2 hl]
 clear hl
 by_cases h0 : (x.voice == y.voice) = true
 case neg =>
  have h0' : ¬ x.voice = y.voice := by simpa using h0
  have h0 : (x.voice == y.voice) = false := by simpa using h0
  simp only [h0', false_and, decide_false, Bool.not_false]
  dsimp only [Nte.cells]
  go_simp
 have h0' : x.voice = y.voice := by simpa using h0
 by_cases h1 : (x.start == y.start) = true
 case neg =>
  have h1' : ¬ x.start = y.start := by simpa using h1
  have h1 : (x.start == y.start) = false := by simpa using h1
  simp only [h1', false_and, and_false, decide_false, Bool.not_false]
  dsimp only [Nte.cells]
  go_simp
 have h1' : x.start = y.start := by simpa using h1
 by_cases h2 : (x.stop == y.stop) = true
 case neg =>
  have h2' : ¬ x.stop = y.stop := by simpa using h2
  have h2 : (x.stop == y.stop) = false := by simpa using h2
  simp only [h2', false_and, and_false, decide_false, Bool.not_false]
  dsimp only [Nte.cells]
  go_simp
 have h2' : x.stop = y.stop := by simpa using h2
 simp only [h0', h1', h2', true_and]
 have h0 : (y.voice == y.voice) = true := by simp
 dsimp only [Nte.cells]
 by_cases h3 : x.place = y.place
 case neg =>
  simp only [h3, decide_false, false_and, Bool.not_false] at hv ⊢
  go_simp
 simp only [h3, decide_true, true_and] at hv ⊢
 by_cases h4 : (x.tied == y.tied) = true
 case neg =>
  have h4' : ¬ x.tied = y.tied := by simpa using h4
  have h4 : (x.tied == y.tied) = false := by simpa using h4
  simp only [h4', decide_false, Bool.not_false]
  go_simp
 have h4' : x.tied = y.tied := by simpa using h4
 simp only [h4', decide_true, Bool.not_true]
 go_simp
theorem neq_pair (x y : Par) (w : World) : (binOp .neq 57 (.agg x.cells) (.agg y.cells)).run Tryz.prog w = .ok (.bool (!decide (x = y))) w := by
 have hv := fun w => eq_vec 9997 x.wish y.wish w
 have hl : (x = y) ↔ (x.a = y.a ∧ x.b = y.b ∧ x.wish = y.wish ∧ x.bound = y.bound) := by
  cases x; cases y; simp
 simp only [decide_eq_decide.2 hl]
 clear hl
 by_cases h0 : (x.a == y.a) = true
 case neg =>
  have h0' : ¬ x.a = y.a := by simpa using h0
  have h0 : (x.a == y.a) = false := by simpa using h0
  simp only [h0', false_and, decide_false, Bool.not_false]
  dsimp only [Par.cells]
  go_simp
 have h0' : x.a = y.a := by simpa using h0
 by_cases h1 : (x.b == y.b) = true
 case neg =>
  have h1' : ¬ x.b = y.b := by simpa using h1
  have h1 : (x.b == y.b) = false := by simpa using h1
  simp only [h1', false_and, and_false, decide_false, Bool.not_false]
  dsimp only [Par.cells]
  go_simp
 have h1' : x.b = y.b := by simpa using h1
 simp only [h0', h1', true_and]
 have h0 : (y.a == y.a) = true := by simp
 dsimp only [Par.cells]
 by_cases h3 : x.wish = y.wish
 case neg =>
  simp only [h3, decide_false, false_and, Bool.not_false] at hv ⊢
  go_simp
 simp only [h3, decide_true, true_and] at hv ⊢
 by_cases h4 : (x.bound == y.bound) = true
 case neg =>
  have h4' : ¬ x.bound = y.bound := by simpa using h4
  have h4 : (x.bound == y.bound) = false := by simpa using h4
  simp only [h4', decide_false, Bool.not_false]
  go_simp
 have h4' : x.bound = y.bound := by simpa using h4
 simp only [h4', decide_true, Bool.not_true]
 go_simp
end Go.Proofs.YtcjhihmaegagdaaGreatDoor
namespace Go.Proofs.YtcjhihmaegagdaaGreatDoor
open Go.RowKit Go.Deep
theorem get_ext {α : Type} (d : α) {l m : List α} (h : l.length = m.length) (hk : ∀ k, k < l.length → l.getD k d = m.getD k d) : l = m := by
 refine List.ext_getElem h fun k h1 h2 => ?_
 have := hk k h1
 simpa [List.getD_eq_getElem?_getD, h1, h2] using this
theorem same_ints (w : World) (B C : Nat) (A D : Option Addr) (c d : Nat) (l m : List Int) (hl : RdC w B A (itg l)) (hB : B ≤ w.heap.size) (hm : RdC w C D (itg m)) (hC : C ≤ w.heap.size) (hn1 : l.length ≤ 4611686018427387904) (hn2 : m.length ≤ 4611686018427387904) :
  Calls Tryz.prog 40 #[.slice A l.length c, .slice D m.length d] w fun e w' => e = .returned (.bool (decide (l = m))) ∧ Below w.heap.size w w' := by
 have HL := hid hl
 have HM := hid hm
 have HBB := hid hB
 have HCC := hid hC
 obtain ⟨r, hr⟩ : ∃ r, r = decide (l = m) := ⟨_, rfl⟩
 rw [← hr]
 have HR := hid hr
 clear hl hm hB hC hr
 by_cases hlen : l.length = m.length
 ·
  rw [← hlen]
  obtain ⟨n, hn⟩ : ∃ n, n = l.length := ⟨_, rfl⟩
  rw [← hn] at hn1 ⊢
  have HN := hid hn
  have HLEN := hid hlen
  clear hlen hn hn2
  go_enter Tryz.func40, Tryz.ntmps40
  go_wp2
  go_loopw [5] (fun i wx => ∃ j : Nat, j ≤ n ∧ i = .int .i64 j ∧ Hid (Below w.heap.size w wx) ∧ Hid (∀ t, t < j → l.getD t 0 = m.getD t 0)) (fun i _ => n - (intOf i).toNat)
  case atStart => exact ⟨0, Nat.zero_le _, rfl, hid (Below.refl _ _), hid fun t ht => by omega⟩
  case round =>
   obtain ⟨j, hj, rfl, HW, HT⟩ := hrel
   by_cases hlt : j < n
   ·
    obtain ⟨ad, rfl, lx⟩ := rdc_load HL.out HBB.out HW.out (i := j) (by rw [← HN.out]; exact hlt)
    obtain ⟨ae, rfl, ly⟩ := rdc_load HM.out HCC.out HW.out (i := j) (by rw [← HLEN.out, ← HN.out]; exact hlt)
    obtain ⟨x, hx⟩ : ∃ x, x = l.getD j 0 := ⟨_, rfl⟩
    obtain ⟨y, hy⟩ : ∃ y, y = m.getD j 0 := ⟨_, rfl⟩
    rw [← hx] at lx
    rw [← hy] at ly
    have HXY := hid (And.intro hx hy)
    have b1 : j < n := hlt
    have r1 : IntKind.i64.wrap ((j : Int) + 1) = ((j + 1 : Nat) : Int) := by rw [IntKind.wrap_i64]; omega
    clear hx hy
    go_wp2_with fail
    refine wp_region_quiet (C := fun w' => Below wr.heap.size wr w') (by kernel_rfl) (by kernel_rfl) (Below.refl _ wr).drew ?_
    refine quiet_val (by kernel_rfl) (.slice (some ad) n c) (fun _ _ => by rfl) ?_
    simp only [Act.put, sS]
    refine quiet_val (by kernel_rfl) (.int .i64 (j : Int)) (fun _ _ => by rfl) ?_
    simp only [Act.put, sS]
    refine quiet_val (by kernel_rfl) (.pointer (some (ad.add j))) (fun _ _ => by simp [go_sem, b1]) ?_
    simp only [Act.put, sS]
    refine quiet_ld (by kernel_rfl) 3 (.tmp 19) rfl (ad.add j) (.int .i64 x) rfl (fun w' hb => lx _ hb) ?_
    simp only [Act.put, sS]
    refine quiet_val (by kernel_rfl) (.slice (some ae) n d) (fun _ _ => by rfl) ?_
    simp only [Act.put, sS]
    refine quiet_val (by kernel_rfl) (.int .i64 (j : Int)) (fun _ _ => by rfl) ?_
    simp only [Act.put, sS]
    refine quiet_val (by kernel_rfl) (.pointer (some (ae.add j))) (fun _ _ => by simp [go_sem, b1]) ?_
    simp only [Act.put, sS]
    refine quiet_ld (by kernel_rfl) 3 (.tmp 23) rfl (ae.add j) (.int .i64 y) rfl (fun w' hb => ly _ hb) ?_
    simp only [Act.put, sS]
    refine quiet_val (by kernel_rfl) (.bool (x != y)) (fun _ _ => by simp [go_sem]) ?_
    simp only [Act.put, sS]
    refine wpQuiet_nil ?_
    intro w2 hb2
    have W2 := hid (below_on HW.out hb2)
    by_cases hxy : x = y
    ·
     have HT' : Hid (∀ t, t < j + 1 → l.getD t 0 = m.getD t 0) := hid fun t ht => by
      rcases Nat.lt_or_ge t j with h' | h'
      ·
       exact HT.out t h'
      obtain rfl : t = j := by omega
      rw [← HXY.out.1, ← HXY.out.2, hxy]
     have h1 : (x != y) = false := by rw [bne_eq_false_iff_eq]; exact hxy
     clear hxy
     go_wp2
     go_roundw
     case rel => exact ⟨j + 1, by omega, by go_num, W2, HT'⟩
     case measure => simp [intOf]; omega
    have HF : Hid (r = false) := hid (by
     rw [HR.out, decide_eq_false_iff_not]
     intro e
     rw [HXY.out.1, HXY.out.2, e] at hxy
     exact hxy rfl)
    have h1 : (x != y) = true := by rw [bne_iff_ne]; exact hxy
    clear hxy
    go_wp2
    go_ret
    exact ⟨by rw [HF.out]; rfl, W2.out⟩
   obtain rfl : j = n := by omega
   have HF : Hid (r = true) := hid (by
    rw [HR.out, decide_eq_true_eq]
    exact get_ext 0 HLEN.out fun t ht => HT.out t (by rw [HN.out]; exact ht))
   go_wp2
   go_ret
   exact ⟨by rw [HF.out]; rfl, HW.out⟩
 have HF : Hid (r = false) := hid (by rw [HR.out, decide_eq_false_iff_not]; intro e; exact hlen (by rw [e]))
 have hq : ((l.length : Int) != (m.length : Int)) = true := by rw [bne_iff_ne]; omega
 clear hlen
 go_enter Tryz.func40, Tryz.ntmps40
 go_wp2
 go_ret
 exact ⟨by rw [HF.out]; rfl, Below.refl _ _⟩
end Go.Proofs.YtcjhihmaegagdaaGreatDoor
namespace Go.Proofs.YtcjhihmaegagdaaGreatDoor
open Go.RowKit Go.Deep
theorem equal_any (w : World) (B C : Nat) (v u : Value) (a b : Scr) (ha : ScrAt w B v a) (hb : ScrAt w C u b) :
  Calls Tryz.prog 17 #[v, u] w fun e w' => e = .returned (.bool (decide (a = b))) ∧ Below w.heap.size w w' := by
 obtain ⟨An, cn, Ap, cp, Aq, cq, rfl, hn1, hp1, hq1⟩ := ha.ex
 obtain ⟨Dn, dn, Dp, dp, Dq, dq, rfl, hn2, hp2, hq2⟩ := hb.ex
 have HB1 := hid ha.le
 have HB2 := hid hb.le
 have HN1 := hid hn1
 have HN2 := hid hn2
 have HP1 := hid hp1
 have HP2 := hid hp2
 have l1 := ha.ln
 have l2 := ha.lp
 have l3 := ha.lc
 have k1 := hb.ln
 have k2 := hb.lp
 have k3 := hb.lc
 obtain ⟨q, hq⟩ : ∃ q, q = decide (a.cad = b.cad) := ⟨_, rfl⟩
 have HSM : Hid (∀ W, Below w.heap.size w W → Calls Tryz.prog 40 #[.slice Aq a.cad.length cq, .slice Dq b.cad.length dq] W fun e w' => e = .returned (.bool q) ∧ Below W.heap.size W w') := hid fun W hw => by
  rw [hq]
  exact same_ints W B C Aq Dq cq dq a.cad b.cad (hq1.below (hw.mono HB1.out)) (Nat.le_trans HB1.out hw.size) (hq2.below (hw.mono HB2.out)) (Nat.le_trans HB2.out hw.size) l3 k3
 have HQ := hid hq
 have HAB : Hid (a = b ↔ (a.voices = b.voices ∧ a.notes = b.notes ∧ a.pairs = b.pairs ∧ a.cad = b.cad)) := hid (by cases a; cases b; simp)
 clear hq hn1 hn2 hp1 hp2 hq1 hq2 ha hb
 obtain ⟨r, hr⟩ : ∃ r, r = decide (a = b) := ⟨_, rfl⟩
 rw [← hr]
 have HR := hid hr
 clear hr
 obtain ⟨V, hV⟩ : ∃ V, V = a.voices := ⟨_, rfl⟩
 obtain ⟨U, hU⟩ : ∃ U, U = b.voices := ⟨_, rfl⟩
 obtain ⟨ln, hln⟩ : ∃ ln, ln = a.notes := ⟨_, rfl⟩
 obtain ⟨lm, hlm⟩ : ∃ lm, lm = b.notes := ⟨_, rfl⟩
 obtain ⟨lp, hlp⟩ : ∃ lp, lp = a.pairs := ⟨_, rfl⟩
 obtain ⟨lq, hlq⟩ : ∃ lq, lq = b.pairs := ⟨_, rfl⟩
 rw [← hV, ← hU, ← hln, ← hlm, ← hlp, ← hlq]
 rw [← hV, ← hU, ← hln, ← hlm, ← hlp, ← hlq] at HAB
 rw [← hln] at HN1 l1
 rw [← hlm] at HN2 k1
 rw [← hlp] at HP1 l2
 rw [← hlq] at HP2 k2
 have HFALSE : Hid (a ≠ b → r = false) := hid fun h => by rw [HR.out, decide_eq_false_iff_not]; exact h
 clear hV hU hln hlm hlp hlq
 obtain ⟨qa, hqa⟩ : ∃ x, x = a.cad.length := ⟨_, rfl⟩
 obtain ⟨qb, hqb⟩ : ∃ x, x = b.cad.length := ⟨_, rfl⟩
 rw [← hqa, ← hqb] at HSM ⊢
 clear hqa hqb l3 k3
 obtain ⟨n, hn⟩ : ∃ x, x = ln.length := ⟨_, rfl⟩
 obtain ⟨m, hm⟩ : ∃ x, x = lm.length := ⟨_, rfl⟩
 obtain ⟨p, hp⟩ : ∃ x, x = lp.length := ⟨_, rfl⟩
 obtain ⟨o, ho⟩ : ∃ x, x = lq.length := ⟨_, rfl⟩
 rw [← hn, ← hm, ← hp, ← ho]
 rw [← hn] at l1
 rw [← hm] at k1
 rw [← hp] at l2
 rw [← ho] at k2
 have LEN := hid (And.intro hn (And.intro hm (And.intro hp ho)))
 clear hn hm hp ho
 have X1 := (Blk.new w 26 #[.int .i64 V, .slice An n cn, .slice Ap p cp, .slice Aq qa cq]).alloc (.cells #[.int .i64 U, .slice Dn m dn, .slice Dp o dp, .slice Dq qb dq] 26)
 have X2 : Blk ((w.alloc (.cells #[.int .i64 V, .slice An n cn, .slice Ap p cp, .slice Aq qa cq] 26)).alloc (.cells #[.int .i64 U, .slice Dn m dn, .slice Dp o dp, .slice Dq qb dq] 26)) (w.heap.size + 1) 26 #[.int .i64 U, .slice Dn m dn, .slice Dp o dp, .slice Dq qb dq] := by
  have := Blk.new (w.alloc (.cells #[.int .i64 V, .slice An n cn, .slice Ap p cp, .slice Aq qa cq] 26)) 26 #[.int .i64 U, .slice Dn m dn, .slice Dp o dp, .slice Dq qb dq]
  rw [show (w.alloc (.cells #[.int .i64 V, .slice An n cn, .slice Ap p cp, .slice Aq qa cq] 26)).heap.size = w.heap.size + 1 by simp] at this
  exact this
 have XB := ((Below.refl w.heap.size w).alloc (Nat.le_refl _) (.cells #[.int .i64 V, .slice An n cn, .slice Ap p cp, .slice Aq qa cq] 26)).alloc (by simp) (.cells #[.int .i64 U, .slice Dn m dn, .slice Dp o dp, .slice Dq qb dq] 26)
 obtain ⟨w1, hw1⟩ : ∃ w1, w1 = (w.alloc (.cells #[.int .i64 V, .slice An n cn, .slice Ap p cp, .slice Aq qa cq] 26)).alloc (.cells #[.int .i64 U, .slice Dn m dn, .slice Dp o dp, .slice Dq qb dq] 26) := ⟨_, rfl⟩
 rw [← hw1] at X1 X2 XB
 have S1 := hid X1
 have S2 := hid X2
 have W1 := hid XB
 clear X1 X2 XB
 go_enter Tryz.func17, Tryz.ntmps17
 go_upto_region 1 with (fail)
 rw [← hw1]
 clear hw1
 have s10 := S1.out.cell 0
 have s11 := S1.out.cell 1
 have s12 := S1.out.cell 2
 have s13 := S1.out.cell 3
 have s20 := S2.out.cell 0
 have s21 := S2.out.cell 1
 have s22 := S2.out.cell 2
 have s23 := S2.out.cell 3
 by_cases hv : V = U
 case neg =>
  have HF := hid (HFALSE.out fun e => hv (HAB.out.1 e).1)
  have h1 : (V != U) = true := by rw [bne_iff_ne]; exact hv
  clear hv
  go_wp2
  go_ret
  exact ⟨by rw [HF.out]; rfl, W1.out⟩
 subst hv
 by_cases hnm : n = m
 case neg =>
  have HF := hid (HFALSE.out fun e => hnm (by rw [LEN.out.1, LEN.out.2.1, (HAB.out.1 e).2.1]))
  have h1 : ((n : Int) != (m : Int)) = true := by rw [bne_iff_ne]; omega
  clear hnm
  go_wp2
  go_ret
  exact ⟨by rw [HF.out]; rfl, W1.out⟩
 subst hnm
 by_cases hpo : p = o
 case neg =>
  have HF := hid (HFALSE.out fun e => hpo (by rw [LEN.out.2.2.1, LEN.out.2.2.2, (HAB.out.1 e).2.2.1]))
  have h1 : ((p : Int) != (o : Int)) = true := by rw [bne_iff_ne]; omega
  clear hpo
  go_wp2
  go_ret
  exact ⟨by rw [HF.out]; rfl, W1.out⟩
 subst hpo
 cases q
 case false =>
  have HF := hid (HFALSE.out fun e => by have h := HQ.out; rw [(HAB.out.1 e).2.2.2] at h; simp at h)
  go_wp2_with (go_at_call 40; refine (HSM.out _ W1.out).mono ?_; rintro e w2 ⟨rfl, b2⟩)
  go_ret
  exact ⟨by rw [HF.out]; rfl, below_on W1.out b2⟩
 have HLS : Hid (a = b → ln = lm ∧ lp = lq) := hid fun e => ⟨(HAB.out.1 e).2.1, (HAB.out.1 e).2.2.1⟩
 go_upto_region 3 with (go_at_call 40; refine (HSM.out _ W1.out).mono ?_; rintro e w2 ⟨rfl, b2⟩; replace b2 := hid b2)
 have W2 := b2
 clear s10 s11 s12 s13 s20 s21 s22 s23
 go_wp2
 go_loopw [5] (fun i wx => ∃ j : Nat, j ≤ n ∧ i = .int .i64 j ∧ Hid (Below w1.heap.size w1 wx) ∧ Hid (∀ t, t < j → ln.getD t nte0 = lm.getD t nte0)) (fun i _ => n - (intOf i).toNat)
 case atStart => exact ⟨0, Nat.zero_le _, rfl, W2, hid fun t ht => by omega⟩
 case round =>
  obtain ⟨j, hj, rfl, HW, HT⟩ := hrel
  have S1r := hid (S1.out.below HW.out S1.out.lt)
  have S2r := hid (S2.out.below HW.out S2.out.lt)
  have W0r := hid (below_on W1.out HW.out)
  by_cases hlt : j < n
  ·
   obtain ⟨ad, rfl, lx⟩ := rdn_load HN1.out HB1.out W0r.out (i := j) (by rw [← LEN.out.1]; exact hlt)
   obtain ⟨ae, rfl, ly⟩ := rdn_load HN2.out HB2.out W0r.out (i := j) (by rw [← LEN.out.2.1]; exact hlt)
   obtain ⟨x, hx⟩ : ∃ x, x = ln.getD j nte0 := ⟨_, rfl⟩
   obtain ⟨y, hy⟩ : ∃ y, y = lm.getD j nte0 := ⟨_, rfl⟩
   rw [← hx] at lx
   rw [← hy] at ly
   have HXY := hid (And.intro hx hy)
   have b1 : j < n := hlt
   have r1 : IntKind.i64.wrap ((j : Int) + 1) = ((j + 1 : Nat) : Int) := by rw [IntKind.wrap_i64]; omega
   have neqv := neq_note x y
   have c1 := S1r.out.cell 1
   clear hx hy
   go_wp2_with fail
   refine wp_region_quiet (C := fun w' => Below wr.heap.size wr w') (by kernel_rfl) (by kernel_rfl) (Below.refl _ wr).drew ?_
   refine quiet_val (by kernel_rfl) (.pointer (some ⟨w.heap.size, 1, none⟩)) (fun _ _ => by go_simp) ?_
   simp only [Act.put, sS]
   refine quiet_val (by kernel_rfl) (.slice (some ad) n cn) (fun w' hb => by have g0 := (S1r.out.below hb S1r.out.lt).cell 1; go_simp) ?_
   simp only [Act.put, sS]
   refine quiet_val (by kernel_rfl) (.int .i64 (j : Int)) (fun _ _ => by rfl) ?_
   simp only [Act.put, sS]
   refine quiet_val (by kernel_rfl) (.pointer (some (ad.add (j * 10)))) (fun _ _ => by simp [go_sem, b1]) ?_
   simp only [Act.put, sS]
   refine quiet_ld (by kernel_rfl) 55 (.tmp 48) rfl (ad.add (j * 10)) (.agg x.cells) rfl (fun w' hb => lx _ hb) ?_
   simp only [Act.put, sS]
   refine quiet_val (by kernel_rfl) (.pointer (some ⟨w.heap.size + 1, 1, none⟩)) (fun _ _ => by go_simp) ?_
   simp only [Act.put, sS]
   refine quiet_val (by kernel_rfl) (.slice (some ae) n dn) (fun w' hb => by have g0 := (S2r.out.below hb S2r.out.lt).cell 1; go_simp) ?_
   simp only [Act.put, sS]
   refine quiet_val (by kernel_rfl) (.int .i64 (j : Int)) (fun _ _ => by rfl) ?_
   simp only [Act.put, sS]
   refine quiet_val (by kernel_rfl) (.pointer (some (ae.add (j * 10)))) (fun _ _ => by simp [go_sem, b1]) ?_
   simp only [Act.put, sS]
   refine quiet_ld (by kernel_rfl) 55 (.tmp 53) rfl (ae.add (j * 10)) (.agg y.cells) rfl (fun w' hb => ly _ hb) ?_
   simp only [Act.put, sS]
   refine quiet_val (by kernel_rfl) (.bool (!decide (x = y))) (fun w' hb => by go_simp) ?_
   simp only [Act.put, sS]
   refine wpQuiet_nil ?_
   intro w2 hb2
   have W3 := hid (below_on HW.out hb2)
   have W30 := hid (below_on W0r.out hb2)
   have S13 := hid (S1r.out.below hb2 S1r.out.lt)
   have c3 := S13.out.cell 1
   by_cases hxy : x = y
   ·
    have HT' : Hid (∀ t, t < j + 1 → ln.getD t nte0 = lm.getD t nte0) := hid fun t ht => by
     rcases Nat.lt_or_ge t j with h' | h'
     ·
      exact HT.out t h'
     obtain rfl : t = j := by omega
     rw [← HXY.out.1, ← HXY.out.2, hxy]
    have h1 : decide (x = y) = true := by rw [decide_eq_true_eq]; exact hxy
    simp only [h1, Bool.not_true]
    clear hxy neqv lx ly
    go_wp2
    go_roundw
    case rel => exact ⟨j + 1, by omega, by go_num, W3, HT'⟩
    case measure => simp [intOf]; omega
   have HF : Hid (r = false) := hid (by
    rw [HR.out, decide_eq_false_iff_not]
    intro e
    rw [HXY.out.1, HXY.out.2, (HLS.out e).1] at hxy
    exact hxy rfl)
   have h1 : decide (x = y) = false := by rw [decide_eq_false_iff_not]; exact hxy
   simp only [h1, Bool.not_false]
   clear hxy neqv lx ly
   go_wp2
   go_ret
   exact ⟨by rw [HF.out]; rfl, W30.out⟩
  obtain rfl : j = n := by omega
  have c1 := S1r.out.cell 1
  have HE1 : Hid (ln = lm) := hid (get_ext nte0 (by rw [← LEN.out.1, ← LEN.out.2.1]) fun t ht => HT.out t (by rw [LEN.out.1]; exact ht))
  clear HT hlt
  go_upto_region 9 with (fail)
  go_loopw [6] (fun i wx => ∃ j : Nat, j ≤ p ∧ i = .int .i64 j ∧ Hid (Below w1.heap.size w1 wx) ∧ Hid (∀ t, t < j → lp.getD t par0 = lq.getD t par0)) (fun i _ => p - (intOf i).toNat)
  case atStart => exact ⟨0, Nat.zero_le _, rfl, HW, hid fun t ht => by omega⟩
  case round =>
   clear S1r S2r W0r HW
   obtain ⟨j, hj, rfl, HW, HT⟩ := hrel
   have S1r := hid (S1.out.below HW.out S1.out.lt)
   have S2r := hid (S2.out.below HW.out S2.out.lt)
   have W0r := hid (below_on W1.out HW.out)
   by_cases hlt : j < p
   ·
    obtain ⟨ad, rfl, lx⟩ := rdp_load HP1.out HB1.out W0r.out (i := j) (by rw [← LEN.out.2.2.1]; exact hlt)
    obtain ⟨ae, rfl, ly⟩ := rdp_load HP2.out HB2.out W0r.out (i := j) (by rw [← LEN.out.2.2.2]; exact hlt)
    obtain ⟨x, hx⟩ : ∃ x, x = lp.getD j par0 := ⟨_, rfl⟩
    obtain ⟨y, hy⟩ : ∃ y, y = lq.getD j par0 := ⟨_, rfl⟩
    rw [← hx] at lx
    rw [← hy] at ly
    have HXY := hid (And.intro hx hy)
    have b1 : j < p := hlt
    have r1 : IntKind.i64.wrap ((j : Int) + 1) = ((j + 1 : Nat) : Int) := by rw [IntKind.wrap_i64]; omega
    have neqv := neq_pair x y
    have c1 := S1r.out.cell 2
    clear hx hy
    go_wp2_with fail
    refine wp_region_quiet (C := fun w' => Below wr.heap.size wr w') (by kernel_rfl) (by kernel_rfl) (Below.refl _ wr).drew ?_
    refine quiet_val (by kernel_rfl) (.pointer (some ⟨w.heap.size, 2, none⟩)) (fun _ _ => by go_simp) ?_
    simp only [Act.put, sS]
    refine quiet_val (by kernel_rfl) (.slice (some ad) p cp) (fun w' hb => by have g0 := (S1r.out.below hb S1r.out.lt).cell 2; go_simp) ?_
    simp only [Act.put, sS]
    refine quiet_val (by kernel_rfl) (.int .i64 (j : Int)) (fun _ _ => by rfl) ?_
    simp only [Act.put, sS]
    refine quiet_val (by kernel_rfl) (.pointer (some (ad.add (j * 9)))) (fun _ _ => by simp [go_sem, b1]) ?_
    simp only [Act.put, sS]
    refine quiet_ld (by kernel_rfl) 57 (.tmp 66) rfl (ad.add (j * 9)) (.agg x.cells) rfl (fun w' hb => lx _ hb) ?_
    simp only [Act.put, sS]
    refine quiet_val (by kernel_rfl) (.pointer (some ⟨w.heap.size + 1, 2, none⟩)) (fun _ _ => by go_simp) ?_
    simp only [Act.put, sS]
    refine quiet_val (by kernel_rfl) (.slice (some ae) p dp) (fun w' hb => by have g0 := (S2r.out.below hb S2r.out.lt).cell 2; go_simp) ?_
    simp only [Act.put, sS]
    refine quiet_val (by kernel_rfl) (.int .i64 (j : Int)) (fun _ _ => by rfl) ?_
    simp only [Act.put, sS]
    refine quiet_val (by kernel_rfl) (.pointer (some (ae.add (j * 9)))) (fun _ _ => by simp [go_sem, b1]) ?_
    simp only [Act.put, sS]
    refine quiet_ld (by kernel_rfl) 57 (.tmp 71) rfl (ae.add (j * 9)) (.agg y.cells) rfl (fun w' hb => ly _ hb) ?_
    simp only [Act.put, sS]
    refine quiet_val (by kernel_rfl) (.bool (!decide (x = y))) (fun w' hb => by go_simp) ?_
    simp only [Act.put, sS]
    refine wpQuiet_nil ?_
    intro w2 hb2
    have W3 := hid (below_on HW.out hb2)
    have W30 := hid (below_on W0r.out hb2)
    have S13 := hid (S1r.out.below hb2 S1r.out.lt)
    have c3 := S13.out.cell 2
    by_cases hxy : x = y
    ·
     have HT' : Hid (∀ t, t < j + 1 → lp.getD t par0 = lq.getD t par0) := hid fun t ht => by
      rcases Nat.lt_or_ge t j with h' | h'
      ·
       exact HT.out t h'
      obtain rfl : t = j := by omega
      rw [← HXY.out.1, ← HXY.out.2, hxy]
     have h1 : decide (x = y) = true := by rw [decide_eq_true_eq]; exact hxy
     simp only [h1, Bool.not_true]
     clear hxy neqv lx ly
     go_wp2
     go_roundw
     case rel => exact ⟨j + 1, by omega, by go_num, W3, HT'⟩
     case measure => simp [intOf]; omega
    have HF : Hid (r = false) := hid (by
     rw [HR.out, decide_eq_false_iff_not]
     intro e
     rw [HXY.out.1, HXY.out.2, (HLS.out e).2] at hxy
     exact hxy rfl)
    have h1 : decide (x = y) = false := by rw [decide_eq_false_iff_not]; exact hxy
    simp only [h1, Bool.not_false]
    clear hxy neqv lx ly
    go_wp2
    go_ret
    exact ⟨by rw [HF.out]; rfl, W30.out⟩
   obtain rfl : j = p := by omega
   have c1 := S1r.out.cell 2
   have HE2 : Hid (lp = lq) := hid (get_ext par0 (by rw [← LEN.out.2.2.1, ← LEN.out.2.2.2]) fun t ht => HT.out t (by rw [LEN.out.2.2.1]; exact ht))
   have HF : Hid (r = true) := hid (by
    rw [HR.out, decide_eq_true_eq]
    exact HAB.out.2 ⟨by first | rfl | trivial, HE1.out, HE2.out, by have := HQ.out; simpa using this.symm⟩)
   go_wp2
   go_ret
   exact ⟨by rw [HF.out]; rfl, W0r.out⟩
end Go.Proofs.YtcjhihmaegagdaaGreatDoor
