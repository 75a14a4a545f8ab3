/- Texts of the Notation chapter, together: Zj, Zl, Zm, Zn. -/
import Derived.Test.YtcjhihmaegagdaaGreatDoorG1
import Derived.Test.YtcjhihmaegagdaaGreatDoorZ1
import Derived.Test.YtcjhihmaegagdaaGreatDoorG2
import Derived.Test.YtcjhihmaegagdaaGreatDoorK2
import Derived.Test.YtcjhihmaegagdaaGreatDoorG5
import Derived.Test.YtcjhihmaegagdaaGreatDoorH1
set_option maxRecDepth 100000
set_option maxHeartbeats 8000000
set_option linter.unusedSimpArgs false
set_option linter.unusedVariables false
set_option linter.unusedSectionVars false
set_option linter.unnecessarySimpa false
namespace Go.Proofs.YtcjhihmaegagdaaGreatDoor
open Go.RowKit Go.Deep
def xx (ts : List Tok) (q : Qr) (r : List Tok) : Prop := q.e = 0 ∧ q.i ≤ ts.length ∧ r = ts.drop q.i
def Sim {α : Type} (ts : List Tok) (en : Nat) (x : Rs α) (q : Qr) (P : α → Prop) : Prop :=
 match x with
 | .ok a r => xx ts q r ∧ P a
 | .err r e => e ≠ 0 ∧ q.e = e ∧ q.pos = qK en r
section
variable {ts r : List Tok} {en : Nat} {q : Qr} {s : List UInt8}
theorem zAf {k : Nat} (h : q.e ≠ 0) : yG ts en q k = q := if_neg h
theorem zAS (h : q.e ≠ 0) : isQ ts q s = false := by simp [isQ, h]
theorem zS (h : q.e ≠ 0) : zK ts en q s = q := by unfold zK; rw [zAS h]; exact zAf h
theorem zk (h : q.e ≠ 0) : zM ts en q = q := by
 have : zA3 ts q = false := by simp [zA3, h]
 unfold zM; rw [this]; exact zAf h
theorem zCj (h : q.e ≠ 0) : vB ts en q = q := by
 have : jx ts q = false := by simp [jx, h]
 unfold vB; rw [this]; exact zAf h
theorem zDX (h : q.e ≠ 0) (m : Nat) (v : Vc) : (zAi ts en m v q).2 = q := by
 have hm : jO ts q = false := by simp [jO, h]
 cases m <;> (simp only [zAi, hm]; exact zS h)
theorem xx.cases (h : xx ts q r) : (q.i < ts.length ∧ r = ts.getD q.i xc :: ts.drop (q.i + 1)) ∨ (¬ q.i < ts.length ∧ r = []) := by
 obtain ⟨-, h2, rfl⟩ := h;by_cases hl : q.i < ts.length
 · left
   refine ⟨hl, ?_⟩;rw [zN hl];exact List.drop_eq_getElem_cons hl
 right
 exact ⟨hl, List.drop_eq_nil_of_le (by omega)⟩
theorem xx.off (h : xx ts q r) : zGa ts en q = qK en r := by
 unfold zGa;rcases h.cases with ⟨h1, rfl⟩ | ⟨h1, rfl⟩
 · rw [if_pos h1]; rfl
 rw [if_neg h1]; rfl
theorem xx.wrong (h : xx ts q r) (k : Nat) : yG ts en q k = ⟨q.i, qK en r, k⟩ := by
 unfold yG;rw [if_pos h.1, h.off]
theorem xx.bad {α : Type} (h : xx ts q r) {k : Nat} (hk : k ≠ 0) {P : α → Prop} : Sim ts en (.err r k : Rs α) (yG ts en q k) P := by
 rw [h.wrong];exact ⟨hk, rfl, rfl⟩
theorem xx.next (h : xx ts q r) (hl : q.i < ts.length) : xx ts ⟨q.i + 1, q.pos, q.e⟩ (ts.drop (q.i + 1)) := ⟨h.1, hl, rfl⟩
theorem xx.has (h : xx ts q r) (s : List UInt8) : (∃ r', yv s r = some r' ∧ isQ ts q s = true ∧ xx ts (zK ts en q s) r') ∨ (yv s r = none ∧ isQ ts q s = false) := by
 rcases h.cases with ⟨h1, rfl⟩ | ⟨h1, rfl⟩
 ·
  by_cases e : (ts.getD q.i xc).text = s
  ·
   left
   have hi : isQ ts q s = true := by unfold isQ; simp only [h.1, h1, e, decide_true, Bool.and_self]
   refine ⟨ts.drop (q.i + 1), if_pos e, hi, ?_⟩;unfold zK;rw [hi];exact h.next h1
  right
  refine ⟨if_neg e, ?_⟩;unfold isQ;rw [decide_eq_false e];simp
 right
 refine ⟨rfl, ?_⟩;unfold isQ;rw [decide_eq_false h1];simp
theorem Sim.skip (h : xx ts q r) (s : List UInt8) : Sim ts en (jM s r) (zK ts en q s) (fun _ => True) := by
 unfold jM;rcases h.has (en := en) s with ⟨r', e1, e2, h3⟩ | ⟨e1, e2⟩
 · rw [e1]; exact ⟨h3, trivial⟩
 rw [e1];unfold zK;rw [e2];exact h.bad (by decide)
theorem zEM (t : Tok) (r : List Tok) : yX (t :: r) = if t.kind = 2 then .ok t.n r else .err (t :: r) 10 := rfl
theorem zDK (t : Tok) (r : List Tok) : jf (t :: r) = if t.kind = 1 ∧ t.text ∉ zi then .ok t.text r else .err (t :: r) 10 := rfl
theorem Sim.num (h : xx ts q r) : Sim ts en (yX r) (zM ts en q) (fun a => a = zg ts q) := by
 rcases h.cases with ⟨h1, rfl⟩ | ⟨h1, rfl⟩
 ·
  by_cases e : (ts.getD q.i xc).kind = 2
  ·
   have hi : zA3 ts q = true := by unfold zA3; simp only [h.1, h1, e, decide_true, Bool.and_self]
   rw [zEM, if_pos e];unfold zM zg;rw [hi];exact ⟨h.next h1, rfl⟩
  have hi : zA3 ts q = false := by unfold zA3; rw [decide_eq_false e]; simp
  rw [zEM, if_neg e];unfold zM;rw [hi];exact h.bad (by decide)
 have hi : zA3 ts q = false := by unfold zA3; rw [decide_eq_false h1]; simp
 unfold yX zM;rw [hi];exact h.bad (by decide)
theorem Sim.word (h : xx ts q r) : Sim ts en (jf r) (vB ts en q) (fun a => a = kT ts q) := by
 rcases h.cases with ⟨h1, rfl⟩ | ⟨h1, rfl⟩
 ·
  by_cases e : (ts.getD q.i xc).kind = 1 ∧ (ts.getD q.i xc).text ∉ zi
  ·
   have hi : jx ts q = true := by unfold jx; simp only [h.1, h1, e.1, e.2, decide_true, decide_false, Bool.and_self, Bool.not_false]
   rw [zDK, if_pos e];unfold vB kT;rw [hi];exact ⟨h.next h1, rfl⟩
  have hi : jx ts q = false := by
   unfold jx;by_cases e1 : (ts.getD q.i xc).kind = 1
   · have e2 : (ts.getD q.i xc).text ∈ zi := Decidable.byContradiction fun h => e ⟨e1, h⟩
     rw [decide_eq_true e2]; simp
   rw [decide_eq_false e1]; simp
  rw [zDK, if_neg e];unfold vB;rw [hi];exact h.bad (by decide)
 have hi : jx ts q = false := by unfold jx; rw [decide_eq_false h1]; simp
 unfold jf vB;rw [hi];exact h.bad (by decide)
theorem Sim.bind {α β : Type} {x : Rs α} {f : α → List Tok → Rs β} {q2 : Qr} {P : α → Prop} {P' : β → Prop} (h : Sim ts en x q P) (hok : ∀ a r, P a → xx ts q r → Sim ts en (f a r) q2 P') (hs : q.e ≠ 0 → q2 = q) : Sim ts en (x.bind f) q2 P' := by
 cases x with
 | ok a r => exact hok a r h.2 h.1
 | err r e =>
  obtain ⟨h1, h2, h3⟩ := h;rw [hs (by rw [h2]; exact h1)];exact ⟨h1, h2, h3⟩
theorem Sim.mono {α : Type} {x : Rs α} {P P' : α → Prop} (h : Sim ts en x q P) (k : ∀ a, P a → P' a) : Sim ts en x q P' := by
 cases x with
 | ok a r => exact ⟨h.1, k a h.2⟩
 | err r e => exact h
theorem Sim.wants1 (h : xx ts q r) (s : List UInt8) : Sim ts en (zb [s] r) (zK ts en q s) (fun _ => True) :=
 (Sim.skip h s).bind (fun _ _ _ g => ⟨g, trivial⟩) (fun _ => rfl)
theorem Sim.wants2 (h : xx ts q r) (s t : List UInt8) : Sim ts en (zb [s, t] r) (zK ts en (zK ts en q s) t) (fun _ => True) :=
 (Sim.skip h s).bind (fun _ _ _ g => Sim.wants1 g t) (fun e => zS e)
theorem Sim.brk (m : Nat) : ∀ (v : Vc) (q : Qr) (r : List Tok), xx ts q r → Sim ts en (v9 m v r) (zAi ts en m v q).2 (fun x => x = (zAi ts en m v q).1) := by
 induction m with
 | zero =>
  intro v q r h;rcases h.has (en := en) kh with ⟨r', e1, e2, h3⟩ | ⟨e1, e2⟩
  · exact zN3
  (have hm : jO ts q = true := by unfold jO; rw [show isQ ts q [93] = false from e2, h.1]; rfl);simp only [v9, e1, zAi, hm];exact h.bad (by decide)
 | succ m ih =>
  intro v q r h;rcases h.has (en := en) kh with ⟨r', e1, e2, h3⟩ | ⟨e1, e2⟩
  · exact zN3
  (have hm : jO ts q = true := by unfold jO; rw [show isQ ts q [93] = false from e2, h.1]; rfl);simp only [v9, e1, zAi, hm, if_true];rcases h.has (en := en) zAE with ⟨r2, e3, e4, h5⟩ | ⟨e3, e4⟩
  · have hq : zCf ts en q = zK ts en q zAE := by unfold zCf; rw [show isQ ts q [45] = true from e4]; rfl
    have hg : zA4 ts q = -1 := by unfold zA4; rw [show isQ ts q [45] = true from e4]; rfl
    rw [e3, hq, hg];refine (Sim.num h5).bind (fun a r3 ha g => ?_) (fun e => zDX e m _);subst ha;rw [Int.neg_one_mul];exact ih _ _ _ g
  (have hq : zCf ts en q = q := by unfold zCf; rw [show isQ ts q [45] = false from e4]; rfl);(have hg : zA4 ts q = 1 := by unfold zA4; rw [show isQ ts q [45] = false from e4]; rfl);rw [e3, hq, hg];refine (Sim.num h).bind (fun a r3 ha g => ?_) (fun e => zDX e m _);subst ha;rw [Int.one_mul];exact ih _ _ _ g
theorem zJq {n d : Nat} (h : xS n d = none) : zAr n d ≠ 0 := by
 unfold zAr;split
 · decide
 rw [h]; decide
theorem zIo {n d : Nat} {v : Vc} (h : xS n d = some v) : zAr n d = 0 ∧ zAt n d = v := by
 refine ⟨?_, by unfold zAt; rw [h]; rfl⟩;unfold zAr;rw [if_neg (fun e => by unfold xS at h; rw [if_pos e] at h; cases h), h];rfl
theorem Sim.rat (h : xx ts q r) : Sim ts en ((yX r).bind fun n r1 => (jM zAy r1).bind fun _ r2 => (yX r2).bind fun d r3 => match xS n d with | some v => .ok v r3 | none => .err r 9) (zHT ts en q).2 (fun x => x = (zHT ts en q).1) := by
 unfold zHT;refine (Sim.num h).bind (fun n r1 hn g1 => ?_) (fun e => ?_)
 ·
  refine (Sim.skip g1 zAy).bind (fun _ r2 _ g2 => ?_) (fun e => ?_)
  ·
   refine (Sim.num g2).bind (fun d r3 hd g3 => ?_) (fun e => ?_)
   ·
    subst hn hd;have e0 : (zM ts en (zK ts en (zM ts en q) [47])).e = 0 := g3.1;show Sim ts en (match xS (zg ts q) (zg ts (zK ts en (zM ts en q) [47])) with | some v => Rs.ok v r3 | none => Rs.err r 9) _ _;simp only [e0, if_true];rcases hv : xS (zg ts q) (zg ts (zK ts en (zM ts en q) [47])) with _ | v
    · rw [if_neg (zJq hv)];exact h.bad (by decide)
    obtain ⟨e1, e2⟩ := zIo hv;rw [if_pos e1, e2];exact ⟨g3, rfl⟩
   have e' : (zM ts en (zK ts en (zM ts en q) [47])).e ≠ 0 := e;simp only [e', if_false];rfl
  have e' : (zK ts en (zM ts en q) [47]).e ≠ 0 := e;simp only [zk e', e', if_false];rfl
 simp only [zS e, zk e, e, if_false]
theorem Sim.ival (h : xx ts q r) : Sim ts en (vL r) (zh ts en q).2 (fun x => x = (zh ts en q).1) := by
 unfold vL zh;rcases h.has (en := en) zEO with ⟨r', e1, e2, h3⟩ | ⟨e1, e2⟩
 · rw [e1, show isQ ts q [91] = true from e2];exact Sim.brk 6 vc0 _ _ h3
 rw [e1, show isQ ts q [91] = false from e2];exact Sim.rat h
end
def jL (ns : List (List UInt8)) (s : List UInt8) : Int := match xY ns s with | some i => (i : Int) | none => -1
def atQ (ts : List Tok) (en : Nat) (tied : Bool) (q : Qr) : Vc × Qr := if !tied && isQ ts q zBw then zh ts en (zK ts en q zBw) else (vc0, q)
def byQ (ts : List Tok) (en : Nat) (q : Qr) : Vc × Qr := if isQ ts q zA8 then zh ts en (zK ts en q zA8) else (vc0, q)
def xH (ts : List Tok) (en : Nat) (q : Qr) : Nat × Qr := if isQ ts q xg then (zg ts (zK ts en q xg), zM ts en (zK ts en q xg)) else (0, q)
def jo (ts : List Tok) (en : Nat) (ns : List (List UInt8)) (q : Qr) : Bool := decide ((vB ts en q).e = 0) && (xY ns (kT ts q)).isSome
def zCz (ts : List Tok) (en : Nat) (q : Qr) : Qr := zK ts en (zK ts en (vB ts en q) zAz) kx
def zDr (ts : List Tok) (en : Nat) (q : Qr) : Qr := zK ts en (zM ts en (zCz ts en q)) jX
def zDw (ts : List Tok) (en : Nat) (q : Qr) : Qr := zK ts en (zM ts en (zDr ts en q)) zAx
def ntA (ts : List Tok) (en : Nat) (tied : Bool) (q : Qr) : Vc × Qr := atQ ts en tied (zM ts en (zDw ts en q))
def ntN (ts : List Tok) (en : Nat) (tied : Bool) (q : Qr) : Nte := ⟨zg ts (zCz ts en q), zg ts (zDr ts en q), zg ts (zDw ts en q), (ntA ts en tied q).1, tied⟩
def vz (ts : List Tok) (en : Nat) (tied : Bool) (d : Drf) (q : Qr) : Qr × Drf :=
 if jo ts en d.names q then (yG ts en q 11, d) else (zK ts en (ntA ts en tied q).2 yM, d.note (kT ts q) (ntN ts en tied q))
def zBC (ts : List Tok) (en : Nat) (ns : List (List UInt8)) (q : Qr) : Bool := decide ((vB ts en q).e = 0) && (xY ns (kT ts q)).isNone
def xD (ts : List Tok) (en : Nat) (ns : List (List UInt8)) (q : Qr) : Int × Qr := if zBC ts en ns q then (-1, yG ts en q 11) else (jL ns (kT ts q), vB ts en q)
def prK (ts : List Tok) (en : Nat) (ns : List (List UInt8)) (q : Qr) : Int × Qr := xD ts en ns (xD ts en ns q).2
def prB (ts : List Tok) (en : Nat) (ns : List (List UInt8)) (q : Qr) : Vc × Qr := byQ ts en (prK ts en ns q).2
def prW (ts : List Tok) (en : Nat) (ns : List (List UInt8)) (q : Qr) : Nat × Qr := xH ts en (prB ts en ns q).2
def jh (ts : List Tok) (en : Nat) (d : Drf) (q : Qr) : Qr × Drf :=
 (zK ts en (prW ts en d.names q).2 yM, d.pair ⟨(xD ts en d.names q).1, (prK ts en d.names q).1, (prB ts en d.names q).1, (prW ts en d.names q).1⟩)
def zGm (ts : List Tok) (en : Nat) (d : Drf) (q : Qr) : Qr × Drf := (zK ts en (zM ts en q) yM, d.cad (zg ts q))
def vJ (ts : List Tok) (en : Nat) (d : Drf) (q : Qr) : Qr × Drf :=
 if isQ ts q za then zGm ts en d (zK ts en q za) else if isQ ts q yW then vz ts en false d (zK ts en q yW)
 else if isQ ts q yd then vz ts en true d (zK ts en q yd) else if isQ ts q ym then jh ts en d (zK ts en q ym) else (yG ts en q 10, d)
def zAa (ts : List Tok) (en : Nat) : Nat → Drf → Qr → Qr × Drf
 | 0, d, q => (q, d)
 | f + 1, d, q => if q.e = 0 ∧ q.i < ts.length then zAa ts en f (vJ ts en d q).2 (vJ ts en d q).1 else (q, d)
def zHS (ts : List Tok) (en : Nat) : Qr := zK ts en ⟨0, 0, 0⟩ vU
def zHA (ts : List Tok) (en : Nat) : Qr := zK ts en (zM ts en (zHS ts en)) yM
def qG (ts : List Tok) (en : Nat) : Qr × Drf := zAa ts en (ts.length + 1) ⟨{ jB with voices := zg ts (zHS ts en) }, []⟩ (zHA ts en)
section
variable {ts r : List Tok} {en : Nat} {q : Qr} {s : List UInt8} {d : Drf}
theorem kl (t : Bool) (h : q.e ≠ 0) : (atQ ts en t q).2 = q := by unfold atQ; rw [zAS h]; simp
theorem zEN (h : q.e ≠ 0) : (byQ ts en q).2 = q := by unfold byQ; rw [zAS h]; rfl
theorem qN (h : q.e ≠ 0) : (xH ts en q).2 = q := by unfold xH; rw [zAS h]; rfl
theorem zEZ (ns : List (List UInt8)) (h : q.e ≠ 0) : (xD ts en ns q).2 = q := by
 have : zBC ts en ns q = false := by unfold zBC; rw [zCj h, decide_eq_false h]; rfl
 unfold xD; rw [this]; exact zCj h
theorem Sim.at (t : Bool) (h : xx ts q r) : Sim ts en (atR t r) (atQ ts en t q).2 (fun x => x = (atQ ts en t q).1) := by
 unfold atR atQ;cases t
 ·
  rcases h.has (en := en) zBw with ⟨r', e1, e2, h3⟩ | ⟨e1, e2⟩
  · simp only [e1, e2, Bool.not_false, Bool.and_true, if_true, Bool.false_eq_true, if_false];exact Sim.ival h3
  simp only [e1, e2, Bool.not_false, Bool.and_false, Bool.false_eq_true, if_false];exact ⟨h, rfl⟩
 exact ⟨h, rfl⟩
theorem Sim.by (h : xx ts q r) : Sim ts en (byR r) (byQ ts en q).2 (fun x => x = (byQ ts en q).1) := by
 unfold byR byQ;rcases h.has (en := en) zA8 with ⟨r', e1, e2, h3⟩ | ⟨e1, e2⟩
 · simp only [e1, e2, if_true];exact Sim.ival h3
 simp only [e1, e2, Bool.false_eq_true, if_false];exact ⟨h, rfl⟩
theorem Sim.within (h : xx ts q r) : Sim ts en (xW r) (xH ts en q).2 (fun x => x = (xH ts en q).1) := by
 unfold xW xH;rcases h.has (en := en) xg with ⟨r', e1, e2, h3⟩ | ⟨e1, e2⟩
 · simp only [e1, e2, if_true];exact Sim.num h3
 simp only [e1, e2, Bool.false_eq_true, if_false];exact ⟨h, rfl⟩
theorem Sim.known (ns : List (List UInt8)) (h : xx ts q r) : Sim ts en (zB2 ns r) (xD ts en ns q).2 (fun x => (x : Int) = (xD ts en ns q).1) := by
 unfold zB2;refine (Sim.word h).bind (fun a r1 ha g => ?_) (fun e => ?_)
 ·
  subst ha;unfold xD jL zBC;rcases hx : xY ns (kT ts q) with _ | i
  · simp only [g.1, decide_true, Option.isNone_none, Bool.and_self, if_true];exact h.bad (by decide)
  simp only [Option.isNone_some, Bool.and_false, Bool.false_eq_true, if_false];exact ⟨g, rfl⟩
 have : zBC ts en ns q = false := by unfold zBC; rw [decide_eq_false e]; rfl
 unfold xD; rw [this]; rfl
theorem Sim.note (t : Bool) (d : Drf) (h : xx ts q r) : Sim ts en (xy t d r) (vz ts en t d q).1 (fun x => x = (vz ts en t d q).2) := by
 unfold xy zHV;have hb : ∀ {α β γ : Type} (x : Rs α) (f : α → List Tok → Rs β) (g : β → List Tok → Rs γ), (x.bind f).bind g = x.bind fun a r => (f a r).bind g := fun x f g => by cases x <;> rfl
 rw [hb];refine (Sim.word h).bind (fun a r1 ha g => ?_) (fun e => ?_)
 ·
  subst ha;unfold vz;rcases hx : xY d.names (kT ts q) with _ | i
  ·
   have ht : jo ts en d.names q = false := by unfold jo; rw [hx]; simp
   simp only [ht, Bool.false_eq_true, if_false];refine (Sim.wants2 g zAz kx).bind (fun _ r2 _ g2 => ?_) (fun e => ?_)
   ·
    refine (Sim.num g2).bind (fun v r3 hv g3 => ?_) (fun e => ?_)
    ·
     refine (Sim.wants1 g3 jX).bind (fun _ r4 _ g4 => ?_) (fun e => ?_)
     ·
      refine (Sim.num g4).bind (fun x r5 hx g5 => ?_) (fun e => ?_)
      ·
       refine (Sim.wants1 g5 zAx).bind (fun _ r6 _ g6 => ?_) (fun e => ?_)
       ·
        refine (Sim.num g6).bind (fun y r7 hy g7 => ?_) (fun e => ?_)
        ·
         refine (Sim.at t g7).bind (fun p r8 hp g8 => ?_) (fun e => ?_)
         · refine (Sim.wants1 g8 yM).bind (fun _ r9 _ g9 => ?_) (fun e => rfl);subst hv hx hy hp;exact ⟨g9, rfl⟩
         exact zS e
        have e' : (zM ts en (zDw ts en q)).e ≠ 0 := e;show zK ts en (atQ ts en t (zM ts en (zDw ts en q))).2 yM = zM ts en (zDw ts en q);rw [kl t e', zS e']
       have e' : (zDw ts en q).e ≠ 0 := e;show zK ts en (atQ ts en t (zM ts en (zDw ts en q))).2 yM = zDw ts en q;rw [zk e', kl t e', zS e']
      have e' : (zM ts en (zDr ts en q)).e ≠ 0 := e;show zK ts en (atQ ts en t (zM ts en (zK ts en (zM ts en (zDr ts en q)) zAx))).2 yM = zM ts en (zDr ts en q);rw [zS e', zk e', kl t e', zS e']
     have e' : (zDr ts en q).e ≠ 0 := e;show zK ts en (atQ ts en t (zM ts en (zK ts en (zM ts en (zDr ts en q)) zAx))).2 yM = zDr ts en q;rw [zk e', zS e', zk e', kl t e', zS e']
    have e' : (zM ts en (zCz ts en q)).e ≠ 0 := e;show zK ts en (atQ ts en t (zM ts en (zK ts en (zM ts en (zK ts en (zM ts en (zCz ts en q)) jX)) zAx))).2 yM = zM ts en (zCz ts en q);rw [zS e', zk e', zS e', zk e', kl t e', zS e']
   have e' : (zCz ts en q).e ≠ 0 := e;show zK ts en (atQ ts en t (zM ts en (zK ts en (zM ts en (zK ts en (zM ts en (zCz ts en q)) jX)) zAx))).2 yM = zCz ts en q;rw [zk e', zS e', zk e', zS e', zk e', kl t e', zS e']
  have ht : jo ts en d.names q = true := by unfold jo; rw [hx, decide_eq_true g.1]; rfl
  simp only [ht, if_true];exact h.bad (by decide)
 have ht : jo ts en d.names q = false := by unfold jo; rw [decide_eq_false e]; rfl
 unfold vz;simp only [ht, Bool.false_eq_true, if_false];show zK ts en (atQ ts en t (zM ts en (zK ts en (zM ts en (zK ts en (zM ts en (zK ts en (zK ts en (vB ts en q) zAz) kx)) jX)) zAx))).2 yM = vB ts en q;rw [zS e, zS e, zk e, zS e, zk e, zS e, zk e, kl t e, zS e]
theorem Sim.pair (d : Drf) (h : xx ts q r) : Sim ts en (qI d r) (jh ts en d q).1 (fun x => x = (jh ts en d q).2) := by
 obtain ⟨k1, h1⟩ : ∃ k1, xD ts en d.names q = k1 := ⟨_, rfl⟩
 obtain ⟨k2, h2⟩ : ∃ k2, xD ts en d.names k1.2 = k2 := ⟨_, rfl⟩
 obtain ⟨b, hb⟩ : ∃ b, byQ ts en k2.2 = b := ⟨_, rfl⟩
 obtain ⟨w, hw⟩ : ∃ w, xH ts en b.2 = w := ⟨_, rfl⟩
 have e : jh ts en d q = (zK ts en w.2 yM, d.pair ⟨k1.1, k2.1, b.1, w.1⟩) := by
  unfold jh prW prB prK;rw [h1, h2, hb, hw]
 rw [e];have s1 : Sim ts en (zB2 d.names r) k1.2 (fun x => (x : Int) = k1.1) := by rw [← h1]; exact Sim.known d.names h
 unfold qI;refine s1.bind (fun a r1 ha g1 => ?_) (fun e => ?_)
 ·
  have s2 : Sim ts en (zB2 d.names r1) k2.2 (fun x => (x : Int) = k2.1) := by rw [← h2]; exact Sim.known d.names g1
  refine s2.bind (fun a2 r2 ha2 g2 => ?_) (fun e => ?_)
  ·
   have s3 : Sim ts en (byR r2) b.2 (fun x => x = b.1) := by rw [← hb]; exact Sim.by g2
   refine s3.bind (fun v r3 hv g3 => ?_) (fun e => ?_)
   ·
    have s4 : Sim ts en (xW r3) w.2 (fun x => x = w.1) := by rw [← hw]; exact Sim.within g3
    refine s4.bind (fun k r4 hk g4 => ?_) (fun e => zS e);refine (Sim.wants1 g4 yM).bind (fun _ r5 _ g5 => ?_) (fun e => rfl);refine ⟨g5, ?_⟩;rw [hv, hk, ha, ha2]
   show zK ts en w.2 yM = b.2;rw [← hw, qN e, zS e]
  show zK ts en w.2 yM = k2.2;rw [← hw, ← hb, zEN e, qN e, zS e]
 show zK ts en w.2 yM = k1.2;rw [← hw, ← hb, ← h2, zEZ _ e, zEN e, qN e, zS e]
theorem Sim.cad (d : Drf) (h : xx ts q r) : Sim ts en (zAq d r) (zGm ts en d q).1 (fun x => x = (zGm ts en d q).2) := by
 unfold zAq;refine (Sim.num h).bind (fun n r1 hn g1 => ?_) (fun e => zS e);refine (Sim.wants1 g1 yM).bind (fun _ r5 _ g5 => ?_) (fun e => rfl);subst hn;exact ⟨g5, rfl⟩
theorem zEd (t : Tok) (r : List Tok) (s : List UInt8) : yv s (t :: r) = if t.text = s then some r else none := rfl
theorem xx.is (h : xx ts q r) {t : Tok} {r2 : List Tok} (hr : r = t :: r2) (s : List UInt8) : isQ ts q s = decide (t.text = s) ∧ (t.text = s → xx ts (zK ts en q s) r2) := by
 subst hr;rcases h.has (en := en) s with ⟨r', e1, e2, h3⟩ | ⟨e1, e2⟩
 ·
  rw [zEd] at e1;by_cases e : t.text = s
  · rw [if_pos e] at e1;injection e1 with e1;subst e1;exact ⟨by rw [e2, decide_eq_true e], fun _ => h3⟩
  rw [if_neg e] at e1; cases e1
 rw [zEd] at e1;by_cases e : t.text = s
 · rw [if_pos e] at e1; cases e1
 exact ⟨by rw [e2, decide_eq_false e], fun e' => absurd e' e⟩
theorem Sim.item (d : Drf) (h : xx ts q r) {t : Tok} {r2 : List Tok} (hr : r = t :: r2) : Sim ts en (match xA t.text d r2 with | some x => x | none => .err r 10) (vJ ts en d q).1 (fun x => x = (vJ ts en d q).2) := by
 obtain ⟨c1, c2⟩ := h.is (en := en) hr za;obtain ⟨n1, n2⟩ := h.is (en := en) hr yW;obtain ⟨t1, t2⟩ := h.is (en := en) hr yd;obtain ⟨p1, p2⟩ := h.is (en := en) hr ym;unfold xA vJ;rw [c1, n1, t1, p1];by_cases hc : t.text = za
 ·
  have a1 : ¬ za = yW := by decide
  have a2 : ¬ za = yd := by decide
  have a3 : ¬ za = ym := by decide
  rw [hc] at c2 ⊢;simp only [a1, a2, a3, decide_true, if_true, if_false];exact Sim.cad d (c2 rfl)
 by_cases hn : t.text = yW
 · simp only [hc, hn, decide_true, decide_false, Bool.false_eq_true, if_true, if_false];rw [hn] at hc;simp only [hc, decide_false, Bool.false_eq_true, if_false];exact Sim.note false d (n2 hn)
 by_cases htd : t.text = yd
 · simp only [hc, hn, decide_false, Bool.false_eq_true, if_false];rw [htd] at hc hn;simp only [htd, hc, hn, decide_true, if_true, decide_false, Bool.false_eq_true, if_false];exact Sim.note true d (t2 htd)
 by_cases hp : t.text = ym
 · rw [hp] at hc hn htd;simp only [hp, hc, hn, htd, decide_true, if_true, decide_false, Bool.false_eq_true, if_false];exact Sim.pair d (p2 hp)
 simp only [hc, hn, htd, hp, decide_false, Bool.false_eq_true, if_false];exact h.bad (by decide)
theorem jS (f : Nat) (d : Drf) (h : q.e ≠ 0) : zAa ts en f d q = (q, d) := by
 cases f with
 | zero => rfl
 | succ f => exact if_neg fun e => h e.1
theorem zDc (f : Nat) (d : Drf) (h : ¬ (q.e = 0 ∧ q.i < ts.length)) : zAa ts en f d q = (q, d) := by
 cases f with
 | zero => rfl
 | succ f => exact if_neg h
theorem zCp (f : Nat) (d : Drf) (h : q.e = 0 ∧ q.i < ts.length) : zAa ts en (f + 1) d q = zAa ts en f (vJ ts en d q).2 (vJ ts en d q).1 := if_pos h
theorem Sim.items (f : Nat) : ∀ (f1 : Nat) (d : Drf) (q : Qr) (r : List Tok), xx ts q r → r.length ≤ f1 → r.length < f → Sim ts en (vc f1 d r) (zAa ts en f d q).1 (fun x => x = (zAa ts en f d q).2) := by
 induction f with
 | zero => intro f1 d q r h h1 h2; omega
 | succ f ih =>
  intro f1 d q r h hl hf;have h' := h;rcases h.cases with ⟨h1, hr⟩ | ⟨h1, rfl⟩
  ·
   obtain ⟨t, ht⟩ : ∃ t, ts.getD q.i xc = t := ⟨_, rfl⟩
   obtain ⟨r2, hr2⟩ : ∃ r2, ts.drop (q.i + 1) = r2 := ⟨_, rfl⟩
   rw [ht, hr2] at hr;have hs := Sim.item (en := en) d h hr;subst hr;obtain ⟨f2, rfl⟩ : ∃ f2, f1 = f2 + 1 := ⟨f1 - 1, by simp only [List.length_cons] at hl; omega⟩
   rw [zCp _ _ ⟨h.1, h1⟩];show Sim ts en (match xA t.text d r2 with | some q => q.bind fun d r => vc f2 d r | none => .err (t :: r2) 10) _ _;rcases hi : xA t.text d r2 with _ | x
   · rw [hi] at hs;exact zNe
   rw [hi] at hs;have hsuf := zAP hi
   cases x with
   | ok a r3 =>
    obtain ⟨g, rfl⟩ := hs;have : r3.length ≤ r2.length := List.IsSuffix.length_le hsuf;simp only [List.length_cons] at hl hf;exact ih _ _ _ _ g (by omega) (by omega)
   | err r3 e =>
    exact zNe
  rw [zDc _ _ (fun e => h1 e.2), kY];exact ⟨h', rfl⟩
theorem Sim.read : Sim ts en (vZ ts) (qG ts en).1 (fun x => x = (qG ts en).2) := by
 unfold vZ qG;have h0 : xx ts ⟨0, 0, 0⟩ ts := ⟨rfl, Nat.zero_le _, rfl⟩
 refine (Sim.wants1 h0 vU).bind (fun _ r1 _ g1 => ?_) (fun e => ?_);rotate_left
 · have e1 : (zHS ts en).e ≠ 0 := e;have e2 : zHA ts en = zHS ts en := by unfold zHA; rw [zk e1, zS e1]
   rw [e2, jS _ _ e1];rfl
 refine (Sim.num g1).bind (fun v r2 hv g2 => ?_) (fun e => ?_)
 ·
  refine (Sim.wants1 g2 yM).bind (fun _ r3 _ g3 => ?_) (fun e => ?_)
  · subst hv;exact Sim.items _ _ _ _ _ g3 (Nat.le_refl _) (by rw [g3.2.2, List.length_drop]; omega)
  have e1 : (zHA ts en).e ≠ 0 := e;rw [jS _ _ e1]; rfl
 have e1 : (zM ts en (zHS ts en)).e ≠ 0 := e;have e2 : zHA ts en = zM ts en (zHS ts en) := by unfold zHA; rw [zS e1]
 rw [e2, jS _ _ e1];rfl
def Up (ts : List Tok) (q q2 : Qr) : Prop := q.i ≤ q2.i ∧ q2.i ≤ ts.length
theorem Up.trans {q2 q3 : Qr} (h : Up ts q q2) (k : q2.i ≤ ts.length → Up ts q2 q3) : Up ts q q3 := ⟨Nat.le_trans h.1 (k h.2).1, (k h.2).2⟩
theorem yA (h : q.i ≤ ts.length) (s : List UInt8) : Up ts q (zK ts en q s) := by
 refine ⟨?_, zCM h⟩;unfold zK;split
 · exact Nat.le_succ _
 rw [jy]; exact Nat.le_refl _
theorem km (h : q.i ≤ ts.length) : Up ts q (zM ts en q) := by
 refine ⟨?_, zB6 h⟩;unfold zM;split
 · exact Nat.le_succ _
 rw [jy]; exact Nat.le_refl _
theorem zEV (h : q.i ≤ ts.length) : Up ts q (vB ts en q) := by
 unfold vB;split
 · next h1 =>
   unfold jx at h1;simp only [Bool.and_eq_true, decide_eq_true_eq] at h1;exact ⟨Nat.le_succ _, h1.2.1⟩
 unfold Up; rw [jy]; exact ⟨Nat.le_refl _, h⟩
theorem zBK (h : q.i ≤ ts.length) (k : Nat) : Up ts q (yG ts en q k) := by unfold Up; rw [jy]; exact ⟨Nat.le_refl _, h⟩
theorem zMh (h : q.i ≤ ts.length) : Up ts q (zCf ts en q) := by
 unfold zCf;split
 · exact yA h _
 exact ⟨Nat.le_refl _, h⟩
theorem zMk (m : Nat) : ∀ (v : Vc) (q : Qr), q.i ≤ ts.length → Up ts q (zAi ts en m v q).2 := by
 induction m with
 | zero =>
  intro v q h;unfold zAi;split
  · exact zBK h _
  exact yA h _
 | succ m ih =>
  intro v q h;unfold zAi;split
  · exact ((zMh h).trans km).trans (ih _ _)
  exact yA h _
theorem zHX (h : q.i ≤ ts.length) : Up ts q (zh ts en q).2 := by
 unfold zh;split
 · exact (yA h _).trans (zMk _ _ _)
 have h3 : Up ts q (zM ts en (zK ts en (zM ts en q) [47])) := ((km h).trans fun h => yA h _).trans km;unfold zHT;dsimp only;split
 ·
  split
  · exact h3
  exact zBK h _
 exact h3
theorem zLR (t : Bool) (h : q.i ≤ ts.length) : Up ts q (atQ ts en t q).2 := by
 unfold atQ;split
 · exact (yA h _).trans zHX
 exact ⟨Nat.le_refl _, h⟩
theorem zLL (h : q.i ≤ ts.length) : Up ts q (byQ ts en q).2 := by
 unfold byQ;split
 · exact (yA h _).trans zHX
 exact ⟨Nat.le_refl _, h⟩
theorem zEl (h : q.i ≤ ts.length) : Up ts q (xH ts en q).2 := by
 unfold xH;split
 · exact (yA h _).trans km
 exact ⟨Nat.le_refl _, h⟩
theorem zBP (ns : List (List UInt8)) (h : q.i ≤ ts.length) : Up ts q (xD ts en ns q).2 := by
 unfold xD;split
 · exact zBK h _
 exact zEV h
theorem zMq (h : q.i ≤ ts.length) : Up ts q (zCz ts en q) := ((zEV h).trans fun h => yA h _).trans fun h => yA h _
theorem zMm (h : q.i ≤ ts.length) : Up ts q (zDr ts en q) := ((zMq h).trans km).trans fun h => yA h _
theorem zL8 (h : q.i ≤ ts.length) : Up ts q (zDw ts en q) := ((zMm h).trans km).trans fun h => yA h _
theorem zMl (t : Bool) (h : q.i ≤ ts.length) : Up ts q (ntA ts en t q).2 := ((zL8 h).trans km).trans (zLR t)
theorem zIe (t : Bool) (d : Drf) (h : q.i ≤ ts.length) : Up ts q (vz ts en t d q).1 := by
 unfold vz;split
 · exact zBK h _
 exact (zMl t h).trans fun h => yA h _
theorem zLU (ns : List (List UInt8)) (h : q.i ≤ ts.length) : Up ts q (prW ts en ns q).2 := (((zBP ns h).trans (zBP ns)).trans zLL).trans zEl
theorem zK9 (d : Drf) (h : q.i ≤ ts.length) : Up ts q (jh ts en d q).1 := by
 have h1 := (zLU (en := en) d.names h).trans fun h => yA (en := en) h yM
 unfold jh;exact h1
theorem zMv (d : Drf) (h : q.i ≤ ts.length) : Up ts q (zGm ts en d q).1 := (km h).trans fun h => yA h _
theorem zLG (h : isQ ts q s = true) : zK ts en q s = ⟨q.i + 1, q.pos, q.e⟩ := if_pos h
theorem zLJ (d : Drf) (hl : q.i < ts.length) : q.i ≤ (vJ ts en d q).1.i ∧ (vJ ts en d q).1.i ≤ ts.length ∧ ((vJ ts en d q).1.e = 0 → q.i < (vJ ts en d q).1.i) := by
 have key : ∀ (s : List UInt8) (q2 : Qr), isQ ts q s = true → ((zK ts en q s).i ≤ ts.length → Up ts (zK ts en q s) q2) → q.i ≤ q2.i ∧ q2.i ≤ ts.length ∧ (q2.e = 0 → q.i < q2.i) := fun s q2 hs hu => by
  rw [zLG hs] at hu;obtain ⟨h1, h2⟩ := hu hl;have : q.i + 1 ≤ q2.i := h1;exact ⟨by omega, h2, fun _ => by omega⟩
 unfold vJ;split
 · next h => exact key za (zGm ts en d (zK ts en q za)).1 h (zMv d)
 split
 · next h => exact key yW (vz ts en false d (zK ts en q yW)).1 h (zIe false d)
 split
 · next h => exact key yd (vz ts en true d (zK ts en q yd)).1 h (zIe true d)
 split
 · next h => exact key ym (jh ts en d (zK ts en q ym)).1 h (zK9 d)
 rw [jy];refine ⟨Nat.le_refl _, Nat.le_of_lt hl, fun e => ?_⟩;unfold yG at e;split at e
 · exact absurd e (by show ¬ (10 : Nat) = 0; decide)
 next h => exact absurd e h
def Drf.cap (d : Drf) (k : Nat) : Prop := d.names.length ≤ k ∧ d.sc.notes.length ≤ k ∧ d.sc.pairs.length ≤ k ∧ d.sc.cad.length ≤ k
theorem zJ9 {k : Nat} (h : d.cap k) : (vJ ts en d q).2.cap (k + 1) := by
 obtain ⟨h1, h2, h3, h4⟩ := h;have hd : d.cap (k + 1) := ⟨by omega, by omega, by omega, by omega⟩
 have hn : ∀ t q, (vz ts en t d q).2.cap (k + 1) := fun t q => by
  unfold vz;split
  · exact hd
  refine ⟨?_, ?_, ?_, ?_⟩ <;> simp only [Drf.note, List.length_append, List.length_cons, List.length_nil] <;> omega
 unfold vJ;split
 · refine ⟨?_, ?_, ?_, ?_⟩ <;> simp only [zGm, Drf.cad, List.length_append, List.length_cons, List.length_nil] <;> omega
 split
 · exact hn _ _
 split
 · exact hn _ _
 split
 · refine ⟨?_, ?_, ?_, ?_⟩ <;> simp only [jh, Drf.pair, List.length_append, List.length_cons, List.length_nil] <;> omega
 exact hd
end
open Go.RowKit Go.Deep
def zKa (a : Array Value) : Nat → List Value → Array Value
 | _, [] => a
 | o, v :: r => zKa (a.setIfInBounds o v) (o + 1) r
theorem Blk.sets {g : Nat} {t : TypeId} : ∀ (vs : List Value) (o : Nat) {w : World} {cs : Array Value}, Blk w g t cs → Blk (w.setCells g o vs) g t (zKa cs o vs)
 | [], _, _, _, h => h
 | v :: r, o, _, _, h => Blk.sets r (o + 1) (h.set_ o v)
theorem Blk.there {w : World} {g : Nat} {t : TypeId} {cs : Array Value} (h : Blk w g t cs) (o n : Nat) (hn : o + n ≤ cs.size) : w.there g o n := fun j hj => by
 refine ⟨?_, h.frozen _⟩;rw [h.cell];rw [Array.getElem?_eq_getElem (by omega)];rfl
theorem zDB {P : Program} {ops : Array Oper} {rest : List Oper} {o : Oper} {a : Act} {w : World} {Q : Exit → Act → World → Prop} (hgd : o.guard = none) (ty : TypeId) (x y : Operand) (ho : o.op = .store ty x y)
 (g i : Nat) (cells : Array Value) (hx : a.eval x = .pointer (some ⟨g, i, none⟩)) (hy : a.eval y = .agg cells)
 (t : TypeId) (old : Array Value) (hg : Blk w g t old) (hi : (P.info? ty).map (·.size) = some cells.size)
 (hold : i + cells.size ≤ old.size) (h1 : cells.all (·.oneCell') = true)
 (h : ∀ w', Blk w' g t (zKa old i cells.toList) → w.grownBy w' (some g) → wpList P ops Q rest (a.put o.dst undef) w') : wpList P ops Q (o :: rest) a w := by
 refine wpList_store_mid hgd ty x y ho g i cells hx hy (hg.there i _ hold) hi h1 (h _ (hg.sets _ _) ?_);have o2 := zH.setCells cells.toList i w (zH.refl g w);exact ⟨o2.os, o2.tape, o2.output, o2.size, fun k hk e => o2.block k (fun e' => e (by rw [e'])) hk⟩
structure Cel where
 g : Nat
 t : TypeId
 cs : Array Value
structure Rw where
 n : Value
 p : Value
 q : Value
 u : Value
def Rw.own (x : Rw) (k : Nat) : Prop := x.n.ownBlock = some k ∨ x.p.ownBlock = some k ∨ x.q.ownBlock = some k ∨ x.u.ownBlock = some k
structure Rows (W : World) (B : Nat) (x : Rw) (d : Drf) : Prop where
 n : yY W B x.n d.sc.notes
 p : zn W B x.p d.sc.pairs
 q : yO W B x.q (itg d.sc.cad)
 u : kk W B x.u d.names
abbrev qq (x : Rw) (V : Int) : Array Value := #[.int .i64 V, x.n, x.p, x.q, x.u]
abbrev xf : Array Value := #[.int .i64 0, .slice none 0 0, .slice none 0 0, .slice none 0 0, .slice none 0 0]
theorem kj : (Tryz.prog.info? 76).map (·.size) = some 5 := by kernel_rfl
structure Chg (x : Rw) (w W : World) : Prop where
 os : W.os = w.os
 tape : W.tape = w.tape
 output : W.output = w.output
 size : w.heap.size ≤ W.heap.size
 block : ∀ k, k < w.heap.size → ¬ x.own k → W.heap[k]? = w.heap[k]?
def Kin (x : Rw) (w : World) (y : Rw) : Prop := ∀ k, y.own k → x.own k ∨ w.heap.size ≤ k
section
variable {w0 w W W' : World} {x0 x y : Rw} {d d2 : Drf} {L : List Cel} {B : Nat}
theorem Rows.up (h : Rows W B x d) (b : Below W.heap.size W W') : Rows W' B x d := ⟨h.n.on b, h.p.on b, h.q.on b, h.u.on b⟩
theorem Rows.own (h : Rows W B x d) {k : Nat} (hk : x.own k) : B ≤ k ∧ k < W.heap.size := by
 rcases hk with hk | hk | hk | hk
 · exact World.ownsRow.lt h.n k hk
 · exact World.ownsRow.lt h.p k hk
 · exact World.ownsRow.lt h.q k hk
 exact World.ownsRow.lt h.u k hk
theorem Rows.kept (h : Rows W B x d) {r : Option Nat} (g : W.grownBy W' r) (hr : ∀ k, r = some k → ¬ x.own k) : Rows W' B x d := by
 have hn : ∀ v : Value, (∀ k, v.ownBlock = some k → x.own k) → v.ownBlock = none ∨ v.ownBlock ≠ r := fun v hv => by
  rcases hb : v.ownBlock with _ | k
  · exact .inl rfl
  exact .inr fun e => hr k e.symm (hv k hb)
 exact ⟨h.n.kept g (hn _ fun k e => .inl e), h.p.kept g (hn _ fun k e => .inr (.inl e)), h.q.kept g (hn _ fun k e => .inr (.inr (.inl e))), World.ownsRow.kept h.u g (hn _ fun k e => .inr (.inr (.inr e)))⟩
theorem Chg.refl (x : Rw) (w : World) : Chg x w w := ⟨rfl, rfl, rfl, Nat.le_refl _, fun _ _ _ => rfl⟩
theorem Chg.grown (h : Chg x w W) {r : Option Nat} (g : W.grownBy W' r) (hr : ∀ k, r = some k → x.own k ∨ w.heap.size ≤ k) : Chg x w W' :=
 ⟨g.os.trans h.os, g.tape.trans h.tape, g.output.trans h.output, Nat.le_trans h.size g.size, fun k hk hx => (g.block k (Nat.lt_of_lt_of_le hk h.size) (fun e => by
  rcases hr k e.symm with e | e
  · exact hx e
  omega)).trans (h.block k hk hx)⟩
theorem Chg.up (h : Chg x w W) (b : Below W.heap.size W W') : Chg x w W' :=
 ⟨b.os.trans h.os, b.tape.trans h.tape, b.output.trans h.output, Nat.le_trans h.size b.size, fun k hk hx => (b.block k (Nat.lt_of_lt_of_le hk h.size)).trans (h.block k hk hx)⟩
theorem Chg.chg (h : Chg x w W) (c : Chg y W W') (k : Kin x w y) : Chg x w W' :=
 ⟨c.os.trans h.os, c.tape.trans h.tape, c.output.trans h.output, Nat.le_trans h.size c.size, fun i hi hx => (c.block i (Nat.lt_of_lt_of_le hi h.size) (fun e => by
  rcases k i e with e | e
  · exact hx e
  omega)).trans (h.block i hi hx)⟩
theorem Chg.below (h : Chg x w W) (o : Rows w B x d) (hB : B ≤ w.heap.size) : Below B w W := ⟨h.os, h.tape, h.output, h.size, fun k hk => h.block k (by omega) (fun e => by have := (o.own e).1; omega)⟩
structure Nst (w0 w : World) (x0 : Rw) (L : List Cel) (x : Rw) (d : Drf) (W : World) : Prop where
 s : w0.heap.size ≤ w.heap.size
 b : Below w0.heap.size w0 W
 c : Chg x0 w W
 f : ∀ z ∈ L, w.heap.size ≤ z.g ∧ Blk W z.g z.t z.cs
 nd : (L.map Cel.g).Nodup
 ap : ∀ z ∈ L, ¬ x.own z.g
 kn : Kin x0 w x
 o : Rows W w0.heap.size x d
theorem Nst.base (b : Below w0.heap.size w0 w) (o : Rows w w0.heap.size x d) : Nst w0 w x [] x d w :=
 ⟨b.size, b, Chg.refl _ _, fun z hz => by simp at hz, List.nodup_nil, fun z hz => by simp at hz, fun k e => .inl e, o⟩
theorem Nst.blk (h : Nst w0 w x0 L x d W) {k : Nat} {z : Cel} (hk : L[k]? = some z) : Blk W z.g z.t z.cs := (h.f z (List.mem_of_getElem? hk)).2
theorem Nst.bl (h : Nst w0 w x0 L x d W) (k g : Nat) (t : TypeId) (cs : Array Value) (hk : L[k]? = some ⟨g, t, cs⟩) : Blk W g t cs := h.blk hk
theorem Nst.up (h : Nst w0 w x0 L x d W) (b : Below W.heap.size W W') : Nst w0 w x0 L x d W' :=
 ⟨h.s, h.b.trans (b.mono h.b.size), h.c.up b, fun z hz => ⟨(h.f z hz).1, (h.f z hz).2.below b (h.f z hz).2.lt⟩, h.nd, h.ap, h.kn, h.o.up b⟩
theorem Nst.drew (h : Nst w0 w x0 L x d W) : Nst w0 w x0 L x d W.drew := h.up (Below.refl _ W).drew
theorem zJU {L : List Cel} (nd : (L.map Cel.g).Nodup) {k : Nat} {z y : Cel} (hk : L[k]? = some z) {cs : Array Value} (hy : y ∈ L.set k ⟨z.g, z.t, cs⟩) : y = ⟨z.g, z.t, cs⟩ ∨ (y ∈ L ∧ y.g ≠ z.g) := by
 obtain ⟨j, hj⟩ := List.mem_iff_getElem?.1 hy;rw [List.getElem?_set] at hj;by_cases e : k = j
 ·
  rw [if_pos e] at hj;split at hj
  · injection hj with hj; exact .inl hj.symm
  cases hj
 rw [if_neg e] at hj;refine .inr ⟨List.mem_of_getElem? hj, fun e2 => e ?_⟩;have h1 : (L.map Cel.g)[k]? = some z.g := by rw [List.getElem?_map, hk]; rfl
 have h2 : (L.map Cel.g)[j]? = some z.g := by rw [List.getElem?_map, hj, ← e2]; rfl
 exact (List.getElem?_inj (by rw [List.length_map]; exact (List.getElem?_eq_some_iff.1 hk).1) nd).1 (h1.trans h2.symm)
theorem zK4 {L : List Cel} {k : Nat} {z : Cel} (hk : L[k]? = some z) (cs : Array Value) : (L.set k ⟨z.g, z.t, cs⟩).map Cel.g = L.map Cel.g := by
 rw [List.map_set];refine List.ext_getElem? fun j => ?_
 rw [List.getElem?_set];split
 ·
  next e =>
  subst e;rw [List.getElem?_map, hk];split
  · rfl
  next h => exact absurd (by rw [List.length_map]; exact (List.getElem?_eq_some_iff.1 hk).1) h
 rfl
theorem Nst.put (h : Nst w0 w x0 L x d W) (k : Nat) {z : Cel} (hk : L[k]? = some z) {cs : Array Value} (bk : Blk W' z.g z.t cs) (g : W.grownBy W' (some z.g)) : Nst w0 w x0 (L.set k ⟨z.g, z.t, cs⟩) x d W' := by
 have hz := List.mem_of_getElem? hk;refine ⟨h.s, h.b.grown g (Nat.le_trans h.s h.c.size) (fun y e => by injection e with e; have := (h.f z hz).1; have := h.s; omega), h.c.grown g (fun y e => by injection e with e; exact .inr (by have := (h.f z hz).1; omega)), fun y hy => ?_, by rw [zK4 hk]; exact h.nd, fun y hy => ?_, h.kn, h.o.kept g (fun y e => by injection e with e; subst e; exact h.ap z hz)⟩
 ·
  rcases zJU h.nd hk hy with rfl | ⟨hy, hne⟩
  · exact ⟨(h.f z hz).1, bk⟩
  exact ⟨(h.f y hy).1, (h.f y hy).2.grown g (fun e => by injection e with e; exact hne e.symm)⟩
 rcases zJU h.nd hk hy with rfl | ⟨hy, hne⟩
 · exact h.ap z hz
 exact h.ap y hy
theorem Nst.pu (h : Nst w0 w x0 L x d W) (k g : Nat) (t : TypeId) (old : Array Value) {cs : Array Value} (hk : L[k]? = some ⟨g, t, old⟩) (bk : Blk W' g t cs) (gr : W.grownBy W' (some g)) : Nst w0 w x0 (L.set k ⟨g, t, cs⟩) x d W' := h.put k hk bk gr
theorem zKw {b : Nat} (o : zH b W W') : W.grownBy W' (some b) := ⟨o.os, o.tape, o.output, o.size, fun k hk e => o.block k (fun e' => e (by rw [e'])) hk⟩
theorem Nst.cell (h : Nst w0 w x0 L x d W) (k : Nat) {z : Cel} (hk : L[k]? = some z) (i : Nat) (u : Value) : Nst w0 w x0 (L.set k ⟨z.g, z.t, z.cs.setIfInBounds i u⟩) x d (W.setCell ⟨z.g, i, none⟩ u) :=
 h.put k hk ((h.blk hk).set_ i u) (zKw (jk z.g i u))
theorem Nst.ce (h : Nst w0 w x0 L x d W) (k g : Nat) (t : TypeId) (old : Array Value) (hk : L[k]? = some ⟨g, t, old⟩) (i : Nat) (u : Value) : Nst w0 w x0 (L.set k ⟨g, t, old.setIfInBounds i u⟩) x d (W.setCell ⟨g, i, none⟩ u) := h.cell k hk i u
theorem Nst.new (h : Nst w0 w x0 L x d W) (g : Nat) (t : TypeId) (cs : Array Value) (hg : g = W.heap.size) : Nst w0 w x0 (L ++ [⟨g, t, cs⟩]) x d (W.alloc (.cells cs t)) := by
 subst hg;have hu := h.up ((Below.refl _ W).alloc (Nat.le_refl _) (.cells cs t));refine ⟨h.s, hu.b, hu.c, fun z hz => ?_, ?_, fun z hz => ?_, h.kn, hu.o⟩
 ·
  rcases List.mem_append.1 hz with hz | hz
  · exact hu.f z hz
  simp only [List.mem_singleton] at hz;subst hz;exact ⟨h.c.size, Blk.new _ _ _⟩
 · rw [List.map_append, List.nodup_append];refine ⟨h.nd, by simp, fun a ha b hb => ?_⟩;simp only [List.map_cons, List.map_nil, List.mem_singleton] at hb;obtain ⟨z, hz, rfl⟩ := List.mem_map.1 ha;have := (h.f z hz).2.lt;omega
 rcases List.mem_append.1 hz with hz | hz
 · exact h.ap z hz
 simp only [List.mem_singleton] at hz;subst hz;exact fun e => by have := (h.o.own e).2; simp only at this; omega
theorem Nst.b0 {g : Nat} {t : TypeId} {old : Array Value} (h : Nst w0 w x0 (⟨g, t, old⟩ :: L) x d W) : Blk W g t old := h.bl 0 _ _ _ rfl
theorem Nst.p0 {g : Nat} {t : TypeId} {old : Array Value} {cs : Array Value} (h : Nst w0 w x0 (⟨g, t, old⟩ :: L) x d W) (bk : Blk W' g t cs) (gr : W.grownBy W' (some g)) : Nst w0 w x0 (⟨g, t, cs⟩ :: L) x d W' := h.pu 0 _ _ _ rfl bk gr
theorem Nst.c0 {g : Nat} {t : TypeId} {old : Array Value} (h : Nst w0 w x0 (⟨g, t, old⟩ :: L) x d W) (i : Nat) (u : Value) : Nst w0 w x0 (⟨g, t, old.setIfInBounds i u⟩ :: L) x d (W.setCell ⟨g, i, none⟩ u) := h.ce 0 _ _ _ rfl i u
theorem Nst.b1 {z0 : Cel} {g : Nat} {t : TypeId} {old : Array Value} (h : Nst w0 w x0 (z0 :: ⟨g, t, old⟩ :: L) x d W) : Blk W g t old := h.bl 1 _ _ _ rfl
theorem Nst.p1 {z0 : Cel} {g : Nat} {t : TypeId} {old : Array Value} {cs : Array Value} (h : Nst w0 w x0 (z0 :: ⟨g, t, old⟩ :: L) x d W) (bk : Blk W' g t cs) (gr : W.grownBy W' (some g)) : Nst w0 w x0 (z0 :: ⟨g, t, cs⟩ :: L) x d W' := h.pu 1 _ _ _ rfl bk gr
theorem Nst.c1 {z0 : Cel} {g : Nat} {t : TypeId} {old : Array Value} (h : Nst w0 w x0 (z0 :: ⟨g, t, old⟩ :: L) x d W) (i : Nat) (u : Value) : Nst w0 w x0 (z0 :: ⟨g, t, old.setIfInBounds i u⟩ :: L) x d (W.setCell ⟨g, i, none⟩ u) := h.ce 1 _ _ _ rfl i u
theorem Nst.b2 {z0 z1 : Cel} {g : Nat} {t : TypeId} {old : Array Value} (h : Nst w0 w x0 (z0 :: z1 :: ⟨g, t, old⟩ :: L) x d W) : Blk W g t old := h.bl 2 _ _ _ rfl
theorem Nst.p2 {z0 z1 : Cel} {g : Nat} {t : TypeId} {old : Array Value} {cs : Array Value} (h : Nst w0 w x0 (z0 :: z1 :: ⟨g, t, old⟩ :: L) x d W) (bk : Blk W' g t cs) (gr : W.grownBy W' (some g)) : Nst w0 w x0 (z0 :: z1 :: ⟨g, t, cs⟩ :: L) x d W' := h.pu 2 _ _ _ rfl bk gr
theorem Nst.c2 {z0 z1 : Cel} {g : Nat} {t : TypeId} {old : Array Value} (h : Nst w0 w x0 (z0 :: z1 :: ⟨g, t, old⟩ :: L) x d W) (i : Nat) (u : Value) : Nst w0 w x0 (z0 :: z1 :: ⟨g, t, old.setIfInBounds i u⟩ :: L) x d (W.setCell ⟨g, i, none⟩ u) := h.ce 2 _ _ _ rfl i u
theorem Nst.b3 {z0 z1 z2 : Cel} {g : Nat} {t : TypeId} {old : Array Value} (h : Nst w0 w x0 (z0 :: z1 :: z2 :: ⟨g, t, old⟩ :: L) x d W) : Blk W g t old := h.bl 3 _ _ _ rfl
theorem Nst.p3 {z0 z1 z2 : Cel} {g : Nat} {t : TypeId} {old : Array Value} {cs : Array Value} (h : Nst w0 w x0 (z0 :: z1 :: z2 :: ⟨g, t, old⟩ :: L) x d W) (bk : Blk W' g t cs) (gr : W.grownBy W' (some g)) : Nst w0 w x0 (z0 :: z1 :: z2 :: ⟨g, t, cs⟩ :: L) x d W' := h.pu 3 _ _ _ rfl bk gr
theorem Nst.c3 {z0 z1 z2 : Cel} {g : Nat} {t : TypeId} {old : Array Value} (h : Nst w0 w x0 (z0 :: z1 :: z2 :: ⟨g, t, old⟩ :: L) x d W) (i : Nat) (u : Value) : Nst w0 w x0 (z0 :: z1 :: z2 :: ⟨g, t, old.setIfInBounds i u⟩ :: L) x d (W.setCell ⟨g, i, none⟩ u) := h.ce 3 _ _ _ rfl i u
theorem Nst.b4 {z0 z1 z2 z3 : Cel} {g : Nat} {t : TypeId} {old : Array Value} (h : Nst w0 w x0 (z0 :: z1 :: z2 :: z3 :: ⟨g, t, old⟩ :: L) x d W) : Blk W g t old := h.bl 4 _ _ _ rfl
theorem Nst.p4 {z0 z1 z2 z3 : Cel} {g : Nat} {t : TypeId} {old : Array Value} {cs : Array Value} (h : Nst w0 w x0 (z0 :: z1 :: z2 :: z3 :: ⟨g, t, old⟩ :: L) x d W) (bk : Blk W' g t cs) (gr : W.grownBy W' (some g)) : Nst w0 w x0 (z0 :: z1 :: z2 :: z3 :: ⟨g, t, cs⟩ :: L) x d W' := h.pu 4 _ _ _ rfl bk gr
theorem Nst.c4 {z0 z1 z2 z3 : Cel} {g : Nat} {t : TypeId} {old : Array Value} (h : Nst w0 w x0 (z0 :: z1 :: z2 :: z3 :: ⟨g, t, old⟩ :: L) x d W) (i : Nat) (u : Value) : Nst w0 w x0 (z0 :: z1 :: z2 :: z3 :: ⟨g, t, old.setIfInBounds i u⟩ :: L) x d (W.setCell ⟨g, i, none⟩ u) := h.ce 4 _ _ _ rfl i u
theorem Nst.b5 {z0 z1 z2 z3 z4 : Cel} {g : Nat} {t : TypeId} {old : Array Value} (h : Nst w0 w x0 (z0 :: z1 :: z2 :: z3 :: z4 :: ⟨g, t, old⟩ :: L) x d W) : Blk W g t old := h.bl 5 _ _ _ rfl
theorem Nst.p5 {z0 z1 z2 z3 z4 : Cel} {g : Nat} {t : TypeId} {old : Array Value} {cs : Array Value} (h : Nst w0 w x0 (z0 :: z1 :: z2 :: z3 :: z4 :: ⟨g, t, old⟩ :: L) x d W) (bk : Blk W' g t cs) (gr : W.grownBy W' (some g)) : Nst w0 w x0 (z0 :: z1 :: z2 :: z3 :: z4 :: ⟨g, t, cs⟩ :: L) x d W' := h.pu 5 _ _ _ rfl bk gr
theorem Nst.c5 {z0 z1 z2 z3 z4 : Cel} {g : Nat} {t : TypeId} {old : Array Value} (h : Nst w0 w x0 (z0 :: z1 :: z2 :: z3 :: z4 :: ⟨g, t, old⟩ :: L) x d W) (i : Nat) (u : Value) : Nst w0 w x0 (z0 :: z1 :: z2 :: z3 :: z4 :: ⟨g, t, old.setIfInBounds i u⟩ :: L) x d (W.setCell ⟨g, i, none⟩ u) := h.ce 5 _ _ _ rfl i u
theorem Nst.b6 {z0 z1 z2 z3 z4 z5 : Cel} {g : Nat} {t : TypeId} {old : Array Value} (h : Nst w0 w x0 (z0 :: z1 :: z2 :: z3 :: z4 :: z5 :: ⟨g, t, old⟩ :: L) x d W) : Blk W g t old := h.bl 6 _ _ _ rfl
theorem Nst.p6 {z0 z1 z2 z3 z4 z5 : Cel} {g : Nat} {t : TypeId} {old : Array Value} {cs : Array Value} (h : Nst w0 w x0 (z0 :: z1 :: z2 :: z3 :: z4 :: z5 :: ⟨g, t, old⟩ :: L) x d W) (bk : Blk W' g t cs) (gr : W.grownBy W' (some g)) : Nst w0 w x0 (z0 :: z1 :: z2 :: z3 :: z4 :: z5 :: ⟨g, t, cs⟩ :: L) x d W' := h.pu 6 _ _ _ rfl bk gr
theorem Nst.c6 {z0 z1 z2 z3 z4 z5 : Cel} {g : Nat} {t : TypeId} {old : Array Value} (h : Nst w0 w x0 (z0 :: z1 :: z2 :: z3 :: z4 :: z5 :: ⟨g, t, old⟩ :: L) x d W) (i : Nat) (u : Value) : Nst w0 w x0 (z0 :: z1 :: z2 :: z3 :: z4 :: z5 :: ⟨g, t, old.setIfInBounds i u⟩ :: L) x d (W.setCell ⟨g, i, none⟩ u) := h.ce 6 _ _ _ rfl i u
theorem Nst.call (h : Nst w0 w x0 L x d W) (c : Chg x W W') (k : Kin x W y) (o : Rows W' w0.heap.size y d2) : Nst w0 w x0 L y d2 W' := by
 refine ⟨h.s, h.b.trans (c.below h.o h.b.size), h.c.chg c h.kn, fun z hz => ⟨(h.f z hz).1, ?_⟩, h.nd, fun z hz e => ?_, fun i hi => ?_, o⟩
 · have hb := (h.f z hz).2;exact (c.block z.g hb.lt (h.ap z hz)).trans hb
 ·
  rcases k _ e with e | e
  · exact h.ap z hz e
  have := (h.f z hz).2.lt; omega
 rcases k i hi with e | e
 · exact h.kn i e
 exact .inr (Nat.le_trans h.c.size e)
theorem Chg.of_row {r : Option Nat} (g : W.grownBy W' r) (hr : ∀ k, r = some k → x.own k) : Chg x W W' := (Chg.refl x W).grown g fun k e => .inl (hr k e)
theorem Nst.addn (h : Nst w0 w x0 L x d W) {v : Value} {z : Nte} (ho : yY W' w0.heap.size v (d.sc.notes ++ [z])) (g : W.grownBy W' x.n.ownBlock) (hv : v.ownBlock = x.n.ownBlock ∨ v.ownBlock = some W.heap.size) : Nst w0 w x0 L ⟨v, x.p, x.q, x.u⟩ ⟨{ d.sc with notes := d.sc.notes ++ [z] }, d.names⟩ W' := by
 refine h.call (Chg.of_row g fun k e => .inl e) (fun k hk => ?_) ⟨ho, h.o.p.kept g (zu h.o.p h.o.n (by decide)), h.o.q.kept g (zu h.o.q h.o.n (by decide)), World.ownsRow.kept h.o.u g (zu h.o.u h.o.n (by decide))⟩;rcases hk with hk | hk
 ·
  rcases hv with e | e
  · exact .inl (.inl (e.symm.trans hk))
  rw [e] at hk; injection hk with hk; exact .inr (by omega)
 exact .inl (.inr hk)
theorem Nst.addp (h : Nst w0 w x0 L x d W) {v : Value} {z : Par} (ho : zn W' w0.heap.size v (d.sc.pairs ++ [z])) (g : W.grownBy W' x.p.ownBlock) (hv : v.ownBlock = x.p.ownBlock ∨ v.ownBlock = some W.heap.size) : Nst w0 w x0 L ⟨x.n, v, x.q, x.u⟩ (d.pair z) W' := by
 refine h.call (Chg.of_row g fun k e => .inr (.inl e)) (fun k hk => ?_) ⟨h.o.n.kept g (zu h.o.n h.o.p (by decide)), ho, h.o.q.kept g (zu h.o.q h.o.p (by decide)), World.ownsRow.kept h.o.u g (zu h.o.u h.o.p (by decide))⟩;rcases hk with hk | hk | hk
 · exact .inl (.inl hk)
 ·
  rcases hv with e | e
  · exact .inl (.inr (.inl (e.symm.trans hk)))
  exact zL4
 exact .inl (.inr (.inr hk))
theorem Nst.addq (h : Nst w0 w x0 L x d W) {v : Value} {z : Int} (ho : yO W' w0.heap.size v (itg d.sc.cad ++ [⟨z⟩])) (g : W.grownBy W' x.q.ownBlock) (hv : v.ownBlock = x.q.ownBlock ∨ v.ownBlock = some W.heap.size) : Nst w0 w x0 L ⟨x.n, x.p, v, x.u⟩ (d.cad z) W' := by
 refine h.call (Chg.of_row g fun k e => .inr (.inr (.inl e))) (fun k hk => ?_) ⟨h.o.n.kept g (zu h.o.n h.o.q (by decide)), h.o.p.kept g (zu h.o.p h.o.q (by decide)), by show yO _ _ _ (itg (d.sc.cad ++ [z])); rw [zDa]; exact ho, World.ownsRow.kept h.o.u g (zu h.o.u h.o.q (by decide))⟩;rcases hk with hk | hk | hk | hk
 · exact .inl (.inl hk)
 · exact .inl (.inr (.inl hk))
 ·
  rcases hv with e | e
  · exact .inl (.inr (.inr (.inl (e.symm.trans hk))))
  exact zL4
 exact .inl (.inr (.inr (.inr hk)))
theorem Nst.addu (h : Nst w0 w x0 L x d W) {v : Value} {z : List UInt8} (ho : kk W' w0.heap.size v (d.names ++ [z])) (g : W.grownBy W' x.u.ownBlock) (hv : v.ownBlock = x.u.ownBlock ∨ v.ownBlock = some W.heap.size) : Nst w0 w x0 L ⟨x.n, x.p, x.q, v⟩ ⟨d.sc, d.names ++ [z]⟩ W' := by
 refine h.call (Chg.of_row g fun k e => .inr (.inr (.inr e))) (fun k hk => ?_) ⟨h.o.n.kept g (zu h.o.n h.o.u (by decide)), h.o.p.kept g (zu h.o.p h.o.u (by decide)), h.o.q.kept g (zu h.o.q h.o.u (by decide)), ho⟩;rcases hk with hk | hk | hk | hk
 · exact .inl (.inl hk)
 · exact .inl (.inr (.inl hk))
 · exact .inl (.inr (.inr (.inl hk)))
 rcases hv with e | e
 · exact .inl (.inr (.inr (.inr (e.symm.trans hk))))
 exact zL4
end
def zJQ (w : World) (B : Nat) (A : Option Addr) (l : List (List UInt8)) : Prop := zQ w B 1 A l.length (l.map str)
theorem kk.shape {w : World} {base : Nat} {v : Value} {ss : List (List UInt8)} (h : kk w base v ss) : ∃ A c, v = .slice A ss.length c ∧ ss.length ≤ c ∧ zJQ w w.heap.size A ss := by
 exact m53
def zCE (L : List Cel) (W : World) : Prop := ∀ z ∈ L, Blk W z.g z.t z.cs
theorem zCE.get {L : List Cel} {W : World} (h : zCE L W) {k : Nat} {z : Cel} (hk : L[k]? = some z) : Blk W z.g z.t z.cs := h z (List.mem_of_getElem? hk)
theorem Nst.sees {w0 w W : World} {x0 x : Rw} {d : Drf} {L : List Cel} (h : Nst w0 w x0 L x d W) : zCE L W := fun z hz => (h.f z hz).2
theorem zCE.sub {L M : List Cel} {W : World} (h : zCE L W) (hs : ∀ z ∈ M, z ∈ L) : zCE M W := fun z hz => h z (hs z hz)
open Go.RowKit Go.Deep
theorem zLY {w : World} {B : Nat} {A : Option Addr} {l : List (List UInt8)} (h : zJQ w B A l) {i : Nat} (hi : i < l.length) : ∃ ad, A = some ad ∧ ad.block < B ∧ w.cell? (ad.add i) = some (str (l.getD i [])) := by
 obtain ⟨ad, u, rfl, hb, hu, hc⟩ := zQ.at_ h hi;refine ⟨ad, rfl, hb, ?_⟩;rw [hc, zN hi];rw [List.getElem?_map, List.getElem?_eq_getElem hi] at hu;exact hu.symm
theorem zKg {l : List (List UInt8)} {s : List UInt8} {j : Nat} (hj : j < l.length) (h : l.getD j [] = s) (hb : ∀ t, t < j → l.getD t [] ≠ s) : jL l s = j := by
 unfold jL xY;rw [zFc (p := (· == s)) [] hj (by simpa using h) (fun t ht => by simpa using hb t ht)]
theorem zJy {l : List (List UInt8)} {s : List UInt8} (hb : ∀ t, t < l.length → l.getD t [] ≠ s) : jL l s = -1 := by
 unfold jL xY;rw [zFe (p := (· == s)) [] (fun t ht => by simpa using hb t ht)]
theorem zJh (l : List (List UInt8)) (s : List UInt8) : decide (jL l s < 0) = (xY l s).isNone := by
 unfold jL
 cases xY l s with
 | none => rfl
 | some i =>
  simp only [Option.isNone_some, decide_eq_false_iff_not];omega
theorem zJp (l : List (List UInt8)) (s : List UInt8) : decide (0 ≤ jL l s) = (xY l s).isSome := by
 unfold jL
 cases xY l s with
 | none => rfl
 | some i => simp
theorem zEg (w : World) (V : Int) (An Ap Aq A : Option Addr) (nn np nq cn cp cq c : Nat) (l : List (List UInt8)) (hR : zJQ w w.heap.size A l) (hl : l.length ≤ 1000000) (s : List UInt8) :
 Calls Tryz.prog 122 #[.agg #[.int .i64 V, .slice An nn cn, .slice Ap np cp, .slice Aq nq cq, .slice A l.length c], str s] w fun e w' => e = .returned (.int .i64 (jL l s)) ∧ Below w.heap.size w w' := by
 obtain ⟨r, hr⟩ : ∃ r, r = jL l s := ⟨_, rfl⟩
 rw [← hr];have HR := hid hr;have HQ := hid hR;obtain ⟨n, hn⟩ : ∃ n, n = l.length := ⟨_, rfl⟩
 rw [← hn] at hl ⊢;have HN := hid hn;clear hr hR hn;have S0 := hid (Blk.new w 76 #[.int .i64 V, .slice An nn cn, .slice Ap np cp, .slice Aq nq cq, .slice A n c]);have B0 := hid ((Below.refl w.heap.size w).alloc (Nat.le_refl _) (.cells #[.int .i64 V, .slice An nn cn, .slice Ap np cp, .slice Aq nq cq, .slice A n c] 76));obtain ⟨w0, hw0⟩ : ∃ w0, w0 = w.alloc (.cells #[.int .i64 V, .slice An nn cn, .slice Ap np cp, .slice Aq nq cq, .slice A n c] 76) := ⟨_, rfl⟩
 rw [← hw0] at S0 B0;have x4 := S0.out.cell 4;go_enter Tryz.func122, Tryz.ntmps122
 go_upto_region 1 with (fail)
 rw [← hw0];clear hw0;go_wp2_with fail
 go_loopw [5] (fun i wx => ∃ j : Nat, j ≤ n ∧ i = .int .i64 j ∧ Hid (wx = w0) ∧ Hid (∀ t, t < j → l.getD t [] ≠ s)) (fun i _ => n - (zD i).toNat)
 case atStart => exact ⟨0, Nat.zero_le _, rfl, hid rfl, hid fun t ht => by omega⟩
 case round =>
  obtain ⟨j, hj, rfl, HW, HT⟩ := hrel;obtain rfl : wr = w0 := HW.out;by_cases hlt : j < n
  ·
   obtain ⟨ad, rfl, hab, hc⟩ := zLY (i := j) HQ.out (by rw [← HN.out]; exact hlt);have c1 : wr.cell? (ad.add j) = some (str (l.getD j [])) := (B0.out.cell (by rw [zs]; exact hab)).trans hc;obtain ⟨u, hu⟩ : ∃ u, l.getD j [] = u := ⟨_, rfl⟩
   rw [hu] at c1;have HU := hid hu;have e1 := zHm u s;have r1 : IntKind.i64.wrap ((j : Int) + 1) = ((j + 1 : Nat) : Int) := by rw [IntKind.wrap_i64]; omega
   clear hu hc hab;by_cases hus : u = s
   ·
    have e2 : (u == s) = true := by simpa using hus
    rw [decide_eq_true hus] at e1;have HR2 : Hid (r = (j : Int)) := hid (by rw [HR.out]; exact zKg (by rw [← HN.out]; exact hlt) (by rw [HU.out]; exact hus) HT.out);clear hus;go_wp2_with fail
    go_ret;rw [HR2.out];exact ⟨rfl, B0.out⟩
   have e2 : (u == s) = false := by simpa using hus
   rw [decide_eq_false hus] at e1
   have HT2 : Hid (∀ t, t < j + 1 → l.getD t [] ≠ s) := hid fun t ht => by
    rcases Nat.lt_or_ge t j with h | h
    · exact HT.out t h
    rw [show t = j by omega, HU.out]; exact hus
   clear hus;exact m99
  have HR2 : Hid (r = -1) := hid (by rw [HR.out]; exact zJy fun t ht => HT.out t (by have := HN.out; omega));(go_wp2_with fail);go_ret;rw [HR2.out];exact ⟨rfl, B0.out⟩
def rw0 : Rw := ⟨.slice none 0 0, .slice none 0 0, .slice none 0 0, .slice none 0 0⟩
def zL6 : Drf := ⟨jB, []⟩
theorem zLQ (w : World) (B : Nat) : Rows w B rw0 zL6 := ⟨yY.start _ _, zn.start _ _, yO.start _ _, kk.start _ _⟩
theorem zLn (k : Nat) : ¬ rw0.own k := by
 rintro (h | h | h | h) <;> cases h
theorem Chg.zero {w W : World} (h : Chg rw0 w W) : Below w.heap.size w W := ⟨h.os, h.tape, h.output, h.size, fun k hk => h.block k hk (zLn k)⟩
theorem zG8 (w0 w : World) (hb : Below w0.heap.size w0 w) (A : Option Addr) (c en : Nat) (ts : List Tok) (q : Qr) (hT : TkR w0 A ts) (hi : q.i ≤ ts.length) (hts : ∀ t ∈ ts, t.text.length ≤ 8000) (hxs : ∀ t ∈ ts, t.n ≤ 10000000)
 (V : Int) (An Ap Aq Au : Option Addr) (nn np nq cn cp cq cu : Nat) (l : List (List UInt8)) (hR : zJQ w w.heap.size Au l) (hl : l.length ≤ 1000000) :
 Calls Tryz.prog 124 #[.agg (q.cells A ts.length c en), .agg #[.int .i64 V, .slice An nn cn, .slice Ap np cp, .slice Aq nq cq, .slice Au l.length cu]] w fun e w' => e = .returned (.tuple #[.int .i64 (xD ts en l q).1, .agg ((xD ts en l q).2.cells A ts.length c en)]) ∧ Below w.heap.size w w' := by
 have hT8 := hT.n;obtain ⟨n, hn⟩ : ∃ n, n = ts.length := ⟨_, rfl⟩
 have HI : Hid (∀ W, Below w0.heap.size w0 W → ∀ q s b, isQ ts q s = b → q.i ≤ n → Calls Tryz.prog 81 #[.agg (q.cells A n c en), str s] W fun e w' => e = .returned (.bool b) ∧ Below W.heap.size W w') := hid fun W hb q s b h1 h2 => by
  subst h1; rw [hn]; exact zAW W A c en ts q s (hT.up hb) (by omega)
 have HS : Hid (∀ W, Below w0.heap.size w0 W → ∀ q s q1, zK ts en q s = q1 → q.i ≤ n → Calls Tryz.prog 79 #[.agg (q.cells A n c en), str s] W fun e w' => e = .returned (.agg (q1.cells A n c en)) ∧ Below W.heap.size W w') := hid fun W hb q s b h1 h2 => by
  subst h1; rw [hn]; exact qX W A c en ts q s (hT.up hb) (by omega)
 have HW : Hid (∀ W, Below w0.heap.size w0 W → ∀ q (ke : Nat) (ki : Int), ki = ke → ∀ q1, yG ts en q ke = q1 → q.i ≤ n → Calls Tryz.prog 84 #[.agg (q.cells A n c en), .int .i64 ki] W fun e w' => e = .returned (.agg (q1.cells A n c en)) ∧ Below W.heap.size W w') := hid fun W hb q ke ki hk q1 h1 h2 => by
  subst h1; rw [hn]; exact xl W A c en ts q ke ki hk (hT.up hb) (by omega)
 have HN : Hid (∀ W, Below w0.heap.size w0 W → ∀ q nv q1, zg ts q = nv ∧ zM ts en q = q1 → q.i ≤ n → Calls Tryz.prog 80 #[.agg (q.cells A n c en)] W fun e w' => e = .returned (.tuple #[.int .i64 (nv : Nat), .agg (q1.cells A n c en)]) ∧ Below W.heap.size W w') := hid fun W hb q nv q1 h1 h2 => by
  obtain ⟨rfl, rfl⟩ := h1; rw [hn]; exact jA W A c en ts q (hT.up hb) (by omega)
 have HK : Hid (∀ W, Below w0.heap.size w0 W → ∀ q s q1, kT ts q = s ∧ vB ts en q = q1 → q.i ≤ n → Calls Tryz.prog 121 #[.agg (q.cells A n c en)] W fun e w' => e = .returned (.tuple #[str s, .agg (q1.cells A n c en)]) ∧ Below W.heap.size W w') := hid fun W hb q s q1 h1 h2 => by
  exact zK3
 have HV : Hid (∀ W, Below w0.heap.size w0 W → ∀ q v q1, (zh ts en q).1 = v ∧ (zh ts en q).2 = q1 → q.i ≤ n → Calls Tryz.prog 123 #[.agg (q.cells A n c en)] W fun e w' => e = .returned (.tuple #[.agg v.cells, .agg (q1.cells A n c en)]) ∧ Below W.heap.size W w') := hid fun W hb q v q1 h1 h2 => by
  exact zLy
 have HF' : Hid (∀ W, Below w.heap.size w W → ∀ s r, jL l s = r → Calls Tryz.prog 122 #[.agg #[.int .i64 V, .slice An nn cn, .slice Ap np cp, .slice Aq nq cq, .slice Au l.length cu], str s] W fun e w' => e = .returned (.int .i64 r) ∧ Below W.heap.size W w') := hid fun W hb s r h1 => by
  subst h1; exact zEg W V An Ap Aq Au nn np nq cn cp cq cu l ((zQ.below hR hb).wider hb.size) hl s
 have HB0 := hid hb;obtain ⟨R, hR2⟩ : ∃ R, R = xD ts en l q := ⟨_, rfl⟩
 obtain ⟨nu, hnu⟩ : ∃ nu, nu = l.length := ⟨_, rfl⟩
 rw [← hR2, ← hn, ← hnu];rw [← hnu] at HF';rw [← hn] at hi;have HR := hid hR2;obtain ⟨s, hs⟩ : ∃ s, kT ts q = s := ⟨_, rfl⟩
 obtain ⟨q1, hq1⟩ : ∃ q1, vB ts en q = q1 := ⟨_, rfl⟩
 obtain ⟨r, hr⟩ : ∃ r, jL l s = r := ⟨_, rfl⟩
 obtain ⟨qw, hqw⟩ : ∃ qw, yG ts en q 11 = qw := ⟨_, rfl⟩
 have HQ1 := hid (And.intro hs hq1);have HFR := hid hr;have HQW := hid hqw;have HL : Hid (zBC ts en l q = (decide (q1.e = 0) && decide (r < 0))) := hid (by unfold zBC; rw [hq1, hs, ← hr, zJh]);have HRR : Hid (R = if zBC ts en l q then (-1, qw) else (r, q1)) := hid (by rw [hR2, ← hqw, ← hr, ← hs, ← hq1]; rfl);clear hR2 hn hnu hs hq1 hr hqw hR hT hts hxs HR hb;go_enter Tryz.func124, Tryz.ntmps124
 go_upto_region 1 with (fail)
 obtain ⟨w1, hw1⟩ : ∃ w1, w1 = ((w.alloc (.cells #[.slice A n c, .int .i64 (en : Int), .int .i64 (q.i : Int), .int .i64 (q.pos : Int), .int .i64 (q.e : Int)] 74)).alloc (.cells #[.int .i64 V, .slice An nn cn, .slice Ap np cp, .slice Aq nq cq, .slice Au nu cu] 76)).alloc (.cells zy 74) := ⟨_, rfl⟩
 have HF : Hid (Nst w0 w rw0 [⟨w.heap.size, 74, #[.slice A n c, .int .i64 (en : Int), .int .i64 (q.i : Int), .int .i64 (q.pos : Int), .int .i64 (q.e : Int)]⟩, ⟨w.heap.size + 1, 76, #[.int .i64 V, .slice An nn cn, .slice Ap np cp, .slice Aq nq cq, .slice Au nu cu]⟩, ⟨w.heap.size + 1 + 1, 74, zy⟩] rw0 zL6 w1) := hid (by
  rw [hw1];exact (((Nst.base HB0.out (zLQ _ _)).new _ 74 _ rfl).new _ 76 _ (by simp)).new _ 74 zy (by simp))
 have HZ : Hid (w1.heap.size = w.heap.size + 1 + 1 + 1) := hid (by rw [hw1]; simp);rw [← hw1];clear hw1;go_upto_region 2 with (first | (refine zp 74 HF.out.b0 Tryz.underlying74 zE ?_) | (refine zI rfl 74 (.tmp 6) (.tmp 9) rfl w1.heap.size (q.cells A n c en) rfl rfl 74 (zy) (Blk.new w1 _ _) zE rfl (Qr.all_one _ _ _ _ _) ?_; intro w9 b9 g9 z9; replace HF := hid ((HF.out.new w1.heap.size 74 (zy) rfl).p3 b9 g9); clear b9 g9 z9; try simp only [Act.put, sS]))
 obtain ⟨ga, hga⟩ : ∃ g, g = w1.heap.size := ⟨_, rfl⟩
 rw [← hga] at HF ⊢;clear hga;go_upto_region 3 with (first | (refine zp 74 HF.out.b0 Tryz.underlying74 zE ?_) | (go_at_call 121; with_reducible refine (HK.out _ HF.out.b q s q1 HQ1.out hi).mono ?_; rintro e w2 ⟨rfl, b2⟩; replace HF := hid (HF.out.up b2); clear b2) | (refine xJ 74 (q1.cells A n c en) HF.out.b0 zE (Qr.all_one _ _ _ _ _) ?_; intro w9 b9 g9 z9; replace HF := hid (HF.out.p0 b9 g9); clear b9 g9 z9; try simp only [Act.put, sS]))
 go_upto_region 4 with (first | (refine zp 76 HF.out.b1 Tryz.underlying76 kj ?_) | (go_at_call 122; with_reducible refine (HF'.out _ HF.out.c.zero s r HFR.out).mono ?_; rintro e w2 ⟨rfl, b2⟩; replace HF := hid (HF.out.up b2); clear b2))
 have y4 := HF.out.b0.cell 4;by_cases h0 : q1.e = 0
 ·
  have hk0 : ((q1.e : Int) == 0) = true := by rw [beq_iff_eq]; omega
  by_cases hr : r < 0
  ·
   have HRX : Hid (R = (-1, qw)) := hid (by rw [HRR.out, HL.out, decide_eq_true h0, decide_eq_true hr]; rfl);clear h0;go_wp2_with (first | (refine zp 74 HF.out.b3 Tryz.underlying74 zE ?_) | (go_at_call 84; with_reducible refine (HW.out _ HF.out.b q 11 11 rfl qw HQW.out hi).mono ?_; rintro e w2 ⟨rfl, b2⟩; replace HF := hid (HF.out.up b2); clear b2) | (refine xJ 74 (qw.cells A n c en) HF.out.b2 zE (Qr.all_one _ _ _ _ _) ?_; intro w9 b9 g9 z9; replace HF := hid (HF.out.p2 b9 g9); clear b9 g9 z9; try simp only [Act.put, sS]))
   refine bodyPost_ret (yZ rfl _ ⟨w.heap.size + 1 + 1, 0, none⟩ rfl _ Tryz.underlying74 rfl _ (qw.cells A n c en) zE (zO HF.out.b2)) rfl ?_;exact ⟨by rw [HRX.out]; rfl, HF.out.c.zero⟩
  have HRX : Hid (R = (r, q1)) := hid (by rw [HRR.out, HL.out, decide_eq_false hr]; simp);clear h0;go_upto_region 6 with (fail)
  replace HF := hid HF.out.drew;refine jF (zCE [⟨w.heap.size, 74, q1.cells A n c en⟩]) (HF.out.drew.sees.sub (by simp)) fun hHeld => ?_
  refine zJ 0 ?_;refine zJ 1 ?_ (hy := Or.inl ⟨by rfl, fun w hSw => by have k0 := hSw.get (k := 0) rfl; have x0 := k0.cell 0; have x1 := k0.cell 1; have x2 := k0.cell 2; have x3 := k0.cell 3; have x4 := k0.cell 4; clear k0 hSw; go_simp; try with_reducible rfl⟩);refine zJ 2 ?_;refine yL 3 ?_;intro K hK;refine jV 74 (q1.cells A n c en) HF.out.b2 zE (Qr.all_one _ _ _ _ _) ?_;intro w9 b9 g9 z9;replace HF := hid (HF.out.p2 b9 g9);clear b9 g9 z9;refine zq hK (HF.out.sees.sub (by simp)) fun hHeld => ?_
  clear hK K;refine jc ?_;go_wp2_with fail
  refine bodyPost_ret (yZ rfl _ ⟨w.heap.size + 1 + 1, 0, none⟩ rfl _ Tryz.underlying74 rfl _ (q1.cells A n c en) zE (zO HF.out.b2)) rfl ?_;exact ⟨by rw [HRX.out]; rfl, HF.out.c.zero⟩
 have hk0 : ((q1.e : Int) == 0) = false := by rw [beq_eq_false_iff_ne]; omega
 have HRX : Hid (R = (r, q1)) := hid (by rw [HRR.out, HL.out, decide_eq_false h0]; simp);clear h0;go_upto_region 6 with (fail)
 replace HF := hid HF.out.drew;refine jF (zCE [⟨w.heap.size, 74, q1.cells A n c en⟩]) (HF.out.drew.sees.sub (by simp)) fun hHeld => ?_
 refine zJ 0 ?_;refine zJ 1 ?_ (hy := Or.inl ⟨by rfl, fun w hSw => by have k0 := hSw.get (k := 0) rfl; have x0 := k0.cell 0; have x1 := k0.cell 1; have x2 := k0.cell 2; have x3 := k0.cell 3; have x4 := k0.cell 4; clear k0 hSw; go_simp; try with_reducible rfl⟩);refine zJ 2 ?_;refine yL 3 ?_;intro K hK;refine jV 74 (q1.cells A n c en) HF.out.b2 zE (Qr.all_one _ _ _ _ _) ?_;intro w9 b9 g9 z9;replace HF := hid (HF.out.p2 b9 g9);clear b9 g9 z9;refine zq hK (HF.out.sees.sub (by simp)) fun hHeld => ?_
 clear hK K;refine jc ?_;go_wp2_with fail
 refine bodyPost_ret (yZ rfl _ ⟨w.heap.size + 1 + 1, 0, none⟩ rfl _ Tryz.underlying74 rfl _ (q1.cells A n c en) zE (zO HF.out.b2)) rfl ?_;exact ⟨by rw [HRX.out]; rfl, HF.out.c.zero⟩
open Go.RowKit Go.Deep
def zDS (w0 w : World) (A : Option Addr) (n c en : Nat) (V : Int) (x : Rw) (q : Qr) (d : Drf) (e : Ending) (w' : World) : Prop :=
 ∃ y : Rw, e = .returned (.tuple #[.agg (q.cells A n c en), .agg (qq y V)]) ∧ Chg x w w' ∧ Kin x w y ∧ Rows w' w0.heap.size y d
theorem Nst.ends {w0 w W : World} {x0 x : Rw} {L : List Cel} {d d' : Drf} {A : Option Addr} {n c en : Nat} {V : Int} {q : Qr} (h : Nst w0 w x0 L x d W) (hd : d = d') : zDS w0 w A n c en V x0 q d' (.returned (.tuple #[.agg (q.cells A n c en), .agg (qq x V)])) W :=
 ⟨x, rfl, h.c, h.kn, hd ▸ h.o⟩
theorem Rows.form {W : World} {B : Nat} {x : Rw} {d : Drf} (h : Rows W B x d) : ∃ An cn Ap cp Aq cq Au cu, x = ⟨.slice An d.sc.notes.length cn, .slice Ap d.sc.pairs.length cp, .slice Aq d.sc.cad.length cq, .slice Au d.names.length cu⟩ ∧ zJQ W W.heap.size Au d.names := by
 obtain ⟨An, cn, h1, -, -⟩ := h.n.form;obtain ⟨Ap, cp, h2, -, -⟩ := h.p.form;obtain ⟨Aq, cq, h3, -, -⟩ := h.q.form;obtain ⟨Au, cu, h4, -, h5⟩ := h.u.shape;refine ⟨An, cn, Ap, cp, Aq, cq, Au, cu, ?_, h5⟩;cases x
 simp only [Rw.mk.injEq];exact ⟨h1, h2, by simpa [itg] using h3, h4⟩
theorem zLK (V : Int) (An Ap Aq Au : Option Addr) (nn np nq nu cn cp cq cu : Nat) : (qq ⟨.slice An nn cn, .slice Ap np cp, .slice Aq nq cq, .slice Au nu cu⟩ V).all (·.oneCell') = true := by simp [Value.oneCell']
theorem Rows.one {W : World} {B : Nat} {x : Rw} {d : Drf} (h : Rows W B x d) (V : Int) : (qq x V).all (·.oneCell') = true := by
 obtain ⟨An, cn, Ap, cp, Aq, cq, Au, cu, rfl, -⟩ := h.form;exact zLK _ _ _ _ _ _ _ _ _ _ _ _ _
theorem zHN (w0 w : World) (hb : Below w0.heap.size w0 w) (A : Option Addr) (c en : Nat) (ts : List Tok) (q : Qr) (hT : TkR w0 A ts) (hi : q.i ≤ ts.length) (hts : ∀ t ∈ ts, t.text.length ≤ 8000) (hxs : ∀ t ∈ ts, t.n ≤ 10000000)
 (V : Int) (x0 : Rw) (d : Drf) (hx : Rows w w0.heap.size x0 d) (hd : d.cap 100000) (tied : Bool) :
 Calls Tryz.prog 82 #[.agg (q.cells A ts.length c en), .agg (qq x0 V), .bool tied] w (zDS w0 w A ts.length c en V x0 (vz ts en tied d q).1 (vz ts en tied d q).2) := by
 have hT8 := hT.n;obtain ⟨n, hn⟩ : ∃ n, n = ts.length := ⟨_, rfl⟩
 have HI : Hid (∀ W, Below w0.heap.size w0 W → ∀ q s b, isQ ts q s = b → q.i ≤ n → Calls Tryz.prog 81 #[.agg (q.cells A n c en), str s] W fun e w' => e = .returned (.bool b) ∧ Below W.heap.size W w') := hid fun W hb q s b h1 h2 => by
  subst h1; rw [hn]; exact zAW W A c en ts q s (hT.up hb) (by omega)
 have HS : Hid (∀ W, Below w0.heap.size w0 W → ∀ q s q1, zK ts en q s = q1 → q.i ≤ n → Calls Tryz.prog 79 #[.agg (q.cells A n c en), str s] W fun e w' => e = .returned (.agg (q1.cells A n c en)) ∧ Below W.heap.size W w') := hid fun W hb q s b h1 h2 => by
  subst h1; rw [hn]; exact qX W A c en ts q s (hT.up hb) (by omega)
 have HW : Hid (∀ W, Below w0.heap.size w0 W → ∀ q (ke : Nat) (ki : Int), ki = ke → ∀ q1, yG ts en q ke = q1 → q.i ≤ n → Calls Tryz.prog 84 #[.agg (q.cells A n c en), .int .i64 ki] W fun e w' => e = .returned (.agg (q1.cells A n c en)) ∧ Below W.heap.size W w') := hid fun W hb q ke ki hk q1 h1 h2 => by
  subst h1; rw [hn]; exact xl W A c en ts q ke ki hk (hT.up hb) (by omega)
 have HN : Hid (∀ W, Below w0.heap.size w0 W → ∀ q nv q1, zg ts q = nv ∧ zM ts en q = q1 → q.i ≤ n → Calls Tryz.prog 80 #[.agg (q.cells A n c en)] W fun e w' => e = .returned (.tuple #[.int .i64 (nv : Nat), .agg (q1.cells A n c en)]) ∧ Below W.heap.size W w') := hid fun W hb q nv q1 h1 h2 => by
  obtain ⟨rfl, rfl⟩ := h1; rw [hn]; exact jA W A c en ts q (hT.up hb) (by omega)
 have HK : Hid (∀ W, Below w0.heap.size w0 W → ∀ q s q1, kT ts q = s ∧ vB ts en q = q1 → q.i ≤ n → Calls Tryz.prog 121 #[.agg (q.cells A n c en)] W fun e w' => e = .returned (.tuple #[str s, .agg (q1.cells A n c en)]) ∧ Below W.heap.size W w') := hid fun W hb q s q1 h1 h2 => by
  exact zK3
 have HV : Hid (∀ W, Below w0.heap.size w0 W → ∀ q v q1, (zh ts en q).1 = v ∧ (zh ts en q).2 = q1 → q.i ≤ n → Calls Tryz.prog 123 #[.agg (q.cells A n c en)] W fun e w' => e = .returned (.tuple #[.agg v.cells, .agg (q1.cells A n c en)]) ∧ Below W.heap.size W w') := hid fun W hb q v q1 h1 h2 => by
  exact zLy
 obtain ⟨An, cn, Ap, cp, Aq, cq, Au, cu, rfl, hR⟩ := hx.form;have hx1 := hx;obtain ⟨hu1, hn1, hp1, hq1⟩ := hd
 have HF' : Hid (∀ W, Rows W w0.heap.size ⟨.slice An d.sc.notes.length cn, .slice Ap d.sc.pairs.length cp, .slice Aq d.sc.cad.length cq, .slice Au d.names.length cu⟩ d → ∀ s r, jL d.names s = r → Calls Tryz.prog 122 #[.agg #[.int .i64 V, .slice An d.sc.notes.length cn, .slice Ap d.sc.pairs.length cp, .slice Aq d.sc.cad.length cq, .slice Au d.names.length cu], str s] W fun e w' => e = .returned (.int .i64 r) ∧ Below W.heap.size W w') := hid fun W hb s r h1 => by
  subst h1; exact zEg W V An Ap Aq Au _ _ _ _ _ _ cu d.names (zQ.of_own hb.u) (by omega) s
 have HB0 := hid hb;have HX := hid hx;obtain ⟨R, hR2⟩ : ∃ R, R = vz ts en tied d q := ⟨_, rfl⟩
 rw [← hR2, ← hn];rw [← hn] at hi;have HTL := hid hn;obtain ⟨s, hs⟩ : ∃ s, kT ts q = s := ⟨_, rfl⟩
 obtain ⟨q1, hq1'⟩ : ∃ q1, vB ts en q = q1 := ⟨_, rfl⟩
 have hi1 : q1.i ≤ n := by rw [← hq1', hn]; exact (zEV (by rw [← hn]; exact hi)).2
 obtain ⟨r, hr⟩ : ∃ r, jL d.names s = r := ⟨_, rfl⟩
 obtain ⟨qw, hqw⟩ : ∃ qw, yG ts en q 11 = qw := ⟨_, rfl⟩
 have HQ1 := hid (And.intro hs hq1');have HFR := hid hr;have HQW := hid hqw;have HL : Hid (jo ts en d.names q = (decide (q1.e = 0) && decide (0 ≤ r))) := hid (by unfold jo; rw [hq1', hs, ← hr, zJp]);have HRR : Hid (R = if jo ts en d.names q then (qw, d) else (zK ts en (ntA ts en tied q).2 yM, d.note s (ntN ts en tied q))) := hid (by rw [hR2, ← hqw, ← hs]; rfl);obtain ⟨bt, hbt⟩ : ∃ bt, jo ts en d.names q = bt := ⟨_, rfl⟩
 rw [hbt] at HRR HL;have HNT : Hid (zCz ts en q = zK ts en (zK ts en q1 zAz) kx) := hid (by unfold zCz; rw [hq1']);obtain ⟨nn, hnn⟩ : ∃ nn, nn = d.sc.notes.length := ⟨_, rfl⟩
 obtain ⟨np, hnp⟩ : ∃ np, np = d.sc.pairs.length := ⟨_, rfl⟩
 obtain ⟨nq, hnq⟩ : ∃ nq, nq = d.sc.cad.length := ⟨_, rfl⟩
 obtain ⟨nu, hnu⟩ : ∃ nu, nu = d.names.length := ⟨_, rfl⟩
 rw [← hnn, ← hnp, ← hnq, ← hnu] at HF' HX ⊢;have HLN := hid (And.intro hnn hnu);rw [← hnn] at hn1;rw [← hnu] at hu1;clear hR2 hn hnn hnp hnq hnu hs hq1' hr hqw hbt hR hT hts hxs hb hx hx1 hp1 hq1;go_enter Tryz.func82, Tryz.ntmps82
 go_upto_region 1 with (fail)
 obtain ⟨w1, hw1⟩ : ∃ w1, w1 = (((w.alloc (.cells #[.slice A n c, .int .i64 (en : Int), .int .i64 (q.i : Int), .int .i64 (q.pos : Int), .int .i64 (q.e : Int)] 74)).alloc (.cells #[.int .i64 V, .slice An nn cn, .slice Ap np cp, .slice Aq nq cq, .slice Au nu cu] 76)).alloc (.cells zy 74)).alloc (.cells xf 76) := ⟨_, rfl⟩
 have HF : Hid (Nst w0 w ⟨.slice An nn cn, .slice Ap np cp, .slice Aq nq cq, .slice Au nu cu⟩ [⟨w.heap.size, 74, #[.slice A n c, .int .i64 (en : Int), .int .i64 (q.i : Int), .int .i64 (q.pos : Int), .int .i64 (q.e : Int)]⟩, ⟨w.heap.size + 1, 76, #[.int .i64 V, .slice An nn cn, .slice Ap np cp, .slice Aq nq cq, .slice Au nu cu]⟩, ⟨w.heap.size + 1 + 1, 74, zy⟩, ⟨w.heap.size + 1 + 1 + 1, 76, xf⟩] ⟨.slice An nn cn, .slice Ap np cp, .slice Aq nq cq, .slice Au nu cu⟩ d w1) := hid (by
  rw [hw1];exact ((((Nst.base HB0.out HX.out).new _ 74 _ rfl).new _ 76 _ (by simp)).new _ 74 zy (by simp)).new _ 76 xf (by simp))
 rw [← hw1];clear hw1 HX;go_upto_region 2 with (first | ((with_reducible show wpList _ _ _ (Oper.mk _ (Op.load _ _) _ _ _ _ :: _) _ _); refine zp 74 HF.out.b0 Tryz.underlying74 zE ?_) | ((with_reducible show wpList _ _ _ (Oper.mk _ (Op.store _ _ _) _ _ _ _ :: _) _ _); refine zI rfl 74 (.tmp 8) (.tmp 11) rfl w1.heap.size (q.cells A n c en) rfl rfl 74 (zy) (Blk.new w1 _ _) zE rfl (Qr.all_one _ _ _ _ _) ?_; intro w9 b9 g9 z9; replace HF := hid ((HF.out.new w1.heap.size 74 (zy) rfl).p4 b9 g9); clear b9 g9 z9; try simp only [Act.put, sS]))
 obtain ⟨ga, hga⟩ : ∃ g, g = w1.heap.size := ⟨_, rfl⟩
 rw [← hga] at HF ⊢;clear hga;go_upto_region 3 with (first | ((with_reducible show wpList _ _ _ (Oper.mk _ (Op.load _ _) _ _ _ _ :: _) _ _); refine zp 74 HF.out.b0 Tryz.underlying74 zE ?_) | (go_at_call 121; with_reducible refine (HK.out _ HF.out.b q s q1 HQ1.out hi).mono ?_; rintro e w2 ⟨rfl, b2⟩; replace HF := hid (HF.out.up b2); clear b2) | ((with_reducible show wpList _ _ _ (Oper.mk _ (Op.store _ _ _) _ _ _ _ :: _) _ _); refine xJ 74 (q1.cells A n c en) HF.out.b0 zE (Qr.all_one _ _ _ _ _) ?_; intro w9 b9 g9 z9; replace HF := hid (HF.out.p0 b9 g9); clear b9 g9 z9; try simp only [Act.put, sS]))
 have y4 := HF.out.b0.cell 4;have d0 := HF.out.b1.cell 0;have d1 := HF.out.b1.cell 1;have d2 := HF.out.b1.cell 2;have d3 := HF.out.b1.cell 3;have d4 := HF.out.b1.cell 4;go_cut [25] from 17 to 24 (fun v wx => v = .bool bt ∧ Hid (Nst w0 w ⟨.slice An nn cn, .slice Ap np cp, .slice Aq nq cq, .slice Au nu cu⟩ [⟨w.heap.size, 74, q1.cells A n c en⟩, ⟨w.heap.size + 1, 76, #[.int .i64 V, .slice An nn cn, .slice Ap np cp, .slice Aq nq cq, .slice Au nu cu]⟩, ⟨w.heap.size + 1 + 1, 74, zy⟩, ⟨w.heap.size + 1 + 1 + 1, 76, xf⟩, ⟨ga, 74, q.cells A n c en⟩] ⟨.slice An nn cn, .slice Ap np cp, .slice Aq nq cq, .slice Au nu cu⟩ d wx))
 case first =>
  by_cases h0 : q1.e = 0
  ·
   have hk0 : ((q1.e : Int) == 0) = true := by rw [beq_iff_eq]; omega
   by_cases hr : 0 ≤ r
   · have HX : Hid (bt = true ∧ decide (0 ≤ r) = true) := hid ⟨by rw [HL.out, decide_eq_true h0, decide_eq_true hr]; rfl, decide_eq_true hr⟩;exact m96
   have HX : Hid (bt = false ∧ decide (0 ≤ r) = false) := hid ⟨by rw [HL.out, decide_eq_false hr]; simp, decide_eq_false hr⟩;exact m96
  (have hk0 : ((q1.e : Int) == 0) = false := by rw [beq_eq_false_iff_ne]; omega);have HX : Hid (bt = false ∧ True) := hid ⟨by rw [HL.out, decide_eq_false h0]; simp, trivial⟩;clear h0;(go_wp2_with fail);exact zM1
 case rest =>
  clear HF y4 d0 d1 d2 d3 d4;obtain ⟨rfl, HF⟩ := hcut;cases bt
  rotate_left
  ·
   have HRX : Hid (R = (qw, d)) := hid (by rw [HRR.out, if_pos rfl]);go_upto_region 4 with (fail)
   replace HF := hid HF.out.drew;refine jF (zCE [⟨ga, 74, q.cells A n c en⟩, ⟨w.heap.size + 1, 76, #[.int .i64 V, .slice An nn cn, .slice Ap np cp, .slice Aq nq cq, .slice Au nu cu]⟩]) (HF.out.drew.sees.sub (by simp)) fun hHeld => ?_
   refine zJ 0 ?_ (hy := Or.inl ⟨by rfl, fun w hSw => by have k0 := hSw.get (k := 0) rfl; have x0 := k0.cell 0; have x1 := k0.cell 1; have x2 := k0.cell 2; have x3 := k0.cell 3; have x4 := k0.cell 4; clear k0 hSw; go_simp; try with_reducible rfl⟩);refine zJ 2 ?_ (hy := Or.inl ⟨by rfl, fun w hSw => by have k1 := hSw.get (k := 1) rfl; have x0 := k1.cell 0; have x1 := k1.cell 1; have x2 := k1.cell 2; have x3 := k1.cell 3; have x4 := k1.cell 4; clear k1 hSw; go_simp; try with_reducible rfl⟩);refine yL 1 ?_;intro K hK;go_simp;with_reducible refine (HW.out _ HF.out.b q 11 11 rfl qw HQW.out hi).mono ?_
   rintro e w2 ⟨rfl, b2⟩;replace HF := hid (HF.out.up b2);clear b2;refine zq hK (HF.out.sees.sub (by simp)) fun hHeld => ?_
   clear hK K;refine yL 3 ?_;intro K hK;refine jV 74 (qw.cells A n c en) HF.out.b2 zE (Qr.all_one _ _ _ _ _) ?_;intro w9 b9 g9 z9;replace HF := hid (HF.out.p2 b9 g9);clear b9 g9 z9;refine zq hK (HF.out.sees.sub (by simp)) fun hHeld => ?_
   clear hK K;refine yL 4 ?_;intro K hK;refine kD rfl 76 (.tmp 7) (.tmp 28) rfl _ _ rfl rfl 76 _ HF.out.b3 kj rfl (HF.out.o.one V) ?_;intro w9 b9 g9 z9;replace HF := hid (HF.out.p3 b9 g9);clear b9 g9 z9;refine zq hK (HF.out.sees.sub (by simp)) fun hHeld => ?_
   clear hK K;refine jc ?_;go_wp2_with fail
   refine bodyPost_ret (xK rfl _ ⟨w.heap.size + 1 + 1, 0, none⟩ ⟨w.heap.size + 1 + 1 + 1, 0, none⟩ rfl rfl _ _ Tryz.underlying74 rfl Tryz.underlying76 rfl _ (qw.cells A n c en) (#[.int .i64 V, .slice An nn cn, .slice Ap np cp, .slice Aq nq cq, .slice Au nu cu]) zE kj (zO HF.out.b2) (zO HF.out.b3)) rfl ?_;rw [HRX.out];exact HF.out.ends rfl
  have HRX : Hid (R = (zK ts en (ntA ts en tied q).2 yM, d.note s (ntN ts en tied q))) := hid (by rw [HRR.out, if_neg (by decide)]);clear HRR HL;(go_upto_region 6 with (first | ((with_reducible show wpList _ _ _ (Oper.mk _ (Op.store _ _ _) _ _ _ _ :: _) _ _); refine zI rfl 55 (.tmp 10) (.tmp 30) rfl wc.heap.size (#[.int .i64 0, .int .i64 0, .int .i64 0, .int .i64 0, .int .i64 0, .int .i64 0, .int .i64 0, .int .i64 0, .int .i64 0, .bool tied]) rfl rfl 55 (zF.cells) (Blk.new wc _ _) zx rfl (by simp [Value.oneCell']) ?_; intro w9 b9 g9 z9; replace HF := hid ((HF.out.new wc.heap.size 55 (zF.cells) rfl).p5 b9 g9); clear b9 g9 z9; try simp only [Act.put, sS])));(obtain ⟨gN, hgN⟩ : ∃ g, g = wc.heap.size := ⟨_, rfl⟩);rw [← hgN] at HF ⊢;clear hgN;have hiq1 := hi1;replace HF : Hid (Nst w0 w ⟨.slice An nn cn, .slice Ap np cp, .slice Aq nq cq, .slice Au nu cu⟩ [⟨w.heap.size, 74, q1.cells A n c en⟩, ⟨w.heap.size + 1, 76, #[.int .i64 V, .slice An nn cn, .slice Ap np cp, .slice Aq nq cq, .slice Au nu cu]⟩, ⟨w.heap.size + 1 + 1, 74, zy⟩, ⟨w.heap.size + 1 + 1 + 1, 76, xf⟩, ⟨ga, 74, q.cells A n c en⟩, ⟨gN, 55, #[.int .i64 0, .int .i64 0, .int .i64 0, .int .i64 0, .int .i64 0, .int .i64 0, .int .i64 0, .int .i64 0, .int .i64 0, .bool tied]⟩] ⟨.slice An nn cn, .slice Ap np cp, .slice Aq nq cq, .slice Au nu cu⟩ d _) := HF
  (obtain ⟨q2, hq2⟩ : ∃ q2, zK ts en q1 [58] = q2 := ⟨_, rfl⟩);(have hiq2 : q2.i ≤ n := by rw [← hq2, HTL.out]; exact (yA (by rw [← HTL.out]; exact hi1) _).2);have Hq2 := hid hq2;clear hq2;(go_upto_region 7 with (first | ((with_reducible show wpList _ _ _ (Oper.mk _ (Op.load _ _) _ _ _ _ :: _) _ _); refine zp 74 HF.out.b0 Tryz.underlying74 zE ?_) | (go_at_call 79; with_reducible refine (HS.out _ HF.out.b q1 [58] q2 Hq2.out hiq1).mono ?_; rintro e w2 ⟨rfl, b2⟩; replace HF := hid (HF.out.up b2); clear b2) | ((with_reducible show wpList _ _ _ (Oper.mk _ (Op.store _ _ _) _ _ _ _ :: _) _ _); refine xJ 74 (q2.cells A n c en) HF.out.b0 zE (Qr.all_one _ _ _ _ _) ?_; intro w9 b9 g9 z9; replace HF := hid (HF.out.p0 b9 g9); clear b9 g9 z9; try simp only [Act.put, sS])));replace HF : Hid (Nst w0 w ⟨.slice An nn cn, .slice Ap np cp, .slice Aq nq cq, .slice Au nu cu⟩ [⟨w.heap.size, 74, q2.cells A n c en⟩, ⟨w.heap.size + 1, 76, #[.int .i64 V, .slice An nn cn, .slice Ap np cp, .slice Aq nq cq, .slice Au nu cu]⟩, ⟨w.heap.size + 1 + 1, 74, zy⟩, ⟨w.heap.size + 1 + 1 + 1, 76, xf⟩, ⟨ga, 74, q.cells A n c en⟩, ⟨gN, 55, #[.int .i64 0, .int .i64 0, .int .i64 0, .int .i64 0, .int .i64 0, .int .i64 0, .int .i64 0, .int .i64 0, .int .i64 0, .bool tied]⟩] ⟨.slice An nn cn, .slice Ap np cp, .slice Aq nq cq, .slice Au nu cu⟩ d _) := HF
  (obtain ⟨q3, hq3⟩ : ∃ q3, zK ts en q2 [118, 111, 105, 99, 101] = q3 := ⟨_, rfl⟩);(have hiq3 : q3.i ≤ n := by rw [← hq3, HTL.out]; exact (yA (by rw [← HTL.out]; exact hiq2) _).2);have Hq3 := hid hq3;clear hq3;(go_upto_region 8 with (first | ((with_reducible show wpList _ _ _ (Oper.mk _ (Op.load _ _) _ _ _ _ :: _) _ _); refine zp 74 HF.out.b0 Tryz.underlying74 zE ?_) | (go_at_call 79; with_reducible refine (HS.out _ HF.out.b q2 [118, 111, 105, 99, 101] q3 Hq3.out hiq2).mono ?_; rintro e w2 ⟨rfl, b2⟩; replace HF := hid (HF.out.up b2); clear b2) | ((with_reducible show wpList _ _ _ (Oper.mk _ (Op.store _ _ _) _ _ _ _ :: _) _ _); refine xJ 74 (q3.cells A n c en) HF.out.b0 zE (Qr.all_one _ _ _ _ _) ?_; intro w9 b9 g9 z9; replace HF := hid (HF.out.p0 b9 g9); clear b9 g9 z9; try simp only [Act.put, sS])));replace HF : Hid (Nst w0 w ⟨.slice An nn cn, .slice Ap np cp, .slice Aq nq cq, .slice Au nu cu⟩ [⟨w.heap.size, 74, q3.cells A n c en⟩, ⟨w.heap.size + 1, 76, #[.int .i64 V, .slice An nn cn, .slice Ap np cp, .slice Aq nq cq, .slice Au nu cu]⟩, ⟨w.heap.size + 1 + 1, 74, zy⟩, ⟨w.heap.size + 1 + 1 + 1, 76, xf⟩, ⟨ga, 74, q.cells A n c en⟩, ⟨gN, 55, #[.int .i64 0, .int .i64 0, .int .i64 0, .int .i64 0, .int .i64 0, .int .i64 0, .int .i64 0, .int .i64 0, .int .i64 0, .bool tied]⟩] ⟨.slice An nn cn, .slice Ap np cp, .slice Aq nq cq, .slice Au nu cu⟩ d _) := HF
  (obtain ⟨nv, hnv⟩ : ∃ nv, zg ts q3 = nv := ⟨_, rfl⟩);(obtain ⟨q4, hq4⟩ : ∃ q4, zM ts en q3 = q4 := ⟨_, rfl⟩);(have hiq4 : q4.i ≤ n := by rw [← hq4, HTL.out]; exact (km (by rw [← HTL.out]; exact hiq3)).2);have Hq4 := hid (And.intro hnv hq4);clear hnv hq4;(go_upto_region 9 with (first | ((with_reducible show wpList _ _ _ (Oper.mk _ (Op.load _ _) _ _ _ _ :: _) _ _); refine zp 74 HF.out.b0 Tryz.underlying74 zE ?_) | (go_at_call 80; with_reducible refine (HN.out _ HF.out.b q3 nv q4 Hq4.out hiq3).mono ?_; rintro e w2 ⟨rfl, b2⟩; replace HF := hid (HF.out.up b2); clear b2; have yc := HF.out.b5.cell 0; have yf := HF.out.b5.frozen 0) | ((with_reducible show wpList _ _ _ (Oper.mk _ (Op.store _ _ _) _ _ _ _ :: _) _ _); replace HF := hid (HF.out.c5 0 (.int .i64 (nv : Int))); clear yc yf; refine xJ 74 (q4.cells A n c en) HF.out.b0 zE (Qr.all_one _ _ _ _ _) ?_; intro w9 b9 g9 z9; replace HF := hid (HF.out.p0 b9 g9); clear b9 g9 z9; try simp only [Act.put, sS])));replace HF : Hid (Nst w0 w ⟨.slice An nn cn, .slice Ap np cp, .slice Aq nq cq, .slice Au nu cu⟩ [⟨w.heap.size, 74, q4.cells A n c en⟩, ⟨w.heap.size + 1, 76, #[.int .i64 V, .slice An nn cn, .slice Ap np cp, .slice Aq nq cq, .slice Au nu cu]⟩, ⟨w.heap.size + 1 + 1, 74, zy⟩, ⟨w.heap.size + 1 + 1 + 1, 76, xf⟩, ⟨ga, 74, q.cells A n c en⟩, ⟨gN, 55, #[.int .i64 (nv : Int), .int .i64 0, .int .i64 0, .int .i64 0, .int .i64 0, .int .i64 0, .int .i64 0, .int .i64 0, .int .i64 0, .bool tied]⟩] ⟨.slice An nn cn, .slice Ap np cp, .slice Aq nq cq, .slice Au nu cu⟩ d _) := HF
  (obtain ⟨q5, hq5⟩ : ∃ q5, zK ts en q4 [102, 114, 111, 109] = q5 := ⟨_, rfl⟩);(have hiq5 : q5.i ≤ n := by rw [← hq5, HTL.out]; exact (yA (by rw [← HTL.out]; exact hiq4) _).2);have Hq5 := hid hq5;clear hq5;(go_upto_region 10 with (first | ((with_reducible show wpList _ _ _ (Oper.mk _ (Op.load _ _) _ _ _ _ :: _) _ _); refine zp 74 HF.out.b0 Tryz.underlying74 zE ?_) | (go_at_call 79; with_reducible refine (HS.out _ HF.out.b q4 [102, 114, 111, 109] q5 Hq5.out hiq4).mono ?_; rintro e w2 ⟨rfl, b2⟩; replace HF := hid (HF.out.up b2); clear b2) | ((with_reducible show wpList _ _ _ (Oper.mk _ (Op.store _ _ _) _ _ _ _ :: _) _ _); refine xJ 74 (q5.cells A n c en) HF.out.b0 zE (Qr.all_one _ _ _ _ _) ?_; intro w9 b9 g9 z9; replace HF := hid (HF.out.p0 b9 g9); clear b9 g9 z9; try simp only [Act.put, sS])));replace HF : Hid (Nst w0 w ⟨.slice An nn cn, .slice Ap np cp, .slice Aq nq cq, .slice Au nu cu⟩ [⟨w.heap.size, 74, q5.cells A n c en⟩, ⟨w.heap.size + 1, 76, #[.int .i64 V, .slice An nn cn, .slice Ap np cp, .slice Aq nq cq, .slice Au nu cu]⟩, ⟨w.heap.size + 1 + 1, 74, zy⟩, ⟨w.heap.size + 1 + 1 + 1, 76, xf⟩, ⟨ga, 74, q.cells A n c en⟩, ⟨gN, 55, #[.int .i64 (nv : Int), .int .i64 0, .int .i64 0, .int .i64 0, .int .i64 0, .int .i64 0, .int .i64 0, .int .i64 0, .int .i64 0, .bool tied]⟩] ⟨.slice An nn cn, .slice Ap np cp, .slice Aq nq cq, .slice Au nu cu⟩ d _) := HF
  (obtain ⟨na, hna⟩ : ∃ na, zg ts q5 = na := ⟨_, rfl⟩);(obtain ⟨q6, hq6⟩ : ∃ q6, zM ts en q5 = q6 := ⟨_, rfl⟩);(have hiq6 : q6.i ≤ n := by rw [← hq6, HTL.out]; exact (km (by rw [← HTL.out]; exact hiq5)).2);have Hq6 := hid (And.intro hna hq6);clear hna hq6;(go_upto_region 11 with (first | ((with_reducible show wpList _ _ _ (Oper.mk _ (Op.load _ _) _ _ _ _ :: _) _ _); refine zp 74 HF.out.b0 Tryz.underlying74 zE ?_) | (go_at_call 80; with_reducible refine (HN.out _ HF.out.b q5 na q6 Hq6.out hiq5).mono ?_; rintro e w2 ⟨rfl, b2⟩; replace HF := hid (HF.out.up b2); clear b2; have yc := HF.out.b5.cell 1; have yf := HF.out.b5.frozen 1) | ((with_reducible show wpList _ _ _ (Oper.mk _ (Op.store _ _ _) _ _ _ _ :: _) _ _); replace HF := hid (HF.out.c5 1 (.int .i64 (na : Int))); clear yc yf; refine xJ 74 (q6.cells A n c en) HF.out.b0 zE (Qr.all_one _ _ _ _ _) ?_; intro w9 b9 g9 z9; replace HF := hid (HF.out.p0 b9 g9); clear b9 g9 z9; try simp only [Act.put, sS])));replace HF : Hid (Nst w0 w ⟨.slice An nn cn, .slice Ap np cp, .slice Aq nq cq, .slice Au nu cu⟩ [⟨w.heap.size, 74, q6.cells A n c en⟩, ⟨w.heap.size + 1, 76, #[.int .i64 V, .slice An nn cn, .slice Ap np cp, .slice Aq nq cq, .slice Au nu cu]⟩, ⟨w.heap.size + 1 + 1, 74, zy⟩, ⟨w.heap.size + 1 + 1 + 1, 76, xf⟩, ⟨ga, 74, q.cells A n c en⟩, ⟨gN, 55, #[.int .i64 (nv : Int), .int .i64 (na : Int), .int .i64 0, .int .i64 0, .int .i64 0, .int .i64 0, .int .i64 0, .int .i64 0, .int .i64 0, .bool tied]⟩] ⟨.slice An nn cn, .slice Ap np cp, .slice Aq nq cq, .slice Au nu cu⟩ d _) := HF
  (obtain ⟨q7, hq7⟩ : ∃ q7, zK ts en q6 [116, 111] = q7 := ⟨_, rfl⟩);(have hiq7 : q7.i ≤ n := by rw [← hq7, HTL.out]; exact (yA (by rw [← HTL.out]; exact hiq6) _).2);have Hq7 := hid hq7;clear hq7;(go_upto_region 12 with (first | ((with_reducible show wpList _ _ _ (Oper.mk _ (Op.load _ _) _ _ _ _ :: _) _ _); refine zp 74 HF.out.b0 Tryz.underlying74 zE ?_) | (go_at_call 79; with_reducible refine (HS.out _ HF.out.b q6 [116, 111] q7 Hq7.out hiq6).mono ?_; rintro e w2 ⟨rfl, b2⟩; replace HF := hid (HF.out.up b2); clear b2) | ((with_reducible show wpList _ _ _ (Oper.mk _ (Op.store _ _ _) _ _ _ _ :: _) _ _); refine xJ 74 (q7.cells A n c en) HF.out.b0 zE (Qr.all_one _ _ _ _ _) ?_; intro w9 b9 g9 z9; replace HF := hid (HF.out.p0 b9 g9); clear b9 g9 z9; try simp only [Act.put, sS])));replace HF : Hid (Nst w0 w ⟨.slice An nn cn, .slice Ap np cp, .slice Aq nq cq, .slice Au nu cu⟩ [⟨w.heap.size, 74, q7.cells A n c en⟩, ⟨w.heap.size + 1, 76, #[.int .i64 V, .slice An nn cn, .slice Ap np cp, .slice Aq nq cq, .slice Au nu cu]⟩, ⟨w.heap.size + 1 + 1, 74, zy⟩, ⟨w.heap.size + 1 + 1 + 1, 76, xf⟩, ⟨ga, 74, q.cells A n c en⟩, ⟨gN, 55, #[.int .i64 (nv : Int), .int .i64 (na : Int), .int .i64 0, .int .i64 0, .int .i64 0, .int .i64 0, .int .i64 0, .int .i64 0, .int .i64 0, .bool tied]⟩] ⟨.slice An nn cn, .slice Ap np cp, .slice Aq nq cq, .slice Au nu cu⟩ d _) := HF
  (obtain ⟨nb, hnb⟩ : ∃ nb, zg ts q7 = nb := ⟨_, rfl⟩);(obtain ⟨q8, hq8⟩ : ∃ q8, zM ts en q7 = q8 := ⟨_, rfl⟩);(have hiq8 : q8.i ≤ n := by rw [← hq8, HTL.out]; exact (km (by rw [← HTL.out]; exact hiq7)).2);have Hq8 := hid (And.intro hnb hq8);clear hnb hq8;(go_upto_region 13 with (first | ((with_reducible show wpList _ _ _ (Oper.mk _ (Op.load _ _) _ _ _ _ :: _) _ _); refine zp 74 HF.out.b0 Tryz.underlying74 zE ?_) | (go_at_call 80; with_reducible refine (HN.out _ HF.out.b q7 nb q8 Hq8.out hiq7).mono ?_; rintro e w2 ⟨rfl, b2⟩; replace HF := hid (HF.out.up b2); clear b2; have yc := HF.out.b5.cell 2; have yf := HF.out.b5.frozen 2) | ((with_reducible show wpList _ _ _ (Oper.mk _ (Op.store _ _ _) _ _ _ _ :: _) _ _); replace HF := hid (HF.out.c5 2 (.int .i64 (nb : Int))); clear yc yf; refine xJ 74 (q8.cells A n c en) HF.out.b0 zE (Qr.all_one _ _ _ _ _) ?_; intro w9 b9 g9 z9; replace HF := hid (HF.out.p0 b9 g9); clear b9 g9 z9; try simp only [Act.put, sS])));replace HF : Hid (Nst w0 w ⟨.slice An nn cn, .slice Ap np cp, .slice Aq nq cq, .slice Au nu cu⟩ [⟨w.heap.size, 74, q8.cells A n c en⟩, ⟨w.heap.size + 1, 76, #[.int .i64 V, .slice An nn cn, .slice Ap np cp, .slice Aq nq cq, .slice Au nu cu]⟩, ⟨w.heap.size + 1 + 1, 74, zy⟩, ⟨w.heap.size + 1 + 1 + 1, 76, xf⟩, ⟨ga, 74, q.cells A n c en⟩, ⟨gN, 55, #[.int .i64 (nv : Int), .int .i64 (na : Int), .int .i64 (nb : Int), .int .i64 0, .int .i64 0, .int .i64 0, .int .i64 0, .int .i64 0, .int .i64 0, .bool tied]⟩] ⟨.slice An nn cn, .slice Ap np cp, .slice Aq nq cq, .slice Au nu cu⟩ d _) := HF
  have HE : Hid (ntN ts en tied q = ⟨nv, na, nb, (atQ ts en tied q8).1, tied⟩ ∧ (ntA ts en tied q).2 = (atQ ts en tied q8).2) := hid (by
   (have e1 : zCz ts en q = q3 := by rw [HNT.out]; rw [show zK ts en q1 zAz = q2 from Hq2.out]; exact Hq3.out);(have e2 : zDr ts en q = q5 := by unfold zDr; rw [e1, Hq4.out.2]; exact Hq5.out);(have e3 : zDw ts en q = q7 := by unfold zDw; rw [e2, Hq6.out.2]; exact Hq7.out);unfold ntN ntA;rw [e1, e2, e3, Hq4.out.1, Hq6.out.1, Hq8.out.1, Hq8.out.2];exact ⟨rfl, rfl⟩)
  (obtain ⟨p, hp⟩ : ∃ p, (atQ ts en tied q8).1 = p := ⟨_, rfl⟩);(obtain ⟨qz, hqz⟩ : ∃ qz, (atQ ts en tied q8).2 = qz := ⟨_, rfl⟩);(have hiqz : qz.i ≤ n := by rw [← hqz, HTL.out]; exact (zLR _ (by rw [← HTL.out]; exact hiq8)).2);rw [hp, hqz] at HE;have HAT := hid (And.intro hp hqz);clear hp hqz Hq2 Hq3 Hq4 Hq5 Hq6 Hq7 Hq8 HNT;go_cut [62] from 57 to 61 (fun v wx => ∃ b : Bool, v = .bool b ∧ Hid (b = (!tied && isQ ts q8 [97, 116])) ∧ Hid (Nst w0 w ⟨.slice An nn cn, .slice Ap np cp, .slice Aq nq cq, .slice Au nu cu⟩ [⟨w.heap.size, 74, q8.cells A n c en⟩, ⟨w.heap.size + 1, 76, #[.int .i64 V, .slice An nn cn, .slice Ap np cp, .slice Aq nq cq, .slice Au nu cu]⟩, ⟨w.heap.size + 1 + 1, 74, zy⟩, ⟨w.heap.size + 1 + 1 + 1, 76, xf⟩, ⟨ga, 74, q.cells A n c en⟩, ⟨gN, 55, #[.int .i64 (nv : Int), .int .i64 (na : Int), .int .i64 (nb : Int), .int .i64 0, .int .i64 0, .int .i64 0, .int .i64 0, .int .i64 0, .int .i64 0, .bool tied]⟩] ⟨.slice An nn cn, .slice Ap np cp, .slice Aq nq cq, .slice Au nu cu⟩ d wx))
  case first =>
   cases tied
   · obtain ⟨ia, hat⟩ : ∃ ia, isQ ts q8 [97, 116] = ia := ⟨_, rfl⟩
     have HI8 := hid hat;clear hat;have e0 := HF.out.b0.cell 0;have e1 := HF.out.b0.cell 1;have e2 := HF.out.b0.cell 2;have e3 := HF.out.b0.cell 3;have e4 := HF.out.b0.cell 4;go_wp2_with (first | (go_at_call 81; with_reducible refine (HI.out _ HF.out.b q8 [97, 116] ia HI8.out hiq8).mono ?_; rintro e w2 ⟨rfl, b2⟩; replace HF := hid (HF.out.up b2); clear b2))
     go_meet
     case rel => exact ⟨ia, rfl, hid (by rw [HI8.out]; rfl), HF⟩
   (go_wp2_with fail);go_meet
   case rel => exact ⟨false, rfl, hid rfl, HF⟩
  case rest =>
   clear HF;obtain ⟨b, rfl, HBT, HF⟩ := hcut;(go_upto_if 62 with (fail));go_cut [] from 62 to 72 (fun wx => Hid (Nst w0 w ⟨.slice An nn cn, .slice Ap np cp, .slice Aq nq cq, .slice Au nu cu⟩ [⟨w.heap.size, 74, qz.cells A n c en⟩, ⟨w.heap.size + 1, 76, #[.int .i64 V, .slice An nn cn, .slice Ap np cp, .slice Aq nq cq, .slice Au nu cu]⟩, ⟨w.heap.size + 1 + 1, 74, zy⟩, ⟨w.heap.size + 1 + 1 + 1, 76, xf⟩, ⟨ga, 74, q.cells A n c en⟩, ⟨gN, 55, #[.int .i64 (nv : Int), .int .i64 (na : Int), .int .i64 (nb : Int), .int .i64 p.a, .int .i64 p.b, .int .i64 p.c, .int .i64 p.d, .int .i64 p.e, .int .i64 p.f, .bool tied]⟩] ⟨.slice An nn cn, .slice Ap np cp, .slice Aq nq cq, .slice Au nu cu⟩ d wx))
   case first =>
    cases b
    · obtain ⟨rfl, rfl⟩ : vc0 = p ∧ q8 = qz := by
       have h1 := HAT.out;unfold atQ at h1;rw [show (!tied && isQ ts q8 zBw) = false from HBT.out.symm] at h1;exact h1
      go_wp2_with fail
      go_meet
      case rel => exact HF
    (obtain ⟨q9, hq9⟩ : ∃ q9, zK ts en q8 [97, 116] = q9 := ⟨_, rfl⟩);have hiq9 : q9.i ≤ n := by rw [← hq9, HTL.out]; exact (yA (by rw [← HTL.out]; exact hiq8) _).2
    have HV9 : Hid ((zh ts en q9).1 = p ∧ (zh ts en q9).2 = qz) := hid (by
     have h1 := HAT.out;unfold atQ at h1;rw [show (!tied && isQ ts q8 zBw) = true from HBT.out.symm, show zK ts en q8 zBw = q9 from hq9] at h1;exact h1)
    have Hq9 := hid hq9;clear hq9;go_wp2_with (first | ((with_reducible show wpList _ _ _ (Oper.mk _ (Op.load _ _) _ _ _ _ :: _) _ _); refine zp 74 HF.out.b0 Tryz.underlying74 zE ?_) | (go_at_call 79; with_reducible refine (HS.out _ HF.out.b q8 [97, 116] q9 Hq9.out hiq8).mono ?_; rintro e w2 ⟨rfl, b2⟩; replace HF := hid (HF.out.up b2); clear b2) | ((with_reducible show wpList _ _ _ (Oper.mk _ (Op.store _ _ _) _ _ _ _ :: _) _ _); refine xJ 74 (q9.cells A n c en) HF.out.b0 zE (Qr.all_one _ _ _ _ _) ?_; intro w9 b9 g9 z9; replace HF := hid (HF.out.p0 b9 g9); clear b9 g9 z9; try simp only [Act.put, sS]) | (go_at_call 123; with_reducible refine (HV.out _ HF.out.b q9 p qz HV9.out hiq9).mono ?_; rintro e w2 ⟨rfl, b2⟩; replace HF := hid (HF.out.up b2); clear b2) | ((with_reducible show wpList _ _ _ (Oper.mk _ (Op.store _ _ _) _ _ _ _ :: _) _ _); refine zDB rfl 53 (.tmp 70) (.tmp 68) rfl _ 3 (p.cells) rfl rfl _ _ HF.out.b5 zR (by show 3 + 6 ≤ 10; omega) (by simp [Value.oneCell']) ?_; intro w8 b8 g8; replace HF := hid (HF.out.p5 b8 g8); clear b8 g8; try simp only [Act.put, sS]) | ((with_reducible show wpList _ _ _ (Oper.mk _ (Op.store _ _ _) _ _ _ _ :: _) _ _); refine xJ 74 (qz.cells A n c en) HF.out.b0 zE (Qr.all_one _ _ _ _ _) ?_; intro w9 b9 g9 z9; replace HF := hid (HF.out.p0 b9 g9); clear b9 g9 z9; try simp only [Act.put, sS]))
    go_meet
    case rel => exact HF
   case rest =>
    clear HF;have HF := hcut;clear hcut;(obtain ⟨qf, hqf⟩ : ∃ qf, zK ts en qz [59] = qf := ⟨_, rfl⟩);have HQF := hid hqf;have HRY : Hid (R = (qf, d.note s ⟨nv, na, nb, p, tied⟩)) := hid (by rw [HRX.out, HE.out.1, HE.out.2, show zK ts en qz yM = qf from hqf]);clear hqf HRX HE HAT;(go_upto_region 17 with (first | ((with_reducible show wpList _ _ _ (Oper.mk _ (Op.load _ _) _ _ _ _ :: _) _ _); refine zp 74 HF.out.b0 Tryz.underlying74 zE ?_) | (go_at_call 79; with_reducible refine (HS.out _ HF.out.b qz [59] qf HQF.out hiqz).mono ?_; rintro e w2 ⟨rfl, b2⟩; replace HF := hid (HF.out.up b2); clear b2) | ((with_reducible show wpList _ _ _ (Oper.mk _ (Op.store _ _ _) _ _ _ _ :: _) _ _); refine xJ 74 (qf.cells A n c en) HF.out.b0 zE (Qr.all_one _ _ _ _ _) ?_; intro w9 b9 g9 z9; replace HF := hid (HF.out.p0 b9 g9); clear b9 g9 z9; try simp only [Act.put, sS])));have v4 := HF.out.b1.cell 4;have HA := hid (HF.out.up ((Below.refl _ w9).alloc (Nat.le_refl _) (.cells #[str s] 9)));have hwz := HA.out.b.size;go_upto_region 18 with (at_builtin; go_must (refine vt _ rfl _ _ 49 9 (.string ⟨#[]⟩) 1 16 rfl Tryz.underlying49 zGK rfl (by decide) w0.heap.size (.slice Au nu cu) nu (d.names.map str) rfl (by have := HA.out.o.u; unfold kk at this; rw [← HLN.out.2] at this; exact this) (w9.heap.size + 1) (some ⟨w9.heap.size, 0, none⟩) 1 1 [str s] rfl (xX w9 #[str s] 9 1 1 rfl) (zIk s) (by simp only [maxLen]; omega) (by omega) hwz ?_); intro v4' w4 ho4 hg4 hv4; replace HA := hid (HA.out.addu (kk.snoc (by have := ho4; rw [HLN.out.2] at this; exact this)) hg4 hv4); clear ho4 hg4 hv4; obtain ⟨A4, c4, hv4', -, -⟩ := HA.out.o.u.shape; rw [List.length_append, ← HLN.out.2] at hv4'; replace hv4' : v4' = .slice A4 (nu + 1) c4 := hv4'; subst hv4'; have v5 := HA.out.b1.cell 4; have vf5 := HA.out.b1.frozen 4)
    have HB := hid (HA.out.c1 4 (.slice A4 (nu + 1) c4));clear HF HA v4 v5 vf5 hwz;(obtain ⟨w5, hw5⟩ : ∃ w5, w5 = w4.setCell ⟨w.heap.size + 1, 4, none⟩ (.slice A4 (nu + 1) c4) := ⟨_, rfl⟩);rw [← hw5] at HB ⊢;clear hw5;replace HB : Hid (Nst w0 w ⟨.slice An nn cn, .slice Ap np cp, .slice Aq nq cq, .slice Au nu cu⟩ [⟨w.heap.size, 74, qf.cells A n c en⟩, ⟨w.heap.size + 1, 76, #[.int .i64 V, .slice An nn cn, .slice Ap np cp, .slice Aq nq cq, .slice A4 (nu + 1) c4]⟩, ⟨w.heap.size + 1 + 1, 74, zy⟩, ⟨w.heap.size + 1 + 1 + 1, 76, xf⟩, ⟨ga, 74, q.cells A n c en⟩, ⟨gN, 55, #[.int .i64 (nv : Int), .int .i64 (na : Int), .int .i64 (nb : Int), .int .i64 p.a, .int .i64 p.b, .int .i64 p.c, .int .i64 p.d, .int .i64 p.e, .int .i64 p.f, .bool tied]⟩] ⟨.slice An nn cn, .slice Ap np cp, .slice Aq nq cq, .slice A4 (nu + 1) c4⟩ ⟨d.sc, d.names ++ [s]⟩ w5) := HB;have v1 := HB.out.b1.cell 1;have HA := hid (HB.out.up ((Below.refl _ w5).alloc (Nat.le_refl _) (.cells #[.int .i64 (nv : Int), .int .i64 (na : Int), .int .i64 (nb : Int), .int .i64 p.a, .int .i64 p.b, .int .i64 p.c, .int .i64 p.d, .int .i64 p.e, .int .i64 p.f, .bool tied] 55)))
    have hwz := HA.out.b.size;go_upto_region 19 with (first | ((with_reducible show wpList _ _ _ (Oper.mk _ (Op.load _ _) _ _ _ _ :: _) _ _); refine zp 55 HB.out.b5 Tryz.underlying55 zx ?_) | (at_builtin; go_must (refine vt _ rfl _ _ 22 55 (.agg #[.int .i64 0, .int .i64 0, .int .i64 0, .int .i64 0, .int .i64 0, .int .i64 0, .int .i64 0, .int .i64 0, .int .i64 0, .bool false]) 10 80 rfl Tryz.underlying22 zBq rfl (by decide) w0.heap.size (.slice An nn cn) nn (zW Nte.cs d.sc.notes) rfl (by have := HA.out.o.n; unfold yY at this; rw [← HLN.out.1] at this; exact this) _ (some ⟨w5.heap.size, 0, none⟩) 1 1 (Nte.cs ⟨nv, na, nb, p, tied⟩) rfl (zAO w5 ⟨nv, na, nb, p, tied⟩ _ rfl) (Nte.cs_one ⟨nv, na, nb, p, tied⟩) (by simp only [maxLen]; omega) (by omega) hwz ?_); intro v6 w6 ho6 hg6 hv6; replace HA := hid (HA.out.addn (z := ⟨nv, na, nb, p, tied⟩) (yY.snoc (by have := ho6; rw [HLN.out.1] at this; exact this)) hg6 hv6); clear ho6 hg6 hv6; obtain ⟨A6, c6, hv6', -, -⟩ := HA.out.o.n.form; rw [List.length_append, ← HLN.out.1] at hv6'; replace hv6' : v6 = .slice A6 (nn + 1) c6 := hv6'; subst hv6'; have v5 := HA.out.b1.cell 1; have vf5 := HA.out.b1.frozen 1))
    have HF := hid (HA.out.c1 1 (.slice A6 (nn + 1) c6));clear HA HB v1 v5 vf5 hwz;(obtain ⟨w7, hw7⟩ : ∃ w7, w7 = w6.setCell ⟨w.heap.size + 1, 1, none⟩ (.slice A6 (nn + 1) c6) := ⟨_, rfl⟩);rw [← hw7] at HF ⊢;clear hw7;replace HF : Hid (Nst w0 w ⟨.slice An nn cn, .slice Ap np cp, .slice Aq nq cq, .slice Au nu cu⟩ [⟨w.heap.size, 74, qf.cells A n c en⟩, ⟨w.heap.size + 1, 76, #[.int .i64 V, .slice A6 (nn + 1) c6, .slice Ap np cp, .slice Aq nq cq, .slice A4 (nu + 1) c4]⟩, ⟨w.heap.size + 1 + 1, 74, zy⟩, ⟨w.heap.size + 1 + 1 + 1, 76, xf⟩, ⟨ga, 74, q.cells A n c en⟩, ⟨gN, 55, #[.int .i64 (nv : Int), .int .i64 (na : Int), .int .i64 (nb : Int), .int .i64 p.a, .int .i64 p.b, .int .i64 p.c, .int .i64 p.d, .int .i64 p.e, .int .i64 p.f, .bool tied]⟩] ⟨.slice A6 (nn + 1) c6, .slice Ap np cp, .slice Aq nq cq, .slice A4 (nu + 1) c4⟩ (d.note s ⟨nv, na, nb, p, tied⟩) w7) := HF;replace HF := hid HF.out.drew;refine jF (zCE [⟨w.heap.size, 74, qf.cells A n c en⟩, ⟨w.heap.size + 1, 76, #[.int .i64 V, .slice A6 (nn + 1) c6, .slice Ap np cp, .slice Aq nq cq, .slice A4 (nu + 1) c4]⟩]) (HF.out.sees.sub (by simp)) fun hHeld => ?_
    refine zJ 0 ?_ (hy := Or.inl ⟨by rfl, fun w hSw => by have k0 := hSw.get (k := 0) rfl; have x0 := k0.cell 0; have x1 := k0.cell 1; have x2 := k0.cell 2; have x3 := k0.cell 3; have x4 := k0.cell 4; clear k0 hSw; go_simp; try with_reducible rfl⟩);refine zJ 1 ?_ (hy := Or.inl ⟨by rfl, fun w hSw => by have k1 := hSw.get (k := 1) rfl; have x0 := k1.cell 0; have x1 := k1.cell 1; have x2 := k1.cell 2; have x3 := k1.cell 3; have x4 := k1.cell 4; clear k1 hSw; go_simp; try with_reducible rfl⟩);refine yL 2 ?_;intro K hK;refine jV 74 (qf.cells A n c en) HF.out.b2 zE (Qr.all_one _ _ _ _ _) ?_;intro w9 b9 g9 z9;replace HF := hid (HF.out.p2 b9 g9);clear b9 g9 z9;(refine zq hK (HF.out.sees.sub (by simp)) fun hHeld => ?_);clear hK K;refine yL 3 ?_;intro K hK;refine kD rfl 76 (.tmp 7) (.tmp 88) rfl _ _ rfl rfl 76 _ HF.out.b3 kj rfl (HF.out.o.one V) ?_;intro w9 b9 g9 z9;replace HF := hid (HF.out.p3 b9 g9);clear b9 g9 z9;(refine zq hK (HF.out.sees.sub (by simp)) fun hHeld => ?_);clear hK K;refine jc ?_;(go_wp2_with fail);refine bodyPost_ret (xK rfl _ ⟨w.heap.size + 1 + 1, 0, none⟩ ⟨w.heap.size + 1 + 1 + 1, 0, none⟩ rfl rfl _ _ Tryz.underlying74 rfl Tryz.underlying76 rfl _ (qf.cells A n c en) (#[.int .i64 V, .slice A6 (nn + 1) c6, .slice Ap np cp, .slice Aq nq cq, .slice A4 (nu + 1) c4]) zE kj (zO HF.out.b2) (zO HF.out.b3)) rfl ?_
    rw [HRY.out];exact HF.out.ends rfl
end Go.Proofs.YtcjhihmaegagdaaGreatDoor
