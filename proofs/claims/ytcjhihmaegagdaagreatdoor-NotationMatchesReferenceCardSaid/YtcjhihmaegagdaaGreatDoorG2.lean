/- Texts of the Notation chapter, together: Pa, Pq, Ps, Pt, Pu, Pl, Pb, Pc, Pd, Pe, Vg, Pf, Pg, Ph, Pi, Pk, Pm. -/
import Derived.Test.YtcjhihmaegagdaaGreatDoorG1
set_option maxRecDepth 100000
set_option maxHeartbeats 8000000
set_option linter.unusedSimpArgs false
set_option linter.unusedVariables false
set_option linter.unusedSectionVars false
set_option linter.unnecessarySimpa false
namespace Go.Proofs.YtcjhihmaegagdaaGreatDoor
open Go.Lib
structure Tok where
 kind : Nat
 pos : Nat
 n : Nat
 text : List UInt8
deriving DecidableEq
def yw (x : UInt8) : Bool := x == 32 || x == 9 || x == 10
def k9 (x : UInt8) : Bool := decide (97 ≤ x.toNat) && decide (x.toNat ≤ 122)
def zd (x : UInt8) : Bool := decide (48 ≤ x.toNat) && decide (x.toNat ≤ 57)
def yD (x : UInt8) : Bool := k9 x || zd x
def jv (x : UInt8) : Bool := x == 59 || x == 58 || x == 47 || x == 45 || x == 91 || x == 93
inductive zDO where
 | skip (k : Nat)
 | tok (kind n k : Nat)
 | bad
def zP : List UInt8 → zDO
 | [] => .bad
 | x :: l =>
  if yw x then .skip 1
  else if x == 35 then .skip (1 + (l.takeWhile (· != 10)).length)
  else if k9 x then (if 16 < 1 + (l.takeWhile yD).length then .bad else .tok 1 0 (1 + (l.takeWhile yD).length))
  else if zd x then (if 7 < 1 + (l.takeWhile zd).length ∨ (1 < 1 + (l.takeWhile zd).length ∧ x = 48) then .bad else .tok 2 (num 0 (x :: l.takeWhile zd)) (1 + (l.takeWhile zd).length))
  else if jv x then .tok 3 0 1
  else .bad
def zDj : Nat → Nat → List UInt8 → List Tok × Option Nat
 | 0, _, _ => ([], none)
 | _ + 1, _, [] => ([], none)
 | f + 1, p, x :: l =>
  match zP (x :: l) with
  | .skip k => zDj f (p + k) ((x :: l).drop k)
  | .tok kd n k => (⟨kd, p, n, (x :: l).take k⟩ :: (zDj f (p + k) ((x :: l).drop k)).1, (zDj f (p + k) ((x :: l).drop k)).2)
  | .bad => ([], some p)
def xr (p : Nat) (l : List UInt8) : List Tok × Option Nat := zDj l.length p l
def jG (s : List UInt8) : List Tok := if 8000 < s.length then [] else match (xr 0 s).2 with | none => (xr 0 s).1 | some _ => []
def zBc (s : List UInt8) : Nat := if 8000 < s.length then 0 else match (xr 0 s).2 with | none => 0 | some p => p
def kP (s : List UInt8) : Nat := if 8000 < s.length then 2 else match (xr 0 s).2 with | none => 0 | some _ => 10
inductive Rs (α : Type) where
 | ok (a : α) (rest : List Tok)
 | err (rest : List Tok) (e : Nat)
def Rs.bind {α β : Type} : Rs α → (α → List Tok → Rs β) → Rs β
 | .ok a r, f => f a r
 | .err r e, _ => .err r e
def vU : List UInt8 := [118, 111, 105, 99, 101, 115]
def za : List UInt8 := [99, 97, 100, 101, 110, 99, 101]
def yW : List UInt8 := [110, 111, 116, 101]
def yd : List UInt8 := [116, 105, 101, 100]
def ym : List UInt8 := [112, 97, 105, 114]
def kx : List UInt8 := [118, 111, 105, 99, 101]
def jX : List UInt8 := [102, 114, 111, 109]
def zAx : List UInt8 := [116, 111]
def zBw : List UInt8 := [97, 116]
def zA8 : List UInt8 := [98, 121]
def xg : List UInt8 := [119, 105, 116, 104, 105, 110]
def zi : List (List UInt8) := [vU, za, yW, yd, ym, kx, jX, zAx, zBw, zA8, xg]
def yM : List UInt8 := [59]
def zAz : List UInt8 := [58]
def zAy : List UInt8 := [47]
def zAE : List UInt8 := [45]
def zEO : List UInt8 := [91]
def kh : List UInt8 := [93]
def yv (s : List UInt8) : List Tok → Option (List Tok)
 | [] => none
 | t :: r => if t.text = s then some r else none
def jM (s : List UInt8) (ts : List Tok) : Rs Unit := match yv s ts with | some r => .ok () r | none => .err ts 10
def zb : List (List UInt8) → List Tok → Rs Unit
 | [], ts => .ok () ts
 | s :: l, ts => (jM s ts).bind fun _ r => zb l r
def yX : List Tok → Rs Nat
 | [] => .err [] 10
 | t :: r => if t.kind = 2 then .ok t.n r else .err (t :: r) 10
def jf : List Tok → Rs (List UInt8)
 | [] => .err [] 10
 | t :: r => if t.kind = 1 ∧ t.text ∉ zi then .ok t.text r else .err (t :: r) 10
def xY (names : List (List UInt8)) (s : List UInt8) : Option Nat := names.findIdx? (· == s)
def zHV (names : List (List UInt8)) (ts : List Tok) : Rs (List UInt8) := (jf ts).bind fun s r => match xY names s with | some _ => .err ts 11 | none => .ok s r
def zB2 (names : List (List UInt8)) (ts : List Tok) : Rs Nat := (jf ts).bind fun s r => match xY names s with | some i => .ok i r | none => .err ts 11
def Vc.put (v : Vc) (j : Nat) (x : Int) : Vc := ⟨if j = 0 then x else v.a, if j = 1 then x else v.b, if j = 2 then x else v.c, if j = 3 then x else v.d, if j = 4 then x else v.e, if j = 5 then x else v.f⟩
def vc0 : Vc := ⟨0, 0, 0, 0, 0, 0⟩
def Vc.neg (v : Vc) : Vc := ⟨-v.a, -v.b, -v.c, -v.d, -v.e, -v.f⟩
def vY (p : Nat) : Nat → Nat → Nat × Nat
 | 0, n => (n, 0)
 | f + 1, n => if n % p = 0 then ((vY p f (n / p)).1, (vY p f (n / p)).2 + 1) else (n, 0)
def zr : Nat → Nat
 | 0 => 2
 | 1 => 3
 | 2 => 5
 | 3 => 7
 | 4 => 11
 | _ => 13
def zKr : Nat → Nat × Nat × Vc → Nat × Nat × Vc
 | i, (n, d, v) => ((vY (zr i) 64 n).1, (vY (zr i) 64 d).1, v.put i (((vY (zr i) 64 n).2 : Int) - (vY (zr i) 64 d).2))
def zm (n d : Nat) : Nat → Nat × Nat × Vc
 | 0 => (n, d, vc0)
 | k + 1 => zKr k (zm n d k)
def xS (n d : Nat) : Option Vc := if n < 1 ∨ 1000000000 < n ∨ d < 1 ∨ 1000000000 < d then none else if (zm n d 6).1 = (zm n d 6).2.1 then some (zm n d 6).2.2 else none
def v9 : Nat → Vc → List Tok → Rs Vc
 | 0, v, ts => match yv kh ts with | some r => .ok v r | none => .err ts 10
 | m + 1, v, ts => match yv kh ts with
  | some r => .ok v r
  | none => match yv zAE ts with
   | some r => (yX r).bind fun n r' => v9 m (v.put (5 - m) (-(n : Int))) r'
   | none => (yX ts).bind fun n r' => v9 m (v.put (5 - m) (n : Int)) r'
def vL (ts : List Tok) : Rs Vc :=
 match yv zEO ts with
 | some r => v9 6 vc0 r
 | none => (yX ts).bind fun n r => (jM zAy r).bind fun _ r => (yX r).bind fun d r => match xS n d with | some v => .ok v r | none => .err ts 9
structure Nte where
 voice : Int
 start : Int
 stop : Int
 place : Vc
 tied : Bool
deriving DecidableEq
structure Par where
 a : Int
 b : Int
 wish : Vc
 bound : Int
deriving DecidableEq
structure Scr where
 voices : Int
 notes : List Nte
 pairs : List Par
 cad : List Int
deriving DecidableEq
structure Drf where
 sc : Scr
 names : List (List UInt8)
def jB : Scr := ⟨0, [], [], []⟩
def Drf.note (d : Drf) (s : List UInt8) (n : Nte) : Drf := ⟨{ d.sc with notes := d.sc.notes ++ [n] }, d.names ++ [s]⟩
def Drf.pair (d : Drf) (p : Par) : Drf := ⟨{ d.sc with pairs := d.sc.pairs ++ [p] }, d.names⟩
def Drf.cad (d : Drf) (x : Int) : Drf := ⟨{ d.sc with cad := d.sc.cad ++ [x] }, d.names⟩
def atR (tied : Bool) (ts : List Tok) : Rs Vc := if tied then .ok vc0 ts else match yv zBw ts with | some r => vL r | none => .ok vc0 ts
def byR (ts : List Tok) : Rs Vc := match yv zA8 ts with | some r => vL r | none => .ok vc0 ts
def xW (ts : List Tok) : Rs Nat := match yv xg ts with | some r => yX r | none => .ok 0 ts
def xy (tied : Bool) (d : Drf) (ts : List Tok) : Rs Drf :=
 (zHV d.names ts).bind fun s r => (zb [zAz, kx] r).bind fun _ r => (yX r).bind fun v r => (zb [jX] r).bind fun _ r => (yX r).bind fun a r =>
 (zb [zAx] r).bind fun _ r => (yX r).bind fun b r => (atR tied r).bind fun p r => (zb [yM] r).bind fun _ r => .ok (d.note s ⟨v, a, b, p, tied⟩) r
def qI (d : Drf) (ts : List Tok) : Rs Drf :=
 (zB2 d.names ts).bind fun a r => (zB2 d.names r).bind fun b r => (byR r).bind fun v r => (xW r).bind fun k r => (zb [yM] r).bind fun _ r => .ok (d.pair ⟨a, b, v, k⟩) r
def zAq (d : Drf) (ts : List Tok) : Rs Drf := (yX ts).bind fun n r => (zb [yM] r).bind fun _ r => .ok (d.cad n) r
def xA (s : List UInt8) (d : Drf) (r : List Tok) : Option (Rs Drf) :=
 if s = yW then some (xy false d r) else if s = yd then some (xy true d r) else if s = ym then some (qI d r) else if s = za then some (zAq d r) else none
def vc : Nat → Drf → List Tok → Rs Drf
 | _, d, [] => .ok d []
 | 0, d, ts => .ok d ts
 | f + 1, d, t :: r => match xA t.text d r with
  | some q => q.bind fun d r => vc f d r
  | none => .err (t :: r) 10
def vZ (ts : List Tok) : Rs Drf :=
 (zb [vU] ts).bind fun _ r => (yX r).bind fun v r => (zb [yM] r).bind fun _ r => vc r.length ⟨{ jB with voices := v }, []⟩ r
def vV {α : Type} (lt : α → α → Bool) (x : α) : List α → List α
 | [] => [x]
 | y :: l => if lt x y then x :: y :: l else y :: vV lt x l
def yh {α : Type} (lt : α → α → Bool) (l : List α) : List α := l.foldl (fun acc x => vV lt x acc) []
def zF : Nte := ⟨0, 0, 0, vc0, false⟩
def yK (a b : Nte) : Bool := decide (a.start < b.start) || (decide (a.start = b.start) && decide (a.voice < b.voice))
def zv (a b : Par) : Bool := decide (a.a < b.a) || (decide (a.a = b.a) && decide (a.b < b.b))
def zl (l : List Nte) : List Nat := yh (fun i k => yK (l.getD i zF) (l.getD k zF)) (List.range l.length)
def zj (l : List Nte) (i : Nat) : Nat := (zl l).idxOf i
def kw (l : List Nte) (n : Nte) : Option Nat := l.findIdx? fun m => decide (m.voice = n.voice) && decide (m.stop = n.start)
def qj (l : List Nte) (k : Nat) : List Nte :=
 match l[k]? with
 | none => l
 | some n => if n.tied then (match kw l n with | some j => l.set k { n with place := (l.getD j zF).place } | none => l) else l
def zAo (l : List Nte) (k : Nat) : List Nte := (List.range k).foldl qj l
def vd (l : List Nte) : List Nte := zAo ((zl l).map fun i => l.getD i zF) l.length
def jr (place : Nat → Nat) (p : Par) : Par :=
 if place p.b.toNat < place p.a.toNat then ⟨place p.b.toNat, place p.a.toNat, p.wish.neg, p.bound⟩ else ⟨place p.a.toNat, place p.b.toNat, p.wish, p.bound⟩
def yz (l : List Nte) (ps : List Par) : List Par := yh zv (ps.map (jr (zj l)))
def vg (l : List Int) : List Int := yh (fun a b => decide (a < b)) l
def vi (s : Scr) : Scr := ⟨s.voices, vd s.notes, yz s.notes s.pairs, vg s.cad⟩
def Vc.le (v : Vc) (m : Int) : Bool := decide (-m ≤ v.a) && decide (v.a ≤ m) && decide (-m ≤ v.b) && decide (v.b ≤ m) && decide (-m ≤ v.c) && decide (v.c ≤ m) && decide (-m ≤ v.d) && decide (v.d ≤ m) && decide (-m ≤ v.e) && decide (v.e ≤ m) && decide (-m ≤ v.f) && decide (v.f ≤ m)
def jH (s : Scr) : Bool := decide (1 ≤ s.voices) && decide (s.voices ≤ 8) && decide (s.notes.length ≤ 200) && decide (s.pairs.length ≤ 400) && decide (s.cad.length < 16)
def qd (s : Scr) (n : Nte) : Bool := decide (0 ≤ n.voice) && decide (n.voice < s.voices) && decide (0 ≤ n.start) && decide (n.start < n.stop) && decide (n.stop ≤ 100000) && n.place.le 24
def xE {α : Type} (lt : α → α → Bool) : List α → Bool
 | [] => true
 | [_] => true
 | x :: y :: l => lt x y && xE lt (y :: l)
def vQ (s : Scr) : Bool := s.notes.all (qd s) && xE yK s.notes
def j4 (l : List Nte) (k : Nat) (v : Int) : Nte := ((l.take k).reverse.find? (fun n => decide (n.voice = v))).getD zF
def vm (l : List Nte) (k : Nat) (n : Nte) : Bool :=
 let b := j4 l k n.voice
 !(decide (n.start < b.stop) || (n.tied && (!decide (b.stop = n.start) || decide (b.stop = 0) || !decide (b.place = n.place))))
def xz (s : Scr) : Bool := (List.range s.notes.length).all fun k => vm s.notes k (s.notes.getD k zF)
def vG (s : Scr) (p : Par) : Bool :=
 decide (0 ≤ p.a) && decide (p.a < p.b) && decide (p.b < s.notes.length) && p.wish.le 16 && decide (0 ≤ p.bound) && decide (p.bound ≤ 100000) &&
  !decide ((s.notes.getD p.a.toNat zF).voice = (s.notes.getD p.b.toNat zF).voice) && decide ((s.notes.getD p.b.toNat zF).start < (s.notes.getD p.a.toNat zF).stop)
def vu (s : Scr) : Bool := s.pairs.all (vG s) && xE zv s.pairs
def zCD (s : Scr) : Bool := s.cad.all (fun c => decide (1 ≤ c) && decide (c < 100000)) && xE (fun a b => decide (a < b)) s.cad
def xd (s : Scr) : Bool := jH s && vQ s && xz s && vu s && zCD s
def qK (e : Nat) : List Tok → Nat
 | [] => e
 | t :: _ => t.pos
def yV (s : List UInt8) : Scr := if kP s ≠ 0 then jB else match vZ (jG s) with | .err _ _ => jB | .ok d _ => if xd (vi d.sc) then vi d.sc else jB
def y6 (s : List UInt8) : Nat := if kP s ≠ 0 then zBc s else match vZ (jG s) with | .err r _ => qK s.length r | .ok d _ => if xd (vi d.sc) then 0 else s.length
def yx (s : List UInt8) : Nat := if kP s ≠ 0 then kP s else match vZ (jG s) with | .err _ e => e | .ok d _ => if xd (vi d.sc) then 0 else 1
def jI : Nat → Nat → Nat → Nat
 | _, 0, n => n
 | p, k + 1, n => if n ≤ 9999999 then jI p k (n * p) else n
def xM (v : Vc) : Nat := jI 13 v.f.toNat (jI 11 v.e.toNat (jI 7 v.d.toNat (jI 5 v.c.toNat (jI 3 v.b.toNat (jI 2 v.a.toNat 1)))))
def zc (v : Vc) : List UInt8 :=
 if xM v ≤ 9999999 ∧ xM v.neg ≤ 9999999 then itoa (xM v) ++ 47 :: itoa (xM v.neg)
 else 91 :: (itoa v.a ++ 32 :: itoa v.b ++ 32 :: itoa v.c ++ 32 :: itoa v.d ++ 32 :: itoa v.e ++ 32 :: itoa v.f) ++ [93]
def zHj (c : Int) : List UInt8 := [99, 97, 100, 101, 110, 99, 101, 32] ++ itoa c ++ [59, 10]
def qi (i : Nat) (n : Nte) : List UInt8 :=
 (if n.tied then [116, 105, 101, 100, 32, 110] else [110, 111, 116, 101, 32, 110]) ++ itoa i ++ [58, 32, 118, 111, 105, 99, 101, 32] ++ itoa n.voice ++ [32, 102, 114, 111, 109, 32] ++ itoa n.start ++ [32, 116, 111, 32] ++ itoa n.stop ++
  (if !n.tied && !decide (n.place = vc0) then [32, 97, 116, 32] ++ zc n.place else []) ++ [59, 10]
def qT (p : Par) : List UInt8 :=
 [112, 97, 105, 114, 32, 110] ++ itoa p.a ++ [32, 110] ++ itoa p.b ++ (if !decide (p.wish = vc0) then [32, 98, 121, 32] ++ zc p.wish else []) ++ (if 0 < p.bound then [32, 119, 105, 116, 104, 105, 110, 32] ++ itoa p.bound else []) ++ [59, 10]
def zLS (l : List Int) : List UInt8 := l.flatMap zHj
def vH (l : List Nte) : Nat → List UInt8
 | 0 => []
 | k + 1 => vH l k ++ qi k (l.getD k zF)
def zKn (l : List Par) : List UInt8 := l.flatMap qT
def kK (s : Scr) : List UInt8 := [118, 111, 105, 99, 101, 115, 32] ++ itoa s.voices ++ [59, 10] ++ zLS s.cad ++ vH s.notes s.notes.length ++ zKn s.pairs
def kE (s : Scr) : List UInt8 := if xd s then (if 8000 < (kK s).length then [] else kK s) else []
def kJ (s : Scr) : Nat := if xd s then (if 8000 < (kK s).length then 2 else 0) else 1
open Go.Lib
def Rs.suf {α : Type} (ts : List Tok) : Rs α → Prop
 | .ok _ r => r <:+ ts
 | .err r _ => r <:+ ts
theorem Rs.suf_bind {α β : Type} {ts : List Tok} {q : Rs α} {f : α → List Tok → Rs β} (h : q.suf ts) (k : ∀ a r, (f a r).suf r) : (q.bind f).suf ts := by
 cases q with
 | ok a r =>
  have := k a r;simp only [Rs.bind]
  cases hq : f a r with
  | ok b r2 => rw [hq] at this; exact List.IsSuffix.trans this h
  | err r2 e => rw [hq] at this; exact List.IsSuffix.trans this h
 | err r e => exact h
theorem Rs.suf_ok {α : Type} {ts : List Tok} (a : α) : (Rs.ok a ts).suf ts := List.suffix_refl ts
theorem Rs.suf_err {α : Type} {ts : List Tok} (k : Nat) : (Rs.err ts k : Rs α).suf ts := List.suffix_refl ts
theorem ve {s : List UInt8} {ts r : List Tok} (h : yv s ts = some r) : r <:+ ts := by
 cases ts with
 | nil => cases h
 | cons t l =>
  simp only [yv] at h;split at h
  · injection h with h; subst h; exact List.suffix_cons t l
  cases h
theorem zEJ (s : List UInt8) (ts : List Tok) : (jM s ts).suf ts := by
 unfold jM;split
 case h_1 r h => exact ve h
 case h_2 => exact Rs.suf_err 10
theorem xP (l : List (List UInt8)) (ts : List Tok) : (zb l ts).suf ts := by
 induction l generalizing ts with
 | nil => exact Rs.suf_ok ()
 | cons s l ih => exact Rs.suf_bind (zEJ s ts) fun _ r => ih r
theorem xe (ts : List Tok) : (yX ts).suf ts := by
 cases ts with
 | nil => exact Rs.suf_err 10
 | cons t l =>
  simp only [yX];split
  · exact List.suffix_cons t l
  exact Rs.suf_err 10
theorem zEL (ts : List Tok) : (jf ts).suf ts := by
 cases ts with
 | nil => exact Rs.suf_err 10
 | cons t l =>
  simp only [jf];split
  · exact List.suffix_cons t l
  exact Rs.suf_err 10
theorem zJK (ns : List (List UInt8)) (ts : List Tok) : (zHV ns ts).suf ts := by
 unfold zHV;have := zEL ts
 cases hq : jf ts with
 | ok s r =>
  rw [hq] at this;simp only [Rs.bind];split
  · exact Rs.suf_err 11
  exact this
 | err r k => rw [hq] at this; exact this
theorem zBS (ns : List (List UInt8)) (ts : List Tok) : (zB2 ns ts).suf ts := by
 unfold zB2;have := zEL ts
 cases hq : jf ts with
 | ok s r =>
  rw [hq] at this;simp only [Rs.bind];split
  · exact this
  exact Rs.suf_err 11
 | err r k => rw [hq] at this; exact this
theorem Rs.suf_up {α : Type} {ts us : List Tok} {q : Rs α} (h : q.suf us) (k : us <:+ ts) : q.suf ts := by
 cases q with
 | ok a r => exact List.IsSuffix.trans h k
 | err r e => exact List.IsSuffix.trans h k
theorem zJ2 (m : Nat) (v : Vc) (ts : List Tok) : (v9 m v ts).suf ts := by
 induction m generalizing v ts with
 | zero =>
  unfold v9;split
  case h_1 r h => exact ve h
  case h_2 => exact Rs.suf_err 10
 | succ m ih =>
  unfold v9;split
  case h_1 r h => exact ve h
  case h_2 =>
   split
   case h_1 r h => exact Rs.suf_up (Rs.suf_bind (xe r) fun _ _ => ih _ _) (ve h)
   case h_2 => exact Rs.suf_bind (xe ts) fun _ _ => ih _ _
theorem zI9 (ts : List Tok) : (vL ts).suf ts := by
 unfold vL;split
 case h_1 r h => exact Rs.suf_up (zJ2 6 vc0 r) (ve h)
 case h_2 =>
  have h1 := xe ts
  cases q1 : yX ts with
  | err r k => rw [q1] at h1; exact h1
  | ok n r =>
   rw [q1] at h1;simp only [Rs.bind];have h2 := zEJ zAy r
   cases q2 : jM zAy r with
   | err r k => rw [q2] at h2; exact List.IsSuffix.trans h2 h1
   | ok u r2 =>
    rw [q2] at h2;simp only;have h3 := xe r2
    cases q3 : yX r2 with
    | err r k => rw [q3] at h3; exact List.IsSuffix.trans h3 (List.IsSuffix.trans h2 h1)
    | ok d r3 =>
     rw [q3] at h3;simp only;split
     · exact List.IsSuffix.trans h3 (List.IsSuffix.trans h2 h1)
     exact List.suffix_refl ts
theorem zLr (t : Bool) (ts : List Tok) : (atR t ts).suf ts := by
 unfold atR;split
 · exact Rs.suf_ok _
 exact zMX
theorem zLa (ts : List Tok) : (byR ts).suf ts := by
 unfold byR;exact zMX
theorem zFI (ts : List Tok) : (xW ts).suf ts := by
 unfold xW;split
 case h_1 r h => exact Rs.suf_up (xe r) (ve h)
 case h_2 => exact Rs.suf_ok _
theorem zEI (t : Bool) (d : Drf) (ts : List Tok) : (xy t d ts).suf ts :=
 Rs.suf_bind (zJK _ _) fun _ _ => Rs.suf_bind (xP _ _) fun _ _ => Rs.suf_bind (xe _) fun _ _ => Rs.suf_bind (xP _ _) fun _ _ => Rs.suf_bind (xe _) fun _ _ =>
  Rs.suf_bind (xP _ _) fun _ _ => Rs.suf_bind (xe _) fun _ _ => Rs.suf_bind (zLr _ _) fun _ _ => Rs.suf_bind (xP _ _) fun _ _ => Rs.suf_ok _
theorem zIH (d : Drf) (ts : List Tok) : (qI d ts).suf ts :=
 Rs.suf_bind (zBS _ _) fun _ _ => Rs.suf_bind (zBS _ _) fun _ _ => Rs.suf_bind (zLa _) fun _ _ => Rs.suf_bind (zFI _) fun _ _ => Rs.suf_bind (xP _ _) fun _ _ => Rs.suf_ok _
theorem zJs (d : Drf) (ts : List Tok) : (zAq d ts).suf ts :=
 Rs.suf_bind (xe _) fun _ _ => Rs.suf_bind (xP _ _) fun _ _ => Rs.suf_ok _
theorem Rs.bind_ok {α β : Type} {q : Rs α} {f : α → List Tok → Rs β} {b : β} {r : List Tok} (h : q.bind f = .ok b r) : ∃ a r1, q = .ok a r1 ∧ f a r1 = .ok b r := by
 cases q with
 | ok a r1 => exact ⟨a, r1, rfl, h⟩
 | err r1 k => cases h
def Drf.cnt (d : Drf) : Nat := d.sc.notes.length + d.sc.pairs.length + d.sc.cad.length
theorem zEa {t : Bool} {d d2 : Drf} {ts r : List Tok} (h : xy t d ts = .ok d2 r) : d2.cnt = d.cnt + 1 := by
 unfold xy at h;obtain ⟨_, _, _, h⟩ := Rs.bind_ok h;obtain ⟨_, _, _, h⟩ := Rs.bind_ok h;obtain ⟨_, _, _, h⟩ := Rs.bind_ok h;obtain ⟨_, _, _, h⟩ := Rs.bind_ok h;obtain ⟨_, _, _, h⟩ := Rs.bind_ok h;obtain ⟨_, _, _, h⟩ := Rs.bind_ok h;obtain ⟨_, _, _, h⟩ := Rs.bind_ok h;obtain ⟨_, _, _, h⟩ := Rs.bind_ok h;obtain ⟨_, _, _, h⟩ := Rs.bind_ok h;injection h with h;subst h;simp only [Drf.cnt, Drf.note, List.length_append, List.length_singleton];omega
theorem zIu {d d2 : Drf} {ts r : List Tok} (h : qI d ts = .ok d2 r) : d2.cnt = d.cnt + 1 := by
 unfold qI at h;obtain ⟨_, _, _, h⟩ := Rs.bind_ok h;obtain ⟨_, _, _, h⟩ := Rs.bind_ok h;obtain ⟨_, _, _, h⟩ := Rs.bind_ok h;obtain ⟨_, _, _, h⟩ := Rs.bind_ok h;obtain ⟨_, _, _, h⟩ := Rs.bind_ok h;injection h with h;subst h;simp only [Drf.cnt, Drf.pair, List.length_append, List.length_singleton];omega
theorem zKh {d d2 : Drf} {ts r : List Tok} (h : zAq d ts = .ok d2 r) : d2.cnt = d.cnt + 1 := by
 unfold zAq at h;obtain ⟨_, _, _, h⟩ := Rs.bind_ok h;obtain ⟨_, _, _, h⟩ := Rs.bind_ok h;injection h with h;subst h;simp only [Drf.cnt, Drf.cad, List.length_append, List.length_singleton];omega
theorem zAP {s : List UInt8} {d : Drf} {r : List Tok} {q : Rs Drf} (h : xA s d r = some q) : q.suf r := by
 unfold xA at h;split at h
 · injection h with h; subst h; exact zEI _ _ _
 split at h
 · injection h with h; subst h; exact zEI _ _ _
 split at h
 · injection h with h; subst h; exact zIH _ _
 split at h
 · injection h with h; subst h; exact zJs _ _
 cases h
theorem zEp {s : List UInt8} {d d2 : Drf} {r r2 : List Tok} (h : xA s d r = some (.ok d2 r2)) : d2.cnt = d.cnt + 1 := by
 unfold xA at h;split at h
 · injection h with h; exact zEa h
 split at h
 · injection h with h; exact zEa h
 split at h
 · injection h with h; exact zIu h
 split at h
 · injection h with h; exact zKh h
 cases h
theorem kY (f : Nat) (d : Drf) : vc f d [] = .ok d [] := by cases f <;> rfl
theorem zBE {α : Type} {motive : List α → Prop} (nil : motive []) (snoc : ∀ l x, motive l → motive (l ++ [x])) (l : List α) : motive l := by
 rw [← List.reverse_reverse l]
 induction l.reverse with
 | nil => exact nil
 | cons x r ih => rw [List.reverse_cons]; exact snoc _ _ ih
structure Swo {α : Type} (lt : α → α → Bool) : Prop where
 irr : ∀ x, lt x x = false
 trans : ∀ x y z, lt x y = true → lt y z = true → lt x z = true
 neg : ∀ x y z, lt x y = false → lt y z = false → lt x z = false
section
variable {α : Type} {lt : α → α → Bool}
theorem Swo.left (h : Swo lt) {x y z : α} (h1 : lt x y = true) (h2 : lt z y = false) : lt x z = true := by
 rcases hx : lt x z with _ | _
 · have := h.neg _ _ _ hx h2; rw [h1] at this; cases this
 rfl
theorem Swo.right (h : Swo lt) {x y z : α} (h1 : lt y x = true) (h2 : lt y z = false) : lt z x = true := by
 rcases hx : lt z x with _ | _
 · have := h.neg _ _ _ h2 hx; rw [h1] at this; cases this
 rfl
theorem Swo.asymm (h : Swo lt) {x y : α} (h1 : lt x y = true) : lt y x = false := by
 rcases hx : lt y x with _ | _
 · rfl
 have := h.trans _ _ _ h1 hx; rw [h.irr] at this; cases this
def zT (lt : α → α → Bool) (l : List α) : Prop := l.Pairwise fun x y => lt y x = false
def zV (lt : α → α → Bool) : List α → List α → List α
 | [], r => r
 | x :: l, [] => x :: l
 | x :: l, y :: r => if lt y x then y :: zV lt (x :: l) r else x :: zV lt l (y :: r)
termination_by l r => l.length + r.length
@[simp] theorem zAk (r : List α) : zV lt [] r = r := by rw [zV]
@[simp] theorem qg (l : List α) : zV lt l [] = l := by cases l <;> rw [zV]
theorem yI (x : α) (l : List α) (y : α) (r : List α) : zV lt (x :: l) (y :: r) = if lt y x then y :: zV lt (x :: l) r else x :: zV lt l (y :: r) := by rw [zV]
theorem zGk (x : α) (l : List α) : (vV lt x l).length = l.length + 1 := by
 induction l with
 | nil => rfl
 | cons y l ih => unfold vV; split <;> simp [ih]
theorem zB7 (x : α) (l : List α) : (vV lt x l).Perm (x :: l) := by
 induction l with
 | nil => exact List.Perm.refl _
 | cons y l ih =>
  unfold vV;split
  · exact List.Perm.refl _
  exact (List.Perm.cons y ih).trans (List.Perm.swap x y l)
theorem zBe (l : List α) (y : α) : zV lt l [y] = vV lt y l := by
 induction l with
 | nil => simp [vV]
 | cons x l ih => rw [yI]; unfold vV; split <;> simp [ih]
theorem zG5 (hO : Swo lt) (y : α) (l r : List α) : vV lt y (zV lt l r) = zV lt l (vV lt y r) := by
 fun_induction zV lt l r with
 | case1 r => simp
 | case2 x l => rw [show vV lt y [] = [y] from rfl, zBe]
 | case3 a A b B h ih =>
  rw [vV, vV];by_cases hy : lt y b = true
  · rw [if_pos hy, if_pos hy, yI, if_pos (hO.trans _ _ _ hy h), yI, if_pos h]
  rw [if_neg hy, if_neg hy, yI, if_pos h, ih]
 | case4 a A b B h ih =>
  (have hba : lt b a = false := by simpa using h);rw [vV];by_cases hy : lt y a = true
  · have hyb : lt y b = true := hO.left hy hba;rw [if_pos hy, vV, if_pos hyb, yI, if_pos hy, yI, if_neg h]
  rw [if_neg hy, ih];rw [vV];split
  · rw [yI, if_neg hy]
  rw [yI, if_neg h]
theorem xC (l : List α) (x : α) : yh lt (l ++ [x]) = vV lt x (yh lt l) := by simp [yh, List.foldl_append]
theorem zFv (hO : Swo lt) (l r : List α) : yh lt (l ++ r) = zV lt (yh lt l) (yh lt r) := by
 induction r using zBE with
 | nil => simp [yh]
 | snoc r x ih => rw [← List.append_assoc, xC, ih, xC, zG5 hO]
theorem jT (l : List α) : (yh lt l).length = l.length := by
 induction l using zBE with
 | nil => rfl
 | snoc l x ih => rw [xC, zGk, ih]; simp
theorem kg (l : List α) : (yh lt l).Perm l := by
 induction l using zBE with
 | nil => exact List.Perm.refl _
 | snoc l x ih => rw [xC]; exact (zB7 x _).trans ((List.Perm.cons x ih).trans (List.perm_append_singleton x l).symm)
theorem zFL (hO : Swo lt) {x : α} {l : List α} (h : zT lt l) : zT lt (vV lt x l) := by
 induction l with
 | nil => exact List.pairwise_singleton _ _
 | cons y l ih =>
  have h' := List.pairwise_cons.1 h;unfold vV;split
  case isTrue hx =>
   refine List.pairwise_cons.2 ⟨fun z hz => ?_, h⟩;rcases List.mem_cons.1 hz with rfl | hz
   · exact hO.asymm hx
   exact hO.asymm (hO.left hx (h'.1 z hz))
  case isFalse hx =>
   refine List.pairwise_cons.2 ⟨fun z hz => ?_, ih h'.2⟩;rcases List.mem_cons.1 ((zB7 x l).mem_iff.1 hz) with rfl | hz
   · simpa using hx
   exact h'.1 z hz
theorem kH (hO : Swo lt) (l : List α) : zT lt (yh lt l) := by
 induction l using zBE with
 | nil => exact List.Pairwise.nil
 | snoc l x ih => rw [xC]; exact zFL hO ih
theorem zDy (hO : Swo lt) (x : α) (l r : List α) (hl : ∀ y ∈ l, lt x y = false) (hr : ∀ y, r.head? = some y → lt x y = true) : vV lt x (l ++ r) = l ++ x :: r := by
 have _ := hO
 induction l with
 | nil =>
  cases r with
  | nil => rfl
  | cons y r => rw [List.nil_append, vV, if_pos (hr y rfl)]; rfl
 | cons y l ih =>
  rw [List.cons_append, vV, if_neg (by rw [hl y (List.mem_cons_self ..)]; decide), ih (fun z hz => hl z (List.mem_cons_of_mem _ hz))];rfl
theorem zFq (l1 l2 r1 r2 : List α) (h1 : ∀ x ∈ l2, ∀ y ∈ r1, lt y x = true) (h2 : ∀ x ∈ l1, ∀ y ∈ r2, lt y x = false) : zV lt (l1 ++ l2) (r1 ++ r2) = zV lt l1 r1 ++ zV lt l2 r2 := by
 induction hn : l1.length + r1.length generalizing l1 r1 with
 | zero =>
  obtain rfl := List.eq_nil_of_length_eq_zero (show l1.length = 0 by omega);obtain rfl := List.eq_nil_of_length_eq_zero (show r1.length = 0 by omega);simp
 | succ n ih =>
  cases l1 with
  | nil =>
   cases r1 with
   | nil => simp at hn
   | cons y r1 =>
    have e := ih [] r1 (fun x hx z hz => h1 x hx z (List.mem_cons_of_mem _ hz)) (fun x hx => by simp at hx) (by simp at hn ⊢; omega);simp only [List.nil_append, zAk] at e ⊢
    cases l2 with
    | nil => simp
    | cons x l2 => rw [List.cons_append, yI, if_pos (h1 x (List.mem_cons_self ..) y (List.mem_cons_self ..)), e]; rfl
  | cons x l1 =>
   cases r1 with
   | nil =>
    have e := ih l1 [] (fun x hx z hz => by simp at hz) (fun z hz => h2 z (List.mem_cons_of_mem _ hz)) (by simp at hn ⊢; omega);simp only [List.nil_append, qg] at e ⊢
    cases r2 with
    | nil => simp
    | cons y r2 => rw [List.cons_append, yI, if_neg (by rw [h2 x (List.mem_cons_self ..) y (List.mem_cons_self ..)]; decide), e]; rfl
   | cons y r1 =>
    rw [List.cons_append, List.cons_append, yI, yI];split
    · have e := ih (x :: l1) r1 (fun x hx z hz => h1 x hx z (List.mem_cons_of_mem _ hz)) h2 (by simp at hn ⊢; omega);rw [← List.cons_append, e]; rfl
    have e := ih l1 (y :: r1) h1 (fun z hz => h2 z (List.mem_cons_of_mem _ hz)) (by simp at hn ⊢; omega);rw [← List.cons_append, e]; rfl
theorem zCF (x : α) (l r : List α) (hl : ∀ y ∈ l, lt y x = true) (hr : ∀ y, r.head? = some y → lt y x = false) : zV lt [x] (l ++ r) = l ++ x :: r := by
 induction l with
 | nil =>
  cases r with
  | nil => simp
  | cons y r => rw [List.nil_append, yI, if_neg (by rw [hr y rfl]; decide)]; simp
 | cons y l ih =>
  rw [List.cons_append, yI, if_pos (hl y (List.mem_cons_self ..)), ih (fun z hz => hl z (List.mem_cons_of_mem _ hz))];rfl
end
def seg {α : Type} (f : Nat → α) (a b : Nat) : List α := (List.range' a (b - a)).map f
section
variable {α : Type} {lt : α → α → Bool} {f g : Nat → α}
theorem zBg (f : Nat → α) (a b : Nat) : (seg f a b).length = b - a := by simp [seg]
theorem zDU (f : Nat → α) (a b i : Nat) (h : i < b - a) : (seg f a b)[i]? = some (f (a + i)) := by simp [seg, List.getElem?_range', h]
theorem kI (f : Nat → α) (a b : Nat) (h : b ≤ a) : seg f a b = [] := by simp [seg, Nat.sub_eq_zero_of_le h]
theorem xF (f : Nat → α) (a m b : Nat) (h1 : a ≤ m) (h2 : m ≤ b) : seg f a m ++ seg f m b = seg f a b := by
 unfold seg;rw [← List.map_append, show List.range' m (b - m) = List.range' (a + 1 * (m - a)) (b - m) by rw [Nat.one_mul, show a + (m - a) = m by omega], List.range'_append, show m - a + (b - m) = b - a by omega]
theorem zJw (f : Nat → α) (a b : Nat) (h : a ≤ b) : seg f a (b + 1) = seg f a b ++ [f b] := by
 rw [← xF f a b (b + 1) h (by omega)];congr 1;simp [seg]
theorem qZ (f : Nat → α) (a b : Nat) (h : a < b) : seg f a b = f a :: seg f (a + 1) b := by
 rw [← xF f a (a + 1) b (by omega) (by omega)];simp [seg]
theorem zB5 (a b : Nat) (h : ∀ t, a ≤ t → t < b → f t = g t) : seg f a b = seg g a b := by
 unfold seg;refine List.map_congr_left fun t ht => ?_
 have := List.mem_range'_1.1 ht;exact h t this.1 (by omega)
theorem zEf (a b c d : Nat) (hd : b - a = d - c) (h : ∀ t, t < b - a → f (a + t) = g (c + t)) : seg f a b = seg g c d := by
 refine List.ext_getElem? fun i => ?_
 by_cases hi : i < b - a
 · rw [zDU f a b i hi, zDU g c d i (by omega), h i hi]
 rw [List.getElem?_eq_none (by rw [zBg]; omega), List.getElem?_eq_none (by rw [zBg]; omega)]
theorem zAV {a b : Nat} {x : α} : x ∈ seg f a b ↔ ∃ t, a ≤ t ∧ t < b ∧ f t = x := by
 unfold seg;rw [List.mem_map];constructor
 · rintro ⟨t, ht, e⟩; have := List.mem_range'_1.1 ht; exact ⟨t, this.1, by omega, e⟩
 rintro ⟨t, h1, h2, e⟩; exact ⟨t, List.mem_range'_1.2 ⟨h1, by omega⟩, e⟩
theorem qo {a b : Nat} : zT lt (seg f a b) ↔ ∀ i j, a ≤ i → i < j → j < b → lt (f j) (f i) = false := by
 unfold zT seg;rw [List.pairwise_map, List.pairwise_iff_getElem];constructor
 · intro h i j h1 h2 h3;have := h (i - a) (j - a) (by simp; omega) (by simp; omega) (by omega);simpa [List.getElem_range', show a + (i - a) = i by omega, show a + (j - a) = j by omega] using this
 intro h i j hi hj hij;simp at hi hj;simpa [List.getElem_range'] using h (a + i) (a + j) (by omega) (by omega) (by omega)
theorem zL1 {a b : Nat} {l : List α} (hl : l.length = b - a) (h : ∀ t, t < b - a → l[t]? = some (f (a + t))) : seg f a b = l := by
 refine List.ext_getElem? fun i => ?_
 by_cases hi : i < b - a
 · rw [zDU f a b i hi, h i hi]
 rw [List.getElem?_eq_none (by rw [zBg]; omega), List.getElem?_eq_none (by omega)]
end
def zAD {α : Type} (f : Nat → α) (i j t : Nat) : α := if t = i then f j else if t = j then f i else f t
def jN {α : Type} (f : Nat → α) (a b n t : Nat) : α := if a ≤ t ∧ t < a + n then f (t - a + b) else if b ≤ t ∧ t < b + n then f (t - b + a) else f t
def yE {α : Type} (f : Nat → α) (a m b t : Nat) : α := if a ≤ t ∧ t < a + (b - m) then f (t - a + m) else if a + (b - m) ≤ t ∧ t < b then f (t - (b - m)) else f t
section
variable {α : Type} {lt : α → α → Bool} {f g : Nat → α}
theorem zDQ (a b : Nat) : jN f a b 0 = f := by
 funext t
 unfold jN;rw [if_neg (by omega), if_neg (by omega)]
theorem zC0 (a b n : Nat) (h : a + n < b) : zAD (jN f a b n) (a + n) (b + n) = jN f a b (n + 1) := by
 funext t
 unfold zAD jN
 repeat' split
 all_goals first | rfl | (exfalso; omega) | (congr 1; omega)
theorem zMt (m i j : Nat) (hi : i ≤ m) (hij : j < i) (_hj : 0 < j) : yE (jN f (m - i) m j) (m - (i - j)) m (m + j) = yE f (m - i) m (m + j) := by
 funext t
 exact zMz
theorem zMr (m i j : Nat) (hi : i ≤ m) (hij : i < j) (_hp : 0 < i) : yE (jN f (m - i) (m + j - i) i) (m - i) m (m + (j - i)) = yE f (m - i) m (m + j) := by
 funext t
 exact zMz
theorem zLW (m i : Nat) (hi : i ≤ m) : jN f (m - i) m i = yE f (m - i) m (m + i) := by
 funext t
 exact zMz
theorem zJ7 (a k : Nat) (h : a ≤ k) : zAD (yE f a (a + 1) (k + 1)) k (k + 1) = yE f a (a + 1) (k + 2) := by
 funext t
 exact zNY
theorem zH4 (a : Nat) : yE f a (a + 1) (a + 1) = f := by
 funext t
 unfold yE
 repeat' split
 all_goals first | rfl | (exfalso; omega) | (congr 1; omega)
theorem zFE (m k : Nat) (h : k ≤ m) (h0 : 0 < k) : zAD (yE f k m (m + 1)) k (k - 1) = yE f (k - 1) m (m + 1) := by
 funext t
 exact zNY
theorem zAQ (m : Nat) : yE f m m (m + 1) = f := by
 funext t
 unfold yE
 repeat' split
 all_goals first | rfl | (exfalso; omega) | (congr 1; omega)
theorem zLd {a m b t : Nat} (h : t < a ∨ b ≤ t) (h1 : a ≤ m) (h2 : m ≤ b) : yE f a m b t = f t := by
 unfold yE;rw [if_neg (by omega), if_neg (by omega)]
theorem zBW {a m b : Nat} (h1 : a ≤ m) (h2 : m ≤ b) : seg (yE f a m b) a (a + (b - m)) = seg f m b := by
 refine zEf _ _ _ _ (by omega) fun t ht => ?_
 unfold yE;rw [if_pos (by omega)];congr 1; omega
theorem zAU {a m b : Nat} (h1 : a ≤ m) (h2 : m ≤ b) : seg (yE f a m b) (a + (b - m)) b = seg f a m := by
 refine zEf _ _ _ _ (by omega) fun t ht => ?_
 unfold yE;rw [if_neg (by omega), if_pos (by omega)];congr 1; omega
end
section
variable {α : Type} {lt : α → α → Bool} {f g : Nat → α}
structure Put (f g : Nat → α) (a b : Nat) (l : List α) : Prop where
 out : ∀ t, t < a ∨ b ≤ t → g t = f t
 seg : seg g a b = l
theorem yS {a b : Nat} {l : List α} (h : Put f g a b l) (c d : Nat) (hd : d ≤ a ∨ b ≤ c) : Proofs.YtcjhihmaegagdaaGreatDoor.seg g c d = Proofs.YtcjhihmaegagdaaGreatDoor.seg f c d := zB5 _ _ fun t h1 h2 => h.out t (by omega)
theorem Put.refl {a b : Nat} {l : List α} (h : Proofs.YtcjhihmaegagdaaGreatDoor.seg f a b = l) : Put f f a b l := ⟨fun _ _ => rfl, h⟩
theorem zBU {a m b : Nat} (h1 : a ≤ m) (h2 : m ≤ b) : Put f (yE f a m b) a b (Proofs.YtcjhihmaegagdaaGreatDoor.seg f m b ++ Proofs.YtcjhihmaegagdaaGreatDoor.seg f a m) :=
 ⟨fun t ht => zLd ht h1 h2, by rw [← xF _ a (a + (b - m)) b (by omega) (by omega), zBW h1 h2, zAU h1 h2]⟩
theorem zKN (a b i : Nat) (h1 : a + 1 ≤ i) (h2 : i ≤ b) (hl : ∀ t, a + 1 ≤ t → t < i → lt (f t) (f a) = true) (hr : i < b → lt (f i) (f a) = false) :
 Put f (yE f a (a + 1) i) a b (zV lt (Proofs.YtcjhihmaegagdaaGreatDoor.seg f a (a + 1)) (Proofs.YtcjhihmaegagdaaGreatDoor.seg f (a + 1) b)) := by
 have r := zBU (f := f) (show a ≤ a + 1 by omega) h1;refine ⟨fun t ht => r.out t (by omega), ?_⟩;rw [← xF _ a i b (by omega) h2, r.seg, yS r i b (Or.inr (Nat.le_refl _)), ← xF f (a + 1) i b h1 h2, qZ f a (a + 1) (by omega), kI f (a + 1) (a + 1) (by omega), zCF]
 · simp
 · intro y hy;obtain ⟨t, h3, h4, rfl⟩ := zAV.1 hy;exact hl t h3 h4
 intro y hy;by_cases hi : i < b
 · rw [qZ f i b hi] at hy;simp only [List.head?_cons, Option.some.injEq] at hy;subst hy;exact hr hi
 rw [kI f i b (by omega)] at hy;simp at hy
theorem zEs (hO : Swo lt) (a m i : Nat) (h1 : a ≤ i) (h2 : i ≤ m) (hl : ∀ t, a ≤ t → t < i → lt (f m) (f t) = false) (hr : i < m → lt (f m) (f i) = true) :
 Put f (yE f i m (m + 1)) a (m + 1) (zV lt (Proofs.YtcjhihmaegagdaaGreatDoor.seg f a m) (Proofs.YtcjhihmaegagdaaGreatDoor.seg f m (m + 1))) := by
 have r := zBU (f := f) h2 (show m ≤ m + 1 by omega);refine ⟨fun t ht => r.out t (by omega), ?_⟩;rw [← xF _ a i (m + 1) h1 (by omega), r.seg, yS r a i (Or.inl (Nat.le_refl _)), qZ f m (m + 1) (by omega), kI f (m + 1) (m + 1) (by omega), zBe, ← xF f a i m h1 h2, zDy hO]
 · simp
 · intro y hy;obtain ⟨t, h3, h4, rfl⟩ := zAV.1 hy;exact hl t h3 h4
 intro y hy;by_cases hi : i < m
 · rw [qZ f i m hi] at hy;simp only [List.head?_cons, Option.some.injEq] at hy;subst hy;exact hr hi
 rw [kI f i m (by omega)] at hy;simp at hy
theorem srt {a b i j : Nat} (h : zT lt (Proofs.YtcjhihmaegagdaaGreatDoor.seg f a b)) (hO : Swo lt) (h1 : a ≤ i) (h2 : i ≤ j) (h3 : j < b) : lt (f j) (f i) = false := by
 by_cases hij : i = j
 · subst hij; exact hO.irr _
 exact qo.1 h i j h1 (by omega) h3
theorem zGC (hO : Swo lt) (a m b s s0 r0 mid : Nat) (ha : a ≤ m) (hb : m ≤ b) (hs : s0 ≤ s) (hr : s ≤ r0)
 (hm : (mid < m ∧ s0 + b = mid + m ∧ r0 = mid ∧ b ≤ mid + m) ∨ (m ≤ mid ∧ s0 = a ∧ r0 = m)) (hmid : a ≤ mid ∧ mid ≤ b ∧ mid + m ≤ a + b + s0 - a + 0 + (b - b) ∨ True) (hm2 : a ≤ mid ∧ 2 * mid ≤ a + b ∧ a + b ≤ 2 * mid + 1)
 (h1 : zT lt (Proofs.YtcjhihmaegagdaaGreatDoor.seg f a m)) (h2 : zT lt (Proofs.YtcjhihmaegagdaaGreatDoor.seg f m b))
 (hA : ∀ c, s0 ≤ c → c < s → lt (f (mid + m - 1 - c)) (f c) = false) (hB : ∀ c, s ≤ c → c < r0 → lt (f (mid + m - 1 - c)) (f c) = true) :
 zV lt (Proofs.YtcjhihmaegagdaaGreatDoor.seg f a m) (Proofs.YtcjhihmaegagdaaGreatDoor.seg f m b) = zV lt (Proofs.YtcjhihmaegagdaaGreatDoor.seg f a s) (Proofs.YtcjhihmaegagdaaGreatDoor.seg f m (mid + m - s)) ++ zV lt (Proofs.YtcjhihmaegagdaaGreatDoor.seg f s m) (Proofs.YtcjhihmaegagdaaGreatDoor.seg f (mid + m - s) b) ∧ a ≤ s ∧ s ≤ m ∧ m ≤ mid + m - s ∧ mid + m - s ≤ b := by
 have _ := hmid;have k1 : a ≤ s := by rcases hm with ⟨p1, p2, p3, p4⟩ | ⟨p1, p2, p3⟩ <;> omega
 have k2 : s ≤ m := by rcases hm with ⟨p1, p2, p3, p4⟩ | ⟨p1, p2, p3⟩ <;> omega
 have k3 : s ≤ mid := by rcases hm with ⟨p1, p2, p3, p4⟩ | ⟨p1, p2, p3⟩ <;> omega
 have k4 : mid + m - s ≤ b := by rcases hm with ⟨p1, p2, p3, p4⟩ | ⟨p1, p2, p3⟩ <;> omega
 refine ⟨?_, k1, k2, by omega, k4⟩;rw [← xF f a s m k1 k2, ← xF f m (mid + m - s) b (by omega) k4];refine zFq _ _ _ _ ?_ ?_
 · intro x hx y hy;obtain ⟨i, i1, i2, rfl⟩ := zAV.1 hx;obtain ⟨j, j1, j2, rfl⟩ := zAV.1 hy;have q : s < r0 := by rcases hm with ⟨p1, p2, p3, p4⟩ | ⟨p1, p2, p3⟩ <;> omega
   have e1 := hB s (Nat.le_refl _) q;have e2 : lt (f (mid + m - 1 - s)) (f j) = false := srt h2 hO j1 (by omega) (by omega);have e3 : lt (f i) (f s) = false := srt h1 hO k1 i1 i2;exact hO.left (hO.right e1 e2) e3
 intro x hx y hy;obtain ⟨i, i1, i2, rfl⟩ := zAV.1 hx;obtain ⟨j, j1, j2, rfl⟩ := zAV.1 hy;have q : s0 < s := by rcases hm with ⟨p1, p2, p3, p4⟩ | ⟨p1, p2, p3⟩ <;> omega
 have e1 := hA (s - 1) (by omega) (by omega);have e2 : lt (f j) (f (mid + m - 1 - (s - 1))) = false := srt h2 hO (by omega) (by omega) j2;have e3 : lt (f (s - 1)) (f i) = false := srt h1 hO i1 (by omega) (by omega);exact hO.neg _ _ _ e2 (hO.neg _ _ _ e1 e3)
theorem qU {a m b : Nat} (h : a = m ∨ b = m) (h1 : a ≤ m) (h2 : m ≤ b) : yE f a m b = f := by
 funext t
 unfold yE
 repeat' split
 all_goals first | rfl | (exfalso; omega) | (congr 1; omega)
theorem zEw (hO : Swo lt) {g1 g2 : Nat → α} (a m b s e mid : Nat) (k1 : a ≤ s) (k2 : s ≤ m) (k3 : m ≤ e) (k4 : e ≤ b) (k5 : s + (e - m) = mid)
 (hp : zV lt (Proofs.YtcjhihmaegagdaaGreatDoor.seg f a m) (Proofs.YtcjhihmaegagdaaGreatDoor.seg f m b) = zV lt (Proofs.YtcjhihmaegagdaaGreatDoor.seg f a s) (Proofs.YtcjhihmaegagdaaGreatDoor.seg f m e) ++ zV lt (Proofs.YtcjhihmaegagdaaGreatDoor.seg f s m) (Proofs.YtcjhihmaegagdaaGreatDoor.seg f e b))
 (h1 : Put (yE f s m e) g1 a mid (zV lt (Proofs.YtcjhihmaegagdaaGreatDoor.seg (yE f s m e) a s) (Proofs.YtcjhihmaegagdaaGreatDoor.seg (yE f s m e) s mid)))
 (h2 : Put g1 g2 mid b (zV lt (Proofs.YtcjhihmaegagdaaGreatDoor.seg g1 mid e) (Proofs.YtcjhihmaegagdaaGreatDoor.seg g1 e b))) :
 Put f g2 a b (zV lt (Proofs.YtcjhihmaegagdaaGreatDoor.seg f a m) (Proofs.YtcjhihmaegagdaaGreatDoor.seg f m b)) := by
 have _ := hO;have r := zBU (f := f) k2 k3;refine ⟨fun t ht => ?_, ?_⟩
 · rw [h2.out t (by omega), h1.out t (by omega), r.out t (by omega)]
 rw [hp, ← xF g2 a mid b (by omega) (by omega), yS h2 a mid (Or.inl (Nat.le_refl _)), h1.seg, h2.seg, yS h1 mid e (Or.inr (Nat.le_refl _)), yS h1 e b (Or.inr (by omega))];rw [yS r a s (Or.inl (Nat.le_refl _)), yS r e b (Or.inr (Nat.le_refl _))];have e1 := zBW (f := f) k2 k3;have e2 := zAU (f := f) k2 k3;rw [k5] at e1 e2;rw [e1, e2]
end
section
variable {α : Type} {lt : α → α → Bool} {f g f0 : Nat → α}
theorem zNR (hO : Swo lt) {a m b h : Nat} (hs : zT lt (seg f m b)) (h2 : h < b) (e : lt (f h) (f a) = true) : ∀ t, m ≤ t → t < h + 1 → lt (f t) (f a) = true :=
 fun _ h3 h4 => hO.right e (srt hs hO h3 (by omega) h2)
theorem zNd (hO : Swo lt) {a m b h : Nat} (hs : zT lt (seg f m b)) (h1 : m ≤ h) (e : lt (f h) (f a) = false) : ∀ t, h ≤ t → t < b → lt (f t) (f a) = false :=
 fun _ h3 h4 => hO.neg _ _ _ (srt hs hO h1 h3 h4) e
theorem zN7 (hO : Swo lt) {a m h : Nat} (hs : zT lt (seg f a m)) (h2 : h < m) (e : lt (f m) (f h) = false) : ∀ t, a ≤ t → t < h + 1 → lt (f m) (f t) = false :=
 fun _ h3 h4 => hO.neg _ _ _ e (srt hs hO h3 (by omega) h2)
theorem zMK (hO : Swo lt) {a m b mid s0 r0 c : Nat} (hs1 : zT lt (seg f a m)) (hs2 : zT lt (seg f m b)) (hm : (mid < m ∧ s0 + b = mid + m ∧ r0 = mid ∧ b ≤ mid + m) ∨ (m ≤ mid ∧ s0 = a ∧ r0 = m)) (hm2 : a ≤ mid ∧ 2 * mid ≤ a + b ∧ a + b ≤ 2 * mid + 1) (ha : a ≤ m)
 (hc : c < r0) (e : lt (f (mid + m - 1 - c)) (f c) = false) : ∀ t, s0 ≤ t → t < c + 1 → lt (f (mid + m - 1 - t)) (f t) = false := by
 intro t h3 h4;refine hO.neg _ _ _ (srt hs2 hO (i := mid + m - 1 - c) ?_ ?_ ?_) (hO.neg _ _ _ e (srt hs1 hO (i := t) ?_ ?_ ?_));all_goals rcases hm with ⟨p1, p2, p3, p4⟩ | ⟨p1, p2, p3⟩ <;> omega
theorem zM9 (hO : Swo lt) {a m b mid s0 r0 c : Nat} (hs1 : zT lt (seg f a m)) (hs2 : zT lt (seg f m b)) (hm : (mid < m ∧ s0 + b = mid + m ∧ r0 = mid ∧ b ≤ mid + m) ∨ (m ≤ mid ∧ s0 = a ∧ r0 = m)) (hm2 : a ≤ mid ∧ 2 * mid ≤ a + b ∧ a + b ≤ 2 * mid + 1) (ha : a ≤ m)
 (hc0 : s0 ≤ c) (e : lt (f (mid + m - 1 - c)) (f c) = true) : ∀ t, c ≤ t → t < r0 → lt (f (mid + m - 1 - t)) (f t) = true := by
 intro t h3 h4;refine hO.left (hO.right e (srt hs2 hO (i := mid + m - 1 - t) ?_ ?_ ?_)) (srt hs1 hO (i := c) ?_ ?_ ?_);all_goals rcases hm with ⟨p1, p2, p3, p4⟩ | ⟨p1, p2, p3⟩ <;> omega
theorem vP {a b c d : Nat} (h : zT lt (seg f a b)) (h1 : a ≤ c) (h2 : d ≤ b) : zT lt (seg f c d) :=
 qo.2 fun i j h3 h4 h5 => qo.1 h i j (by omega) h4 (by omega)
theorem kM {a i b : Nat} (h1 : a ≤ i) (h2 : i ≤ b) (h : ¬ (a < i ∧ i < b)) : Put g g a b (zV lt (seg g a i) (seg g i b)) := by
 refine Put.refl ?_;by_cases e : a = i
 · subst e;rw [kI g a a (Nat.le_refl _), zAk]
 obtain rfl : i = b := by omega
 rw [kI g i i (Nat.le_refl _), qg]
def SB (lt : α → α → Bool) (f0 f : Nat → α) (x y : Nat) : Prop := seg f x y = yh lt (seg f0 x y)
theorem SB.sorted (hO : Swo lt) {x y : Nat} (h : SB lt f0 f x y) : zT lt (seg f x y) := by rw [h]; exact kH hO _
theorem SB.congr {x y : Nat} (h : SB lt f0 f x y) (hg : ∀ t, x ≤ t → t < y → g t = f t) : SB lt f0 g x y := by
 unfold SB at *;rw [← h];exact zB5 _ _ fun t h1 h2 => hg t h1 h2
theorem SB.merge (hO : Swo lt) {x m y : Nat} (h1 : x ≤ m) (h2 : m ≤ y) (p : SB lt f0 f x m) (q : SB lt f0 f m y) (h : Put f g x y (zV lt (seg f x m) (seg f m y))) : SB lt f0 g x y := by
 unfold SB at *;rw [h.seg, p, q, ← xF f0 x m y h1 h2, zFv hO]
structure zE6 (lt : α → α → Bool) (f0 f : Nat → α) (s n : Nat) : Prop where
 sb : ∀ q, q * s < n → SB lt f0 f (q * s) (min (q * s + s) n)
 out : ∀ t, n ≤ t → f t = f0 t
structure zBm (lt : α → α → Bool) (f0 f : Nat → α) (s k n : Nat) : Prop where
 big : ∀ q, q < k → SB lt f0 f (q * (2 * s)) (q * (2 * s) + 2 * s)
 small : ∀ q, 2 * k ≤ q → q * s < n → SB lt f0 f (q * s) (min (q * s + s) n)
 out : ∀ t, n ≤ t → f t = f0 t
structure zDD (lt : α → α → Bool) (f0 f : Nat → α) (s k : Nat) : Prop where
 sb : ∀ q, q < k → SB lt f0 f (q * s) (q * s + s)
 out : ∀ t, k * s ≤ t → f t = f0 t
theorem vx (k s : Nat) : (2 * k) * s = k * (2 * s) := by rw [Nat.mul_comm 2 k, Nat.mul_assoc]
theorem zB1 (k s : Nat) : (2 * k + 1) * s = k * (2 * s) + s := by rw [Nat.succ_mul, vx]
theorem qE {q k s : Nat} (h : q < k) : q * s + s ≤ k * s := by rw [← Nat.succ_mul]; exact Nat.mul_le_mul_right _ h
theorem zDD.zero (s : Nat) : zDD lt f0 f0 s 0 := ⟨fun q h => absurd h (Nat.not_lt_zero _), fun _ _ => rfl⟩
theorem zDD.step {s k : Nat} (h : zDD lt f0 f s k) (hp : Put f g (k * s) (k * s + s) (yh lt (seg f (k * s) (k * s + s)))) : zDD lt f0 g s (k + 1) := by
 refine ⟨fun q hq => ?_, fun t ht => ?_⟩
 ·
  by_cases e : q = k
  · subst e;exact zNM
  have m1 := qE (s := s) (show q < k by omega);exact (h.sb q (by omega)).congr fun t h1 h2 => hp.out t (by omega)
 rw [Nat.succ_mul] at ht;rw [hp.out t (by omega), h.out t (by omega)]
theorem zDD.all {s k n : Nat} (h : zDD lt f0 f s k) (h1 : k * s ≤ n) (h2 : n < k * s + s) (hp : Put f g (k * s) n (yh lt (seg f (k * s) n))) : zE6 lt f0 g s n := by
 refine ⟨fun q hq => ?_, fun t ht => ?_⟩
 ·
  by_cases e : q = k
  · subst e;rw [show min (q * s + s) n = n by omega];exact zNM
  by_cases hk : k < q
  · have m1 := qE (s := s) hk;omega
  have m1 := qE (s := s) (show q < k by omega);rw [show min (q * s + s) n = q * s + s by omega];exact (h.sb q (by omega)).congr fun t h1 h2 => hp.out t (by omega)
 rw [hp.out t (by omega), h.out t (by omega)]
theorem zBm.start {s n : Nat} (h : zE6 lt f0 f s n) : zBm lt f0 f s 0 n := ⟨fun q h => absurd h (Nat.not_lt_zero _), fun q _ h2 => h.sb q h2, h.out⟩
theorem zBm.left {s k n : Nat} (h : zBm lt f0 f s k n) (hn : k * (2 * s) + s ≤ n) (hs : 0 < s) : SB lt f0 f (k * (2 * s)) (k * (2 * s) + s) := by
 have e := h.small (2 * k) (Nat.le_refl _) (by rw [vx]; omega);rw [vx, show min (k * (2 * s) + s) n = k * (2 * s) + s by omega] at e;exact e
theorem zBm.right {s k n y : Nat} (h : zBm lt f0 f s k n) (hn : k * (2 * s) + s < n) (hy : y = min (k * (2 * s) + s + s) n) : SB lt f0 f (k * (2 * s) + s) y := by
 have e := h.small (2 * k + 1) (by omega) (by rw [zB1]; omega);rw [zB1, ← hy] at e;exact e
theorem zBm.step (hO : Swo lt) {s k n : Nat} (h : zBm lt f0 f s k n) (hs : 0 < s) (hn : k * (2 * s) + 2 * s ≤ n)
 (hp : Put f g (k * (2 * s)) (k * (2 * s) + 2 * s) (zV lt (seg f (k * (2 * s)) (k * (2 * s) + s)) (seg f (k * (2 * s) + s) (k * (2 * s) + 2 * s)))) : zBm lt f0 g s (k + 1) n := by
 refine ⟨fun q hq => ?_, fun q h1 h2 => ?_, fun t ht => ?_⟩
 ·
  by_cases e : q = k
  · subst e;exact SB.merge hO (by omega) (by omega) (h.left (by omega) hs) (h.right (by omega) (by omega)) hp
  have m1 := qE (s := 2 * s) (show q < k by omega);exact (h.big q (by omega)).congr fun t h1 h2 => hp.out t (by omega)
 · have m1 := Nat.mul_le_mul_right s h1;rw [vx, Nat.succ_mul] at m1;exact (h.small q (by omega) h2).congr fun t h3 h4 => hp.out t (by omega)
 rw [hp.out t (by omega), h.out t ht]
theorem zBm.all (hO : Swo lt) {s k n : Nat} (h : zBm lt f0 f s k n) (hs : 0 < s) (h1 : k * (2 * s) ≤ n) (h2 : n < k * (2 * s) + 2 * s)
 (hp : k * (2 * s) + s < n → Put f g (k * (2 * s)) n (zV lt (seg f (k * (2 * s)) (k * (2 * s) + s)) (seg f (k * (2 * s) + s) n))) (hq : ¬ k * (2 * s) + s < n → g = f) : zE6 lt f0 g (2 * s) n := by
 by_cases hm : k * (2 * s) + s < n
 ·
  have hp := hp hm;refine ⟨fun q hq' => ?_, fun t ht => ?_⟩
  ·
   by_cases e : q = k
   · subst e;rw [show min (q * (2 * s) + 2 * s) n = n by omega];exact SB.merge hO (by omega) (by omega) (h.left (by omega) hs) (h.right hm (by omega)) hp
   by_cases hk : k < q
   · have m1 := qE (s := 2 * s) hk;omega
   have m1 := qE (s := 2 * s) (show q < k by omega);rw [show min (q * (2 * s) + 2 * s) n = q * (2 * s) + 2 * s by omega];exact (h.big q (by omega)).congr fun t h3 h4 => hp.out t (by omega)
  rw [hp.out t (by omega), h.out t ht]
 have e := hq hm;subst e;refine ⟨fun q hq' => ?_, h.out⟩;by_cases e : q = k
 · subst e;have e := h.small (2 * q) (Nat.le_refl _) (by rw [vx]; omega);rw [vx, show min (q * (2 * s) + s) n = n by omega] at e;rw [show min (q * (2 * s) + 2 * s) n = n by omega];exact e
 by_cases hk : k < q
 · have m1 := qE (s := 2 * s) hk;omega
 have m1 := qE (s := 2 * s) (show q < k by omega);rw [show min (q * (2 * s) + 2 * s) n = q * (2 * s) + 2 * s by omega];exact h.big q (by omega)
theorem zE6.put {s n : Nat} (h : zE6 lt f0 f s n) (hs : n ≤ s) : Put f0 f 0 n (yh lt (seg f0 0 n)) := by
 refine ⟨fun t ht => h.out t (by omega), ?_⟩;by_cases hn : n = 0
 · subst hn;rw [kI _ _ _ (Nat.le_refl _), kI _ _ _ (Nat.le_refl _)]; rfl
 have e := h.sb 0 (by omega);rw [Nat.zero_mul, show min (0 + s) n = n by omega] at e;exact e
end
theorem yP {α : Type} (p : α → Bool) (l : List α) : (l.takeWhile p).length ≤ l.length := (List.takeWhile_sublist p).length_le
theorem qt {l : List UInt8} {k : Nat} (h : zP l = .skip k) : 1 ≤ k ∧ k ≤ l.length := by
 cases l with
 | nil => cases h
 | cons x l =>
  have t1 := yP (· != 10) l;simp only [zP] at h;split at h
  · injection h with h; subst h; simp
  split at h
  · injection h with h; subst h; simp; omega
  split at h
  · split at h <;> cases h
  split at h
  · split at h <;> cases h
  split at h <;> cases h
theorem qF {l : List UInt8} {kd n k : Nat} (h : zP l = .tok kd n k) : 1 ≤ k ∧ k ≤ l.length := by
 cases l with
 | nil => cases h
 | cons x l =>
  have t1 := yP yD l;have t2 := yP zd l;simp only [zP] at h;split at h
  · cases h
  split at h
  · cases h
  split at h
  · split at h
    · cases h
    injection h with _ _ h; subst h; simp; omega
  split at h
  · split at h
    · cases h
    injection h with _ _ h; subst h; simp; omega
  split at h
  · injection h with _ _ h; subst h; simp
  cases h
theorem zEA (f g p : Nat) (l : List UInt8) (hf : l.length ≤ f) (hg : l.length ≤ g) : zDj f p l = zDj g p l := by
 induction f generalizing g p l with
 | zero =>
  obtain rfl := List.eq_nil_of_length_eq_zero (show l.length = 0 by omega);cases g <;> rfl
 | succ f ih =>
  cases l with
  | nil => cases g <;> rfl
  | cons x l =>
   (obtain ⟨g, rfl⟩ : ∃ g', g = g' + 1 := ⟨g - 1, by simp at hg; omega⟩);rw [zDj, zDj];rcases hs : zP (x :: l) with k | ⟨kd, n, k⟩ | _
   · have hk := qt hs;have hd : ((x :: l).drop k).length = (x :: l).length - k := List.length_drop;exact ih _ _ _ (by omega) (by omega)
   · have hk := qF hs;have hd : ((x :: l).drop k).length = (x :: l).length - k := List.length_drop;simp only [];rw [ih g (p + k) _ (by omega) (by omega)]
   rfl
theorem zJG (p : Nat) : xr p [] = ([], none) := rfl
theorem vS {p k : Nat} {l : List UInt8} (h : zP l = .skip k) : xr p l = xr (p + k) (l.drop k) := by
 cases l with
 | nil => cases h
 | cons x l =>
  have hk := qt h;have hd : ((x :: l).drop k).length = (x :: l).length - k := List.length_drop;unfold xr;rw [List.length_cons, zDj, h];exact zEA _ _ _ _ (by rw [hd]; simp; omega) (Nat.le_refl _)
theorem zAM {p kd n k : Nat} {l : List UInt8} (h : zP l = .tok kd n k) : xr p l = (⟨kd, p, n, l.take k⟩ :: (xr (p + k) (l.drop k)).1, (xr (p + k) (l.drop k)).2) := by
 cases l with
 | nil => cases h
 | cons x l =>
  have hk := qF h;have hd : ((x :: l).drop k).length = (x :: l).length - k := List.length_drop;unfold xr;rw [List.length_cons, zDj, h];simp only [];rw [zEA l.length _ _ _ (by rw [hd]; simp; omega) (Nat.le_refl _)]
theorem zF8 {p x : Nat} {l : List UInt8} (hl : l.length = x + 1) (h : zP l = .bad) : xr p l = ([], some p) := by
 cases l with
 | nil => cases hl
 | cons x l =>
  unfold xr;rw [List.length_cons, zDj, h]
theorem zFX (m p : Nat) (l : List UInt8) (h : m ≤ (l.takeWhile yw).length) : xr p l = xr (p + m) (l.drop m) := by
 induction m generalizing p l with
 | zero => rfl
 | succ m ih =>
  cases l with
  | nil => simp at h
  | cons x l =>
   by_cases hx : yw x = true
   · have hs : zP (x :: l) = .skip 1 := by simp only [zP, if_pos hx]
     rw [vS hs, List.drop_one, List.tail_cons, ih (p + 1) l (by rw [List.takeWhile_cons, if_pos hx, List.length_cons] at h; omega), List.drop_succ_cons];congr 1;omega
   rw [List.takeWhile_cons, if_neg hx] at h;simp at h
structure Key where
 kind : Nat
 n : Nat
 text : List UInt8
deriving DecidableEq
def Tok.key (t : Tok) : Key := ⟨t.kind, t.n, t.text⟩
def Tok.add (t : Tok) (d : Nat) : Tok := ⟨t.kind, t.pos + d, t.n, t.text⟩
theorem zC7 {α : Type} (p : α → Bool) (l : List α) (m : Nat) : (l.take m).takeWhile p = (l.takeWhile p).take m := by
 induction l generalizing m with
 | nil => simp
 | cons x l ih =>
  cases m with
  | zero => simp
  | succ m =>
   rw [List.take_succ_cons, List.takeWhile_cons, List.takeWhile_cons];split
   · rw [ih]; simp
   simp
def zDO.len : zDO → Nat
 | .skip k => k
 | .tok _ _ k => k
 | .bad => 0
theorem zEW (x : UInt8) (l : List UInt8) (m : Nat) (hb : zP (x :: l) ≠ .bad) (hm : (zP (x :: l)).len ≤ m) (h0 : 1 ≤ m) : zP ((x :: l).take m) = zP (x :: l) := by
 obtain ⟨m, rfl⟩ : ∃ k, m = k + 1 := ⟨m - 1, by omega⟩
 rw [List.take_succ_cons]
 revert hb hm
 simp only [zP, zC7];intro hb hm;split at hb
 · next h => rw [if_pos h, if_pos h]
 next h =>
 rw [if_neg h, if_neg h];rw [if_neg h] at hm;split at hb
 · next h =>
   rw [if_pos h, if_pos h];rw [if_pos h] at hm;simp only [zDO.len] at hm;rw [List.take_of_length_le (by omega)]
 next h =>
 rw [if_neg h, if_neg h];rw [if_neg h] at hm;split at hb
 · next h =>
   exact zNg
 next h =>
 rw [if_neg h, if_neg h];rw [if_neg h] at hm;split at hb
 · next h =>
   exact zNg
 next h =>
 rw [if_neg h, if_neg h]
theorem zHc {motive : Nat → List UInt8 → Prop} (nil : ∀ p, motive p []) (skip : ∀ p x l k, zP (x :: l) = .skip k → 1 ≤ k → k ≤ (x :: l).length → motive (p + k) ((x :: l).drop k) → motive p (x :: l))
 (tok : ∀ p x l kd n k, zP (x :: l) = .tok kd n k → 1 ≤ k → k ≤ (x :: l).length → motive (p + k) ((x :: l).drop k) → motive p (x :: l)) (bad : ∀ p x l, zP (x :: l) = .bad → motive p (x :: l)) (p : Nat) (l : List UInt8) : motive p l := by
 suffices h : ∀ (m : Nat) (p : Nat) (l : List UInt8), l.length ≤ m → motive p l from h l.length p l (Nat.le_refl _)
 intro m
 induction m with
 | zero => intro p l h; obtain rfl := List.eq_nil_of_length_eq_zero (show l.length = 0 by omega); exact nil p
 | succ m ih =>
  intro p l h
  cases l with
  | nil => exact nil p
  | cons x l =>
   rcases hs : zP (x :: l) with k | ⟨kd, n, k⟩ | _
   · have hk := qt hs;exact skip p x l k hs hk.1 hk.2 (ih _ _ (by rw [List.length_drop]; omega))
   · have hk := qF hs;exact tok p x l kd n k hs hk.1 hk.2 (ih _ _ (by rw [List.length_drop]; omega))
   exact bad p x l hs
theorem zB8 {p : Nat} {x : UInt8} {l : List UInt8} (h : zP (x :: l) = .bad) : xr p (x :: l) = ([], some p) := zF8 (x := l.length) rfl h
def Tok.good (t : Tok) : Prop := zP t.text = .tok t.kind t.n t.text.length
theorem zIX (p : Nat) (l : List UInt8) : ∀ t ∈ (xr p l).1, t.good := by
 induction p, l using zHc with
 | nil p => intro t h; cases h
 | skip p x l k hs h1 h2 ih => rw [vS hs]; exact ih
 | tok p x l kd n k hs h1 h2 ih =>
  rw [zAM hs];intro t ht;rcases List.mem_cons.1 ht with rfl | ht
  · have := zEW x l k (by rw [hs]; intro e; cases e) (by rw [hs]; exact Nat.le_refl _) h1;show zP ((x :: l).take k) = .tok kd n ((x :: l).take k).length;rw [this, hs, List.length_take, Nat.min_eq_left h2]
  exact ih t ht
 | bad p x l hs => rw [zB8 hs]; intro t h; cases h
def zLM (ts : List Tok) (c : UInt8) : List UInt8 := ts.flatMap fun t => t.text ++ [c]
theorem zG0 {α : Type} (p : α → Bool) (l : List α) : ∀ x ∈ l.takeWhile p, p x = true := by
 induction l with
 | nil => intro x h; cases h
 | cons y l ih =>
  intro x hx;rw [List.takeWhile_cons] at hx;split at hx
  ·
   next h =>
   rcases List.mem_cons.1 hx with rfl | hx
   · exact h
   exact ih x hx
  cases hx
open Go.Lib
def zGg (ts us : List Tok) : Prop := ts.map Tok.key = us.map Tok.key
theorem zGg.refl (ts : List Tok) : zGg ts ts := rfl
theorem zGg.length {ts us : List Tok} (h : zGg ts us) : ts.length = us.length := by
 have := congrArg List.length h;simpa using this
theorem zGg.cases {ts us : List Tok} (h : zGg ts us) : (ts = [] ∧ us = []) ∨ ∃ t u ts' us', ts = t :: ts' ∧ us = u :: us' ∧ t.kind = u.kind ∧ t.n = u.n ∧ t.text = u.text ∧ zGg ts' us' := by
 unfold zGg at h
 cases ts with
 | nil =>
  cases us with
  | nil => exact Or.inl ⟨rfl, rfl⟩
  | cons u us => cases h
 | cons t ts =>
  cases us with
  | nil => cases h
  | cons u us =>
   simp only [List.map_cons, List.cons.injEq, Tok.key, Key.mk.injEq] at h;exact Or.inr ⟨t, u, ts, us, rfl, rfl, h.1.1, h.1.2.1, h.1.2.2, h.2⟩
def Ext {α : Type} (f : List Tok → Rs α) : Prop := ∀ ts us a r, f ts = .ok a r → r ≠ [] → f (ts ++ us) = .ok a (r ++ us)
def zLw {α : Type} (f : List Tok → Rs α) : Prop := ∀ ts us a r, f ts = .ok a r → f (ts ++ us) = .ok a (r ++ us)
theorem zLw.ext {α : Type} {f : List Tok → Rs α} (h : zLw f) : Ext f := fun ts us a r e _ => h ts us a r e
theorem zMe {r s : List Tok} (h : r <:+ s) (hr : r ≠ []) : s ≠ [] := by
 rintro rfl;exact hr (List.suffix_nil.1 h)
theorem Ext.bind {α β : Type} {f : List Tok → Rs α} {g : α → List Tok → Rs β} (hf : Ext f) (hg : ∀ a, Ext (g a)) (hs : ∀ a ts, (g a ts).suf ts) : Ext fun ts => (f ts).bind g := by
 intro ts us b r h hr;obtain ⟨a, r1, h1, h2⟩ := Rs.bind_ok h;have s1 := hs a r1;rw [h2] at s1;show (f (ts ++ us)).bind g = _;rw [hf ts us a r1 h1 (zMe s1 hr)];exact hg a r1 us b r h2 hr
theorem zLw.last {α β : Type} {f : List Tok → Rs α} {s : List UInt8} {g : α → β} (hf : Ext f) : zLw fun ts => (f ts).bind fun a r => (zb [s] r).bind fun _ r => .ok (g a) r := by
 intro ts us b r h;obtain ⟨a, r1, h1, h2⟩ := Rs.bind_ok h
 cases r1 with
 | nil => cases h2
 | cons t l =>
  show (f (ts ++ us)).bind _ = _;rw [hf ts us a _ h1 (by intro e; cases e)];simp only [Rs.bind, zb, jM, yv, List.cons_append] at h2 ⊢;by_cases e : t.text = s
  · rw [if_pos e] at h2 ⊢;simp only [Rs.ok.injEq] at h2 ⊢;exact ⟨h2.1, by rw [h2.2]⟩
  rw [if_neg e] at h2; cases h2
theorem j8 {s : List UInt8} {d : Drf} {ts : List Tok} {q : Rs Drf} (h : xA s d ts = some q) : match q with | .ok _ r => r.length ≤ ts.length | .err r _ => r.length ≤ ts.length := by
 have := zAP h
 cases q with
 | ok a r => exact List.IsSuffix.length_le this
 | err r e => exact List.IsSuffix.length_le this
theorem zF4 (f g : Nat) (d : Drf) (ts : List Tok) (hf : ts.length ≤ f) (hg : ts.length ≤ g) : vc f d ts = vc g d ts := by
 induction f generalizing g d ts with
 | zero =>
  obtain rfl := List.eq_nil_of_length_eq_zero (show ts.length = 0 by omega);rw [kY, kY]
 | succ f ih =>
  cases ts with
  | nil => rw [kY, kY]
  | cons t ts =>
   (obtain ⟨g, rfl⟩ : ∃ g', g = g' + 1 := ⟨g - 1, by simp at hg; omega⟩);simp only [List.length_cons] at hf hg;simp only [vc]
   cases e : xA t.text d ts with
   | none => rfl
   | some q =>
    have := j8 e
    cases q with
    | err r k => rfl
    | ok d2 r =>
     simp only at this;exact ih g d2 r (by omega) (by omega)
def zB9 (d : Drf) (ts : List Tok) : Rs Drf := vc ts.length d ts
theorem zDm (d : Drf) : zB9 d [] = .ok d [] := rfl
theorem zCs (d : Drf) (t : Tok) (ts : List Tok) : zB9 d (t :: ts) = match xA t.text d ts with | some q => q.bind zB9 | none => .err (t :: ts) 10 := by
 unfold zB9;rw [List.length_cons, vc]
 cases e : xA t.text d ts with
 | none => rfl
 | some q =>
  have := j8 e
  cases q with
  | err r k => rfl
  | ok d2 r =>
   simp only at this;exact zF4 _ _ _ _ this (Nat.le_refl _)
theorem zHq (d d2 : Drf) (ts r : List Tok) (h : zB9 d ts = .ok d2 r) : r = [] := by
 obtain ⟨m, hm⟩ : ∃ m, m = ts.length := ⟨_, rfl⟩
 induction m using Nat.strongRecOn generalizing d ts with
 | _ m ih =>
  cases ts with
  | nil => rw [zDm] at h; injection h with _ h; exact h.symm
  | cons t ts =>
   rw [zCs] at h
   cases e : xA t.text d ts with
   | none => rw [e] at h; cases h
   | some q =>
    rw [e] at h;simp only at h;obtain ⟨d3, r3, e2, h⟩ := Rs.bind_ok h;subst e2;have := j8 e;simp only at this;exact ih r3.length (by rw [hm]; simp; omega) d3 r3 h rfl
theorem zEe (d : Drf) (ts r : List Tok) (h : vZ ts = .ok d r) : r = [] := by
 unfold vZ at h;obtain ⟨a1, r1, e1, h⟩ := Rs.bind_ok h;obtain ⟨a2, r2, e2, h⟩ := Rs.bind_ok h;obtain ⟨a3, r3, e3, h⟩ := Rs.bind_ok h;exact zHq _ _ _ _ h
open Go.Lib
def kL (l : List UInt8) (ks : List Key) : Prop := ∀ p, (xr p l).2 = none ∧ (xr p l).1.map Tok.key = ks
theorem kL.nil : kL [] [] := fun _ => ⟨rfl, rfl⟩
theorem kL.skip1 {c : UInt8} {l : List UInt8} {ks : List Key} (hc : yw c = true) (h : kL l ks) : kL (c :: l) ks := fun p => by
 have hs : zP (c :: l) = .skip 1 := by simp only [zP, if_pos hc]
 rw [vS hs];exact h (p + 1)
theorem kL.sp {l : List UInt8} {ks : List Key} (h : kL l ks) : kL (32 :: l) ks := h.skip1 rfl
theorem kL.tok {w l : List UInt8} {kd n : Nat} {ks : List Key} (hw : zP (w ++ l) = .tok kd n w.length) (h : kL l ks) : kL (w ++ l) (⟨kd, n, w⟩ :: ks) := fun p => by
 rw [zAM hw, List.drop_left, List.take_left];have := h (p + w.length);exact ⟨this.1, by simp only [List.map_cons, this.2]; rfl⟩
def nK (n : Nat) : Key := ⟨2, n, decDigits n⟩
def mK (s : List UInt8) : Key := ⟨3, 0, s⟩
def zDn (p : UInt8 → Bool) (l : List UInt8) : Prop := ∀ c, l.head? = some c → p c = false
theorem zA6 {α : Type} (p : α → Bool) (w l : List α) (hw : ∀ x ∈ w, p x = true) (hl : ∀ c, l.head? = some c → p c = false) : (w ++ l).takeWhile p = w := by
 induction w with
 | nil =>
  cases l with
  | nil => rfl
  | cons c l => rw [List.nil_append, List.takeWhile_cons, if_neg (by rw [hl c rfl]; decide)]
 | cons x w ih =>
  rw [List.cons_append, List.takeWhile_cons, if_pos (hw x (List.mem_cons_self ..)), ih fun y hy => hw y (List.mem_cons_of_mem _ hy)]
def zKH (w : List UInt8) : Prop := ∃ x l, w = x :: l ∧ k9 x = true ∧ (∀ y ∈ l, yD y = true) ∧ l.length < 16
theorem zLm {x : UInt8} (h : k9 x = true) : yw x = false ∧ (x == 35) = false := by
 simp only [k9, Bool.and_eq_true, decide_eq_true_eq] at h;have hn : ∀ y : UInt8, y.toNat < 97 → x ≠ y := fun y hy e => by subst e; omega
 refine ⟨?_, by simpa using hn 35 (by decide)⟩;exact zMD
theorem zKU {x : UInt8} (h : zd x = true) : yw x = false ∧ (x == 35) = false ∧ k9 x = false := by
 simp only [zd, Bool.and_eq_true, decide_eq_true_eq] at h;have hn : ∀ y : UInt8, y.toNat < 48 → x ≠ y := fun y hy e => by subst e; omega
 refine ⟨?_, by simpa using hn 35 (by decide), ?_⟩
 · exact zMD
 simp only [k9, Bool.and_eq_false_iff, decide_eq_false_iff_not]
 left; omega
theorem zKH.step {w : List UInt8} (h : zKH w) (l : List UInt8) (hl : zDn yD l) : zP (w ++ l) = .tok 1 0 w.length := by
 obtain ⟨x, r, rfl, h1, h2, h3⟩ := h;obtain ⟨n1, n2⟩ := zLm h1;rw [List.cons_append];simp only [zP];rw [zA6 yD r l h2 hl, if_neg (by rw [n1]; decide), if_neg (by rw [n2]; decide), if_pos h1, if_neg (by omega), List.length_cons, Nat.add_comm]
theorem zJv (n : Nat) (hn : n ≤ 9999999) (l : List UInt8) (hl : zDn zd l) : zP (decDigits n ++ l) = .tok 2 n (decDigits n).length := by
 obtain ⟨d1, d2, d3⟩ := zCH n;have hnum := zKW n
 have hlen : (decDigits n).length ≤ 7 := by
  rw [decDigits_length];by_cases h7 : nDigits n ≤ 7
  · exact h7
  exfalso
  have hge : ∀ u, 10 ^ (nDigits u - 1) ≤ u ∨ u = 0 := by
   intro u
   induction u using Nat.strongRecOn with
   | _ u ih =>
    by_cases h : u < 10
    · rw [nDigits_small h];rcases Nat.eq_zero_or_pos u with e | e
      · exact Or.inr e
      exact Or.inl (by show 10 ^ 0 ≤ u; rw [Nat.pow_zero]; exact e)
    rw [nDigits_big h, Nat.add_sub_cancel];rcases ih (u / 10) (by omega) with e | e
    · left
      have hp := nDigits_pos (u / 10);obtain ⟨k, hk⟩ : ∃ k, nDigits (u / 10) = k + 1 := ⟨nDigits (u / 10) - 1, by omega⟩
      rw [hk] at e ⊢;rw [Nat.add_sub_cancel] at e;rw [Nat.pow_succ];omega
    omega
  rcases hge n with e | e
  · have hp : 10 ^ 7 ≤ 10 ^ (nDigits n - 1) := Nat.pow_le_pow_right (by decide) (by omega);have : (10 : Nat) ^ 7 = 10000000 := by decide
    omega
  subst e;rw [nDigits_small (by omega)] at h7;omega
 obtain ⟨x, r, e⟩ : ∃ x r, decDigits n = x :: r := by
  cases h : decDigits n with
  | nil => exact absurd h d1
  | cons x r => exact ⟨x, r, rfl⟩
 rw [e] at d2 d3 hlen hnum ⊢
 have hx : zd x = true := by
  have := d2 x (List.mem_cons_self ..);simp only [zd, Bool.and_eq_true, decide_eq_true_eq];omega
 have hr : ∀ y ∈ r, zd y = true := fun y hy => by
  have := d2 y (List.mem_cons_of_mem _ hy);simp only [zd, Bool.and_eq_true, decide_eq_true_eq];omega
 obtain ⟨n1, n2, n3⟩ := zKU hx;rw [List.cons_append];simp only [zP];rw [zA6 zd r l hr hl, if_neg (by rw [n1]; decide), if_neg (by rw [n2]; decide), if_neg (by rw [n3]; decide), if_pos hx, if_neg, hnum, List.length_cons, Nat.add_comm];rintro (h | ⟨h, rfl⟩)
 · simp only [List.length_cons] at hlen; omega
 have := d3 rfl;simp only [List.length_cons] at this;omega
theorem kL.num {n : Nat} {l : List UInt8} {ks : List Key} (hn : n ≤ 9999999) (hl : zDn zd l) (hr : kL l ks) : kL (decDigits n ++ l) (nK n :: ks) := kL.tok (zJv n hn l hl) hr
theorem kL.mark {m : UInt8} {l : List UInt8} {ks : List Key} (hm : jv m = true) (hr : kL l ks) : kL (m :: l) (mK [m] :: ks) := by
 have hs : zP ([m] ++ l) = .tok 3 0 [m].length := by
  simp only [jv, Bool.or_eq_true, beq_iff_eq] at hm;rcases hm with ((((rfl | rfl) | rfl) | rfl) | rfl) | rfl <;> rfl
 exact kL.tok hs hr
theorem zDn.app {p : UInt8 → Bool} {a b : List UInt8} (ha : zDn p a) (hb : zDn p b) : zDn p (a ++ b) := by
 cases a with
 | nil => exact hb
 | cons x a => exact fun c hc => ha c hc
def zCn (v : Vc) : Prop := xM v ≤ 9999999 ∧ xM v.neg ≤ 9999999
instance (v : Vc) : Decidable (zCn v) := by unfold zCn; exact inferInstance
theorem zJR {x : Int} (h : 0 ≤ x) : itoa x = decDigits x.toNat := by unfold itoa; rw [if_neg (by omega)]
theorem zKB (n : Nat) : itoa (n : Int) = decDigits n := by rw [zJR (by omega)]; simp
def Vc.lim (v : Vc) (m : Nat) : Prop := v.a.natAbs ≤ m ∧ v.b.natAbs ≤ m ∧ v.c.natAbs ≤ m ∧ v.d.natAbs ≤ m ∧ v.e.natAbs ≤ m ∧ v.f.natAbs ≤ m
structure Nte.said (n : Nte) : Prop where
 v0 : 0 ≤ n.voice
 v1 : n.voice ≤ 9999999
 a0 : 0 ≤ n.start
 a1 : n.start ≤ 9999999
 b0 : 0 ≤ n.stop
 b1 : n.stop ≤ 9999999
 pl : n.place.lim 9999999
structure Par.said (p : Par) : Prop where
 a0 : 0 ≤ p.a
 a1 : p.a ≤ 9999999
 b0 : 0 ≤ p.b
 b1 : p.b ≤ 9999999
 w : p.wish.lim 9999999
 k0 : 0 ≤ p.bound
 k1 : p.bound ≤ 9999999
open Go.Lib
def tk (k : Key) : Tok := ⟨k.kind, 0, k.n, k.text⟩
inductive Itm where
 | cad (c : Int)
 | note (i : Nat)
def Itm.num : Itm → Option Int
 | .cad c => some c
 | .note _ => none
structure Scr.said (s : Scr) : Prop where
 v0 : 0 ≤ s.voices
 v1 : s.voices ≤ 9999999
 n : ∀ x ∈ s.notes, x.said ∧ x.place.lim 64
 p : ∀ x ∈ s.pairs, x.said ∧ x.wish.lim 64 ∧ x.a.toNat < s.notes.length ∧ x.b.toNat < s.notes.length
 c : ∀ x ∈ s.cad, 0 ≤ x ∧ x ≤ 9999999
 l : s.notes.length ≤ 9999999
section
variable {α β : Type}
theorem zKz {lt : α → α → Bool} {lt' : β → β → Bool} (g : α → β) (h : ∀ a b, lt' (g a) (g b) = lt a b) (x : α) (l : List α) : vV lt' (g x) (l.map g) = (vV lt x l).map g := by
 induction l with
 | nil => rfl
 | cons y l ih =>
  simp only [List.map_cons, vV, h];split
  · rfl
  rw [ih]; rfl
theorem zI8 {lt : α → α → Bool} {lt' : β → β → Bool} (g : α → β) (h : ∀ a b, lt' (g a) (g b) = lt a b) (l : List α) : yh lt' (l.map g) = (yh lt l).map g := by
 induction l using zBE with
 | nil => rfl
 | snoc l x ih => rw [List.map_append, List.map_singleton, xC, ih, xC, zKz g h]
theorem Swo.pull {lt : α → α → Bool} (h : Swo lt) (g : β → α) : Swo (fun a b => lt (g a) (g b)) :=
 ⟨fun x => h.irr _, fun x y z => h.trans _ _ _, fun x y z => h.neg _ _ _⟩
end
theorem ja : Swo yK := by
 refine ⟨fun x => by simp [yK], fun x y z h1 h2 => ?_, fun x y z h1 h2 => ?_⟩
 · simp only [yK, Bool.or_eq_true, Bool.and_eq_true, decide_eq_true_eq] at *;omega
 simp only [yK, Bool.or_eq_false_iff, Bool.and_eq_false_iff, decide_eq_false_iff_not] at *;omega
theorem jY : Swo zv := by
 refine ⟨fun x => by simp [zv], fun x y z h1 h2 => ?_, fun x y z h1 h2 => ?_⟩
 · simp only [zv, Bool.or_eq_true, Bool.and_eq_true, decide_eq_true_eq] at *;omega
 simp only [zv, Bool.or_eq_false_iff, Bool.and_eq_false_iff, decide_eq_false_iff_not] at *;omega
theorem jD (l : List Nte) : (zl l).Perm (List.range l.length) := kg _
theorem yQ (l : List Nte) : (zl l).length = l.length := by rw [(jD l).length_eq, List.length_range]
theorem zJc (l : List Nte) {i : Nat} (h : i ∈ zl l) : i < l.length := List.mem_range.1 ((jD l).mem_iff.1 h)
theorem zDf (l : List Nte) {i : Nat} (h : i < l.length) : i ∈ zl l := (jD l).mem_iff.2 (List.mem_range.2 h)
theorem zFl (l : List Nte) : (zl l).Nodup := (jD l).nodup_iff.2 List.nodup_range
theorem zCa (l : List Nte) {i : Nat} (h : i < l.length) : zj l i < l.length := by
 unfold zj;rw [← yQ l];exact List.idxOf_lt_length_iff.2 (zDf l h)
theorem zEc (l : List Nte) {k : Nat} (h : k < l.length) : zj l ((zl l).getD k 0) = k := by
 have hk : k < (zl l).length := by rw [yQ]; exact h
 have e : (zl l).getD k 0 = (zl l)[k] := by simp [List.getD, hk]
 unfold zj;rw [e];exact List.Nodup.idxOf_getElem (zFl l) k hk
theorem zC4 (l : List Nte) {i : Nat} (h : i < l.length) : (zl l).getD (zj l i) 0 = i := by
 have hk : zj l i < (zl l).length := by rw [yQ]; exact zCa l h
 have e : (zl l).getD (zj l i) 0 = (zl l)[zj l i] := by simp [List.getD, hk]
 rw [e];exact List.getElem_idxOf hk
theorem zBi (l : List Nte) (k : Nat) : zAo l (k + 1) = qj (zAo l k) k := by
 unfold zAo;rw [List.range_succ, List.foldl_append];rfl
theorem zFO (l : List Nte) (k : Nat) : (qj l k).length = l.length := by
 unfold qj;split
 · rfl
 split
 ·
  split
  · simp
  rfl
 rfl
theorem qu (l : List Nte) (k : Nat) : (zAo l k).length = l.length := by
 induction k with
 | zero => rfl
 | succ k ih => rw [zBi, zFO, ih]
open Go.Lib
section
variable {α : Type} {lt : α → α → Bool}
def zIc (lt : α → α → Bool) (l : List α) : Prop := l.Pairwise fun x y => lt x y = true
theorem vO (h : Swo lt) (l : List α) (hr : xE lt l = true) : zIc lt l := by
 induction l with
 | nil => exact List.Pairwise.nil
 | cons x l ih =>
  cases l with
  | nil => exact List.pairwise_singleton _ _
  | cons y l =>
   simp only [xE, Bool.and_eq_true] at hr;have h2 := ih hr.2;refine List.pairwise_cons.2 ⟨fun z hz => ?_, h2⟩;rcases List.mem_cons.1 hz with rfl | hz
   · exact hr.1
   exact h.trans _ _ _ hr.1 ((List.pairwise_cons.1 h2).1 z hz)
end
theorem zLt {α : Type} (l : List α) (i : Nat) (d : α) (h : i < l.length) : l.getD i d = l[i] := by simp [List.getD, h]
section
variable {s : Scr} {js : List Nat}
end
theorem zDs {l : List Nte} {k : Nat} {v : Int} (h : (j4 l k v).stop ≠ 0) : ∃ m, m < k ∧ ∃ hm : m < l.length, l[m] = j4 l k v ∧ l[m].voice = v ∧ ∀ i, m < i → i < k → ∀ hi : i < l.length, l[i].voice ≠ v := by
 unfold j4 at h ⊢
 cases e : (l.take k).reverse.find? (fun n => decide (n.voice = v)) with
 | none => rw [e] at h; exact absurd rfl h
 | some b =>
  simp only [Option.getD_some];obtain ⟨hb, us, bs, e2, hall⟩ := List.find?_eq_some_iff_append.1 e
  have e3 : l.take k = bs.reverse ++ b :: us.reverse := by
   rw [← List.reverse_reverse (l.take k), e2];simp
  (have hlen : (l.take k).length = bs.length + (us.length + 1) := by rw [e3]; simp);rw [List.length_take] at hlen;have hm : bs.length < l.length := by omega
  have hat : ∀ i (hi : i < l.length), i < k → (bs.reverse ++ b :: us.reverse)[i]? = some l[i] := fun i hi hk => by
   rw [← e3, List.getElem?_take, if_pos hk, List.getElem?_eq_getElem hi]
  have hmb : l[bs.length] = b := by
   exact zMP
  refine ⟨bs.length, by omega, hm, hmb, ?_, fun i h1 h2 hi hv => ?_⟩
  · rw [hmb]; simpa using hb
  have := hat i hi h2;rw [List.getElem?_append_right (by simp; omega)] at this;(obtain ⟨q, hq⟩ : ∃ q, i - bs.reverse.length = q + 1 := ⟨i - bs.length - 1, by simp; omega⟩);exact zN5
theorem zDd {l : List Nte} {k : Nat} {v : Int} {m : Nat} (h1 : m < k) (h2 : m < l.length) (hv : l[m].voice = v) : ∃ i, m ≤ i ∧ i < k ∧ ∃ hi : i < l.length, l[i] = j4 l k v ∧ l[i].voice = v := by
 unfold j4
 cases e : (l.take k).reverse.find? (fun n => decide (n.voice = v)) with
 | none =>
  have := List.find?_eq_none.1 e l[m] (by
   rw [List.mem_reverse, List.mem_iff_getElem?];exact ⟨m, by rw [List.getElem?_take, if_pos h1, List.getElem?_eq_getElem h2]⟩)
  simp [hv] at this
 | some b =>
  simp only [Option.getD_some];obtain ⟨hb, us, bs, e2, hall⟩ := List.find?_eq_some_iff_append.1 e
  have e3 : l.take k = bs.reverse ++ b :: us.reverse := by
   rw [← List.reverse_reverse (l.take k), e2];simp
  (have hlen : (l.take k).length = bs.length + (us.length + 1) := by rw [e3]; simp);rw [List.length_take] at hlen;have hm : bs.length < l.length := by omega
  have hat : ∀ i (hi : i < l.length), i < k → (bs.reverse ++ b :: us.reverse)[i]? = some l[i] := fun i hi hk => by
   rw [← e3, List.getElem?_take, if_pos hk, List.getElem?_eq_getElem hi]
  have hmb : l[bs.length] = b := by
   exact zMP
  refine ⟨bs.length, ?_, by omega, hm, hmb, by rw [hmb]; simpa using hb⟩;by_cases hlt : bs.length < m
  · exfalso;have := hat m h2 h1;rw [List.getElem?_append_right (by simp; omega)] at this;obtain ⟨q, hq⟩ : ∃ q, m - bs.reverse.length = q + 1 := ⟨m - bs.length - 1, by simp; omega⟩
    exact zN5
  omega
def zBY (l : List Nte) : Prop := ∀ k (hk : k < l.length), vm l k l[k] = true
theorem zCk {l : List Nte} (hv : zBY l) (hp : ∀ x ∈ l, x.start < x.stop) : ∀ m (hm : m < l.length) j (hj : j < m), l[j].voice = l[m].voice → l[j].stop ≤ l[m].start := by
 intro m
 induction m using Nat.strongRecOn with
 | _ m ih =>
  intro hm j hj e;obtain ⟨i, h1, h2, hi, e1, e2⟩ := zDd hj (by omega) e;have h := hv m hm;simp only [vm, Bool.not_eq_true', Bool.or_eq_false_iff, decide_eq_false_iff_not] at h;(have h3 : l[i].stop ≤ l[m].start := by rw [e1]; omega);rcases Nat.lt_or_eq_of_le h1 with h4 | rfl
  · have h5 := ih i h2 hi j h4 (by rw [e, e2]);have h6 := hp l[i] (List.getElem_mem hi);omega
  exact h3
theorem zF3 {l : List Nte} (hv : zBY l) (hp : ∀ x ∈ l, x.start < x.stop) (k : Nat) (hk : k < l.length) (ht : l[k].tied = true) :
 ∃ j, j < k ∧ ∃ hj : j < l.length, l.findIdx? (fun m => decide (m.voice = l[k].voice) && decide (m.stop = l[k].start)) = some j ∧ l[j].place = l[k].place := by
 have h := hv k hk;simp only [vm, Bool.not_eq_true', Bool.or_eq_false_iff, decide_eq_false_iff_not, ht, Bool.true_and, Bool.not_eq_false', decide_eq_true_eq] at h;obtain ⟨h1, ⟨h2, h3⟩, h4⟩ := h;obtain ⟨m, m1, m2, m3, m4, m5⟩ := zDs h3;have e1 : l[m].stop = l[k].start := by rw [m3]; exact h2
 refine ⟨m, m1, m2, ?_, by rw [m3]; exact h4⟩;rw [List.findIdx?_eq_some_iff_getElem];refine ⟨m2, by simp [m4, e1], fun j hj => ?_⟩;have hjl : j < l.length := by omega
 simp only [Bool.not_eq_true, Bool.and_eq_false_iff, decide_eq_false_iff_not];by_cases e : l[j].voice = l[k].voice
 · right
   have := zCk hv hp m m2 j hj (by rw [e, m4]);have h6 := hp l[m] (List.getElem_mem m2);omega
 left; exact e
structure Scr.good (s : Scr) : Prop where
 v0 : 1 ≤ s.voices
 v1 : s.voices ≤ 8
 nl : s.notes.length ≤ 200
 pl : s.pairs.length ≤ 400
 cl : s.cad.length < 16
 n : ∀ x ∈ s.notes, 0 ≤ x.voice ∧ x.voice < s.voices ∧ 0 ≤ x.start ∧ x.start < x.stop ∧ x.stop ≤ 100000 ∧ x.place.lim 24
 nr : zIc yK s.notes
 vo : zBY s.notes
 p : ∀ x ∈ s.pairs, 0 ≤ x.a ∧ x.a < x.b ∧ x.b < s.notes.length ∧ x.wish.lim 16 ∧ 0 ≤ x.bound ∧ x.bound ≤ 100000
 pr : zIc zv s.pairs
 c : ∀ x ∈ s.cad, 1 ≤ x ∧ x < 100000
 cr : zIc (fun a b : Int => decide (a < b)) s.cad
theorem zJC {v : Vc} {m : Nat} (h : v.le m = true) : v.lim m := by
 simp only [Vc.le, Bool.and_eq_true, decide_eq_true_eq] at h;unfold Vc.lim;omega
theorem zB0 : Swo (fun a b : Int => decide (a < b)) := ⟨fun x => by simp, fun x y z h1 h2 => by simp at *; omega, fun x y z h1 h2 => by simp at *; omega⟩
theorem zCt {s : Scr} (h : xd s = true) : s.good := by
 simp only [xd, jH, vQ, xz, vu, zCD, Bool.and_eq_true, decide_eq_true_eq, List.all_eq_true] at h;obtain ⟨⟨⟨⟨⟨⟨⟨⟨a1, a2⟩, a3⟩, a4⟩, a5⟩, ⟨b1, b2⟩⟩, c1⟩, ⟨d1, d2⟩⟩, ⟨e1, e2⟩⟩ := h;refine ⟨a1, a2, a3, a4, a5, fun x hx => ?_, vO ja _ b2, fun k hk => ?_, fun x hx => ?_, vO jY _ d2, fun x hx => e1 x hx, vO zB0 _ e2⟩
 · have := b1 x hx;simp only [qd, Bool.and_eq_true, decide_eq_true_eq] at this;obtain ⟨⟨⟨⟨⟨f1, f2⟩, f3⟩, f4⟩, f5⟩, f6⟩ := this;exact ⟨f1, f2, f3, f4, f5, zJC f6⟩
 · have := c1 k (List.mem_range.2 hk);rw [zLt _ _ _ hk] at this;exact this
 have := d1 x hx;simp only [vG, Bool.and_eq_true, decide_eq_true_eq] at this;obtain ⟨⟨⟨⟨⟨⟨⟨f1, f2⟩, f3⟩, f4⟩, f5⟩, f6⟩, f7⟩, f8⟩ := this;exact ⟨f1, f2, f3, zJC f4, f5, f6⟩
theorem Vc.lim.mono {v : Vc} {m n : Nat} (h : v.lim m) (hm : m ≤ n) : v.lim n := by unfold Vc.lim at *; omega
theorem Scr.good.said {s : Scr} (h : s.good) : s.said := by
 refine ⟨by have := h.v0; omega, by have := h.v1; omega, fun x hx => ?_, fun x hx => ?_, fun x hx => by have := h.c x hx; omega, by have := h.nl; omega⟩
 · obtain ⟨a1, a2, a3, a4, a5, a6⟩ := h.n x hx;have := h.v1;exact ⟨⟨a1, by omega, a3, by omega, by omega, by omega, a6.mono (by omega)⟩, a6.mono (by omega)⟩
 obtain ⟨a1, a2, a3, a4, a5, a6⟩ := h.p x hx;have := h.nl;exact ⟨⟨a1, by omega, by omega, by omega, a4.mono (by omega), a5, by omega⟩, a4.mono (by omega), by omega, by omega⟩
def jK (v : Int) : List UInt8 := [118, 111, 105, 99, 101, 115, 32] ++ itoa v ++ [59, 10]
open Go.Lib
theorem zDR {s : List UInt8} (h : kP s ≠ 0) : jG s = [] := by
 unfold kP at h;unfold jG;split at h
 · next h1 => rw [if_pos h1]
 next h1 =>
 rw [if_neg h1];split at h
 · exact absurd rfl h
 next h2 => first | rfl | rw [h2]
theorem zET {s : List UInt8} (h : kP s = 0) : s.length ≤ 8000 ∧ (xr 0 s).2 = none ∧ jG s = (xr 0 s).1 := by
 unfold kP at h;split at h
 · cases h
 next h1 =>
 split at h
 · next h2 =>
   refine ⟨by omega, h2, ?_⟩;unfold jG;rw [if_neg h1, h2]
 cases h
theorem zIT (s : List UInt8) : ∀ t ∈ jG s, t.good := by
 by_cases h : kP s = 0
 · rw [(zET h).2.2]; exact zIX 0 s
 rw [zDR h]; intro t ht; cases ht
theorem zFs {s : List UInt8} (h : kP s ≠ 0) : yx s = kP s ∧ yV s = jB ∧ y6 s = zBc s := by
 unfold yx yV y6;rw [if_pos h, if_pos h, if_pos h];exact ⟨rfl, rfl, rfl⟩
def Rs.nz {α : Type} : Rs α → Prop
 | .ok _ _ => True
 | .err _ k => k ≠ 0
theorem Rs.nz_bind {α β : Type} {q : Rs α} {f : α → List Tok → Rs β} (h : q.nz) (k : ∀ a r, (f a r).nz) : (q.bind f).nz := by
 cases q with
 | ok a r => exact k a r
 | err r e => exact h
theorem zFY (s : List UInt8) (ts : List Tok) : (jM s ts).nz := by
 unfold jM;split
 · trivial
 intro h; cases h
theorem vy (l : List (List UInt8)) (ts : List Tok) : (zb l ts).nz := by
 induction l generalizing ts with
 | nil => trivial
 | cons s l ih => exact Rs.nz_bind (zFY s ts) fun _ r => ih r
theorem kt (ts : List Tok) : (yX ts).nz := by
 cases ts with
 | nil => intro h; cases h
 | cons t l =>
  simp only [yX];split
  · trivial
  intro h; cases h
theorem zGB (ts : List Tok) : (jf ts).nz := by
 cases ts with
 | nil => intro h; cases h
 | cons t l =>
  simp only [jf];split
  · trivial
  intro h; cases h
theorem zLA (ns : List (List UInt8)) (ts : List Tok) : (zHV ns ts).nz := Rs.nz_bind (zGB ts) fun s r => by
 cases xY ns s with
 | some _ => intro h; cases h
 | none => trivial
theorem zH9 (ns : List (List UInt8)) (ts : List Tok) : (zB2 ns ts).nz := Rs.nz_bind (zGB ts) fun s r => by
 cases xY ns s with
 | some _ => trivial
 | none => intro h; cases h
theorem zLe (m : Nat) (v : Vc) (ts : List Tok) : (v9 m v ts).nz := by
 induction m generalizing v ts with
 | zero =>
  unfold v9;split
  · trivial
  intro h; cases h
 | succ m ih =>
  unfold v9;split
  · trivial
  split
  · exact Rs.nz_bind (kt _) fun _ _ => ih _ _
  exact Rs.nz_bind (kt _) fun _ _ => ih _ _
theorem zFG (ts : List Tok) : (vL ts).nz := by
 unfold vL;split
 · exact zLe _ _ _
 refine Rs.nz_bind (kt _) fun n _ => ?_
 refine Rs.nz_bind (zFY _ _) fun _ _ => ?_
 refine Rs.nz_bind (kt _) fun d _ => ?_
 cases xS n d with
 | some v => trivial
 | none => intro h; cases h
theorem zLZ (t : Bool) (ts : List Tok) : (atR t ts).nz := by
 unfold atR;split
 · trivial
 split
 · exact zFG _
 trivial
theorem zMx (ts : List Tok) : (byR ts).nz := by
 unfold byR;split
 · exact zFG _
 trivial
theorem zHn (ts : List Tok) : (xW ts).nz := by
 unfold xW;split
 · exact kt _
 trivial
theorem zFP (t : Bool) (d : Drf) (ts : List Tok) : (xy t d ts).nz :=
 Rs.nz_bind (zLA _ _) fun _ _ => Rs.nz_bind (vy _ _) fun _ _ => Rs.nz_bind (kt _) fun _ _ => Rs.nz_bind (vy _ _) fun _ _ => Rs.nz_bind (kt _) fun _ _ =>
  Rs.nz_bind (vy _ _) fun _ _ => Rs.nz_bind (kt _) fun _ _ => Rs.nz_bind (zLZ _ _) fun _ _ => Rs.nz_bind (vy _ _) fun _ _ => trivial
theorem zKJ (d : Drf) (ts : List Tok) : (qI d ts).nz :=
 Rs.nz_bind (zH9 _ _) fun _ _ => Rs.nz_bind (zH9 _ _) fun _ _ => Rs.nz_bind (zMx _) fun _ _ => Rs.nz_bind (zHn _) fun _ _ => Rs.nz_bind (vy _ _) fun _ _ => trivial
theorem zKS (d : Drf) (ts : List Tok) : (zAq d ts).nz := Rs.nz_bind (kt _) fun _ _ => Rs.nz_bind (vy _ _) fun _ _ => trivial
theorem zJ5 {s : List UInt8} {d : Drf} {ts : List Tok} {q : Rs Drf} (h : xA s d ts = some q) : q.nz := by
 unfold xA at h;split at h
 · injection h with h; subst h; exact zFP _ _ _
 split at h
 · injection h with h; subst h; exact zFP _ _ _
 split at h
 · injection h with h; subst h; exact zKJ _ _
 split at h
 · injection h with h; subst h; exact zKS _ _
 cases h
theorem zIP (f : Nat) (d : Drf) (ts : List Tok) : (vc f d ts).nz := by
 induction f generalizing d ts with
 | zero => cases ts <;> trivial
 | succ f ih =>
  cases ts with
  | nil => trivial
  | cons t ts =>
   simp only [vc]
   cases e : xA t.text d ts with
   | none => intro h; cases h
   | some q => exact Rs.nz_bind (zJ5 e) fun _ _ => ih _ _
theorem zJH (ts : List Tok) : (vZ ts).nz := Rs.nz_bind (vy _ _) fun _ _ => Rs.nz_bind (kt _) fun _ _ => Rs.nz_bind (vy _ _) fun _ _ => zIP _ _ _
theorem zFm (ts r : List Tok) (k : Nat) (h : vZ ts = .err r k) : k ≠ 0 := by
 have := zJH ts;rw [h] at this;exact this
open Go.Lib
def Key.good (k : Key) : Prop := zP k.text = .tok k.kind k.n k.text.length
def zFt (l : List Key) : Prop := ∀ k ∈ l, k.good
theorem zFt.nil : zFt [] := fun k h => by cases h
theorem zFt.cons {k : Key} {l : List Key} (h : k.good) (h2 : zFt l) : zFt (k :: l) := fun q hq => by
 rcases List.mem_cons.1 hq with rfl | hq
 · exact h
 exact h2 q hq
theorem zFt.app {l m : List Key} (h : zFt l) (h2 : zFt m) : zFt (l ++ m) := fun q hq => by
 rcases List.mem_append.1 hq with hq | hq
 · exact h q hq
 exact h2 q hq
theorem zGI {i : Nat} (h : i < 1000) : (decDigits i).length ≤ 3 := by
 rw [decDigits_length];by_cases h1 : i < 10
 · rw [nDigits_small h1]; omega
 rw [nDigits_big h1];by_cases h2 : i / 10 < 10
 · rw [nDigits_small h2]; omega
 rw [nDigits_big h2, nDigits_small (by omega)]; omega
section
variable {a b : UInt8} (ha : k9 a = true) (hb : zd b = true)
end
open Go.Lib
theorem zGx (p : Nat) (l : List UInt8) : (xr p l).1.length ≤ l.length := by
 induction p, l using zHc with
 | nil p => exact Nat.le_refl _
 | skip p x l k hs h1 h2 ih => rw [vS hs]; rw [List.length_drop] at ih; omega
 | tok p x l kd n k hs h1 h2 ih =>
  rw [zAM hs];rw [List.length_drop] at ih;show (xr (p + k) (List.drop k (x :: l))).1.length + 1 ≤ _;omega
 | bad p x l hs => rw [zB8 hs]; exact Nat.zero_le _
theorem kz (s : List UInt8) : (jG s).length ≤ 8000 := by
 by_cases h : kP s = 0
 · obtain ⟨h1, h2, h3⟩ := zET h;rw [h3];have := zGx 0 s;omega
 rw [zDR h]; exact Nat.zero_le _
theorem zIB (p : Nat) (l : List UInt8) : ∀ t ∈ (xr p l).1, t.text.length ≤ l.length := by
 induction p, l using zHc with
 | nil p => intro t h; cases h
 | skip p x l k hs h1 h2 ih =>
  rw [vS hs];intro t ht;have := ih t ht;rw [List.length_drop] at this;omega
 | tok p x l kd n k hs h1 h2 ih =>
  rw [zAM hs];intro t ht;rcases List.mem_cons.1 ht with rfl | ht
  · show ((x :: l).take k).length ≤ _;rw [List.length_take]; omega
  have := ih t ht;rw [List.length_drop] at this;omega
 | bad p x l hs => rw [zB8 hs]; intro t h; cases h
theorem zJN (l : List UInt8) (h : ∀ x ∈ l, zd x = true) (a : Nat) : num a l < (a + 1) * 10 ^ l.length := by
 induction l generalizing a with
 | nil => simp [num]
 | cons x l ih =>
  have hx := h x (List.mem_cons_self ..);simp only [zd, Bool.and_eq_true, decide_eq_true_eq] at hx;have := ih (fun y hy => h y (List.mem_cons_of_mem _ hy)) (10 * a + (x.toNat - 48));show num (10 * a + (x.toNat - 48)) l < _;refine Nat.lt_of_lt_of_le this ?_;rw [List.length_cons, Nat.pow_succ, Nat.mul_comm (10 ^ l.length) 10, ← Nat.mul_assoc];exact Nat.mul_le_mul_right _ (by omega)
theorem Tok.good_facts {t : Tok} (h : t.good) : t.n ≤ 9999999 ∧ (t.kind = 1 → ∀ y ∈ t.text, yD y = true) := by
 unfold Tok.good at h
 cases e : t.text with
 | nil => rw [e] at h; cases h
 | cons x l =>
  rw [e] at h;simp only [zP] at h;split at h
  · cases h
  split at h
  · cases h
  split at h
  ·
   next hl =>
   split at h
   · cases h
   injection h with h1 h2 h3;refine ⟨by omega, fun _ y hy => ?_⟩;rcases List.mem_cons.1 hy with rfl | hy
   · unfold yD; rw [hl, Bool.true_or]
   have hw : l.takeWhile yD = l := by
    have h4 := List.takeWhile_append_dropWhile (p := yD) (l := l)
    have h5 : (l.dropWhile yD).length = 0 := by
     have := congrArg List.length h4;rw [List.length_append] at this;rw [List.length_cons] at h3;omega
    rw [List.eq_nil_of_length_eq_zero h5, List.append_nil] at h4;exact h4
   rw [← hw] at hy;exact zG0 yD l y hy
  split at h
  ·
   next hd =>
   split at h
   · cases h
   next h7 =>
   injection h with h1 h2 h3;refine ⟨?_, fun e => by omega⟩;rw [← h2]
   have hall : ∀ y ∈ x :: l.takeWhile zd, zd y = true := fun y hy => by
    rcases List.mem_cons.1 hy with rfl | hy
    · exact hd
    exact zG0 zd l y hy
   have h8 := zJN _ hall 0
   have h9 : (x :: l.takeWhile zd).length ≤ 7 := by
    rw [List.length_cons];by_cases h10 : 7 < 1 + (l.takeWhile zd).length
    · exact absurd (Or.inl h10) h7
    omega
   have h10 : (10 : Nat) ^ (x :: l.takeWhile zd).length ≤ 10 ^ 7 := Nat.pow_le_pow_right (by decide) h9;have h11 : (10 : Nat) ^ 7 = 10000000 := by decide
   omega
  split at h
  · injection h with h1 h2 h3;exact ⟨by omega, fun e => by omega⟩
  cases h
theorem jj (s : List UInt8) : ∀ t ∈ jG s, t.n ≤ 9999999 ∧ t.text.length ≤ 8000 ∧ (t.kind = 1 → ∀ y ∈ t.text, y ≠ 32) := by
 intro t ht;by_cases h : kP s = 0
 · obtain ⟨h1, h2, h3⟩ := zET h;have hg := Tok.good_facts (zIT s t ht);rw [h3] at ht;have := zIB 0 s t ht;refine ⟨hg.1, by omega, fun e y hy h32 => ?_⟩;have := hg.2 e y hy;rw [h32] at this
   revert this; decide
 rw [zDR h] at ht; cases ht
def Vc.most (v : Vc) (m : Nat) : Prop := v.a.natAbs ≤ m ∧ v.b.natAbs ≤ m ∧ v.c.natAbs ≤ m ∧ v.d.natAbs ≤ m ∧ v.e.natAbs ≤ m ∧ v.f.natAbs ≤ m
theorem Vc.most.put {v : Vc} {m : Nat} (h : v.most m) (j : Nat) (x : Int) (hx : x.natAbs ≤ m) : (v.put j x).most m := by
 obtain ⟨h0, h1, h2, h3, h4, h5⟩ := h;unfold Vc.put Vc.most;simp only;refine ⟨?_, ?_, ?_, ?_, ?_, ?_⟩ <;> split <;> assumption
def zAm (ts : List Tok) : Prop := ∀ t ∈ ts, t.n ≤ 9999999
theorem zAm.suf {ts r : List Tok} (h : zAm ts) (s : r <:+ ts) : zAm r := fun t ht => h t (s.subset ht)
theorem zDz {ts r : List Tok} {n : Nat} (h : zAm ts) (e : yX ts = .ok n r) : n ≤ 9999999 := by
 cases ts with
 | nil => cases e
 | cons t l =>
  simp only [yX] at e;split at e
  · injection e with e1 e2;rw [← e1];exact h t (List.mem_cons_self ..)
  cases e
theorem kZ {α : Type} {q : Rs α} {ts r : List Tok} {a : α} (h : q.suf ts) (e : q = .ok a r) : r <:+ ts := by
 rw [e] at h;exact h
theorem zIx (m : Nat) (v : Vc) (ts r : List Tok) (u : Vc) (hv : v.most 9999999) (h : zAm ts) (e : v9 m v ts = .ok u r) : u.most 9999999 := by
 induction m generalizing v ts with
 | zero =>
  unfold v9 at e
  cases q : yv kh ts with
  | some r' => rw [q] at e; injection e with e1 e2; rw [← e1]; exact hv
  | none => rw [q] at e; cases e
 | succ m ih =>
  unfold v9 at e
  cases q : yv kh ts with
  | some r' => rw [q] at e; injection e with e1 e2; rw [← e1]; exact hv
  | none =>
   rw [q] at e;simp only at e
   cases q2 : yv zAE ts with
   | some r' =>
    rw [q2] at e;obtain ⟨n, r1, e1, e2⟩ := Rs.bind_ok e;have hs := h.suf (ve q2);have hn := zDz hs e1;exact ih _ r1 (hv.put _ _ (by omega)) (hs.suf (kZ (xe _) e1)) e2
   | none =>
    rw [q2] at e;obtain ⟨n, r1, e1, e2⟩ := Rs.bind_ok e;have hn := zDz h e1;exact ih _ r1 (hv.put _ _ (by omega)) (h.suf (kZ (xe _) e1)) e2
theorem zEi (p f n : Nat) : (vY p f n).2 ≤ f := by
 induction f generalizing n with
 | zero => exact Nat.le_refl _
 | succ f ih =>
  rw [vY];split
  · have := ih (n / p); simp only; omega
  exact Nat.zero_le _
theorem zGb (n d k : Nat) : (zm n d k).2.2.most 9999999 := by
 induction k with
 | zero => unfold zm Vc.most vc0; simp
 | succ k ih =>
  rw [zm];generalize zm n d k = q at ih;obtain ⟨a, b, v⟩ := q;simp only [zKr];refine Vc.most.put ih k _ ?_;have h1 := zEi (zr k) 64 a;have h2 := zEi (zr k) 64 b;omega
theorem zF0 {n d : Nat} {v : Vc} (h : xS n d = some v) : v.most 9999999 := by
 unfold xS at h;split at h
 · cases h
 split at h
 · injection h with h; rw [← h]; exact zGb n d 6
 cases h
theorem zHO {ts r : List Tok} {v : Vc} (h : zAm ts) (e : vL ts = .ok v r) : v.most 9999999 := by
 unfold vL at e
 cases q : yv zEO ts with
 | some r' =>
  rw [q] at e;exact zIx 6 vc0 r' r v (by unfold Vc.most vc0; simp) (h.suf (ve q)) e
 | none =>
  rw [q] at e;obtain ⟨n, r1, e1, e⟩ := Rs.bind_ok e;obtain ⟨u, r2, e2, e⟩ := Rs.bind_ok e;obtain ⟨d, r3, e3, e⟩ := Rs.bind_ok e
  cases q2 : xS n d with
  | none => rw [q2] at e; cases e
  | some v' => rw [q2] at e; injection e with e4 e5; rw [← e4]; exact zF0 q2
structure Drf.fine (d : Drf) : Prop where
 len : d.names.length = d.sc.notes.length
 p : ∀ p ∈ d.sc.pairs, 0 ≤ p.a ∧ p.a < d.sc.notes.length ∧ 0 ≤ p.b ∧ p.b < d.sc.notes.length ∧ p.wish.most 9999999
theorem zK0 {ns : List (List UInt8)} {s : List UInt8} {i : Nat} (h : xY ns s = some i) : i < ns.length := by
 unfold xY at h;exact (List.findIdx?_eq_some_iff_getElem.1 h).1
theorem zH1 {ns : List (List UInt8)} {ts r : List Tok} {i : Nat} (h : zB2 ns ts = .ok i r) : i < ns.length := by
 unfold zB2 at h;obtain ⟨s, r1, e1, e2⟩ := Rs.bind_ok h
 cases q : xY ns s with
 | none => rw [q] at e2; cases e2
 | some j => rw [q] at e2; injection e2 with e3 e4; rw [← e3]; exact zK0 q
theorem zDG {t : Bool} {d d2 : Drf} {ts r : List Tok} (hd : d.fine) (h : xy t d ts = .ok d2 r) : d2.fine := by
 unfold xy at h;obtain ⟨_, _, _, h⟩ := Rs.bind_ok h;obtain ⟨_, _, _, h⟩ := Rs.bind_ok h;obtain ⟨_, _, _, h⟩ := Rs.bind_ok h;obtain ⟨_, _, _, h⟩ := Rs.bind_ok h;obtain ⟨_, _, _, h⟩ := Rs.bind_ok h;obtain ⟨_, _, _, h⟩ := Rs.bind_ok h;obtain ⟨_, _, _, h⟩ := Rs.bind_ok h;obtain ⟨_, _, _, h⟩ := Rs.bind_ok h;obtain ⟨_, _, _, h⟩ := Rs.bind_ok h;injection h with h;subst h;refine ⟨by simp [Drf.note, hd.len], fun p hp => ?_⟩;obtain ⟨a, b, c, e, f⟩ := hd.p p hp;simp only [Drf.note, List.length_append, List.length_singleton];exact ⟨a, by omega, c, by omega, f⟩
theorem zJT {ts r : List Tok} {v : Vc} (h : zAm ts) (e : byR ts = .ok v r) : v.most 9999999 := by
 unfold byR at e
 cases q : yv zA8 ts with
 | some r' => rw [q] at e; exact zHO (h.suf (ve q)) e
 | none => rw [q] at e; injection e with e1 e2; rw [← e1]; unfold Vc.most vc0; simp
theorem zGU {d d2 : Drf} {ts r : List Tok} (hs : zAm ts) (hd : d.fine) (h : qI d ts = .ok d2 r) : d2.fine := by
 unfold qI at h;obtain ⟨a, r1, e1, h⟩ := Rs.bind_ok h;obtain ⟨b, r2, e2, h⟩ := Rs.bind_ok h;obtain ⟨v, r3, e3, h⟩ := Rs.bind_ok h;obtain ⟨k, r4, e4, h⟩ := Rs.bind_ok h;obtain ⟨_, _, _, h⟩ := Rs.bind_ok h;injection h with h;subst h;have h1 := zH1 e1;have h2 := zH1 e2;have hl := hd.len;have s1 := hs.suf (kZ (zBS _ _) e1);have s2 := s1.suf (kZ (zBS _ _) e2);refine ⟨hd.len, fun p hp => ?_⟩;simp only [Drf.pair] at hp ⊢;rcases List.mem_append.1 hp with hp | hp
 · exact hd.p p hp
 obtain rfl := List.mem_singleton.1 hp;exact ⟨by simp only; omega, by simp only; omega, by simp only; omega, by simp only; omega, zJT s2 e3⟩
theorem zJa {d d2 : Drf} {ts r : List Tok} (hd : d.fine) (h : zAq d ts = .ok d2 r) : d2.fine := by
 unfold zAq at h;obtain ⟨_, _, _, h⟩ := Rs.bind_ok h;obtain ⟨_, _, _, h⟩ := Rs.bind_ok h;injection h with h;subst h;exact ⟨hd.len, hd.p⟩
theorem zG6 {s : List UInt8} {d d2 : Drf} {ts r : List Tok} (hs : zAm ts) (hd : d.fine) (h : xA s d ts = some (.ok d2 r)) : d2.fine := by
 unfold xA at h;split at h
 · injection h with h; exact zDG hd h
 split at h
 · injection h with h; exact zDG hd h
 split at h
 · injection h with h; exact zGU hs hd h
 split at h
 · injection h with h; exact zJa hd h
 cases h
theorem zGE (d d2 : Drf) (ts r : List Tok) (hs : zAm ts) (hd : d.fine) (h : zB9 d ts = .ok d2 r) : d2.fine ∧ d2.cnt ≤ d.cnt + ts.length := by
 obtain ⟨m, hm⟩ : ∃ m, m = ts.length := ⟨_, rfl⟩
 induction m using Nat.strongRecOn generalizing d ts with
 | _ m ih =>
  cases ts with
  | nil => rw [zDm] at h; injection h with h1 h2; rw [← h1]; exact ⟨hd, by omega⟩
  | cons t ts =>
   rw [zCs] at h
   cases e : xA t.text d ts with
   | none => rw [e] at h; cases h
   | some q =>
    rw [e] at h;simp only at h;obtain ⟨d3, r3, e2, h⟩ := Rs.bind_ok h;subst e2;have h1 := j8 e;have h2 := zAP e;simp only at h1;(have hs2 : zAm ts := fun u hu => hs u (List.mem_cons_of_mem _ hu));have h3 := zG6 hs2 hd e;have h4 := zEp e;obtain ⟨a, b⟩ := ih r3.length (by rw [hm, List.length_cons]; omega) d3 r3 (hs2.suf h2) h3 h rfl;exact ⟨a, by rw [List.length_cons]; omega⟩
theorem zDp {d : Drf} {ts r : List Tok} (hs : zAm ts) (hl : ts.length ≤ 8000) (h : vZ ts = .ok d r) : d.fine ∧ d.cnt ≤ 8000 := by
 unfold vZ at h;obtain ⟨a1, r1, e1, h⟩ := Rs.bind_ok h;obtain ⟨a2, r2, e2, h⟩ := Rs.bind_ok h;obtain ⟨a3, r3, e3, h⟩ := Rs.bind_ok h;have s1 := kZ (xP _ _) e1;have s2 := kZ (xe _) e2;have s3 := kZ (xP _ _) e3;have s := s3.trans (s2.trans s1);have hle := s.length_le;obtain ⟨a, b⟩ := zGE _ d r3 r (hs.suf s) ⟨rfl, fun p hp => by cases hp⟩ h;refine ⟨a, ?_⟩;have h0 : Drf.cnt ⟨{ jB with voices := (a2 : Int) }, []⟩ = 0 := rfl;rw [h0] at b;omega
def zLc : List UInt8 := [97, 116, 32, 51, 47, 50, 59]
def zIM : List UInt8 := [118, 111, 105, 99, 101, 115, 32, 50, 59, 32, 110, 111, 116, 101, 32, 120, 58, 32, 118, 111, 105, 99, 101, 32, 48, 32, 102, 114, 111, 109, 32, 48, 32, 116, 111, 32, 52, 59, 32, 110, 111, 116, 101, 32, 121, 58, 32, 118, 111, 105, 99, 101, 32, 49, 32, 102, 114, 111, 109, 32, 48, 32, 116, 111, 32, 52, 32, 97, 116, 32, 53, 47, 52, 59, 32, 112, 97, 105, 114, 32, 121, 32, 120, 32, 98, 121, 32, 52, 47, 53, 59]
def zKV : List UInt8 := [118, 111, 105, 99, 101, 115, 32, 50, 59, 32, 110, 111, 116, 101, 32, 120, 32, 118, 111, 105, 99, 101]
def zK5 : List UInt8 := [118, 111, 105, 99, 101, 115, 32, 50, 59, 32, 112, 97, 105, 114, 32, 120, 32, 121, 59]
def zKQ : List UInt8 := [118, 111, 105, 99, 101, 115, 32, 49, 59, 32, 110, 111, 116, 101, 32, 120, 58, 32, 118, 111, 105, 99, 101, 32, 48, 32, 102, 114, 111, 109, 32, 48, 32, 116, 111, 32, 52, 32, 97, 116, 32, 49, 55, 47, 49, 54, 59]
def zOd : List UInt8 := [118, 111, 105, 99, 101, 115, 32, 50, 59, 10, 110, 111, 116, 101, 32, 110, 48, 58, 32, 118, 111, 105, 99, 101, 32, 48, 32, 102, 114, 111, 109, 32, 48, 32, 116, 111, 32, 52, 59, 10, 110, 111, 116, 101, 32, 110, 49, 58, 32, 118, 111, 105, 99, 101, 32, 49, 32, 102, 114, 111, 109, 32, 48, 32, 116, 111, 32, 52, 32, 97, 116, 32, 53, 47, 52, 59, 10, 112, 97, 105, 114, 32, 110, 48, 32, 110, 49, 32, 98, 121, 32, 53, 47, 52, 59, 10]
def zDI : Scr := ⟨2, [⟨0, 0, 4, ⟨0, 0, 0, 0, 0, 0⟩, false⟩, ⟨1, 0, 4, ⟨-2, 0, 1, 0, 0, 0⟩, false⟩], [⟨0, 1, ⟨-2, 0, 1, 0, 0, 0⟩, 0⟩], []⟩
def zIy : List Tok := [⟨1, 0, 0, [97, 116]⟩, ⟨2, 3, 3, [51]⟩, ⟨3, 4, 0, [47]⟩, ⟨2, 5, 2, [50]⟩, ⟨3, 6, 0, [59]⟩]
theorem zHH : jG zLc = zIy ∧ zBc zLc = 0 ∧ kP zLc = 0 := by decide +kernel
theorem zIf : y6 zKV = 17 ∧ yx zKV = 10 := by decide +kernel
theorem zIj : y6 zK5 = 15 ∧ yx zK5 = 11 := by decide +kernel
theorem zIg : y6 zKQ = 41 ∧ yx zKQ = 9 := by decide +kernel
theorem zE5 : y6 zIM = 0 ∧ yx zIM = 0 ∧ yV zIM = zDI := by decide +kernel
theorem zIa : kE zDI = zOd ∧ kJ zDI = 0 := by decide +kernel
open Go.Lib
theorem join_cons (t : Tok) (ts : List Tok) (c : UInt8) : zLM (t :: ts) c = t.text ++ [c] ++ zLM ts c := rfl
def zLo (s : List UInt8) (i e : Nat) : List UInt8 := (s.drop i).take (e - i)
end Go.Proofs.YtcjhihmaegagdaaGreatDoor
