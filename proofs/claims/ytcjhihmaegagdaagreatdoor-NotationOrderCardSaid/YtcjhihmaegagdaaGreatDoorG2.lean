/- Texts of the Notation chapter, together: Pa, Pq, Ps, Pt, Pu, Pl. -/
import Derived.Test.YtcjhihmaegagdaaGreatDoorG1
set_option maxRecDepth 100000
set_option maxHeartbeats 8000000
set_option linter.unusedSimpArgs false
set_option linter.unusedVariables false
set_option linter.unusedSectionVars false
set_option linter.unnecessarySimpa false
namespace Go.Proofs.YtcjhihmaegagdaaGreatDoor
open Go.Lib
structure Tok where
 kind : Nat
 pos : Nat
 n : Nat
 text : List UInt8
deriving DecidableEq
def isBlank (x : UInt8) : Bool := x == 32 || x == 9 || x == 10
def isLow (x : UInt8) : Bool := decide (97 ≤ x.toNat) && decide (x.toNat ≤ 122)
def isDig (x : UInt8) : Bool := decide (48 ≤ x.toNat) && decide (x.toNat ≤ 57)
def isWord (x : UInt8) : Bool := isLow x || isDig x
def isMark (x : UInt8) : Bool := x == 59 || x == 58 || x == 47 || x == 45 || x == 91 || x == 93
inductive LxStep where
 | skip (k : Nat)
 | tok (kind n k : Nat)
 | bad
def lexStep : List UInt8 → LxStep
 | [] => .bad
 | x :: l =>
  if isBlank x then .skip 1
  else if x == 35 then .skip (1 + (l.takeWhile (· != 10)).length)
  else if isLow x then (if 16 < 1 + (l.takeWhile isWord).length then .bad else .tok 1 0 (1 + (l.takeWhile isWord).length))
  else if isDig x then (if 7 < 1 + (l.takeWhile isDig).length ∨ (1 < 1 + (l.takeWhile isDig).length ∧ x = 48) then .bad else .tok 2 (num 0 (x :: l.takeWhile isDig)) (1 + (l.takeWhile isDig).length))
  else if isMark x then .tok 3 0 1
  else .bad
def lexF : Nat → Nat → List UInt8 → List Tok × Option Nat
 | 0, _, _ => ([], none)
 | _ + 1, _, [] => ([], none)
 | f + 1, p, x :: l =>
  match lexStep (x :: l) with
  | .skip k => lexF f (p + k) ((x :: l).drop k)
  | .tok kd n k => (⟨kd, p, n, (x :: l).take k⟩ :: (lexF f (p + k) ((x :: l).drop k)).1, (lexF f (p + k) ((x :: l).drop k)).2)
  | .bad => ([], some p)
def lexA (p : Nat) (l : List UInt8) : List Tok × Option Nat := lexF l.length p l
def lexT (s : List UInt8) : List Tok := if 8000 < s.length then [] else match (lexA 0 s).2 with | none => (lexA 0 s).1 | some _ => []
def lexP (s : List UInt8) : Nat := if 8000 < s.length then 0 else match (lexA 0 s).2 with | none => 0 | some p => p
def lexE (s : List UInt8) : Nat := if 8000 < s.length then 2 else match (lexA 0 s).2 with | none => 0 | some _ => 10
inductive Rs (α : Type) where
 | ok (a : α) (rest : List Tok)
 | err (rest : List Tok) (e : Nat)
def Rs.bind {α β : Type} : Rs α → (α → List Tok → Rs β) → Rs β
 | .ok a r, f => f a r
 | .err r e, _ => .err r e
def kw_voices : List UInt8 := [118, 111, 105, 99, 101, 115]
def kw_cadence : List UInt8 := [99, 97, 100, 101, 110, 99, 101]
def kw_note : List UInt8 := [110, 111, 116, 101]
def kw_tied : List UInt8 := [116, 105, 101, 100]
def kw_pair : List UInt8 := [112, 97, 105, 114]
def kw_voice : List UInt8 := [118, 111, 105, 99, 101]
def kw_from : List UInt8 := [102, 114, 111, 109]
def kw_to : List UInt8 := [116, 111]
def kw_at : List UInt8 := [97, 116]
def kw_by : List UInt8 := [98, 121]
def kw_within : List UInt8 := [119, 105, 116, 104, 105, 110]
def keyWords : List (List UInt8) := [kw_voices, kw_cadence, kw_note, kw_tied, kw_pair, kw_voice, kw_from, kw_to, kw_at, kw_by, kw_within]
def mSemi : List UInt8 := [59]
def mColon : List UInt8 := [58]
def mSlash : List UInt8 := [47]
def mMinus : List UInt8 := [45]
def mOpen : List UInt8 := [91]
def mClose : List UInt8 := [93]
def hasR (s : List UInt8) : List Tok → Option (List Tok)
 | [] => none
 | t :: r => if t.text = s then some r else none
def wantR (s : List UInt8) (ts : List Tok) : Rs Unit := match hasR s ts with | some r => .ok () r | none => .err ts 10
def wantsR : List (List UInt8) → List Tok → Rs Unit
 | [], ts => .ok () ts
 | s :: l, ts => (wantR s ts).bind fun _ r => wantsR l r
def numR : List Tok → Rs Nat
 | [] => .err [] 10
 | t :: r => if t.kind = 2 then .ok t.n r else .err (t :: r) 10
def wordR : List Tok → Rs (List UInt8)
 | [] => .err [] 10
 | t :: r => if t.kind = 1 ∧ t.text ∉ keyWords then .ok t.text r else .err (t :: r) 10
def idxR (names : List (List UInt8)) (s : List UInt8) : Option Nat := names.findIdx? (· == s)
def newR (names : List (List UInt8)) (ts : List Tok) : Rs (List UInt8) := (wordR ts).bind fun s r => match idxR names s with | some _ => .err ts 11 | none => .ok s r
def oldR (names : List (List UInt8)) (ts : List Tok) : Rs Nat := (wordR ts).bind fun s r => match idxR names s with | some i => .ok i r | none => .err ts 11
def Vc.put (v : Vc) (j : Nat) (x : Int) : Vc := ⟨if j = 0 then x else v.a, if j = 1 then x else v.b, if j = 2 then x else v.c, if j = 3 then x else v.d, if j = 4 then x else v.e, if j = 5 then x else v.f⟩
def vc0 : Vc := ⟨0, 0, 0, 0, 0, 0⟩
def Vc.neg (v : Vc) : Vc := ⟨-v.a, -v.b, -v.c, -v.d, -v.e, -v.f⟩
def strip (p : Nat) : Nat → Nat → Nat × Nat
 | 0, n => (n, 0)
 | f + 1, n => if n % p = 0 then ((strip p f (n / p)).1, (strip p f (n / p)).2 + 1) else (n, 0)
def primeAt : Nat → Nat
 | 0 => 2
 | 1 => 3
 | 2 => 5
 | 3 => 7
 | 4 => 11
 | _ => 13
def ratioK : Nat → Nat × Nat × Vc → Nat × Nat × Vc
 | i, (n, d, v) => ((strip (primeAt i) 64 n).1, (strip (primeAt i) 64 d).1, v.put i (((strip (primeAt i) 64 n).2 : Int) - (strip (primeAt i) 64 d).2))
def ratioN (n d : Nat) : Nat → Nat × Nat × Vc
 | 0 => (n, d, vc0)
 | k + 1 => ratioK k (ratioN n d k)
def ratioV (n d : Nat) : Option Vc := if n < 1 ∨ 1000000000 < n ∨ d < 1 ∨ 1000000000 < d then none else if (ratioN n d 6).1 = (ratioN n d 6).2.1 then some (ratioN n d 6).2.2 else none
def brkR : Nat → Vc → List Tok → Rs Vc
 | 0, v, ts => match hasR mClose ts with | some r => .ok v r | none => .err ts 10
 | m + 1, v, ts => match hasR mClose ts with
  | some r => .ok v r
  | none => match hasR mMinus ts with
   | some r => (numR r).bind fun n r' => brkR m (v.put (5 - m) (-(n : Int))) r'
   | none => (numR ts).bind fun n r' => brkR m (v.put (5 - m) (n : Int)) r'
def ivalR (ts : List Tok) : Rs Vc :=
 match hasR mOpen ts with
 | some r => brkR 6 vc0 r
 | none => (numR ts).bind fun n r => (wantR mSlash r).bind fun _ r => (numR r).bind fun d r => match ratioV n d with | some v => .ok v r | none => .err ts 9
structure Nte where
 voice : Int
 start : Int
 stop : Int
 place : Vc
 tied : Bool
deriving DecidableEq
structure Par where
 a : Int
 b : Int
 wish : Vc
 bound : Int
deriving DecidableEq
structure Scr where
 voices : Int
 notes : List Nte
 pairs : List Par
 cad : List Int
deriving DecidableEq
structure Drf where
 sc : Scr
 names : List (List UInt8)
def scr0 : Scr := ⟨0, [], [], []⟩
def Drf.note (d : Drf) (s : List UInt8) (n : Nte) : Drf := ⟨{ d.sc with notes := d.sc.notes ++ [n] }, d.names ++ [s]⟩
def Drf.pair (d : Drf) (p : Par) : Drf := ⟨{ d.sc with pairs := d.sc.pairs ++ [p] }, d.names⟩
def Drf.cad (d : Drf) (x : Int) : Drf := ⟨{ d.sc with cad := d.sc.cad ++ [x] }, d.names⟩
def atR (tied : Bool) (ts : List Tok) : Rs Vc := if tied then .ok vc0 ts else match hasR kw_at ts with | some r => ivalR r | none => .ok vc0 ts
def byR (ts : List Tok) : Rs Vc := match hasR kw_by ts with | some r => ivalR r | none => .ok vc0 ts
def withinR (ts : List Tok) : Rs Nat := match hasR kw_within ts with | some r => numR r | none => .ok 0 ts
def noteR (tied : Bool) (d : Drf) (ts : List Tok) : Rs Drf :=
 (newR d.names ts).bind fun s r => (wantsR [mColon, kw_voice] r).bind fun _ r => (numR r).bind fun v r => (wantsR [kw_from] r).bind fun _ r => (numR r).bind fun a r =>
 (wantsR [kw_to] r).bind fun _ r => (numR r).bind fun b r => (atR tied r).bind fun p r => (wantsR [mSemi] r).bind fun _ r => .ok (d.note s ⟨v, a, b, p, tied⟩) r
def pairR (d : Drf) (ts : List Tok) : Rs Drf :=
 (oldR d.names ts).bind fun a r => (oldR d.names r).bind fun b r => (byR r).bind fun v r => (withinR r).bind fun k r => (wantsR [mSemi] r).bind fun _ r => .ok (d.pair ⟨a, b, v, k⟩) r
def cadR (d : Drf) (ts : List Tok) : Rs Drf := (numR ts).bind fun n r => (wantsR [mSemi] r).bind fun _ r => .ok (d.cad n) r
def itemR (s : List UInt8) (d : Drf) (r : List Tok) : Option (Rs Drf) :=
 if s = kw_note then some (noteR false d r) else if s = kw_tied then some (noteR true d r) else if s = kw_pair then some (pairR d r) else if s = kw_cadence then some (cadR d r) else none
def itemsR : Nat → Drf → List Tok → Rs Drf
 | _, d, [] => .ok d []
 | 0, d, ts => .ok d ts
 | f + 1, d, t :: r => match itemR t.text d r with
  | some q => q.bind fun d r => itemsR f d r
  | none => .err (t :: r) 10
def readR (ts : List Tok) : Rs Drf :=
 (wantsR [kw_voices] ts).bind fun _ r => (numR r).bind fun v r => (wantsR [mSemi] r).bind fun _ r => itemsR r.length ⟨{ scr0 with voices := v }, []⟩ r
def insB {α : Type} (lt : α → α → Bool) (x : α) : List α → List α
 | [] => [x]
 | y :: l => if lt x y then x :: y :: l else y :: insB lt x l
def sortS {α : Type} (lt : α → α → Bool) (l : List α) : List α := l.foldl (fun acc x => insB lt x acc) []
def nte0 : Nte := ⟨0, 0, 0, vc0, false⟩
def nteLt (a b : Nte) : Bool := decide (a.start < b.start) || (decide (a.start = b.start) && decide (a.voice < b.voice))
def parLt (a b : Par) : Bool := decide (a.a < b.a) || (decide (a.a = b.a) && decide (a.b < b.b))
def orderS (l : List Nte) : List Nat := sortS (fun i k => nteLt (l.getD i nte0) (l.getD k nte0)) (List.range l.length)
def placeS (l : List Nte) (i : Nat) : Nat := (orderS l).idxOf i
def beforeS (l : List Nte) (n : Nte) : Option Nat := l.findIdx? fun m => decide (m.voice = n.voice) && decide (m.stop = n.start)
def tieS (l : List Nte) (k : Nat) : List Nte :=
 match l[k]? with
 | none => l
 | some n => if n.tied then (match beforeS l n with | some j => l.set k { n with place := (l.getD j nte0).place } | none => l) else l
def tiesS (l : List Nte) (k : Nat) : List Nte := (List.range k).foldl tieS l
def notesS (l : List Nte) : List Nte := tiesS ((orderS l).map fun i => l.getD i nte0) l.length
def turnS (place : Nat → Nat) (p : Par) : Par :=
 if place p.b.toNat < place p.a.toNat then ⟨place p.b.toNat, place p.a.toNat, p.wish.neg, p.bound⟩ else ⟨place p.a.toNat, place p.b.toNat, p.wish, p.bound⟩
def pairsS (l : List Nte) (ps : List Par) : List Par := sortS parLt (ps.map (turnS (placeS l)))
def cadS (l : List Int) : List Int := sortS (fun a b => decide (a < b)) l
def arrangeS (s : Scr) : Scr := ⟨s.voices, notesS s.notes, pairsS s.notes s.pairs, cadS s.cad⟩
def Vc.le (v : Vc) (m : Int) : Bool := decide (-m ≤ v.a) && decide (v.a ≤ m) && decide (-m ≤ v.b) && decide (v.b ≤ m) && decide (-m ≤ v.c) && decide (v.c ≤ m) && decide (-m ≤ v.d) && decide (v.d ≤ m) && decide (-m ≤ v.e) && decide (v.e ≤ m) && decide (-m ≤ v.f) && decide (v.f ≤ m)
def sizesV (s : Scr) : Bool := decide (1 ≤ s.voices) && decide (s.voices ≤ 8) && decide (s.notes.length ≤ 200) && decide (s.pairs.length ≤ 400) && decide (s.cad.length < 16)
def noteV (s : Scr) (n : Nte) : Bool := decide (0 ≤ n.voice) && decide (n.voice < s.voices) && decide (0 ≤ n.start) && decide (n.start < n.stop) && decide (n.stop ≤ 100000) && n.place.le 24
def risesV {α : Type} (lt : α → α → Bool) : List α → Bool
 | [] => true
 | [_] => true
 | x :: y :: l => lt x y && risesV lt (y :: l)
def notesV (s : Scr) : Bool := s.notes.all (noteV s) && risesV nteLt s.notes
def lastV (l : List Nte) (k : Nat) (v : Int) : Nte := ((l.take k).reverse.find? (fun n => decide (n.voice = v))).getD nte0
def voiceV (l : List Nte) (k : Nat) (n : Nte) : Bool :=
 let b := lastV l k n.voice
 !(decide (n.start < b.stop) || (n.tied && (!decide (b.stop = n.start) || decide (b.stop = 0) || !decide (b.place = n.place))))
def voicesV (s : Scr) : Bool := (List.range s.notes.length).all fun k => voiceV s.notes k (s.notes.getD k nte0)
def pairV (s : Scr) (p : Par) : Bool :=
 decide (0 ≤ p.a) && decide (p.a < p.b) && decide (p.b < s.notes.length) && p.wish.le 16 && decide (0 ≤ p.bound) && decide (p.bound ≤ 100000) &&
  !decide ((s.notes.getD p.a.toNat nte0).voice = (s.notes.getD p.b.toNat nte0).voice) && decide ((s.notes.getD p.b.toNat nte0).start < (s.notes.getD p.a.toNat nte0).stop)
def pairsV (s : Scr) : Bool := s.pairs.all (pairV s) && risesV parLt s.pairs
def cadV (s : Scr) : Bool := s.cad.all (fun c => decide (1 ≤ c) && decide (c < 100000)) && risesV (fun a b => decide (a < b)) s.cad
def validS (s : Scr) : Bool := sizesV s && notesV s && voicesV s && pairsV s && cadV s
def offR (e : Nat) : List Tok → Nat
 | [] => e
 | t :: _ => t.pos
def parseS (s : List UInt8) : Scr := if lexE s ≠ 0 then scr0 else match readR (lexT s) with | .err _ _ => scr0 | .ok d _ => if validS (arrangeS d.sc) then arrangeS d.sc else scr0
def parseP (s : List UInt8) : Nat := if lexE s ≠ 0 then lexP s else match readR (lexT s) with | .err r _ => offR s.length r | .ok d _ => if validS (arrangeS d.sc) then 0 else s.length
def parseE (s : List UInt8) : Nat := if lexE s ≠ 0 then lexE s else match readR (lexT s) with | .err _ e => e | .ok d _ => if validS (arrangeS d.sc) then 0 else 1
def powM : Nat → Nat → Nat → Nat
 | _, 0, n => n
 | p, k + 1, n => if n ≤ 9999999 then powM p k (n * p) else n
def prodS (v : Vc) : Nat := powM 13 v.f.toNat (powM 11 v.e.toNat (powM 7 v.d.toNat (powM 5 v.c.toNat (powM 3 v.b.toNat (powM 2 v.a.toNat 1)))))
def writtenS (v : Vc) : List UInt8 :=
 if prodS v ≤ 9999999 ∧ prodS v.neg ≤ 9999999 then itoa (prodS v) ++ 47 :: itoa (prodS v.neg)
 else 91 :: (itoa v.a ++ 32 :: itoa v.b ++ 32 :: itoa v.c ++ 32 :: itoa v.d ++ 32 :: itoa v.e ++ 32 :: itoa v.f) ++ [93]
def cadL (c : Int) : List UInt8 := [99, 97, 100, 101, 110, 99, 101, 32] ++ itoa c ++ [59, 10]
def noteL (i : Nat) (n : Nte) : List UInt8 :=
 (if n.tied then [116, 105, 101, 100, 32, 110] else [110, 111, 116, 101, 32, 110]) ++ itoa i ++ [58, 32, 118, 111, 105, 99, 101, 32] ++ itoa n.voice ++ [32, 102, 114, 111, 109, 32] ++ itoa n.start ++ [32, 116, 111, 32] ++ itoa n.stop ++
  (if !n.tied && !decide (n.place = vc0) then [32, 97, 116, 32] ++ writtenS n.place else []) ++ [59, 10]
def pairL (p : Par) : List UInt8 :=
 [112, 97, 105, 114, 32, 110] ++ itoa p.a ++ [32, 110] ++ itoa p.b ++ (if !decide (p.wish = vc0) then [32, 98, 121, 32] ++ writtenS p.wish else []) ++ (if 0 < p.bound then [32, 119, 105, 116, 104, 105, 110, 32] ++ itoa p.bound else []) ++ [59, 10]
def cadsL (l : List Int) : List UInt8 := l.flatMap cadL
def notesL (l : List Nte) : Nat → List UInt8
 | 0 => []
 | k + 1 => notesL l k ++ noteL k (l.getD k nte0)
def pairsL (l : List Par) : List UInt8 := l.flatMap pairL
def sourceL (s : Scr) : List UInt8 := [118, 111, 105, 99, 101, 115, 32] ++ itoa s.voices ++ [59, 10] ++ cadsL s.cad ++ notesL s.notes s.notes.length ++ pairsL s.pairs
def printS (s : Scr) : List UInt8 := if validS s then (if 8000 < (sourceL s).length then [] else sourceL s) else []
def printE (s : Scr) : Nat := if validS s then (if 8000 < (sourceL s).length then 2 else 0) else 1
end Go.Proofs.YtcjhihmaegagdaaGreatDoor
namespace Go.Proofs.YtcjhihmaegagdaaGreatDoor
open Go.Lib
def Rs.suf {α : Type} (ts : List Tok) : Rs α → Prop
 | .ok _ r => r <:+ ts
 | .err r _ => r <:+ ts
theorem Rs.suf_bind {α β : Type} {ts : List Tok} {q : Rs α} {f : α → List Tok → Rs β} (h : q.suf ts) (k : ∀ a r, (f a r).suf r) : (q.bind f).suf ts := by
 cases q with
 | ok a r =>
  have := k a r
  simp only [Rs.bind]
  cases hq : f a r with
  | ok b r2 => rw [hq] at this; exact List.IsSuffix.trans this h
  | err r2 e => rw [hq] at this; exact List.IsSuffix.trans this h
 | err r e => exact h
theorem Rs.suf_ok {α : Type} {ts : List Tok} (a : α) : (Rs.ok a ts).suf ts := List.suffix_refl ts
theorem Rs.suf_err {α : Type} {ts : List Tok} (k : Nat) : (Rs.err ts k : Rs α).suf ts := List.suffix_refl ts
theorem hasR_suf {s : List UInt8} {ts r : List Tok} (h : hasR s ts = some r) : r <:+ ts := by
 cases ts with
 | nil => cases h
 | cons t l =>
  simp only [hasR] at h
  split at h
  ·
   injection h with h; subst h; exact List.suffix_cons t l
  cases h
theorem wantR_suf (s : List UInt8) (ts : List Tok) : (wantR s ts).suf ts := by
 unfold wantR
 split
 case h_1 r h => exact hasR_suf h
 case h_2 => exact Rs.suf_err 10
theorem wantsR_suf (l : List (List UInt8)) (ts : List Tok) : (wantsR l ts).suf ts := by
 induction l generalizing ts with
 | nil => exact Rs.suf_ok ()
 | cons s l ih => exact Rs.suf_bind (wantR_suf s ts) fun _ r => ih r
theorem numR_suf (ts : List Tok) : (numR ts).suf ts := by
 cases ts with
 | nil => exact Rs.suf_err 10
 | cons t l =>
  simp only [numR]
  split
  ·
   exact List.suffix_cons t l
  exact Rs.suf_err 10
theorem wordR_suf (ts : List Tok) : (wordR ts).suf ts := by
 cases ts with
 | nil => exact Rs.suf_err 10
 | cons t l =>
  simp only [wordR]
  split
  ·
   exact List.suffix_cons t l
  exact Rs.suf_err 10
theorem newR_suf (ns : List (List UInt8)) (ts : List Tok) : (newR ns ts).suf ts := by
 unfold newR
 have := wordR_suf ts
 cases hq : wordR ts with
 | ok s r =>
  rw [hq] at this
  simp only [Rs.bind]
  split
  ·
   exact Rs.suf_err 11
  exact this
 | err r k => rw [hq] at this; exact this
theorem oldR_suf (ns : List (List UInt8)) (ts : List Tok) : (oldR ns ts).suf ts := by
 unfold oldR
 have := wordR_suf ts
 cases hq : wordR ts with
 | ok s r =>
  rw [hq] at this
  simp only [Rs.bind]
  split
  ·
   exact this
  exact Rs.suf_err 11
 | err r k => rw [hq] at this; exact this
theorem Rs.suf_up {α : Type} {ts us : List Tok} {q : Rs α} (h : q.suf us) (k : us <:+ ts) : q.suf ts := by
 cases q with
 | ok a r => exact List.IsSuffix.trans h k
 | err r e => exact List.IsSuffix.trans h k
theorem brkR_suf (m : Nat) (v : Vc) (ts : List Tok) : (brkR m v ts).suf ts := by
 induction m generalizing v ts with
 | zero =>
  unfold brkR
  split
  case h_1 r h => exact hasR_suf h
  case h_2 => exact Rs.suf_err 10
 | succ m ih =>
  unfold brkR
  split
  case h_1 r h => exact hasR_suf h
  case h_2 =>
   split
   case h_1 r h => exact Rs.suf_up (Rs.suf_bind (numR_suf r) fun _ _ => ih _ _) (hasR_suf h)
   case h_2 => exact Rs.suf_bind (numR_suf ts) fun _ _ => ih _ _
theorem ivalR_suf (ts : List Tok) : (ivalR ts).suf ts := by
 unfold ivalR
 split
 case h_1 r h => exact Rs.suf_up (brkR_suf 6 vc0 r) (hasR_suf h)
 case h_2 =>
  have h1 := numR_suf ts
  cases q1 : numR ts with
  | err r k => rw [q1] at h1; exact h1
  | ok n r =>
   rw [q1] at h1
   simp only [Rs.bind]
   have h2 := wantR_suf mSlash r
   cases q2 : wantR mSlash r with
   | err r k => rw [q2] at h2; exact List.IsSuffix.trans h2 h1
   | ok u r2 =>
    rw [q2] at h2
    simp only
    have h3 := numR_suf r2
    cases q3 : numR r2 with
    | err r k => rw [q3] at h3; exact List.IsSuffix.trans h3 (List.IsSuffix.trans h2 h1)
    | ok d r3 =>
     rw [q3] at h3
     simp only
     split
     ·
      exact List.IsSuffix.trans h3 (List.IsSuffix.trans h2 h1)
     exact List.suffix_refl ts
theorem atR_suf (t : Bool) (ts : List Tok) : (atR t ts).suf ts := by
 unfold atR
 split
 ·
  exact Rs.suf_ok _
 split
 case h_1 r h => exact Rs.suf_up (ivalR_suf r) (hasR_suf h)
 case h_2 => exact Rs.suf_ok _
theorem byR_suf (ts : List Tok) : (byR ts).suf ts := by
 unfold byR
 split
 case h_1 r h => exact Rs.suf_up (ivalR_suf r) (hasR_suf h)
 case h_2 => exact Rs.suf_ok _
theorem withinR_suf (ts : List Tok) : (withinR ts).suf ts := by
 unfold withinR
 split
 case h_1 r h => exact Rs.suf_up (numR_suf r) (hasR_suf h)
 case h_2 => exact Rs.suf_ok _
theorem noteR_suf (t : Bool) (d : Drf) (ts : List Tok) : (noteR t d ts).suf ts :=
 Rs.suf_bind (newR_suf _ _) fun _ _ => Rs.suf_bind (wantsR_suf _ _) fun _ _ => Rs.suf_bind (numR_suf _) fun _ _ => Rs.suf_bind (wantsR_suf _ _) fun _ _ => Rs.suf_bind (numR_suf _) fun _ _ =>
  Rs.suf_bind (wantsR_suf _ _) fun _ _ => Rs.suf_bind (numR_suf _) fun _ _ => Rs.suf_bind (atR_suf _ _) fun _ _ => Rs.suf_bind (wantsR_suf _ _) fun _ _ => Rs.suf_ok _
theorem pairR_suf (d : Drf) (ts : List Tok) : (pairR d ts).suf ts :=
 Rs.suf_bind (oldR_suf _ _) fun _ _ => Rs.suf_bind (oldR_suf _ _) fun _ _ => Rs.suf_bind (byR_suf _) fun _ _ => Rs.suf_bind (withinR_suf _) fun _ _ => Rs.suf_bind (wantsR_suf _ _) fun _ _ => Rs.suf_ok _
theorem cadR_suf (d : Drf) (ts : List Tok) : (cadR d ts).suf ts :=
 Rs.suf_bind (numR_suf _) fun _ _ => Rs.suf_bind (wantsR_suf _ _) fun _ _ => Rs.suf_ok _
theorem Rs.bind_ok {α β : Type} {q : Rs α} {f : α → List Tok → Rs β} {b : β} {r : List Tok} (h : q.bind f = .ok b r) : ∃ a r1, q = .ok a r1 ∧ f a r1 = .ok b r := by
 cases q with
 | ok a r1 => exact ⟨a, r1, rfl, h⟩
 | err r1 k => cases h
def Drf.cnt (d : Drf) : Nat := d.sc.notes.length + d.sc.pairs.length + d.sc.cad.length
theorem noteR_cnt {t : Bool} {d d2 : Drf} {ts r : List Tok} (h : noteR t d ts = .ok d2 r) : d2.cnt = d.cnt + 1 := by
 unfold noteR at h
 obtain ⟨_, _, _, h⟩ := Rs.bind_ok h
 obtain ⟨_, _, _, h⟩ := Rs.bind_ok h
 obtain ⟨_, _, _, h⟩ := Rs.bind_ok h
 obtain ⟨_, _, _, h⟩ := Rs.bind_ok h
 obtain ⟨_, _, _, h⟩ := Rs.bind_ok h
 obtain ⟨_, _, _, h⟩ := Rs.bind_ok h
 obtain ⟨_, _, _, h⟩ := Rs.bind_ok h
 obtain ⟨_, _, _, h⟩ := Rs.bind_ok h
 obtain ⟨_, _, _, h⟩ := Rs.bind_ok h
 injection h with h
 subst h
 simp only [Drf.cnt, Drf.note, List.length_append, List.length_singleton]
 omega
theorem pairR_cnt {d d2 : Drf} {ts r : List Tok} (h : pairR d ts = .ok d2 r) : d2.cnt = d.cnt + 1 := by
 unfold pairR at h
 obtain ⟨_, _, _, h⟩ := Rs.bind_ok h
 obtain ⟨_, _, _, h⟩ := Rs.bind_ok h
 obtain ⟨_, _, _, h⟩ := Rs.bind_ok h
 obtain ⟨_, _, _, h⟩ := Rs.bind_ok h
 obtain ⟨_, _, _, h⟩ := Rs.bind_ok h
 injection h with h
 subst h
 simp only [Drf.cnt, Drf.pair, List.length_append, List.length_singleton]
 omega
theorem cadR_cnt {d d2 : Drf} {ts r : List Tok} (h : cadR d ts = .ok d2 r) : d2.cnt = d.cnt + 1 := by
 unfold cadR at h
 obtain ⟨_, _, _, h⟩ := Rs.bind_ok h
 obtain ⟨_, _, _, h⟩ := Rs.bind_ok h
 injection h with h
 subst h
 simp only [Drf.cnt, Drf.cad, List.length_append, List.length_singleton]
 omega
theorem itemR_suf {s : List UInt8} {d : Drf} {r : List Tok} {q : Rs Drf} (h : itemR s d r = some q) : q.suf r := by
 unfold itemR at h
 split at h
 ·
  injection h with h; subst h; exact noteR_suf _ _ _
 split at h
 ·
  injection h with h; subst h; exact noteR_suf _ _ _
 split at h
 ·
  injection h with h; subst h; exact pairR_suf _ _
 split at h
 ·
  injection h with h; subst h; exact cadR_suf _ _
 cases h
theorem itemR_cnt {s : List UInt8} {d d2 : Drf} {r r2 : List Tok} (h : itemR s d r = some (.ok d2 r2)) : d2.cnt = d.cnt + 1 := by
 unfold itemR at h
 split at h
 ·
  injection h with h; exact noteR_cnt h
 split at h
 ·
  injection h with h; exact noteR_cnt h
 split at h
 ·
  injection h with h; exact pairR_cnt h
 split at h
 ·
  injection h with h; exact cadR_cnt h
 cases h
theorem itemsR_nil (f : Nat) (d : Drf) : itemsR f d [] = .ok d [] := by cases f <;> rfl
end Go.Proofs.YtcjhihmaegagdaaGreatDoor
namespace Go.Proofs.YtcjhihmaegagdaaGreatDoor
theorem snocInd {α : Type} {motive : List α → Prop} (nil : motive []) (snoc : ∀ l x, motive l → motive (l ++ [x])) (l : List α) : motive l := by
 rw [← List.reverse_reverse l]
 induction l.reverse with
 | nil => exact nil
 | cons x r ih => rw [List.reverse_cons]; exact snoc _ _ ih
structure Swo {α : Type} (lt : α → α → Bool) : Prop where
 irr : ∀ x, lt x x = false
 trans : ∀ x y z, lt x y = true → lt y z = true → lt x z = true
 neg : ∀ x y z, lt x y = false → lt y z = false → lt x z = false
section
variable {α : Type} {lt : α → α → Bool}
theorem Swo.left (h : Swo lt) {x y z : α} (h1 : lt x y = true) (h2 : lt z y = false) : lt x z = true := by
 rcases hx : lt x z with _ | _
 ·
  have := h.neg _ _ _ hx h2; rw [h1] at this; cases this
 rfl
theorem Swo.right (h : Swo lt) {x y z : α} (h1 : lt y x = true) (h2 : lt y z = false) : lt z x = true := by
 rcases hx : lt z x with _ | _
 ·
  have := h.neg _ _ _ h2 hx; rw [h1] at this; cases this
 rfl
theorem Swo.asymm (h : Swo lt) {x y : α} (h1 : lt x y = true) : lt y x = false := by
 rcases hx : lt y x with _ | _
 ·
  rfl
 have := h.trans _ _ _ h1 hx; rw [h.irr] at this; cases this
def Sorted (lt : α → α → Bool) (l : List α) : Prop := l.Pairwise fun x y => lt y x = false
def mergeS (lt : α → α → Bool) : List α → List α → List α
 | [], r => r
 | x :: l, [] => x :: l
 | x :: l, y :: r => if lt y x then y :: mergeS lt (x :: l) r else x :: mergeS lt l (y :: r)
termination_by l r => l.length + r.length
@[simp] theorem mergeS_nil_left (r : List α) : mergeS lt [] r = r := by rw [mergeS]
@[simp] theorem mergeS_nil_right (l : List α) : mergeS lt l [] = l := by cases l <;> rw [mergeS]
theorem mergeS_cons (x : α) (l : List α) (y : α) (r : List α) : mergeS lt (x :: l) (y :: r) = if lt y x then y :: mergeS lt (x :: l) r else x :: mergeS lt l (y :: r) := by rw [mergeS]
theorem insB_length (x : α) (l : List α) : (insB lt x l).length = l.length + 1 := by
 induction l with
 | nil => rfl
 | cons y l ih => unfold insB; split <;> simp [ih]
theorem insB_perm (x : α) (l : List α) : (insB lt x l).Perm (x :: l) := by
 induction l with
 | nil => exact List.Perm.refl _
 | cons y l ih =>
  unfold insB
  split
  ·
   exact List.Perm.refl _
  exact (List.Perm.cons y ih).trans (List.Perm.swap x y l)
theorem mergeS_one (l : List α) (y : α) : mergeS lt l [y] = insB lt y l := by
 induction l with
 | nil => simp [insB]
 | cons x l ih => rw [mergeS_cons]; unfold insB; split <;> simp [ih]
theorem insB_merge (hO : Swo lt) (y : α) (l r : List α) : insB lt y (mergeS lt l r) = mergeS lt l (insB lt y r) := by
 fun_induction mergeS lt l r with
 | case1 r => simp
 | case2 x l => rw [show insB lt y [] = [y] from rfl, mergeS_one]
 | case3 a A b B h ih =>
  rw [insB, insB]
  by_cases hy : lt y b = true
  ·
   rw [if_pos hy, if_pos hy, mergeS_cons, if_pos (hO.trans _ _ _ hy h), mergeS_cons, if_pos h]
  rw [if_neg hy, if_neg hy, mergeS_cons, if_pos h, ih]
 | case4 a A b B h ih =>
  have hba : lt b a = false := by simpa using h
  rw [insB]
  by_cases hy : lt y a = true
  ·
   have hyb : lt y b = true := hO.left hy hba
   rw [if_pos hy, insB, if_pos hyb, mergeS_cons, if_pos hy, mergeS_cons, if_neg h]
  rw [if_neg hy, ih]
  rw [insB]
  split
  ·
   rw [mergeS_cons, if_neg hy]
  rw [mergeS_cons, if_neg h]
theorem sortS_snoc (l : List α) (x : α) : sortS lt (l ++ [x]) = insB lt x (sortS lt l) := by simp [sortS, List.foldl_append]
theorem sortS_append (hO : Swo lt) (l r : List α) : sortS lt (l ++ r) = mergeS lt (sortS lt l) (sortS lt r) := by
 induction r using snocInd with
 | nil => simp [sortS]
 | snoc r x ih => rw [← List.append_assoc, sortS_snoc, ih, sortS_snoc, insB_merge hO]
theorem sortS_length (l : List α) : (sortS lt l).length = l.length := by
 induction l using snocInd with
 | nil => rfl
 | snoc l x ih => rw [sortS_snoc, insB_length, ih]; simp
theorem sortS_perm (l : List α) : (sortS lt l).Perm l := by
 induction l using snocInd with
 | nil => exact List.Perm.refl _
 | snoc l x ih => rw [sortS_snoc]; exact (insB_perm x _).trans ((List.Perm.cons x ih).trans (List.perm_append_singleton x l).symm)
theorem insB_sorted (hO : Swo lt) {x : α} {l : List α} (h : Sorted lt l) : Sorted lt (insB lt x l) := by
 induction l with
 | nil => exact List.pairwise_singleton _ _
 | cons y l ih =>
  have h' := List.pairwise_cons.1 h
  unfold insB
  split
  case isTrue hx =>
   refine List.pairwise_cons.2 ⟨fun z hz => ?_, h⟩
   rcases List.mem_cons.1 hz with rfl | hz
   ·
    exact hO.asymm hx
   exact hO.asymm (hO.left hx (h'.1 z hz))
  case isFalse hx =>
   refine List.pairwise_cons.2 ⟨fun z hz => ?_, ih h'.2⟩
   rcases List.mem_cons.1 ((insB_perm x l).mem_iff.1 hz) with rfl | hz
   ·
    simpa using hx
   exact h'.1 z hz
theorem sortS_sorted (hO : Swo lt) (l : List α) : Sorted lt (sortS lt l) := by
 induction l using snocInd with
 | nil => exact List.Pairwise.nil
 | snoc l x ih => rw [sortS_snoc]; exact insB_sorted hO ih
theorem insB_split (hO : Swo lt) (x : α) (l r : List α) (hl : ∀ y ∈ l, lt x y = false) (hr : ∀ y, r.head? = some y → lt x y = true) : insB lt x (l ++ r) = l ++ x :: r := by
 have _ := hO
 induction l with
 | nil =>
  cases r with
  | nil => rfl
  | cons y r => rw [List.nil_append, insB, if_pos (hr y rfl)]; rfl
 | cons y l ih =>
  rw [List.cons_append, insB, if_neg (by rw [hl y (List.mem_cons_self ..)]; decide), ih (fun z hz => hl z (List.mem_cons_of_mem _ hz))]
  rfl
theorem mergeS_split (l1 l2 r1 r2 : List α) (h1 : ∀ x ∈ l2, ∀ y ∈ r1, lt y x = true) (h2 : ∀ x ∈ l1, ∀ y ∈ r2, lt y x = false) : mergeS lt (l1 ++ l2) (r1 ++ r2) = mergeS lt l1 r1 ++ mergeS lt l2 r2 := by
 induction hn : l1.length + r1.length generalizing l1 r1 with
 | zero =>
  obtain rfl := List.eq_nil_of_length_eq_zero (show l1.length = 0 by omega)
  obtain rfl := List.eq_nil_of_length_eq_zero (show r1.length = 0 by omega)
  simp
 | succ n ih =>
  cases l1 with
  | nil =>
   cases r1 with
   | nil => simp at hn
   | cons y r1 =>
    have e := ih [] r1 (fun x hx z hz => h1 x hx z (List.mem_cons_of_mem _ hz)) (fun x hx => by simp at hx) (by simp at hn ⊢; omega)
    simp only [List.nil_append, mergeS_nil_left] at e ⊢
    cases l2 with
    | nil => simp
    | cons x l2 => rw [List.cons_append, mergeS_cons, if_pos (h1 x (List.mem_cons_self ..) y (List.mem_cons_self ..)), e]; rfl
  | cons x l1 =>
   cases r1 with
   | nil =>
    have e := ih l1 [] (fun x hx z hz => by simp at hz) (fun z hz => h2 z (List.mem_cons_of_mem _ hz)) (by simp at hn ⊢; omega)
    simp only [List.nil_append, mergeS_nil_right] at e ⊢
    cases r2 with
    | nil => simp
    | cons y r2 => rw [List.cons_append, mergeS_cons, if_neg (by rw [h2 x (List.mem_cons_self ..) y (List.mem_cons_self ..)]; decide), e]; rfl
   | cons y r1 =>
    rw [List.cons_append, List.cons_append, mergeS_cons, mergeS_cons]
    split
    ·
     have e := ih (x :: l1) r1 (fun x hx z hz => h1 x hx z (List.mem_cons_of_mem _ hz)) h2 (by simp at hn ⊢; omega)
     rw [← List.cons_append, e]; rfl
    have e := ih l1 (y :: r1) h1 (fun z hz => h2 z (List.mem_cons_of_mem _ hz)) (by simp at hn ⊢; omega)
    rw [← List.cons_append, e]; rfl
theorem mergeS_left_one (x : α) (l r : List α) (hl : ∀ y ∈ l, lt y x = true) (hr : ∀ y, r.head? = some y → lt y x = false) : mergeS lt [x] (l ++ r) = l ++ x :: r := by
 induction l with
 | nil =>
  cases r with
  | nil => simp
  | cons y r => rw [List.nil_append, mergeS_cons, if_neg (by rw [hr y rfl]; decide)]; simp
 | cons y l ih =>
  rw [List.cons_append, mergeS_cons, if_pos (hl y (List.mem_cons_self ..)), ih (fun z hz => hl z (List.mem_cons_of_mem _ hz))]
  rfl
end
def seg {α : Type} (f : Nat → α) (a b : Nat) : List α := (List.range' a (b - a)).map f
section
variable {α : Type} {lt : α → α → Bool} {f g : Nat → α}
theorem seg_length (f : Nat → α) (a b : Nat) : (seg f a b).length = b - a := by simp [seg]
theorem seg_at (f : Nat → α) (a b i : Nat) (h : i < b - a) : (seg f a b)[i]? = some (f (a + i)) := by simp [seg, List.getElem?_range', h]
theorem seg_nil (f : Nat → α) (a b : Nat) (h : b ≤ a) : seg f a b = [] := by simp [seg, Nat.sub_eq_zero_of_le h]
theorem seg_append (f : Nat → α) (a m b : Nat) (h1 : a ≤ m) (h2 : m ≤ b) : seg f a m ++ seg f m b = seg f a b := by
 unfold seg
 rw [← List.map_append, show List.range' m (b - m) = List.range' (a + 1 * (m - a)) (b - m) by rw [Nat.one_mul, show a + (m - a) = m by omega], List.range'_append, show m - a + (b - m) = b - a by omega]
theorem seg_succ (f : Nat → α) (a b : Nat) (h : a ≤ b) : seg f a (b + 1) = seg f a b ++ [f b] := by
 rw [← seg_append f a b (b + 1) h (by omega)]
 congr 1
 simp [seg]
theorem seg_cons (f : Nat → α) (a b : Nat) (h : a < b) : seg f a b = f a :: seg f (a + 1) b := by
 rw [← seg_append f a (a + 1) b (by omega) (by omega)]
 simp [seg]
theorem seg_congr (a b : Nat) (h : ∀ t, a ≤ t → t < b → f t = g t) : seg f a b = seg g a b := by
 unfold seg
 refine List.map_congr_left fun t ht => ?_
 have := List.mem_range'_1.1 ht
 exact h t this.1 (by omega)
theorem seg_shift (a b c d : Nat) (hd : b - a = d - c) (h : ∀ t, t < b - a → f (a + t) = g (c + t)) : seg f a b = seg g c d := by
 refine List.ext_getElem? fun i => ?_
 by_cases hi : i < b - a
 ·
  rw [seg_at f a b i hi, seg_at g c d i (by omega), h i hi]
 rw [List.getElem?_eq_none (by rw [seg_length]; omega), List.getElem?_eq_none (by rw [seg_length]; omega)]
theorem seg_mem {a b : Nat} {x : α} : x ∈ seg f a b ↔ ∃ t, a ≤ t ∧ t < b ∧ f t = x := by
 unfold seg
 rw [List.mem_map]
 constructor
 ·
  rintro ⟨t, ht, e⟩; have := List.mem_range'_1.1 ht; exact ⟨t, this.1, by omega, e⟩
 rintro ⟨t, h1, h2, e⟩; exact ⟨t, List.mem_range'_1.2 ⟨h1, by omega⟩, e⟩
theorem seg_sorted {a b : Nat} : Sorted lt (seg f a b) ↔ ∀ i j, a ≤ i → i < j → j < b → lt (f j) (f i) = false := by
 unfold Sorted seg
 rw [List.pairwise_map, List.pairwise_iff_getElem]
 constructor
 ·
  intro h i j h1 h2 h3
  have := h (i - a) (j - a) (by simp; omega) (by simp; omega) (by omega)
  simpa [List.getElem_range', show a + (i - a) = i by omega, show a + (j - a) = j by omega] using this
 intro h i j hi hj hij
 simp at hi hj
 simpa [List.getElem_range'] using h (a + i) (a + j) (by omega) (by omega) (by omega)
theorem seg_eq {a b : Nat} {l : List α} (hl : l.length = b - a) (h : ∀ t, t < b - a → l[t]? = some (f (a + t))) : seg f a b = l := by
 refine List.ext_getElem? fun i => ?_
 by_cases hi : i < b - a
 ·
  rw [seg_at f a b i hi, h i hi]
 rw [List.getElem?_eq_none (by rw [seg_length]; omega), List.getElem?_eq_none (by omega)]
end
def swapF {α : Type} (f : Nat → α) (i j t : Nat) : α := if t = i then f j else if t = j then f i else f t
def swapR {α : Type} (f : Nat → α) (a b n t : Nat) : α := if a ≤ t ∧ t < a + n then f (t - a + b) else if b ≤ t ∧ t < b + n then f (t - b + a) else f t
def rotF {α : Type} (f : Nat → α) (a m b t : Nat) : α := if a ≤ t ∧ t < a + (b - m) then f (t - a + m) else if a + (b - m) ≤ t ∧ t < b then f (t - (b - m)) else f t
section
variable {α : Type} {lt : α → α → Bool} {f g : Nat → α}
theorem swapR_zero (a b : Nat) : swapR f a b 0 = f := by
 funext t
 unfold swapR
 rw [if_neg (by omega), if_neg (by omega)]
theorem swapR_succ (a b n : Nat) (h : a + n < b) : swapF (swapR f a b n) (a + n) (b + n) = swapR f a b (n + 1) := by
 funext t
 unfold swapF swapR
 repeat' split
 all_goals first | rfl | (exfalso; omega) | (congr 1; omega)
theorem rot_gt (m i j : Nat) (hi : i ≤ m) (hij : j < i) (_hj : 0 < j) : rotF (swapR f (m - i) m j) (m - (i - j)) m (m + j) = rotF f (m - i) m (m + j) := by
 funext t
 unfold rotF swapR
 repeat' split
 all_goals first | rfl | (exfalso; omega) | (congr 1; omega)
theorem rot_lt (m i j : Nat) (hi : i ≤ m) (hij : i < j) (_hp : 0 < i) : rotF (swapR f (m - i) (m + j - i) i) (m - i) m (m + (j - i)) = rotF f (m - i) m (m + j) := by
 funext t
 unfold rotF swapR
 repeat' split
 all_goals first | rfl | (exfalso; omega) | (congr 1; omega)
theorem rot_eq (m i : Nat) (hi : i ≤ m) : swapR f (m - i) m i = rotF f (m - i) m (m + i) := by
 funext t
 unfold rotF swapR
 repeat' split
 all_goals first | rfl | (exfalso; omega) | (congr 1; omega)
theorem rot_up (a k : Nat) (h : a ≤ k) : swapF (rotF f a (a + 1) (k + 1)) k (k + 1) = rotF f a (a + 1) (k + 2) := by
 funext t
 simp only [swapF, rotF]
 repeat' split
 all_goals first | rfl | (exfalso; omega) | (congr 1; omega)
theorem rot_up0 (a : Nat) : rotF f a (a + 1) (a + 1) = f := by
 funext t
 unfold rotF
 repeat' split
 all_goals first | rfl | (exfalso; omega) | (congr 1; omega)
theorem rot_down (m k : Nat) (h : k ≤ m) (h0 : 0 < k) : swapF (rotF f k m (m + 1)) k (k - 1) = rotF f (k - 1) m (m + 1) := by
 funext t
 simp only [swapF, rotF]
 repeat' split
 all_goals first | rfl | (exfalso; omega) | (congr 1; omega)
theorem rot_down0 (m : Nat) : rotF f m m (m + 1) = f := by
 funext t
 unfold rotF
 repeat' split
 all_goals first | rfl | (exfalso; omega) | (congr 1; omega)
theorem rot_out {a m b t : Nat} (h : t < a ∨ b ≤ t) (h1 : a ≤ m) (h2 : m ≤ b) : rotF f a m b t = f t := by
 unfold rotF
 rw [if_neg (by omega), if_neg (by omega)]
theorem rot_left {a m b : Nat} (h1 : a ≤ m) (h2 : m ≤ b) : seg (rotF f a m b) a (a + (b - m)) = seg f m b := by
 refine seg_shift _ _ _ _ (by omega) fun t ht => ?_
 unfold rotF
 rw [if_pos (by omega)]
 congr 1; omega
theorem rot_right {a m b : Nat} (h1 : a ≤ m) (h2 : m ≤ b) : seg (rotF f a m b) (a + (b - m)) b = seg f a m := by
 refine seg_shift _ _ _ _ (by omega) fun t ht => ?_
 unfold rotF
 rw [if_neg (by omega), if_pos (by omega)]
 congr 1; omega
end
end Go.Proofs.YtcjhihmaegagdaaGreatDoor
namespace Go.Proofs.YtcjhihmaegagdaaGreatDoor
section
variable {α : Type} {lt : α → α → Bool} {f g : Nat → α}
structure Put (f g : Nat → α) (a b : Nat) (l : List α) : Prop where
 out : ∀ t, t < a ∨ b ≤ t → g t = f t
 seg : seg g a b = l
theorem seg_out {a b : Nat} {l : List α} (h : Put f g a b l) (c d : Nat) (hd : d ≤ a ∨ b ≤ c) : Proofs.YtcjhihmaegagdaaGreatDoor.seg g c d = Proofs.YtcjhihmaegagdaaGreatDoor.seg f c d := seg_congr _ _ fun t h1 h2 => h.out t (by omega)
theorem Put.refl {a b : Nat} {l : List α} (h : Proofs.YtcjhihmaegagdaaGreatDoor.seg f a b = l) : Put f f a b l := ⟨fun _ _ => rfl, h⟩
theorem rot_put {a m b : Nat} (h1 : a ≤ m) (h2 : m ≤ b) : Put f (rotF f a m b) a b (Proofs.YtcjhihmaegagdaaGreatDoor.seg f m b ++ Proofs.YtcjhihmaegagdaaGreatDoor.seg f a m) :=
 ⟨fun t ht => rot_out ht h1 h2, by rw [← seg_append _ a (a + (b - m)) b (by omega) (by omega), rot_left h1 h2, rot_right h1 h2]⟩
theorem sym_left (a b i : Nat) (h1 : a + 1 ≤ i) (h2 : i ≤ b) (hl : ∀ t, a + 1 ≤ t → t < i → lt (f t) (f a) = true) (hr : i < b → lt (f i) (f a) = false) :
  Put f (rotF f a (a + 1) i) a b (mergeS lt (Proofs.YtcjhihmaegagdaaGreatDoor.seg f a (a + 1)) (Proofs.YtcjhihmaegagdaaGreatDoor.seg f (a + 1) b)) := by
 have r := rot_put (f := f) (show a ≤ a + 1 by omega) h1
 refine ⟨fun t ht => r.out t (by omega), ?_⟩
 rw [← seg_append _ a i b (by omega) h2, r.seg, seg_out r i b (Or.inr (Nat.le_refl _)), ← seg_append f (a + 1) i b h1 h2, seg_cons f a (a + 1) (by omega), seg_nil f (a + 1) (a + 1) (by omega), mergeS_left_one]
 ·
  simp
 ·
  intro y hy
  obtain ⟨t, h3, h4, rfl⟩ := seg_mem.1 hy
  exact hl t h3 h4
 intro y hy
 by_cases hi : i < b
 ·
  rw [seg_cons f i b hi] at hy
  simp only [List.head?_cons, Option.some.injEq] at hy
  subst hy
  exact hr hi
 rw [seg_nil f i b (by omega)] at hy
 simp at hy
theorem sym_right (hO : Swo lt) (a m i : Nat) (h1 : a ≤ i) (h2 : i ≤ m) (hl : ∀ t, a ≤ t → t < i → lt (f m) (f t) = false) (hr : i < m → lt (f m) (f i) = true) :
  Put f (rotF f i m (m + 1)) a (m + 1) (mergeS lt (Proofs.YtcjhihmaegagdaaGreatDoor.seg f a m) (Proofs.YtcjhihmaegagdaaGreatDoor.seg f m (m + 1))) := by
 have r := rot_put (f := f) h2 (show m ≤ m + 1 by omega)
 refine ⟨fun t ht => r.out t (by omega), ?_⟩
 rw [← seg_append _ a i (m + 1) h1 (by omega), r.seg, seg_out r a i (Or.inl (Nat.le_refl _)), seg_cons f m (m + 1) (by omega), seg_nil f (m + 1) (m + 1) (by omega), mergeS_one, ← seg_append f a i m h1 h2, insB_split hO]
 ·
  simp
 ·
  intro y hy
  obtain ⟨t, h3, h4, rfl⟩ := seg_mem.1 hy
  exact hl t h3 h4
 intro y hy
 by_cases hi : i < m
 ·
  rw [seg_cons f i m hi] at hy
  simp only [List.head?_cons, Option.some.injEq] at hy
  subst hy
  exact hr hi
 rw [seg_nil f i m (by omega)] at hy
 simp at hy
theorem srt {a b i j : Nat} (h : Sorted lt (Proofs.YtcjhihmaegagdaaGreatDoor.seg f a b)) (hO : Swo lt) (h1 : a ≤ i) (h2 : i ≤ j) (h3 : j < b) : lt (f j) (f i) = false := by
 by_cases hij : i = j
 ·
  subst hij; exact hO.irr _
 exact seg_sorted.1 h i j h1 (by omega) h3
theorem sym_part (hO : Swo lt) (a m b s s0 r0 mid : Nat) (ha : a ≤ m) (hb : m ≤ b) (hs : s0 ≤ s) (hr : s ≤ r0)
  (hm : (mid < m ∧ s0 + b = mid + m ∧ r0 = mid ∧ b ≤ mid + m) ∨ (m ≤ mid ∧ s0 = a ∧ r0 = m)) (hmid : a ≤ mid ∧ mid ≤ b ∧ mid + m ≤ a + b + s0 - a + 0 + (b - b) ∨ True) (hm2 : a ≤ mid ∧ 2 * mid ≤ a + b ∧ a + b ≤ 2 * mid + 1)
  (h1 : Sorted lt (Proofs.YtcjhihmaegagdaaGreatDoor.seg f a m)) (h2 : Sorted lt (Proofs.YtcjhihmaegagdaaGreatDoor.seg f m b))
  (hA : ∀ c, s0 ≤ c → c < s → lt (f (mid + m - 1 - c)) (f c) = false) (hB : ∀ c, s ≤ c → c < r0 → lt (f (mid + m - 1 - c)) (f c) = true) :
  mergeS lt (Proofs.YtcjhihmaegagdaaGreatDoor.seg f a m) (Proofs.YtcjhihmaegagdaaGreatDoor.seg f m b) = mergeS lt (Proofs.YtcjhihmaegagdaaGreatDoor.seg f a s) (Proofs.YtcjhihmaegagdaaGreatDoor.seg f m (mid + m - s)) ++ mergeS lt (Proofs.YtcjhihmaegagdaaGreatDoor.seg f s m) (Proofs.YtcjhihmaegagdaaGreatDoor.seg f (mid + m - s) b) ∧ a ≤ s ∧ s ≤ m ∧ m ≤ mid + m - s ∧ mid + m - s ≤ b := by
 have _ := hmid
 have k1 : a ≤ s := by rcases hm with ⟨p1, p2, p3, p4⟩ | ⟨p1, p2, p3⟩ <;> omega
 have k2 : s ≤ m := by rcases hm with ⟨p1, p2, p3, p4⟩ | ⟨p1, p2, p3⟩ <;> omega
 have k3 : s ≤ mid := by rcases hm with ⟨p1, p2, p3, p4⟩ | ⟨p1, p2, p3⟩ <;> omega
 have k4 : mid + m - s ≤ b := by rcases hm with ⟨p1, p2, p3, p4⟩ | ⟨p1, p2, p3⟩ <;> omega
 refine ⟨?_, k1, k2, by omega, k4⟩
 rw [← seg_append f a s m k1 k2, ← seg_append f m (mid + m - s) b (by omega) k4]
 refine mergeS_split _ _ _ _ ?_ ?_
 ·
  intro x hx y hy
  obtain ⟨i, i1, i2, rfl⟩ := seg_mem.1 hx
  obtain ⟨j, j1, j2, rfl⟩ := seg_mem.1 hy
  have q : s < r0 := by rcases hm with ⟨p1, p2, p3, p4⟩ | ⟨p1, p2, p3⟩ <;> omega
  have e1 := hB s (Nat.le_refl _) q
  have e2 : lt (f (mid + m - 1 - s)) (f j) = false := srt h2 hO j1 (by omega) (by omega)
  have e3 : lt (f i) (f s) = false := srt h1 hO k1 i1 i2
  exact hO.left (hO.right e1 e2) e3
 intro x hx y hy
 obtain ⟨i, i1, i2, rfl⟩ := seg_mem.1 hx
 obtain ⟨j, j1, j2, rfl⟩ := seg_mem.1 hy
 have q : s0 < s := by rcases hm with ⟨p1, p2, p3, p4⟩ | ⟨p1, p2, p3⟩ <;> omega
 have e1 := hA (s - 1) (by omega) (by omega)
 have e2 : lt (f j) (f (mid + m - 1 - (s - 1))) = false := srt h2 hO (by omega) (by omega) j2
 have e3 : lt (f (s - 1)) (f i) = false := srt h1 hO i1 (by omega) (by omega)
 exact hO.neg _ _ _ e2 (hO.neg _ _ _ e1 e3)
theorem rot_same {a m b : Nat} (h : a = m ∨ b = m) (h1 : a ≤ m) (h2 : m ≤ b) : rotF f a m b = f := by
 funext t
 unfold rotF
 repeat' split
 all_goals first | rfl | (exfalso; omega) | (congr 1; omega)
theorem sym_whole (hO : Swo lt) {g1 g2 : Nat → α} (a m b s e mid : Nat) (k1 : a ≤ s) (k2 : s ≤ m) (k3 : m ≤ e) (k4 : e ≤ b) (k5 : s + (e - m) = mid)
  (hp : mergeS lt (Proofs.YtcjhihmaegagdaaGreatDoor.seg f a m) (Proofs.YtcjhihmaegagdaaGreatDoor.seg f m b) = mergeS lt (Proofs.YtcjhihmaegagdaaGreatDoor.seg f a s) (Proofs.YtcjhihmaegagdaaGreatDoor.seg f m e) ++ mergeS lt (Proofs.YtcjhihmaegagdaaGreatDoor.seg f s m) (Proofs.YtcjhihmaegagdaaGreatDoor.seg f e b))
  (h1 : Put (rotF f s m e) g1 a mid (mergeS lt (Proofs.YtcjhihmaegagdaaGreatDoor.seg (rotF f s m e) a s) (Proofs.YtcjhihmaegagdaaGreatDoor.seg (rotF f s m e) s mid)))
  (h2 : Put g1 g2 mid b (mergeS lt (Proofs.YtcjhihmaegagdaaGreatDoor.seg g1 mid e) (Proofs.YtcjhihmaegagdaaGreatDoor.seg g1 e b))) :
  Put f g2 a b (mergeS lt (Proofs.YtcjhihmaegagdaaGreatDoor.seg f a m) (Proofs.YtcjhihmaegagdaaGreatDoor.seg f m b)) := by
 have _ := hO
 have r := rot_put (f := f) k2 k3
 refine ⟨fun t ht => ?_, ?_⟩
 ·
  rw [h2.out t (by omega), h1.out t (by omega), r.out t (by omega)]
 rw [hp, ← seg_append g2 a mid b (by omega) (by omega), seg_out h2 a mid (Or.inl (Nat.le_refl _)), h1.seg, h2.seg, seg_out h1 mid e (Or.inr (Nat.le_refl _)), seg_out h1 e b (Or.inr (by omega))]
 rw [seg_out r a s (Or.inl (Nat.le_refl _)), seg_out r e b (Or.inr (Nat.le_refl _))]
 have e1 := rot_left (f := f) k2 k3
 have e2 := rot_right (f := f) k2 k3
 rw [k5] at e1 e2
 rw [e1, e2]
end
end Go.Proofs.YtcjhihmaegagdaaGreatDoor
namespace Go.Proofs.YtcjhihmaegagdaaGreatDoor
section
variable {α : Type} {lt : α → α → Bool} {f g f0 : Nat → α}
theorem s1_lo (hO : Swo lt) {a m b h : Nat} (hs : Sorted lt (seg f m b)) (h2 : h < b) (e : lt (f h) (f a) = true) : ∀ t, m ≤ t → t < h + 1 → lt (f t) (f a) = true :=
 fun _ h3 h4 => hO.right e (srt hs hO h3 (by omega) h2)
theorem s1_hi (hO : Swo lt) {a m b h : Nat} (hs : Sorted lt (seg f m b)) (h1 : m ≤ h) (e : lt (f h) (f a) = false) : ∀ t, h ≤ t → t < b → lt (f t) (f a) = false :=
 fun _ h3 h4 => hO.neg _ _ _ (srt hs hO h1 h3 h4) e
theorem s2_lo (hO : Swo lt) {a m h : Nat} (hs : Sorted lt (seg f a m)) (h2 : h < m) (e : lt (f m) (f h) = false) : ∀ t, a ≤ t → t < h + 1 → lt (f m) (f t) = false :=
 fun _ h3 h4 => hO.neg _ _ _ e (srt hs hO h3 (by omega) h2)
theorem s3_lo (hO : Swo lt) {a m b mid s0 r0 c : Nat} (hs1 : Sorted lt (seg f a m)) (hs2 : Sorted lt (seg f m b)) (hm : (mid < m ∧ s0 + b = mid + m ∧ r0 = mid ∧ b ≤ mid + m) ∨ (m ≤ mid ∧ s0 = a ∧ r0 = m)) (hm2 : a ≤ mid ∧ 2 * mid ≤ a + b ∧ a + b ≤ 2 * mid + 1) (ha : a ≤ m)
  (hc : c < r0) (e : lt (f (mid + m - 1 - c)) (f c) = false) : ∀ t, s0 ≤ t → t < c + 1 → lt (f (mid + m - 1 - t)) (f t) = false := by
 intro t h3 h4
 refine hO.neg _ _ _ (srt hs2 hO (i := mid + m - 1 - c) ?_ ?_ ?_) (hO.neg _ _ _ e (srt hs1 hO (i := t) ?_ ?_ ?_))
 all_goals rcases hm with ⟨p1, p2, p3, p4⟩ | ⟨p1, p2, p3⟩ <;> omega
theorem s3_hi (hO : Swo lt) {a m b mid s0 r0 c : Nat} (hs1 : Sorted lt (seg f a m)) (hs2 : Sorted lt (seg f m b)) (hm : (mid < m ∧ s0 + b = mid + m ∧ r0 = mid ∧ b ≤ mid + m) ∨ (m ≤ mid ∧ s0 = a ∧ r0 = m)) (hm2 : a ≤ mid ∧ 2 * mid ≤ a + b ∧ a + b ≤ 2 * mid + 1) (ha : a ≤ m)
  (hc0 : s0 ≤ c) (e : lt (f (mid + m - 1 - c)) (f c) = true) : ∀ t, c ≤ t → t < r0 → lt (f (mid + m - 1 - t)) (f t) = true := by
 intro t h3 h4
 refine hO.left (hO.right e (srt hs2 hO (i := mid + m - 1 - t) ?_ ?_ ?_)) (srt hs1 hO (i := c) ?_ ?_ ?_)
 all_goals rcases hm with ⟨p1, p2, p3, p4⟩ | ⟨p1, p2, p3⟩ <;> omega
theorem sub_sorted {a b c d : Nat} (h : Sorted lt (seg f a b)) (h1 : a ≤ c) (h2 : d ≤ b) : Sorted lt (seg f c d) :=
 seg_sorted.2 fun i j h3 h4 h5 => seg_sorted.1 h i j (by omega) h4 (by omega)
theorem skip_put {a i b : Nat} (h1 : a ≤ i) (h2 : i ≤ b) (h : ¬ (a < i ∧ i < b)) : Put g g a b (mergeS lt (seg g a i) (seg g i b)) := by
 refine Put.refl ?_
 by_cases e : a = i
 ·
  subst e
  rw [seg_nil g a a (Nat.le_refl _), mergeS_nil_left]
 obtain rfl : i = b := by omega
 rw [seg_nil g i i (Nat.le_refl _), mergeS_nil_right]
def SB (lt : α → α → Bool) (f0 f : Nat → α) (x y : Nat) : Prop := seg f x y = sortS lt (seg f0 x y)
theorem SB.sorted (hO : Swo lt) {x y : Nat} (h : SB lt f0 f x y) : Sorted lt (seg f x y) := by rw [h]; exact sortS_sorted hO _
theorem SB.congr {x y : Nat} (h : SB lt f0 f x y) (hg : ∀ t, x ≤ t → t < y → g t = f t) : SB lt f0 g x y := by
 unfold SB at *
 rw [← h]
 exact seg_congr _ _ fun t h1 h2 => hg t h1 h2
theorem SB.merge (hO : Swo lt) {x m y : Nat} (h1 : x ≤ m) (h2 : m ≤ y) (p : SB lt f0 f x m) (q : SB lt f0 f m y) (h : Put f g x y (mergeS lt (seg f x m) (seg f m y))) : SB lt f0 g x y := by
 unfold SB at *
 rw [h.seg, p, q, ← seg_append f0 x m y h1 h2, sortS_append hO]
structure AllB (lt : α → α → Bool) (f0 f : Nat → α) (s n : Nat) : Prop where
 sb : ∀ q, q * s < n → SB lt f0 f (q * s) (min (q * s + s) n)
 out : ∀ t, n ≤ t → f t = f0 t
structure MixB (lt : α → α → Bool) (f0 f : Nat → α) (s k n : Nat) : Prop where
 big : ∀ q, q < k → SB lt f0 f (q * (2 * s)) (q * (2 * s) + 2 * s)
 small : ∀ q, 2 * k ≤ q → q * s < n → SB lt f0 f (q * s) (min (q * s + s) n)
 out : ∀ t, n ≤ t → f t = f0 t
structure InsB (lt : α → α → Bool) (f0 f : Nat → α) (s k : Nat) : Prop where
 sb : ∀ q, q < k → SB lt f0 f (q * s) (q * s + s)
 out : ∀ t, k * s ≤ t → f t = f0 t
theorem two_mul_mul (k s : Nat) : (2 * k) * s = k * (2 * s) := by rw [Nat.mul_comm 2 k, Nat.mul_assoc]
theorem two_mul_mul1 (k s : Nat) : (2 * k + 1) * s = k * (2 * s) + s := by rw [Nat.succ_mul, two_mul_mul]
theorem mul_far {q k s : Nat} (h : q < k) : q * s + s ≤ k * s := by rw [← Nat.succ_mul]; exact Nat.mul_le_mul_right _ h
theorem InsB.zero (s : Nat) : InsB lt f0 f0 s 0 := ⟨fun q h => absurd h (Nat.not_lt_zero _), fun _ _ => rfl⟩
theorem InsB.step {s k : Nat} (h : InsB lt f0 f s k) (hp : Put f g (k * s) (k * s + s) (sortS lt (seg f (k * s) (k * s + s)))) : InsB lt f0 g s (k + 1) := by
 refine ⟨fun q hq => ?_, fun t ht => ?_⟩
 ·
  by_cases e : q = k
  ·
   subst e
   show seg g _ _ = _
   rw [hp.seg, seg_congr (f := f) (g := f0) _ _ fun t h1 h2 => h.out t h1]
  have m1 := mul_far (s := s) (show q < k by omega)
  exact (h.sb q (by omega)).congr fun t h1 h2 => hp.out t (by omega)
 rw [Nat.succ_mul] at ht
 rw [hp.out t (by omega), h.out t (by omega)]
theorem InsB.all {s k n : Nat} (h : InsB lt f0 f s k) (h1 : k * s ≤ n) (h2 : n < k * s + s) (hp : Put f g (k * s) n (sortS lt (seg f (k * s) n))) : AllB lt f0 g s n := by
 refine ⟨fun q hq => ?_, fun t ht => ?_⟩
 ·
  by_cases e : q = k
  ·
   subst e
   rw [show min (q * s + s) n = n by omega]
   show seg g _ _ = _
   rw [hp.seg, seg_congr (f := f) (g := f0) _ _ fun t h1 h2 => h.out t h1]
  by_cases hk : k < q
  ·
   have m1 := mul_far (s := s) hk
   omega
  have m1 := mul_far (s := s) (show q < k by omega)
  rw [show min (q * s + s) n = q * s + s by omega]
  exact (h.sb q (by omega)).congr fun t h1 h2 => hp.out t (by omega)
 rw [hp.out t (by omega), h.out t (by omega)]
theorem MixB.start {s n : Nat} (h : AllB lt f0 f s n) : MixB lt f0 f s 0 n := ⟨fun q h => absurd h (Nat.not_lt_zero _), fun q _ h2 => h.sb q h2, h.out⟩
theorem MixB.left {s k n : Nat} (h : MixB lt f0 f s k n) (hn : k * (2 * s) + s ≤ n) (hs : 0 < s) : SB lt f0 f (k * (2 * s)) (k * (2 * s) + s) := by
 have e := h.small (2 * k) (Nat.le_refl _) (by rw [two_mul_mul]; omega)
 rw [two_mul_mul, show min (k * (2 * s) + s) n = k * (2 * s) + s by omega] at e
 exact e
theorem MixB.right {s k n y : Nat} (h : MixB lt f0 f s k n) (hn : k * (2 * s) + s < n) (hy : y = min (k * (2 * s) + s + s) n) : SB lt f0 f (k * (2 * s) + s) y := by
 have e := h.small (2 * k + 1) (by omega) (by rw [two_mul_mul1]; omega)
 rw [two_mul_mul1, ← hy] at e
 exact e
theorem MixB.step (hO : Swo lt) {s k n : Nat} (h : MixB lt f0 f s k n) (hs : 0 < s) (hn : k * (2 * s) + 2 * s ≤ n)
  (hp : Put f g (k * (2 * s)) (k * (2 * s) + 2 * s) (mergeS lt (seg f (k * (2 * s)) (k * (2 * s) + s)) (seg f (k * (2 * s) + s) (k * (2 * s) + 2 * s)))) : MixB lt f0 g s (k + 1) n := by
 refine ⟨fun q hq => ?_, fun q h1 h2 => ?_, fun t ht => ?_⟩
 ·
  by_cases e : q = k
  ·
   subst e
   exact SB.merge hO (by omega) (by omega) (h.left (by omega) hs) (h.right (by omega) (by omega)) hp
  have m1 := mul_far (s := 2 * s) (show q < k by omega)
  exact (h.big q (by omega)).congr fun t h1 h2 => hp.out t (by omega)
 ·
  have m1 := Nat.mul_le_mul_right s h1
  rw [two_mul_mul, Nat.succ_mul] at m1
  exact (h.small q (by omega) h2).congr fun t h3 h4 => hp.out t (by omega)
 rw [hp.out t (by omega), h.out t ht]
theorem MixB.all (hO : Swo lt) {s k n : Nat} (h : MixB lt f0 f s k n) (hs : 0 < s) (h1 : k * (2 * s) ≤ n) (h2 : n < k * (2 * s) + 2 * s)
  (hp : k * (2 * s) + s < n → Put f g (k * (2 * s)) n (mergeS lt (seg f (k * (2 * s)) (k * (2 * s) + s)) (seg f (k * (2 * s) + s) n))) (hq : ¬ k * (2 * s) + s < n → g = f) : AllB lt f0 g (2 * s) n := by
 by_cases hm : k * (2 * s) + s < n
 ·
  have hp := hp hm
  refine ⟨fun q hq' => ?_, fun t ht => ?_⟩
  ·
   by_cases e : q = k
   ·
    subst e
    rw [show min (q * (2 * s) + 2 * s) n = n by omega]
    exact SB.merge hO (by omega) (by omega) (h.left (by omega) hs) (h.right hm (by omega)) hp
   by_cases hk : k < q
   ·
    have m1 := mul_far (s := 2 * s) hk
    omega
   have m1 := mul_far (s := 2 * s) (show q < k by omega)
   rw [show min (q * (2 * s) + 2 * s) n = q * (2 * s) + 2 * s by omega]
   exact (h.big q (by omega)).congr fun t h3 h4 => hp.out t (by omega)
  rw [hp.out t (by omega), h.out t ht]
 have e := hq hm
 subst e
 refine ⟨fun q hq' => ?_, h.out⟩
 by_cases e : q = k
 ·
  subst e
  have e := h.small (2 * q) (Nat.le_refl _) (by rw [two_mul_mul]; omega)
  rw [two_mul_mul, show min (q * (2 * s) + s) n = n by omega] at e
  rw [show min (q * (2 * s) + 2 * s) n = n by omega]
  exact e
 by_cases hk : k < q
 ·
  have m1 := mul_far (s := 2 * s) hk
  omega
 have m1 := mul_far (s := 2 * s) (show q < k by omega)
 rw [show min (q * (2 * s) + 2 * s) n = q * (2 * s) + 2 * s by omega]
 exact h.big q (by omega)
theorem AllB.put {s n : Nat} (h : AllB lt f0 f s n) (hs : n ≤ s) : Put f0 f 0 n (sortS lt (seg f0 0 n)) := by
 refine ⟨fun t ht => h.out t (by omega), ?_⟩
 by_cases hn : n = 0
 ·
  subst hn
  rw [seg_nil _ _ _ (Nat.le_refl _), seg_nil _ _ _ (Nat.le_refl _)]; rfl
 have e := h.sb 0 (by omega)
 rw [Nat.zero_mul, show min (0 + s) n = n by omega] at e
 exact e
end
end Go.Proofs.YtcjhihmaegagdaaGreatDoor
namespace Go.Proofs.YtcjhihmaegagdaaGreatDoor
theorem takeWhile_len_le {α : Type} (p : α → Bool) (l : List α) : (l.takeWhile p).length ≤ l.length := (List.takeWhile_sublist p).length_le
theorem lexStep_skip {l : List UInt8} {k : Nat} (h : lexStep l = .skip k) : 1 ≤ k ∧ k ≤ l.length := by
 cases l with
 | nil => cases h
 | cons x l =>
  have t1 := takeWhile_len_le (· != 10) l
  simp only [lexStep] at h
  split at h
  ·
   injection h with h; subst h; simp
  split at h
  ·
   injection h with h; subst h; simp; omega
  split at h
  ·
   split at h <;> cases h
  split at h
  ·
   split at h <;> cases h
  split at h <;> cases h
theorem lexStep_tok {l : List UInt8} {kd n k : Nat} (h : lexStep l = .tok kd n k) : 1 ≤ k ∧ k ≤ l.length := by
 cases l with
 | nil => cases h
 | cons x l =>
  have t1 := takeWhile_len_le isWord l
  have t2 := takeWhile_len_le isDig l
  simp only [lexStep] at h
  split at h
  ·
   cases h
  split at h
  ·
   cases h
  split at h
  ·
   split at h
   ·
    cases h
   injection h with _ _ h; subst h; simp; omega
  split at h
  ·
   split at h
   ·
    cases h
   injection h with _ _ h; subst h; simp; omega
  split at h
  ·
   injection h with _ _ h; subst h; simp
  cases h
theorem lexF_fuel (f g p : Nat) (l : List UInt8) (hf : l.length ≤ f) (hg : l.length ≤ g) : lexF f p l = lexF g p l := by
 induction f generalizing g p l with
 | zero =>
  obtain rfl := List.eq_nil_of_length_eq_zero (show l.length = 0 by omega)
  cases g <;> rfl
 | succ f ih =>
  cases l with
  | nil => cases g <;> rfl
  | cons x l =>
   obtain ⟨g, rfl⟩ : ∃ g', g = g' + 1 := ⟨g - 1, by simp at hg; omega⟩
   rw [lexF, lexF]
   rcases hs : lexStep (x :: l) with k | ⟨kd, n, k⟩ | _
   ·
    have hk := lexStep_skip hs
    have hd : ((x :: l).drop k).length = (x :: l).length - k := List.length_drop
    exact ih _ _ _ (by omega) (by omega)
   ·
    have hk := lexStep_tok hs
    have hd : ((x :: l).drop k).length = (x :: l).length - k := List.length_drop
    simp only []
    rw [ih g (p + k) _ (by omega) (by omega)]
   rfl
theorem lexA_nil (p : Nat) : lexA p [] = ([], none) := rfl
theorem lexA_skip {p k : Nat} {l : List UInt8} (h : lexStep l = .skip k) : lexA p l = lexA (p + k) (l.drop k) := by
 cases l with
 | nil => cases h
 | cons x l =>
  have hk := lexStep_skip h
  have hd : ((x :: l).drop k).length = (x :: l).length - k := List.length_drop
  unfold lexA
  rw [List.length_cons, lexF, h]
  exact lexF_fuel _ _ _ _ (by rw [hd]; simp; omega) (Nat.le_refl _)
theorem lexA_tok {p kd n k : Nat} {l : List UInt8} (h : lexStep l = .tok kd n k) : lexA p l = (⟨kd, p, n, l.take k⟩ :: (lexA (p + k) (l.drop k)).1, (lexA (p + k) (l.drop k)).2) := by
 cases l with
 | nil => cases h
 | cons x l =>
  have hk := lexStep_tok h
  have hd : ((x :: l).drop k).length = (x :: l).length - k := List.length_drop
  unfold lexA
  rw [List.length_cons, lexF, h]
  simp only []
  rw [lexF_fuel l.length _ _ _ (by rw [hd]; simp; omega) (Nat.le_refl _)]
theorem lexA_bad {p x : Nat} {l : List UInt8} (hl : l.length = x + 1) (h : lexStep l = .bad) : lexA p l = ([], some p) := by
 cases l with
 | nil => cases hl
 | cons x l =>
  unfold lexA
  rw [List.length_cons, lexF, h]
theorem lexA_blanks (m p : Nat) (l : List UInt8) (h : m ≤ (l.takeWhile isBlank).length) : lexA p l = lexA (p + m) (l.drop m) := by
 induction m generalizing p l with
 | zero => rfl
 | succ m ih =>
  cases l with
  | nil => simp at h
  | cons x l =>
   by_cases hx : isBlank x = true
   ·
    have hs : lexStep (x :: l) = .skip 1 := by simp only [lexStep, if_pos hx]
    rw [lexA_skip hs, List.drop_one, List.tail_cons, ih (p + 1) l (by rw [List.takeWhile_cons, if_pos hx, List.length_cons] at h; omega), List.drop_succ_cons]
    congr 1
    omega
   rw [List.takeWhile_cons, if_neg hx] at h
   simp at h
end Go.Proofs.YtcjhihmaegagdaaGreatDoor
