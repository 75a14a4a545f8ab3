/- Texts of the Notation chapter, together: Rk, Rl, Rn, Rm. -/
import Derived.Test.YtcjhihmaegagdaaGreatDoorG1
import Derived.Test.YtcjhihmaegagdaaGreatDoorG5
import Derived.Defers
import Derived.Recover
import Derived.Laws.Pointers
import Derived.WideMake
import Derived.Test.YtcjhihmaegagdaaGreatDoorG2
import Derived.Deep.LoopGhost
import Derived.Deep.RegionHeld
set_option maxRecDepth 100000
set_option maxHeartbeats 8000000
set_option linter.unusedSimpArgs false
set_option linter.unusedVariables false
set_option linter.unusedSectionVars false
set_option linter.unnecessarySimpa false
namespace Go.Proofs.YtcjhihmaegagdaaGreatDoor
open Go.RowKit Go.Deep
theorem zHp (p : Addr) (w : World) :
 CallsD Tryz.prog 54 #[.pointer (some p)] .returning w fun e u' w' => e = .returned (.tuple #[]) ∧ u' = .returning ∧ w' = w := by
 refine callsD_of_wpS Tryz.func54 rfl fun c₀ cs hu => ?_
 apply wpS_seq;apply wpS_region;simp [wpOpsS, go_sem, recoverD, hu, Tryz.ntmps54, Exit.thenS];apply wpS_seq;apply wpS_region;simp [wpOpsS, go_sem, Exit.thenS];refine wpS_cond (t := false) (by simp [Act.eval, Array.replicate]) ?_;simp only [Bool.false_eq_true, if_false];refine wpS_of_wp (wp_skip ?_);cases c₀
 simp_all [bodyPostS, results, Tryz.results54]
theorem zFB (q : Nat) (x : Value) (y : Value) (p k : Nat) (older : List PanicEntry) (w : World) (hd : w.cell? ⟨q, 0, none⟩ = some x) (hy : w.frozen? ⟨q, 0, none⟩ = false) (hd1 : w.cell? ⟨q, 1, none⟩ = some y) (hy1 : w.frozen? ⟨q, 1, none⟩ = false) :
 CallsD Tryz.prog 54 #[.pointer (some ⟨q, 0, none⟩)] (.panicking ({ v := .iface 70 (.agg #[.int .i64 p, .int .i64 k]), recovered := false } :: older)) w fun e u' w' =>
  e = .returned (.tuple #[]) ∧ u' = .panicking ({ v := .iface 70 (.agg #[.int .i64 p, .int .i64 k]), recovered := true } :: older) ∧ w' = ((w.setCell ⟨q, 0, none⟩ (.int .i64 p)).setCell ⟨q, 1, none⟩ (.int .i64 k)) := by
 refine callsD_of_wpS Tryz.func54 rfl fun c₀ cs hu => ?_
 apply wpS_seq
 apply wpS_region
 simp [wpOpsS, go_sem, recoverD, hu, Tryz.ntmps54, Exit.thenS]
 apply wpS_seq
 apply wpS_region
 simp [wpOpsS, go_sem, Exit.thenS]
 refine wpS_cond (t := true) (by simp [Act.eval, Array.replicate]) ?_
 simp only [if_true]
 refine wpS_of_wp ?_
 have hta : ∀ w' : World, (Instr.typeAssert (.iface 70 (.agg #[.int .i64 p, .int .i64 k])) 20 70 false).run Tryz.prog w' = .ok (.agg #[.int .i64 p, .int .i64 k]) w' := fun w' => by kernel_rfl
 change Code.wp _ _ _ { tmps := #[Value.pointer (some ⟨q, 0, none⟩), Value.iface 70 (.agg #[.int .i64 p, .int .i64 k]), Value.iface 70 (.agg #[.int .i64 p, .int .i64 k]), Value.iface 70 (.agg #[.int .i64 p, .int .i64 k]), Value.bool true, undef, undef], defers := [] } w
 go_wp2_with fail
 all_goals simp [bodyPostS, results, Tryz.results54]
theorem zBX (W : World) (b : Addr) (g gm en : Nat) (x : Rc) (ts : List Tok) (d : Drf) (hb : W.cell? b = some (.pointer (some ⟨g, 0, none⟩))) (h : zU W g en x ts) (hd : Dr W g gm d x) (hl : d.sc.notes.length ≤ 10000) (hts : vh ts) (hM : qr W) (hP : yJ W) (hg : 3 < g) :
 Calls Tryz.prog 55 #[.pointer (some b)] W (yr W g gm en x (xy false d ts)) := by
 obtain ⟨q, hq⟩ : ∃ q, xy false d ts = q := ⟨_, rfl⟩
 have HN := hid (zHt W g gm en x ts d h hd hl hts hM hP hg);rw [hq] at HN ⊢;clear h hd hts hM hP hg;go_enter Tryz.func55, Tryz.ntmps55
 go_wp2_with fail
 refine HN.out.mono ?_;rcases q with ⟨d', r⟩ | ⟨r, k⟩
 · exact zNb
 rintro e w ⟨o, rfl⟩;exact ⟨rfl, o, rfl⟩
theorem zBA (W : World) (b : Addr) (g gm en : Nat) (x : Rc) (ts : List Tok) (d : Drf) (hb : W.cell? b = some (.pointer (some ⟨g, 0, none⟩))) (h : zU W g en x ts) (hd : Dr W g gm d x) (hl : d.sc.notes.length ≤ 10000) (hts : vh ts) (hM : qr W) (hP : yJ W) (hg : 3 < g) :
 Calls Tryz.prog 57 #[.pointer (some b)] W (yr W g gm en x (xy true d ts)) := by
 obtain ⟨q, hq⟩ : ∃ q, xy true d ts = q := ⟨_, rfl⟩
 have HN := hid (zJm W g gm en x ts d h hd hl hts hM hP hg);rw [hq] at HN ⊢;clear h hd hts hM hP hg;go_enter Tryz.func57, Tryz.ntmps57
 go_wp2_with fail
 refine HN.out.mono ?_;rcases q with ⟨d', r⟩ | ⟨r, k⟩
 · exact zNb
 rintro e w ⟨o, rfl⟩;exact ⟨rfl, o, rfl⟩
open Go.RowKit Go.Deep
def zER (b : Addr) (p : Value) : List (List UInt8 × Value) :=
 [(yW, .func (.func 55) #[] #[.pointer (some b)]), (yd, .func (.func 57) #[] #[.pointer (some b)]),
 (ym, .func (.func 58) #[p] #[]), (za, .func (.func 59) #[p] #[])]
def zA7 (l : List (List UInt8 × Value)) (s : List UInt8) : Option Value := (l.find? fun x => decide (s = x.1)).map (·.2)
def kF : List (List UInt8 × Value) → Nat → List MapEntry
 | [], _ => []
 | x :: l, k => ⟨str x.1, x.2, k⟩ :: kF l (k + 1)
theorem zE0 (l : List (List UInt8 × Value)) (x : List UInt8 × Value) (k : Nat) : kF (l ++ [x]) k = kF l k ++ [⟨str x.1, x.2, k + l.length⟩] := by
 induction l generalizing k with
 | nil => rfl
 | cons y l ih => simp only [List.cons_append, kF, ih, List.length_cons]; rw [show k + 1 + l.length = k + (l.length + 1) by omega]
theorem zJz (s t : List UInt8) : Instr.sameNow .string (str s) (str t) = some (decide (s = t)) := by
 have : ((⟨s.toArray⟩ : ByteArray) == ⟨t.toArray⟩) = decide (s = t) := by
  rw [Bool.eq_iff_iff, MapKept.bytes_beq, decide_eq_true_iff];constructor
  · intro h;have := congrArg (fun b : ByteArray => b.data.toList) h;simpa using this
  rintro rfl; rfl
 show some _ = _;rw [this]
theorem zC5 (l : List (List UInt8 × Value)) (s : List UInt8) (k i : Nat) : ∃ o, Instr.findNow .string (str s) (kF l k) i = some o ∧ o.map (·.2) = zA7 l s := by
 induction l generalizing k i with
 | nil => exact ⟨none, rfl, rfl⟩
 | cons x l ih =>
  simp only [kF, Instr.findNow, zJz];by_cases h : s = x.1
  · rw [decide_eq_true h];exact ⟨_, rfl, by simp [zA7, h]⟩
  rw [decide_eq_false h];obtain ⟨o, h1, h2⟩ := ih (k + 1) (i + 1);refine ⟨o, h1, h2.trans ?_⟩;simp [zA7, h]
def jq (w : World) (g : Nat) (l : List (List UInt8 × Value)) : Prop := w.heap[g]? = some (.map (kF l 0).toArray l.length)
theorem jq.new (w : World) : jq (w.alloc (.map #[] 0)) w.heap.size [] := by
 unfold jq;exact (MapKept.heap_alloc w _).1
theorem jq.put {w : World} {g : Nat} {l : List (List UInt8 × Value)} (h : jq w g l) (s : List UInt8) (v : Value) (hs : zA7 l s = none) :
 ∃ w', (Instr.mapUpdate 96 (.map (some g)) (str s) v).run Tryz.prog w = .ok () w' ∧ jq w' g (l ++ [(s, v)]) ∧ w.grownBy w' (some g) ∧ w'.heap.size = w.heap.size := by
 obtain ⟨o, ho, hv⟩ := zC5 l s 0 0;rw [hs] at hv;have ho2 : o = none := by cases o <;> simp_all
 subst ho2;have hc : (Instr.checkKey false 10000 9 (str s)).run Tryz.prog w = .ok () w := MapKept.run_checkKey (k := str s) Tryz.underlying9 (by simp [MapKept.IsKey]) false 9999;have hb : w.heap[g]? = some (.map (kF l 0).toArray l.length) := h;refine ⟨{ w with heap := w.heap.setIfInBounds g (.map ((kF l 0).toArray.push { key := str s, val := v, born := l.length }) (l.length + 1)) }, ?_, ?_, ⟨rfl, rfl, rfl, by simp, fun k _ hk => (MapKept.heap_set hb).2 k (fun e => hk (by rw [e]))⟩, by simp⟩
 · simp [Instr.mapUpdate, run_underlying Tryz.underlying96, MapKept.run_getObj_map hb, hc, MapKept.run_findKey Tryz.underlying9 ho, MapKept.run_setObj_map _ hb, Result.andThen]
 unfold jq;rw [zE0, List.length_append, List.length_singleton, Nat.zero_add];simpa using (MapKept.heap_set (o' := .map ((kF l 0).toArray.push { key := str s, val := v, born := l.length }) (l.length + 1)) hb).1
theorem jq.kept {w w' : World} {g : Nat} {l : List (List UInt8 × Value)} (h : jq w g l) (e : w'.heap[g]? = w.heap[g]?) : jq w' g l := e.trans h
theorem jq.look {w : World} {g : Nat} {l : List (List UInt8 × Value)} (h : jq w g l) (s : List UInt8) (o : Option Value) (ho : zA7 l s = o) :
 (Instr.lookup 96 (.map (some g)) (str s) true).run Tryz.prog w = .ok (.tuple #[o.getD .nilFunc, .bool o.isSome]) w := by
 obtain ⟨f, hf, hv⟩ := zC5 l s 0 0;have hb : w.heap[g]? = some (.map (kF l 0).toArray l.length) := h;have hc : ∀ e, (Instr.checkKey e 10000 9 (str s)).run Tryz.prog w = .ok () w := fun e => MapKept.run_checkKey (k := str s) Tryz.underlying9 (by simp [MapKept.IsKey]) e 9999
 rw [ho] at hv;rcases f with _ | ⟨i, v⟩
 · subst hv;simp [Instr.lookup, run_underlying Tryz.underlying96, MapKept.run_getObj_map hb, hc, MapKept.run_findKey Tryz.underlying9 hf, Result.andThen]
 subst hv;simp [Instr.lookup, run_underlying Tryz.underlying96, MapKept.run_getObj_map hb, hc, MapKept.run_findKey Tryz.underlying9 hf, Result.andThen]
open Go.RowKit Go.Deep
theorem zFn {w : World} {base : Nat} {e : TypeId} {size n b k : Nat} {v : Value} {xs : List Value} {es : Array MapEntry} (h : w.ownsRow base e size v n xs) (hb : w.heap[b]? = some (.map es k)) : v.ownBlock ≠ some b := by
 rcases h.2 with ⟨rfl, _⟩ | ⟨g, cap, cur, rfl, _, hg, _⟩
 · simp [Value.ownBlock]
 intro e1;simp only [Value.ownBlock, Option.some.injEq] at e1;subst e1;rw [hg] at hb;cases hb
structure RdS (g gm en f0 : Nat) (y : Rc) (d : Drf) (ts : List Tok) (w : World) : Prop where
 t : zU w g en y ts
 d : Dr w g gm d y
 box : Blk w f0 65 #[.pointer (some ⟨g, 0, none⟩)]
 fault : Blk w (f0 + 1) 70 #[.int .i64 0, .int .i64 0]
 items : jq w (f0 + 2) (zER ⟨f0, 0, none⟩ (.pointer (some ⟨g, 0, none⟩)))
 gf : g < f0
 gmf : gm < f0
 m : qr w
 p : yJ w
 hg : 3 + 1 < g
section
variable {g gm en f0 : Nat} {y y' : Rc} {d d' : Drf} {ts ts' : List Tok} {w w' : World}
theorem RdS.kept (h : RdS g gm en f0 y d ts w) (k : Far g gm y w w') : Blk w' f0 65 #[.pointer (some ⟨g, 0, none⟩)] ∧ Blk w' (f0 + 1) 70 #[.int .i64 0, .int .i64 0] := by
 have h1 := h.gf;have h2 := h.gmf
 exact ⟨(k.block f0 (by omega) (by omega) (xZ h.d.n h.box (by decide)) (xZ h.d.p h.box (by decide)) (xZ h.d.q h.box (by decide)) h.box.lt).trans h.box,
  (k.block (f0 + 1) (by omega) (by omega) (xZ h.d.n h.fault (by decide)) (xZ h.d.p h.fault (by decide)) (xZ h.d.q h.fault (by decide)) h.fault.lt).trans h.fault⟩
theorem RdS.low (h : RdS g gm en f0 y d ts w) (k : Far g gm y w w') : Below (g - 1) w w' := k.below h.d (Nat.le_of_lt h.t.lt)
theorem RdS.far (h : RdS g gm en f0 y d ts w) (k : Far g gm y w w') (t' : zU w' g en y' ts') (e' : Dr w' g gm d' y') : RdS g gm en f0 y' d' ts' w' := by
 have h1 := h.gf;have h2 := h.gmf;have h3 := h.hg;have b := h.low k;have hi : w.heap[f0 + 2]? = some (.map _ _) := h.items;obtain ⟨m, hm⟩ := h.m;refine ⟨t', e', (h.kept k).1, (h.kept k).2, h.items.kept (k.block (f0 + 2) (by omega) (by omega) (zFn h.d.n hi) (zFn h.d.p hi) (zFn h.d.q hi) (Array.getElem?_eq_some_iff.1 hi).1), h1, h2, ⟨m, (b.cell (p := ⟨0, 0, none⟩) (by show 0 < g - 1; omega)).trans hm⟩, fun j hj => (b.cell (p := ⟨3, j, none⟩) (by show 3 < g - 1; omega)).trans (h.p j hj), h3⟩
theorem RdS.only (h : RdS g gm en f0 y d ts w) (o : zH g w w') (t' : zU w' g en y ts') : RdS g gm en f0 y d ts' w' := h.far o.away t' (h.d.only h.t o)
theorem RdS.below (h : RdS g gm en f0 y d ts w) (b : Below w.heap.size w w') : RdS g gm en f0 y d ts w' := h.far (zH.of_below b).away (h.t.below b) (h.d.up b)
theorem RdS.drew (h : RdS g gm en f0 y d ts w) : RdS g gm en f0 y d ts w.drew := h.below (Below.refl _ _).drew
end
theorem zHk {b : Addr} {p v : Value} {s : List UInt8} (h : zA7 (zER b p) s = some v) :
 (s = yW ∧ v = .func (.func 55) #[] #[.pointer (some b)]) ∨ (s = yd ∧ v = .func (.func 57) #[] #[.pointer (some b)]) ∨
 (s = ym ∧ v = .func (.func 58) #[p] #[]) ∨ (s = za ∧ v = .func (.func 59) #[p] #[]) := by
 unfold zA7 zER at h;by_cases h1 : s = yW
 · left; simp [h1] at h; exact ⟨h1, h.symm⟩
 by_cases h2 : s = yd
 · right; left; simp [h2, show ¬ yd = yW by decide] at h; exact ⟨h2, h.symm⟩
 by_cases h3 : s = ym
 · right; right; left; simp [h3, show ¬ ym = yW by decide, show ¬ ym = yd by decide] at h; exact ⟨h3, h.symm⟩
 by_cases h4 : s = za
 · right; right; right; simp [h4, show ¬ za = yW by decide, show ¬ za = yd by decide, show ¬ za = ym by decide] at h; exact ⟨h4, h.symm⟩
 simp [h1, h2, h3, h4] at h
theorem zIZ {b : Addr} {p : Value} {s : List UInt8} (h : zA7 (zER b p) s = none) (d : Drf) (r : List Tok) : xA s d r = none := by
 unfold zA7 zER at h;simp at h;obtain ⟨h1, h2, h3, h4⟩ := h;unfold xA;rw [if_neg h1, if_neg h2, if_neg h3, if_neg h4]
theorem zDV {f : Nat} {d : Drf} {t : Tok} {r : List Tok} (hf : (t :: r).length ≤ f) :
 ∃ f', r.length ≤ f' ∧ vc f d (t :: r) = match xA t.text d r with | some q => q.bind (fun d r => vc f' d r) | none => .err (t :: r) 10 := by
 cases f with
 | zero => simp at hf
 | succ f => exact ⟨f, by simp at hf; omega, rfl⟩
theorem vh.suf {ts r : List Tok} (h : vh ts) (s : r <:+ ts) : vh r := fun t ht => h t (s.subset ht)
theorem zJF {W : World} {gm : Nat} {ns : List (List UInt8)} (h : xk W gm ns) : gm < W.heap.size := by
 obtain ⟨es, clk, h1, -⟩ := h.1;exact (Array.getElem?_eq_some_iff.1 h1).1
open Go.RowKit Go.Deep
theorem zC1 : (Tryz.prog.info? 70).map (·.size) = some 2 := by kernel_rfl
def zJE (W : World) (g gm en : Nat) (q : Rs Drf) (e : Ending) (w' : World) : Prop :=
 Below (g - 1) W w' ∧ match q with
 | .ok d _ => e = .returned (.agg #[.int .i64 0, .int .i64 0]) ∧ ∃ x, zU w' g en x [] ∧ Dr w' g gm d x
 | .err r k => e = .returned (.agg #[.int .i64 (qK en r), .int .i64 k])
theorem zU.setv {W : World} {g en : Nat} {x : Rc} {ts : List Tok} (h : zU W g en x ts) (u : Value) : zU (W.setCell ⟨g, 3, none⟩ u) g en { x with v := u } ts := by
 obtain ⟨A, c, h1, h2, h3⟩ := h;refine ⟨A, c, ?_, h2.setCell (p := ⟨g, 3, none⟩) (Nat.sub_le g 1) u, h3⟩;have := h1.set_ 3 u;simpa using this
theorem Dr.setv {w : World} {g gm en : Nat} {d : Drf} {x : Rc} {ts : List Tok} (h : Dr w g gm d x) (t : zU w g en x ts) (v : Nat) :
 Dr (w.setCell ⟨g, 3, none⟩ (.int .i64 v)) g gm ⟨{ d.sc with voices := v }, d.names⟩ { x with v := .int .i64 v } := by
 have k := h.only t (jk (W := w) g 3 (.int .i64 v));exact ⟨h.m, rfl, k.n, k.p, k.q, k.names, k.len, k.gm⟩
theorem zBR {W w : World} {g gm en f : Nat} {q : Rs Drf} {r : List Tok} {k : Nat} (tm : Array Value) (ha : tm.getD 2 undef = .pointer (some ⟨f, 0, none⟩)) (hb : Blk w f 70 #[.int .i64 0, .int .i64 0]) (hq : q = .err r k) (b : Below (g - 1) W w) (hgf : g ≤ f) :
 bodyPostD Tryz.prog Tryz.f32 (zJE W g gm en q) (Exit.panic [{ v := .iface 70 (.agg #[.int .i64 (qK en r), .int .i64 k]), recovered := false }]) { tmps := tm, defers := [{ target := Target.fn (Fn.func 54) #[.pointer (some ⟨f, 0, none⟩)], args := #[] }] } w := by
 subst hq;refine leaves_cons (f := 54) (args := #[.pointer (some ⟨f, 0, none⟩)]) (by simp) (by simp [go_sem]) ?_;refine (zFB _ _ _ _ _ [] _ (hb.cell 0) (hb.frozen 0) (hb.cell 1) (hb.frozen 1)).mono ?_;rintro e u' w'' ⟨rfl, rfl, rfl⟩
 have f1 : Blk ((w.setCell ⟨f, 0, none⟩ (.int .i64 (qK en r))).setCell ⟨f, 1, none⟩ (.int .i64 k)) f 70 #[.int .i64 (qK en r), .int .i64 k] := by
  have := (hb.set_ 0 (.int .i64 (qK en r))).set_ 1 (.int .i64 k);simpa using this
 have hh := zO f1;have bw := (b.setCell (p := ⟨f, 0, none⟩) (by show g - 1 ≤ f; omega) (.int .i64 (qK en r))).setCell (p := ⟨f, 1, none⟩) (by show g - 1 ≤ f; omega) (.int .i64 k);generalize (w.setCell ⟨f, 0, none⟩ (.int .i64 (qK en r))).setCell ⟨f, 1, none⟩ (.int .i64 k) = w9 at *;simp [Leaves, settle, go_sem];exact ⟨_, yN (by rfl) _ ⟨f, 0, none⟩ ha _ Tryz.underlying70 rfl _ #[.int .i64 (qK en r), .int .i64 k] zC1 hh, bw, rfl⟩
theorem Dr.onlyb {w w' : World} {g gm f : Nat} {d : Drf} {x : Rc} {cs : Array Value} (h : Dr w g gm d x) (hb : Blk w f 70 cs) (o : zH f w w') : Dr w' g gm d x :=
 ⟨h.m, h.v, h.n.only o (h.n.apart hb (by decide)), h.p.only o (h.p.apart hb (by decide)), h.q.only o (h.q.apart hb (by decide)), h.names.only o (ye h.names hb), h.len, h.gm⟩
theorem zU.onlyb {w w' : World} {g en f : Nat} {x : Rc} {ts : List Tok} (h : zU w g en x ts) (hf : g < f) (o : zH f w w') : zU w' g en x ts :=
 h.grown (row := some f) ⟨o.os, o.tape, o.output, o.size, fun k hk e => o.block k (fun e' => e (by rw [e'])) hk⟩ (fun b e => by injection e with e; omega)
theorem zLI {W w : World} {g gm en f : Nat} {q : Rs Drf} {d : Drf} {y : Rc} (tm : Array Value) (ha : tm.getD 2 undef = .pointer (some ⟨f, 0, none⟩)) (hb : Blk w f 70 #[.int .i64 0, .int .i64 0]) (ht : zU w g en y []) (hd : Dr w g gm d y) (hq : q = .ok d []) (b : Below (g - 1) W w) (hgf : g < f) :
 bodyPostD Tryz.prog Tryz.f32 (zJE W g gm en q) Exit.ret { tmps := tm, defers := [{ target := Target.fn (Fn.func 54) #[.pointer (some ⟨f, 0, none⟩)], args := #[] }] } ((w.setCell ⟨f, 0, none⟩ (.int .i64 0)).setCell ⟨f, 1, none⟩ (.int .i64 0)) := by
 subst hq;have o : zH f w ((w.setCell ⟨f, 0, none⟩ (.int .i64 0)).setCell ⟨f, 1, none⟩ (.int .i64 0)) := ((zH.refl f w).setCell 0 _).setCell 1 _
 have f1 : Blk ((w.setCell ⟨f, 0, none⟩ (.int .i64 0)).setCell ⟨f, 1, none⟩ (.int .i64 0)) f 70 #[.int .i64 0, .int .i64 0] := by
  have := (hb.set_ 0 (.int .i64 0)).set_ 1 (.int .i64 0);simpa using this
 have hh := zO f1;have bw := (b.setCell (p := ⟨f, 0, none⟩) (by show g - 1 ≤ f; omega) (.int .i64 0)).setCell (p := ⟨f, 1, none⟩) (by show g - 1 ≤ f; omega) (.int .i64 0);have d9 := hd.onlyb hb o;have t9 := ht.onlyb hgf o;generalize (w.setCell ⟨f, 0, none⟩ (.int .i64 0)).setCell ⟨f, 1, none⟩ (.int .i64 0) = w9 at *;refine leaves_cons (f := 54) (args := #[.pointer (some ⟨f, 0, none⟩)]) (by simp) (by simp [go_sem]) ?_;refine (zHp _ _).mono ?_;rintro e u' w'' ⟨rfl, rfl, rfl⟩;simp [Leaves, settle, go_sem];exact ⟨_, yN (by rfl) _ ⟨f, 0, none⟩ ha _ Tryz.underlying70 rfl _ #[.int .i64 0, .int .i64 0] zC1 hh, bw, rfl, y, t9, d9⟩
theorem zJX (W : World) (g gm en : Nat) (x : Rc) (ts : List Tok) (h : zU W g en x ts) (hd : Dr W g gm ⟨jB, []⟩ x) (hts : vh ts) (hM : qr W) (hP : yJ W) (hg : 3 + 1 < g) (hl : ts.length ≤ 8000) :
 Calls Tryz.prog 32 #[.pointer (some ⟨g, 0, none⟩)] W (zJE W g gm en (vZ ts)) := by
 have H := hid h;have hmf : ∀ (fn : Fn) (first cap : Array Value) (w : World), (Instr.makeFunc fn first cap).run Tryz.prog w = .ok (.func fn first cap) w := fun _ _ _ _ => rfl
 clear h;go_enter_defers Tryz.func32, Tryz.ntmps32
 have I0 : jq (((W.alloc (.cells #[.pointer (some ⟨g, 0, none⟩)] 65)).alloc (.cells #[.int .i64 0, .int .i64 0] 70)).alloc (.map #[] 0)) (W.heap.size + 2) [] := by
  have := jq.new ((W.alloc (.cells #[.pointer (some ⟨g, 0, none⟩)] 65)).alloc (.cells #[.int .i64 0, .int .i64 0] 70));simpa using this
 have hmm : ∀ w : World, (Instr.makeMap 96 none).run Tryz.prog w = .ok (.map (some w.heap.size)) (w.alloc (.map #[] 0)) := fun w => run_makeMap_plain w _
 obtain ⟨w1, h1, J1, K1, S1⟩ := I0.put yW (.func (.func 55) #[] #[.pointer (some ⟨W.heap.size, 0, none⟩)]) rfl;obtain ⟨w2, h2, J2, K2, S2⟩ := J1.put yd (.func (.func 57) #[] #[.pointer (some ⟨W.heap.size, 0, none⟩)]) rfl;obtain ⟨w3, h3, J3, K3, S3⟩ := J2.put ym (.func (.func 58) #[.pointer (some ⟨g, 0, none⟩)] #[]) rfl;obtain ⟨w4, h4, J4, K4, S4⟩ := J3.put za (.func (.func 59) #[.pointer (some ⟨g, 0, none⟩)] #[]) rfl;have kc : ∀ {w w' : World} (_ : w.grownBy w' (some (W.heap.size + 2))) (j : Nat), j < W.heap.size + 2 → j < w.heap.size → ∀ i, w'.cell? ⟨j, i, none⟩ = w.cell? ⟨j, i, none⟩ := fun k j hj hs i => World.cell?_of_block (k.block j hs (by intro e; injection e with e; omega))
 have z0 : (((W.alloc (.cells #[.pointer (some ⟨g, 0, none⟩)] 65)).alloc (.cells #[.int .i64 0, .int .i64 0] 70)).alloc (.map #[] 0)).heap.size = W.heap.size + 3 := by simp
 have b0 : (((W.alloc (.cells #[.pointer (some ⟨g, 0, none⟩)] 65)).alloc (.cells #[.int .i64 0, .int .i64 0] 70)).alloc (.map #[] 0)).cell? ⟨W.heap.size, 0, none⟩ = some (.pointer (some ⟨g, 0, none⟩)) := by simp [go_sem]
 rw [z0] at S1;have b1 := (kc K1 W.heap.size (by omega) (by omega) 0).trans b0;have b2 := (kc K2 W.heap.size (by omega) (by omega) 0).trans b1;have b3 := (kc K3 W.heap.size (by omega) (by omega) 0).trans b2;have b4 := (kc K4 W.heap.size (by omega) (by omega) 0).trans b3;clear kc b0;have hgl := H.out.lt
 have H4 : Hid (zU w4 g en x ts) := by
  (have a := ((((H.out.alloc (.cells #[.pointer (some ⟨g, 0, none⟩)] 65)).alloc (.cells #[.int .i64 0, .int .i64 0] 70)).alloc (.map #[] 0)).grown K1 (fun b e => by injection e with e; omega)));exact (((a.grown K2 (fun b e => by injection e with e; omega)).grown K3 (fun b e => by injection e with e; omega)).grown K4 (fun b e => by injection e with e; omega))
 have F4 : Hid (Blk w4 (W.heap.size + 1) 70 #[.int .i64 0, .int .i64 0]) := by
  have q : Blk (((W.alloc (.cells #[.pointer (some ⟨g, 0, none⟩)] 65)).alloc (.cells #[.int .i64 0, .int .i64 0] 70)).alloc (.map #[] 0)) (W.heap.size + 1) 70 #[.int .i64 0, .int .i64 0] := by
   have := ((zH.refl g _).alloc (.map #[] 0)).blk (Blk.new (W.alloc (.cells #[.pointer (some ⟨g, 0, none⟩)] 65)) 70 #[.int .i64 0, .int .i64 0]) (by simp; omega);simpa using this
  have q1 := q.grown K1 (by intro e; injection e with e; omega);have q4 := ((q1.grown K2 (by intro e; injection e with e; omega)).grown K3 (by intro e; injection e with e; omega)).grown K4 (by intro e; injection e with e; omega);exact q4
 have B4 : Hid (Below (g - 1) W w4) := hid ((((((((Below.refl (g - 1) W).alloc (by omega) (.cells #[.pointer (some ⟨g, 0, none⟩)] 65)).alloc (by simp; omega) (.cells #[.int .i64 0, .int .i64 0] 70)).alloc (by simp; omega) (.map #[] 0)).grown K1 (by first | (simp; omega) | omega) (fun b e => by injection e with e; omega)).grown K2 (by first | (simp; omega) | omega) (fun b e => by injection e with e; omega)).grown K3 (by first | (simp; omega) | omega) (fun b e => by injection e with e; omega)).grown K4 (by first | (simp; omega) | omega) (fun b e => by injection e with e; omega));have HS4 := hid (S4.trans (S3.trans (S2.trans S1)));have BB4 : Below W.heap.size W w4 := ((((((((Below.refl W.heap.size W).alloc (Nat.le_refl _) (.cells #[.pointer (some ⟨g, 0, none⟩)] 65)).alloc (by simp) (.cells #[.int .i64 0, .int .i64 0] 70)).alloc (by simp; omega) (.map #[] 0)).grown K1 (by first | (simp; omega) | omega) (fun b e => by injection e with e; omega)).grown K2 (by first | (simp; omega) | omega) (fun b e => by injection e with e; omega)).grown K3 (by first | (simp; omega) | omega) (fun b e => by injection e with e; omega)).grown K4 (by first | (simp; omega) | omega) (fun b e => by injection e with e; omega))
 have X4 : Blk w4 W.heap.size 65 #[.pointer (some ⟨g, 0, none⟩)] := by
  have q1 := (((Blk.new W 65 #[.pointer (some ⟨g, 0, none⟩)]).alloc (.cells #[.int .i64 0, .int .i64 0] 70)).alloc (.map #[] 0)).grown K1 (by intro e; injection e with e; omega);exact ((q1.grown K2 (by intro e; injection e with e; omega)).grown K3 (by intro e; injection e with e; omega)).grown K4 (by intro e; injection e with e; omega)
 have SS4 : Hid (RdS g gm en W.heap.size x ⟨jB, []⟩ ts w4) := hid ⟨H4.out, hd.up BB4, X4, F4.out, J4, hgl, zJF hd.names, hM.below BB4, hP.below BB4, hg⟩;clear BB4 X4;replace J4 := hid J4;replace K1 := hid K1;replace K2 := hid K2;replace K3 := hid K3;replace K4 := hid K4;clear J1 J2 J3 I0;simp only [yW, yd, ym, za] at h1 h2 h3 h4;go_wp2_with fail
 clear h1 h2 h3 h4 hmm b1 b2 b3;rcases hq1 : zb [vU] ts with ⟨u1, r1⟩ | ⟨r1, k⟩;rotate_left
 · refine (yC _ g en _ x ts vU (by decide) _ hq1 H4.out HS4.out.symm).mono ?_;rintro e w ⟨o, rfl⟩;exact zBR _ (by rfl) (o.blk F4.out (by omega)) (by simp only [vZ, hq1, Rs.err_bind]) (B4.out.trans (o.below (Nat.sub_le g 1) (by omega))) (by omega)
 refine (yC _ g en _ x ts vU (by decide) _ hq1 H4.out HS4.out.symm).mono ?_;rintro e w5 ⟨o, rfl, t⟩;have B5 := hid (B4.out.trans (o.below (Nat.sub_le g 1) (by omega)));have S5 := hid (SS4.out.only o t);clear o t H4 F4 B4 SS4 HS4 S1 S2 S3 S4 b4 K1 K2 K3 K4 J4;replace hq1 := hid hq1;have x5 : w5.cell? ⟨W.heap.size, 0, none⟩ = some (.pointer (some ⟨g, 0, none⟩)) := S5.out.box.cell 0;have T5 := hid S5.out.t;go_wp2_with fail
 have x5d : w5.drew.cell? ⟨W.heap.size, 0, none⟩ = some (.pointer (some ⟨g, 0, none⟩)) := x5;rcases hq2 : yX r1 with ⟨v, r2⟩ | ⟨r2, k⟩;rotate_left
 ·
  refine kQ ?_;refine yg [0, 1] ?_;refine xj ?_ ?_
  · refine zY 1 ?_;refine xn 2 ?_;exact m61
  refine vI ?_;refine yg [0, 2] ?_;refine xj ?_ ?_
  · refine xn 2 ?_;exact m61
  refine zAv ?_;exact m61
 replace hq2 := hid hq2;go_cut [] from 18 (fun wx => ∃ x7, Hid (RdS g gm en W.heap.size x7 ⟨{ jB with voices := v }, []⟩ r2 wx) ∧ Hid (Below (g - 1) W wx))
 case first =>
  refine kQ ?_;refine yg [0, 1] ?_;refine xj ?_ ?_
  · refine zY 1 ?_;exact m56
  refine vI ?_;refine yg [0, 2] ?_;refine xj ?_ ?_
  · exact m56
  refine zAv ?_;intro K hK;go_simp;refine (zZ _ g en x r1 _ hq2.out T5.out.drew).mono ?_;rintro e w6 ⟨o, rfl, t⟩;have S6 := hid (S5.out.only (zH.undrew o) t);have B6 := hid (B5.out.trans ((zH.undrew o).below (Nat.sub_le g 1) (by have := T5.out.lt; omega)));have c6 := t.c3;have f6 := t.fr 3;have T6 := hid t;have x6 : w6.cell? ⟨W.heap.size, 0, none⟩ = some (.pointer (some ⟨g, 0, none⟩)) := S6.out.box.cell 0;clear o t;refine yi hK ?_;clear hK K;refine zY 0 ?_;exact zN8
 case rest =>
  clear x5 x5d T5 S5 B5;obtain ⟨x7, S7, B7⟩ := hcut;have x7c : wc.cell? ⟨W.heap.size, 0, none⟩ = some (.pointer (some ⟨g, 0, none⟩)) := S7.out.box.cell 0;(go_wp2_with fail);clear x7c;rcases hq3 : zb [yM] r2 with ⟨u2, r3⟩ | ⟨r3, k⟩;rotate_left
  · refine (yC _ g en _ x7 r2 yM (by decide) _ hq3 S7.out.t rfl).mono ?_;rintro e w ⟨o, rfl⟩;exact zBR _ (by rfl) (o.blk S7.out.fault (by have := S7.out.gf; omega)) (by simp only [vZ, hq1.out, hq2.out, hq3, Rs.ok_bind, Rs.err_bind]) (B7.out.trans (o.below (Nat.sub_le g 1) (by have := S7.out.t.lt; omega))) (by have := S7.out.gf; omega)
  refine (yC _ g en _ x7 r2 yM (by decide) _ hq3 S7.out.t rfl).mono ?_;rintro e w8 ⟨o, rfl, t⟩;have S8 := hid (S7.out.only o t);have B8 := hid (B7.out.trans (o.below (Nat.sub_le g 1) (by have := S7.out.t.lt; omega)));have Q8 : Hid (vZ ts = vc r3.length ⟨{ jB with voices := v }, []⟩ r3) := hid (by simp only [vZ, hq1.out, hq2.out, hq3, Rs.ok_bind]);(have f1 : r1 <:+ ts := by have := xP [vU] ts; rw [hq1.out] at this; exact this);(have f2 : r2 <:+ r1 := by have := xe r1; rw [hq2.out] at this; exact this);(have f3 : r3 <:+ r2 := by have := xP [yM] r2; rw [hq3] at this; exact this);have O8 := hid (((hts.suf f1).suf f2).suf f3);have L8 : Hid (r3.length ≤ 8000) := hid (by have a1 := f1.length_le; have a2 := f2.length_le; have a3 := f3.length_le; omega);clear o t S7 B7 f1 f2 f3 hq1 hq2 hq3 hts hM hP hd H;(obtain ⟨q, hq⟩ : ∃ q, q = vZ ts := ⟨_, rfl⟩);rw [← hq] at Q8;have HQ := hid hq;clear hq;(go_wp2_with fail);go_loopg [] r3.length (fun n wx => ∃ (f : Nat) (d : Drf) (tk : List Tok) (y : Rc), tk.length ≤ n ∧ Hid (tk.length ≤ f ∧ q = vc f d tk) ∧ Hid (RdS g gm en W.heap.size y d tk wx) ∧ Hid (Below (g - 1) W wx) ∧ Hid (vh tk) ∧ Hid (d.cnt + tk.length ≤ 8000))
  case atStart => exact ⟨r3.length, _, r3, x7, Nat.le_refl _, hid ⟨Nat.le_refl _, Q8.out⟩, S8, B8, O8, hid (by have := L8.out; simp only [Drf.cnt, jB]; simpa using this)⟩
  case round =>
   clear S8 B8 Q8 O8 L8;obtain ⟨f, d, tk, y, hn, HF, HS, HB, HO, HL⟩ := hrel;have xb : wr.cell? ⟨W.heap.size, 0, none⟩ = some (.pointer (some ⟨g, 0, none⟩)) := HS.out.box.cell 0;rcases tk with _ | ⟨t, r⟩
   · obtain ⟨A, c, hb, -, -⟩ := HS.out.t;have c0 := hb.cell 0;simp only [List.length_nil] at c0;have fc0 := HS.out.fault.cell 0;have fc1 := HS.out.fault.cell 1;have ff0 := HS.out.fault.frozen 0;have ff1 := HS.out.fault.frozen 1;clear hb;go_wp2_with fail
     exact zLI _ (by rfl) HS.out.fault HS.out.t HS.out.d (by rw [← HQ.out, HF.out.2, kY]) HB.out (by have := HS.out.gf; omega)
   obtain ⟨A, c, hb, hr, hc⟩ := HS.out.t;have c0 := hb.cell 0;simp only [List.length_cons] at c0;(have hcl : r.length + 1 ≤ c := (by simpa using hc));(have hcz : ¬ (c : Int) < 1 := (by omega));have hgl := hb.lt;have HBk := hid hb;have HR := hid hr;clear hb hr hc;have HN := hid (qY wr g en y t r HS.out.t);simp only [List.length_cons] at hn;(go_wp2_with fail);refine HN.out.mono ?_;rintro e w2 ⟨rfl, b2⟩;have S2 := hid (HS.out.below b2);have B2 := hid (HB.out.trans (b2.mono (by omega)));have K2 := hid (HBk.out.below b2 hgl);have R2 := hid (HR.out.below (b2.mono (by omega)));have d0 : w2.cell? ⟨g, 0, none⟩ = some (.slice A (r.length + 1) c) := (b2.cell (p := ⟨g, 0, none⟩) hgl).trans c0;have e0 := K2.out.frozen 0;have xb2 : w2.cell? ⟨W.heap.size, 0, none⟩ = some (.pointer (some ⟨g, 0, none⟩)) := S2.out.box.cell 0;clear c0 xb HBk HR HS HB HN b2;have tf := zCY (.int .i64 t.kind) (.int .i64 t.pos) (.int .i64 t.n) (str t.text);rcases hi : zA7 (zER ⟨W.heap.size, 0, none⟩ (.pointer (some ⟨g, 0, none⟩))) t.text with _ | v
   · have lk := S2.out.items.look t.text none hi;simp only [Option.getD_none, Option.isSome_none] at lk;go_wp2_with fail
     refine (ky _ g en y (t :: r) 10 S2.out.t).mono ?_;rintro e w3 ⟨rfl, rfl⟩;have hit := zIZ hi d r;obtain ⟨f1, hf1, hf2⟩ := zDV HF.out.1;exact zBR (r := t :: r) _ (by rfl) S2.out.fault (by rw [← HQ.out, HF.out.2, hf2, hit]) B2.out (by have := S2.out.gf; omega)
   have lk := S2.out.items.look t.text (some v) hi;simp only [Option.getD_some, Option.isSome_some] at lk;replace hi := hid hi;(go_wp2_with fail);go_cut [] from 45 to 54 (fun wx => Hid (RdS g gm en W.heap.size y d r wx) ∧ Hid (Below (g - 1) W wx))
   case first =>
    (have hrl : (1 : Int) ≤ (r.length : Int) + 1 := by omega);replace hcl := hid hcl;clear hcz;by_cases hc1 : c = 1
    ·
     obtain rfl := hc1;refine kQ ?_;refine yg [0, 1] ?_;refine xj ?_ ?_
     · refine zY 1 ?_;refine zY 2 ?_;refine zY 3 ?_;refine zY 4 ?_;refine zY 5 ?_;exact m30
     refine vI ?_;refine yg [0, 2] ?_;refine xj ?_ ?_
     · refine zY 2 ?_;refine zY 3 ?_;refine zY 4 ?_;refine zY 5 ?_;exact m30
     refine vI ?_;refine yg [0, 3] ?_;refine xj ?_ ?_
     · refine zY 3 ?_;refine zY 4 ?_;refine zY 5 ?_;exact m30
     refine vI ?_;refine yg [0, 4] ?_;refine xj ?_ ?_
     · refine zY 4 ?_;refine zY 5 ?_;exact m30
     refine vI ?_;refine yg [0, 5] ?_;refine xj ?_ ?_
     · refine zY 5 ?_;exact m30
     refine vI ?_;refine zY 0 ?_;exact m30
    refine kQ ?_;refine yg [0, 1] ?_;refine xj ?_ ?_
    · refine zY 1 ?_;refine zY 2 ?_;refine zY 3 ?_;refine zY 4 ?_;refine zY 5 ?_;exact m29
    refine vI ?_;refine yg [0, 2] ?_;refine xj ?_ ?_
    · refine zY 2 ?_;refine zY 3 ?_;refine zY 4 ?_;refine zY 5 ?_;exact m29
    refine vI ?_;refine yg [0, 3] ?_;refine xj ?_ ?_
    · refine zY 3 ?_;refine zY 4 ?_;refine zY 5 ?_;exact m29
    refine vI ?_;refine yg [0, 4] ?_;refine xj ?_ ?_
    · refine zY 4 ?_;refine zY 5 ?_;exact m29
    refine vI ?_;refine yg [0, 5] ?_;refine xj ?_ ?_
    · refine zY 5 ?_;exact m29
    refine vI ?_;refine zY 0 ?_;exact m29
   case rest =>
    obtain ⟨S3, B3⟩ := hcut;clear d0 e0 xb2 K2 R2 S2 B2 lk tf hcz hcl hgl;obtain ⟨f1, hf1, hf2⟩ := zDV (d := d) HF.out.1;replace hf2 := hid hf2;have HO2 := hid (HO.out.suf (List.suffix_cons t r));(have HL2 : Hid (d.sc.notes.length ≤ 10000 ∧ d.sc.pairs.length ≤ 10000 ∧ d.sc.cad.length ≤ 10000) := by have := HL.out; simp only [Drf.cnt, List.length_cons] at this; exact hid ⟨by omega, by omega, by omega⟩);have x3 : wc.cell? ⟨W.heap.size, 0, none⟩ = some (.pointer (some ⟨g, 0, none⟩)) := S3.out.box.cell 0;rcases zHk hi.out with ⟨ht, rfl⟩ | ⟨ht, rfl⟩ | ⟨ht, rfl⟩ | ⟨ht, rfl⟩
    · have hit : xA t.text d r = some (xy false d r) := by rw [ht]; unfold xA; rw [if_pos rfl]
      replace ht := hid ht;replace hit := hid hit;go_wp2_with fail
      rcases hq5 : xy false d r with ⟨d2, r2⟩ | ⟨r2, k⟩
      · refine (zBX _ _ g gm en y r d (S3.out.box.cell 0) S3.out.t S3.out.d HL2.out.1 HO2.out S3.out.m S3.out.p (by have := S3.out.hg; omega)).mono ?_;exact m25
      refine (zBX _ _ g gm en y r d (S3.out.box.cell 0) S3.out.t S3.out.d HL2.out.1 HO2.out S3.out.m S3.out.p (by have := S3.out.hg; omega)).mono ?_;exact m66
    · have hit : xA t.text d r = some (xy true d r) := by rw [ht]; unfold xA; rw [if_neg (by decide), if_pos rfl]
      replace ht := hid ht;replace hit := hid hit;go_wp2_with fail
      rcases hq5 : xy true d r with ⟨d2, r2⟩ | ⟨r2, k⟩
      · refine (zBA _ _ g gm en y r d (S3.out.box.cell 0) S3.out.t S3.out.d HL2.out.1 HO2.out S3.out.m S3.out.p (by have := S3.out.hg; omega)).mono ?_;exact m25
      refine (zBA _ _ g gm en y r d (S3.out.box.cell 0) S3.out.t S3.out.d HL2.out.1 HO2.out S3.out.m S3.out.p (by have := S3.out.hg; omega)).mono ?_;exact m66
    · have hit : xA t.text d r = some (qI d r) := by rw [ht]; unfold xA; rw [if_neg (by decide), if_neg (by decide), if_pos rfl]
      replace ht := hid ht;replace hit := hid hit;go_wp2_with fail
      rcases hq5 : qI d r with ⟨d2, r2⟩ | ⟨r2, k⟩
      · refine (zF2 _ g gm en y r d S3.out.t S3.out.d HL2.out.2.1 HO2.out S3.out.m S3.out.p (by have := S3.out.hg; omega)).mono ?_;exact m25
      refine (zF2 _ g gm en y r d S3.out.t S3.out.d HL2.out.2.1 HO2.out S3.out.m S3.out.p (by have := S3.out.hg; omega)).mono ?_;exact m66
    (have hit : xA t.text d r = some (zAq d r) := by rw [ht]; unfold xA; rw [if_neg (by decide), if_neg (by decide), if_neg (by decide), if_pos rfl]);replace ht := hid ht;replace hit := hid hit;(go_wp2_with fail);rcases hq5 : zAq d r with ⟨d2, r2⟩ | ⟨r2, k⟩
    · refine (zIh _ g gm en y r d S3.out.t S3.out.d HL2.out.2.2).mono ?_;exact m25
    refine (zIh _ g gm en y r d S3.out.t S3.out.d HL2.out.2.2).mono ?_;exact m66
end Go.Proofs.YtcjhihmaegagdaaGreatDoor
