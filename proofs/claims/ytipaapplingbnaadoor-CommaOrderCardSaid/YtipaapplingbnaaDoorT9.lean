/- The tied card of CommaOrder: for every list of named commas, every vector, every list of counts, every list of takes and every byte that can be read as data, where the package-level variables hold what the program's text lays into them, CommaOrder returns true and its arguments read as before. -/
import Derived.Test.YtipaapplingbnaaDoorT8
import Derived.Test.YtipaapplingbnaaDoorO4
import Derived.Test.YtipaapplingbnaaDoorO5
import Derived.Test.YtipaapplingbnaaDoorKR
namespace Go.Proofs.YtipaapplingbnaaDoor
open Go.RowKit Go.Deep

theorem order_any (w : World) (A A1 At : Option Addr) (c c1 ct : Nat) (l : List Cm) (cs : List Int) (v : Vc) (ts : List Tk) (x : Int) (hx0 : 0 ≤ x) (hx1 : x ≤ 255) (hr : RdN w w.heap.size A l) (hs : ∀ x ∈ l, x.nm.length ≤ 9223372036854775807) (hll : l.length * 64 ≤ 140737488351232) (hlc : l.length ≤ c) (hrc : RdI w w.heap.size A1 cs) (hcl : cs.length * 8 ≤ 140737488351232) (hcc : cs.length ≤ c1) (hrt : RdT w w.heap.size At ts) (htl : ts.length * 32 ≤ 140737488351232) (hT : Tab w) (hE : Errs w) :
    Calls Tryd.prog 4 #[.slice A l.length c, .agg #[.int .i64 v.a, .int .i64 v.b, .int .i64 v.c, .int .i64 v.d, .int .i64 v.e, .int .i64 v.f], .slice A1 cs.length c1, .slice At ts.length ct, .int .u8 x] w fun e w' => e = .returned (.bool true) ∧ Below w.heap.size w w' := by
  by_cases hz : l = []
  · exact order_none w A A1 At c c1 ct l cs v ts x hx0 hx1 hr hs hll hlc hrc hcl hcc hrt htl hT hE hz
  have hn : 0 < l.length := List.length_pos_iff.2 hz
  by_cases he : cntK l v = 0
  · by_cases hc : cs.length = l.length
    · exact order_11 w A A1 At c c1 ct l cs v ts x hx0 hx1 hr hs hll hlc hrc hcl hcc hrt htl hT hE hn he hc
    · exact order_10 w A A1 At c c1 ct l cs v ts x hx0 hx1 hr hs hll hlc hrc hcl hcc hrt htl hT hE hn he hc
  · by_cases hc : cs.length = l.length
    · exact order_01 w A A1 At c c1 ct l cs v ts x hx0 hx1 hr hs hll hlc hrc hcl hcc hrt htl hT hE hn he hc
    · exact order_00 w A A1 At c c1 ct l cs v ts x hx0 hx1 hr hs hll hlc hrc hcl hcc hrt htl hT hE hn he hc

end Go.Proofs.YtipaapplingbnaaDoor
namespace Go.Proofs.YtipaapplingbnaaDoor
open Go.ChangeShapes Go.WideShapes Go.ChangeAt Go.RowKit
section
variable {H : Type} {enc : TypeId × Value → H} {w : World} {held : Bool}
theorem slice_data {t e : TypeId} (ht : Tryd.prog.underlying t = some (.slice e)) {A : Option Addr} {n c : Nat} {d : DataW H} {ps : List MemPlace} (hd : DataW.Trod enc Tryd.prog w 0 (fun _ => true) held t (.slice A n c) d ps) :
    (n = 0 ∧ c = 0) ∨ (n ≤ c ∧ ∃ es sp, d = .slice es sp ∧ es.length = n) := by
  obtain ⟨fuel, hf⟩ := hd
  rcases Go.Deep.open_slice ht hf with ⟨hcs, hx⟩ | ⟨ad, len', cap', m, k, D, Pl, hcs, _, hl, hm, hmm, hx, hi⟩
  · simp [Value.cells] at hcs
    exact .inl ⟨hcs.2.1, hcs.2.2⟩
  · simp [Value.cells] at hcs
    obtain ⟨rfl, rfl, rfl⟩ := hcs
    right
    injection hx with hx1 hx2
    exact ⟨hl, _, _, hx1, by simp⟩
theorem size_arg {ts : List TypeId} {ds : List (DataW H)} (hsz : (DataW.weightsEach Tryd.prog ts ds).all (· ≤ reachBytes) = true) {j : Nat} {t e : TypeId} {b : Nat} {d : DataW H} (ht : ts[j]? = some t) (hd : ds[j]? = some d) (hu : Tryd.prog.underlying t = some (.slice e)) (hb : Tryd.prog.bytesOf e = b) {A : Option Addr} {n c : Nat} {ps : List MemPlace} (h : DataW.Trod enc Tryd.prog w 0 (fun _ => true) held t (.slice A n c) d ps) :
    n * b ≤ 140737488351232 ∧ n ≤ c := by
  rcases slice_data hu h with ⟨rfl, rfl⟩ | ⟨hl, es, sp, rfl, he⟩
  · simp
  · have h1 := sized_slice hsz ht hd hu
    rw [hb] at h1
    have h2 : es.length * b ≤ (es.length + sp.length) * b := Nat.mul_le_mul_right _ (Nat.le_add_right _ _)
    have h3 : reachBytes = 140737488351232 := by decide
    rw [he] at h1 h2
    omega
set_option maxRecDepth 100000 in
theorem open_u8 {r : Reach} {b0 : Nat} {v : Value} {d : DataW H} {ps : List MemPlace} (hval : Value.okWide Tryd.prog w r b0 5 v) (hd : DataW.Trod enc Tryd.prog w 0 (fun _ => true) held 5 v d ps) :
    ∃ x : Int, v = .int .u8 x ∧ 0 ≤ x ∧ x ≤ 255 := by
  obtain ⟨fuel, hf⟩ := hd
  obtain ⟨a0, e0, -, hw⟩ := DataW.trod_int Tryd.underlying5 hf
  have hv : v = .int .u8 a0 := by
    cases v with
    | int k n => simpa [Value.cells] using e0
    | agg cs =>
      exfalso
      simp [Value.okWide, Cell.okWide, Cell.ok, Tryd.underlying5] at hval
    | _ => simp [Value.cells] at e0
  refine ⟨a0, hv, ?_⟩
  have hmn : IntKind.u8.min = 0 := by decide
  have hmx : IntKind.u8.max = 255 := by decide
  simpa [Lit.wf, hmn, hmx] using hw
end
end Go.Proofs.YtipaapplingbnaaDoor
namespace Go.Proofs.YtipaapplingbnaaDoor
open Go.ChangeShapes Go.WideShapes Go.ChangeAt Go.RowKit
set_option maxRecDepth 100000

theorem commaOrder_lifted (os : Os) (started : os.Started) (H : Type) (enc : TypeId × Value → H) :
    ReturnsInHanded {} Tryd.checked os 4 .any (fun w args => (Rows.commaOrderSpec.pre enc Tryd.prog Tryd.f4 [] false w args ∧ laidMetH Tryd.prog Laid0 w) ∧ sizedMet enc Tryd.prog Tryd.f4 (OpenSpec.ofChange Rows.commaOrderSpec) false w args)
      (Rows.commaOrderSpec.post enc Tryd.prog Tryd.f4 false true false false) := by
  refine returnsInHanded_of_change_and (C := Tryd.checked) (X := fun w _ => laidMetH Tryd.prog Laid0 w) (fun _ _ _ hh h => h.of_heap hh) own0 started (by kernel_rfl) Tryd.func4
    (ChangeSpec.witness_shaped (enc := enc) (C := Tryd.checked) (os := os) (X := fun w _ => laidMetH Tryd.prog Laid0 w) false (World.laidAll Tryd.prog os Laid0) #[.slice none 0 0, .agg #[.int .i64 0, .int .i64 0, .int .i64 0, .int .i64 0, .int .i64 0, .int .i64 0], .slice none 0 0, .slice none 0 0, .int .u8 0] 8 (World.laidAll_os _ _ _) (World.shaped_of_ZipB (by kernel_rfl) (by kernel_rfl)) (by kernel_rfl) (by kernel_rfl) (by kernel_rfl) (laid_met0 os _)) ?_
  intro W base args ds gs before hval0 hW _ hsz0 hL _
  have hval : ∀ (j : Nat) t v, Tryd.f4.params[j]? = some t → args[j]? = some v → Value.okWide Tryd.prog W .any base t v := hval0
  have hW' := hW
  obtain ⟨p, q, hA0, hV, rfl, _, _⟩ := hW
  have hA : DataW.TrodAll enc Tryd.prog W 0 (fun _ => true) true Tryd.f4.params.toList args.toList ds p := hA0
  rw [Tryd.params4] at hA hval
  have hsz : (DataW.weightsEach Tryd.prog (Tryd.f4.params.toList ++ Rows.commaOrderSpec.plain.varTypes Tryd.prog) (ds ++ gs)).all (· ≤ reachBytes) = true := hsz0
  clear hsz0
  rw [Tryd.params4] at hsz
  obtain ⟨v0, vs0, d0, ds0, p0, q0, hargs, rfl, rfl, h0, t0⟩ := trodAll_cons hA
  obtain ⟨v1, vs1, d1, ds1, p1, q1, rfl, rfl, rfl, h1, t1⟩ := trodAll_cons t0
  obtain ⟨v2, vs2, d2, ds2, p2, q2, rfl, rfl, rfl, h2, t2⟩ := trodAll_cons t1
  obtain ⟨v3, vs3, d3, ds3, p3, q3, rfl, rfl, rfl, h3, t3⟩ := trodAll_cons t2
  obtain ⟨v4, vs4, d4, ds4, p4, q4, rfl, rfl, rfl, h4, t4⟩ := trodAll_cons t3
  obtain ⟨rfl, rfl, rfl⟩ := trodAll_nil t4
  obtain rfl : args = #[v0, v1, v2, v3, v4] := Array.toList_inj.1 hargs
  obtain ⟨rfl, rfl⟩ := trodVars_none hV
  obtain ⟨l, A0, c0, rfl, r0, s0, n0, k0⟩ := open_list (hval 0 _ v0 rfl rfl) h0
  obtain ⟨⟨v, rfl⟩, rfl⟩ := open_vec (hval 1 _ v1 rfl rfl) h1
  obtain ⟨cs, A2, c2, rfl, r2, b2, n2⟩ := open_ints_ (hval 2 _ v2 rfl rfl) h2
  obtain ⟨ts, A3, c3, rfl, r3, n3⟩ := open_takes (hval 3 _ v3 rfl rfl) h3
  obtain ⟨x, rfl, m0, m1⟩ := open_u8 (hval 4 _ v4 rfl rfl) h4
  obtain ⟨z0, k0⟩ := size_arg hsz (j := 0) (t := 22) (e := 50) (b := 64) rfl rfl Tryd.underlying22 (by kernel_rfl) h0
  obtain ⟨z2, k2⟩ := size_arg hsz (j := 2) (t := 23) (e := 3) (b := 8) rfl rfl Tryd.underlying23 (by kernel_rfl) h2
  obtain ⟨z3, k3⟩ := size_arg hsz (j := 3) (t := 34) (e := 37) (b := 32) rfl rfl Tryd.underlying34 (by kernel_rfl) h3
  clear hA0 hval0 hA
  simp only [List.append_nil] at hW'
  have hlt := hW'.lt
  refine (order_any W A0 A2 A3 c0 c2 c3 l cs v ts x m0 m1 r0 s0 z0 k0 r2 z2 k2 r3 z3 (tab_of_laid hL) (errs_of_laid hL)).mono fun e W' ⟨he, hb⟩ => ?_
  subst he
  exact ⟨_, rfl, _, _, _, [], _, [], hW', trodAll_mk1 (shut_bool Tryd.underlying4 true), (trodAll_cons_mk (Below.trod laidOut0 (by kernel_rfl) (of_decide_eq_true (by kernel_rfl)) h0 hb (fun x hx => hlt x (by (try simp at hx) <;> (try simp [hx])))) (trodAll_cons_mk (Below.trod laidOut0 (by kernel_rfl) (of_decide_eq_true (by kernel_rfl)) h1 hb (fun x hx => hlt x (by (try simp at hx) <;> (try simp [hx])))) (trodAll_cons_mk (Below.trod laidOut0 (by kernel_rfl) (of_decide_eq_true (by kernel_rfl)) h2 hb (fun x hx => hlt x (by (try simp at hx) <;> (try simp [hx])))) (trodAll_cons_mk (Below.trod laidOut0 (by kernel_rfl) (of_decide_eq_true (by kernel_rfl)) h3 hb (fun x hx => hlt x (by (try simp at hx) <;> (try simp [hx])))) (trodAll_cons_mk (Below.trod laidOut0 (by kernel_rfl) (of_decide_eq_true (by kernel_rfl)) h4 hb (fun x hx => hlt x (by (try simp at hx) <;> (try simp [hx])))) trodAll_mk0))))), rfl, hb.frame _, fun h => by cases h⟩

theorem commaOrder_said : Rows.CommaOrderSaid :=
  OpenClaim.holds_of_wide 4 Tryd.f4 rfl rfl rfl rfl rfl rfl rfl ⟨rfl, rfl, rfl, rfl, rfl⟩ rfl rfl rfl rfl rfl (by kernel_rfl) Tryd.func4 (by kernel_rfl)
    (of_decide_eq_true (by kernel_rfl)) (by unfold Func.isWrapper; first | (rw [if_pos (by decide +kernel)]; kernel_rfl) | (rw [if_neg (by decide +kernel)]; exact ⟨rfl, rfl⟩))
    (fun os started H enc _ => commaOrder_lifted os started H enc)

/-- The tied card. -/
theorem commaOrder_card : Rows.CommaOrderCardSaid :=
  Claim7.holds_tied_plain_at .later [] [.data, .data, .data, .data, .sentinel, .sentinel, .pinned] true Rows.commaOrderCard.stood.harness Rows.commaOrderCard.stood.looks
    commaOrder_said (fun _ h => by cases h) (by kernel_rfl) (fun _ h => by cases h) commaOrder_row_tie rfl ⟨rfl, rfl⟩ (by kernel_rfl) rfl
    (fun f fn hf hfn => by
      obtain rfl : f = 4 := Option.some.inj ((show Tryd.prog.funcNamed "schisma/schismalaw08.CommaOrder" = some 4 by kernel_rfl).symm.trans hf) |>.symm
      obtain rfl : fn = Tryd.f4 := (Option.some.inj (Tryd.func4.symm.trans hfn)).symm
      exact ⟨by kernel_rfl, fun j t ht => by
        rw [Tryd.params4] at ht
        have hm : t ∈ [22, 25, 23, 34, 5] := by
          have := Array.mem_of_getElem? ht
          simpa using this
        have hall : ([22, 25, 23, 34, 5].all fun u => !Tryd.prog.wantsStandIn u) = true := by kernel_rfl
        exact (show Tryd.prog.wantsStandIn t = false by simpa using List.all_eq_true.1 hall t hm)⟩)
    (by kernel_rfl)
end Go.Proofs.YtipaapplingbnaaDoor
