/- The tied card of WireBursts: for every byte slice, place and four changes that can be read as data, where the package-level variables hold what the program's text lays into them, WireBursts returns true and its arguments read as before. -/
import Derived.Test.YtppcdppplbpklaaDoorR0
import Derived.Test.YtppcdppplbpklaaDoorR1
import Derived.Test.YtppcdppplbpklaaDoorR2
import Derived.Test.YtppcdppplbpklaaDoorLe
namespace Go.Proofs.YtppcdppplbpklaaDoor
open Go.ChangeShapes Go.WideShapes Go.ChangeAt Go.RowKit
set_option maxRecDepth 100000

theorem wireBursts_lifted (os : Os) (started : os.Started) (H : Type) (enc : TypeId × Value → H) :
    ReturnsInHanded {} Tryd.checked os 6 .any (fun w args => (Rows.wireBurstsSpec.pre enc Tryd.prog Tryd.f6 [] false w args ∧ laidMetH Tryd.prog Laid0 w) ∧ sizedMet enc Tryd.prog Tryd.f6 (OpenSpec.ofChange Rows.wireBurstsSpec) false w args)
      (Rows.wireBurstsSpec.post enc Tryd.prog Tryd.f6 false true false false) := by
  refine returnsInHanded_of_change_and (C := Tryd.checked) (X := fun w _ => laidMetH Tryd.prog Laid0 w) (fun _ _ _ hh h => h.of_heap hh) own0 started (by kernel_rfl) Tryd.func6
    (ChangeSpec.witness_shaped (enc := enc) (C := Tryd.checked) (os := os) (X := fun w _ => laidMetH Tryd.prog Laid0 w) false (World.doorLaid Tryd.prog 400 os) #[.slice none 0 0, .int .u64 0, .agg #[.int .u8 0, .int .u8 0, .int .u8 0, .int .u8 0]] 8 rfl (World.shaped_of_RefB (by kernel_rfl) (by kernel_rfl)) (by kernel_rfl) (by kernel_rfl) (by kernel_rfl) (door_met0 os _)) ?_
  intro W base args ds gs before hval0 hW _ hsz0 hL _
  have hsz : (DataW.weightsEach Tryd.prog (Tryd.f6.params.toList ++ Rows.wireBurstsSpec.plain.varTypes Tryd.prog) (ds ++ gs)).all (· ≤ reachBytes) = true := hsz0
  have hval : ∀ (j : Nat) t v, Tryd.f6.params[j]? = some t → args[j]? = some v → Value.okWide Tryd.prog W .any base t v := hval0
  have hW' := hW
  obtain ⟨p, q, hA0, hV, rfl, _, _⟩ := hW
  have hA : DataW.TrodAll enc Tryd.prog W 0 (fun _ => true) true Tryd.f6.params.toList args.toList ds p := hA0
  rw [Tryd.params6] at hA hval hsz
  obtain ⟨v0, v1, v2, d0, d1, d2, p0, p1, p2, hargs, rfl, rfl, h0, h1, h2⟩ := trodAll_three hA
  subst hargs
  obtain ⟨rfl, rfl⟩ := trodVars_none hV
  obtain ⟨l, A, c, rfl, hc, r1, sl1⟩ := open_bytes (hval 0 _ v0 rfl rfl) h0
  obtain ⟨a, rfl, rfl, ha⟩ := open_u64 (hval 1 _ v1 rfl rfl) h1
  obtain ⟨y0, y1, y2, y3, rfl, rfl⟩ := open_four (hval 2 _ v2 rfl rfl) h2
  have l1 := bytes_reach hsz (j := 0) rfl rfl sl1
  clear hA0 hval0 hsz0
  simp only [List.append_nil] at hW'
  have hlt := hW'.lt
  refine (bursts_any l A c a y0 y1 y2 y3 W r1 l1 hc ha (nibs_of_laid hL) (errT_of_laid hL)).mono fun e W' ⟨he, hb⟩ => ?_
  subst he
  exact ⟨_, rfl, _, _, _, [], _, [], hW', trodAll_mk1 (shut_bool Tryd.underlying4 true), trodAll_mk3 (Below.trod laidOut0 (by kernel_rfl) (of_decide_eq_true (by kernel_rfl)) h0 hb (fun x hx => hlt x (by (try simp at hx) <;> (try simp [hx])))) (Below.trod laidOut0 (by kernel_rfl) (of_decide_eq_true (by kernel_rfl)) h1 hb (fun x hx => hlt x (by (try simp at hx) <;> (try simp [hx])))) (Below.trod laidOut0 (by kernel_rfl) (of_decide_eq_true (by kernel_rfl)) h2 hb (fun x hx => hlt x (by (try simp at hx) <;> (try simp [hx])))), rfl, hb.frame _, fun h => by cases h⟩

theorem wireBursts_said : Rows.WireBurstsSaid :=
  OpenClaim.holds_of_wide 6 Tryd.f6 rfl rfl rfl rfl rfl rfl rfl ⟨rfl, rfl, rfl, rfl, rfl⟩ rfl rfl rfl rfl rfl (by kernel_rfl) Tryd.func6 (by kernel_rfl)
    (of_decide_eq_true (by kernel_rfl)) (by unfold Func.isWrapper; first | (rw [if_pos (by decide +kernel)]; kernel_rfl) | (rw [if_neg (by decide +kernel)]; exact ⟨rfl, rfl⟩))
    (fun os started H enc _ => wireBursts_lifted os started H enc)

/-- The tied card. -/
theorem wireBursts_card : Rows.WireBurstsCardSaid :=
  Claim7.holds_tied_plain_at .later [] [.handle, .data] true Rows.wireBurstsCard.stood.harness Rows.wireBurstsCard.stood.looks
    wireBursts_said (fun _ h => by cases h) (by kernel_rfl) (fun _ h => by cases h) wireBursts_row_tie rfl ⟨rfl, rfl⟩ (by kernel_rfl) rfl
    (fun f fn hf hfn => by
      obtain rfl : f = 6 := Option.some.inj ((show Tryd.prog.funcNamed "schisma/schismalaw28.WireBursts" = some 6 by kernel_rfl).symm.trans hf) |>.symm
      obtain rfl : fn = Tryd.f6 := (Option.some.inj (Tryd.func6.symm.trans hfn)).symm
      exact ⟨by kernel_rfl, fun j t ht => by
        rw [Tryd.params6] at ht
        have hm : t ∈ [26, 36, 38] := by
          have := Array.mem_of_getElem? ht
          simpa using this
        have hall : ([26, 36, 38].all fun u => !Tryd.prog.wantsStandIn u) = true := by kernel_rfl
        exact (show Tryd.prog.wantsStandIn t = false by simpa using List.all_eq_true.1 hall t hm)⟩)
    (by kernel_rfl)
end Go.Proofs.YtppcdppplbpklaaDoor
