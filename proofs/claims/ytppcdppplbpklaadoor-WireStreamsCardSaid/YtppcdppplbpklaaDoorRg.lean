/- The tied card of WireStreams: for every slice of messages, message and cut that can be read as data, where the package-level variables hold what the program's text lays into them, WireStreams returns true and its arguments read as before. -/
import Derived.Test.YtppcdppplbpklaaDoorR0
import Derived.Test.YtppcdppplbpklaaDoorR1
import Derived.Test.YtppcdppplbpklaaDoorR3
import Derived.Test.YtppcdppplbpklaaDoorLg
namespace Go.Proofs.YtppcdppplbpklaaDoor
open Go.ChangeShapes Go.WideShapes Go.ChangeAt Go.RowKit
set_option maxRecDepth 100000

theorem wireStreams_lifted (os : Os) (started : os.Started) (H : Type) (enc : TypeId × Value → H) :
    ReturnsInHanded {} Tryd.checked os 10 .any (fun w args => (Rows.wireStreamsSpec.pre enc Tryd.prog Tryd.f10 [] false w args ∧ laidMetH Tryd.prog Laid0 w) ∧ sizedMet enc Tryd.prog Tryd.f10 (OpenSpec.ofChange Rows.wireStreamsSpec) false w args)
      (Rows.wireStreamsSpec.post enc Tryd.prog Tryd.f10 false true false false) := by
  refine returnsInHanded_of_change_and (C := Tryd.checked) (X := fun w _ => laidMetH Tryd.prog Laid0 w) (fun _ _ _ hh h => h.of_heap hh) own0 started (by kernel_rfl) Tryd.func10
    (ChangeSpec.witness_shaped (enc := enc) (C := Tryd.checked) (os := os) (X := fun w _ => laidMetH Tryd.prog Laid0 w) false (World.doorLaid Tryd.prog 400 os) #[.slice none 0 0, .agg #[.int .i64 0, .int .i64 0, .int .i64 0, .int .i64 0, .int .i64 0, .int .i64 0, .int .i64 0, .int .i64 0, .int .i64 0, .int .i64 0], .int .u64 0] 8 rfl (World.shaped_of_RefB (by kernel_rfl) (by kernel_rfl)) (by kernel_rfl) (by kernel_rfl) (by kernel_rfl) (door_met0 os _)) ?_
  intro W base args ds gs before hval0 hW _ hsz0 hL _
  have hsz : (DataW.weightsEach Tryd.prog (Tryd.f10.params.toList ++ Rows.wireStreamsSpec.plain.varTypes Tryd.prog) (ds ++ gs)).all (· ≤ reachBytes) = true := hsz0
  have hval : ∀ (j : Nat) t v, Tryd.f10.params[j]? = some t → args[j]? = some v → Value.okWide Tryd.prog W .any base t v := hval0
  have hW' := hW
  obtain ⟨p, q, hA0, hV, rfl, _, _⟩ := hW
  have hA : DataW.TrodAll enc Tryd.prog W 0 (fun _ => true) true Tryd.f10.params.toList args.toList ds p := hA0
  rw [Tryd.params10] at hA hval hsz
  obtain ⟨v0, v1, v2, d0, d1, d2, p0, p1, p2, hargs, rfl, rfl, h0, h1, h2⟩ := trodAll_three hA
  subst hargs
  obtain ⟨rfl, rfl⟩ := trodVars_none hV
  obtain ⟨ms, A, n, c, rfl, hms, hsh⟩ := open_msgs (hval 0 _ v0 rfl rfl) h0
  obtain ⟨⟨m, rfl⟩, rfl⟩ := open_msg (hval 1 _ v1 rfl rfl) h1
  obtain ⟨a, rfl, rfl, ha⟩ := open_u64 (hval 2 _ v2 rfl rfl) h2
  clear hA0 hval0 hsz0
  simp only [List.append_nil] at hW'
  have hlt := hW'.lt
  refine (streams_any ms A n c m a W hsh hms ha (nibs_of_laid hL) (errT_of_laid hL)).mono fun e W' ⟨he, hb⟩ => ?_
  subst he
  exact ⟨_, rfl, _, _, _, [], _, [], hW', trodAll_mk1 (shut_bool Tryd.underlying4 true), trodAll_mk3 (Below.trod laidOut0 (by kernel_rfl) (of_decide_eq_true (by kernel_rfl)) h0 hb (fun x hx => hlt x (by (try simp at hx) <;> (try simp [hx])))) (Below.trod laidOut0 (by kernel_rfl) (of_decide_eq_true (by kernel_rfl)) h1 hb (fun x hx => hlt x (by (try simp at hx) <;> (try simp [hx])))) (Below.trod laidOut0 (by kernel_rfl) (of_decide_eq_true (by kernel_rfl)) h2 hb (fun x hx => hlt x (by (try simp at hx) <;> (try simp [hx])))), rfl, hb.frame _, fun h => by cases h⟩

theorem wireStreams_said : Rows.WireStreamsSaid :=
  OpenClaim.holds_of_wide 10 Tryd.f10 rfl rfl rfl rfl rfl rfl rfl ⟨rfl, rfl, rfl, rfl, rfl⟩ rfl rfl rfl rfl rfl (by kernel_rfl) Tryd.func10 (by kernel_rfl)
    (of_decide_eq_true (by kernel_rfl)) (by unfold Func.isWrapper; first | (rw [if_pos (by decide +kernel)]; kernel_rfl) | (rw [if_neg (by decide +kernel)]; exact ⟨rfl, rfl⟩))
    (fun os started H enc _ => wireStreams_lifted os started H enc)

/-- The tied card. -/
theorem wireStreams_card : Rows.WireStreamsCardSaid :=
  Claim7.holds_tied_plain_at .later [] [.handle, .data] true Rows.wireStreamsCard.stood.harness Rows.wireStreamsCard.stood.looks
    wireStreams_said (fun _ h => by cases h) (by kernel_rfl) (fun _ h => by cases h) wireStreams_row_tie rfl ⟨rfl, rfl⟩ (by kernel_rfl) rfl
    (fun f fn hf hfn => by
      obtain rfl : f = 10 := Option.some.inj ((show Tryd.prog.funcNamed "schisma/schismalaw28.WireStreams" = some 10 by kernel_rfl).symm.trans hf) |>.symm
      obtain rfl : fn = Tryd.f10 := (Option.some.inj (Tryd.func10.symm.trans hfn)).symm
      exact ⟨by kernel_rfl, fun j t ht => by
        rw [Tryd.params10] at ht
        have hm : t ∈ [44, 25, 36] := by
          have := Array.mem_of_getElem? ht
          simpa using this
        have hall : ([44, 25, 36].all fun u => !Tryd.prog.wantsStandIn u) = true := by kernel_rfl
        exact (show Tryd.prog.wantsStandIn t = false by simpa using List.all_eq_true.1 hall t hm)⟩)
    (by kernel_rfl)
end Go.Proofs.YtppcdppplbpklaaDoor
