/- Walks: comma.Valid. -/
import Derived.Test.YtipaapplingbnaaDoorCl
namespace Go.Proofs.YtipaapplingbnaaDoor
open Go.RowKit Go.Deep Go.Maps Go.WideMaps

/-- A valid list of named commas. -/
structure ValidL (l : List Cm) : Prop where
  lo : 1 ≤ l.length
  hi : l.length ≤ 6
  nodup : (nms l).Nodup
  names : ∀ x ∈ l, isName x.nm = true
  vecs : ∀ x ∈ l, x.v.ok = true
  vol : volOk (l.map Cm.v) = true
  ind : Indep 6 (l.map fun x => x.v.at)
noncomputable def validB (l : List Cm) : Bool := @decide (ValidL l) (Classical.propDecidable _)
theorem validB_true {l : List Cm} (h : ValidL l) : validB l = true := by unfold validB; simp [h]
theorem validB_false {l : List Cm} (h : ¬ ValidL l) : validB l = false := by unfold validB; simp [h]
theorem validB_iff {l : List Cm} : validB l = true ↔ ValidL l := by unfold validB; simp
theorem map_vat (l : List Cm) : (l.map Cm.v).map Vc.at = l.map fun x => x.v.at := by rw [List.map_map]; rfl

theorem OwnV.alloc {w : World} {base : Nat} {v : Value} {l : List Vc} (h : OwnV w base v l) (o : Obj) : OwnV (w.alloc o) base v l := World.ownsRow.alloc h o
def VaRel (w : World) (l : List Cm) (r i : Value) (wx : World) : Prop :=
  ∃ k : Nat, k ≤ l.length ∧ i = .int .i64 k ∧ Below w.heap.size w wx ∧ Hid (OwnV wx w.heap.size r ((l.take k).map Cm.v)) ∧ Hid (∀ x ∈ l.take k, isName x.nm = true ∧ x.v.ok = true)

set_option maxRecDepth 100000 in
set_option maxHeartbeats 4000000 in
theorem valid_any (w : World) (A : Option Addr) (c : Nat) (l : List Cm) (hr : RdN w w.heap.size A l) (hs : ∀ x ∈ l, x.nm.length ≤ 9223372036854775807) (hll : l.length ≤ 9223372036854775807) :
    Calls Tryd.prog 12 #[.slice A l.length c] w fun e w' => e = .returned (.bool (validB l)) ∧ Below w.heap.size w w' := by
  by_cases h1 : l.length < 1
  · rw [validB_false (fun h => by have := h.lo; omega)]
    clear hr hs
    go_enter Tryd.func12, Tryd.ntmps12
    go_wp2_with fail
    go_ret
    exact ⟨rfl, Below.refl _ _⟩
  by_cases h6 : 6 < l.length
  · rw [validB_false (fun h => by have := h.hi; omega)]
    clear hr hs
    go_enter Tryd.func12, Tryd.ntmps12
    go_wp2_with fail
    go_ret
    exact ⟨rfl, Below.refl _ _⟩
  have HN := Lib.hid (names_any w A c l hr (by omega) hs)
  have hsz := namesK_size (nms l) l.length (by simp [nms])
  have hnl : (nms l).length = l.length := by simp [nms]
  rw [List.take_of_length_le (by omega)] at hsz
  by_cases hnd : (nms l).Nodup
  case neg =>
    rw [validB_false (fun h => hnd h.nodup)]
    have hlt : Maps.size (namesK (nms l) l.length) < l.length := by
      have := hsz.1
      rcases Nat.lt_or_ge (Maps.size (namesK (nms l) l.length)) l.length with h | h
      · exact h
      · exact absurd (hsz.2.1 (by omega)) hnd
    have HSZ : ∀ (w' : World) (g : Nat), NamesAt w' g (nms l) l.length → ∀ ty, (Builtin.len_ #[59] ty #[.map (some g)]).run Tryd.prog w' = .ok (.int .i64 (Maps.size (namesK (nms l) l.length) : Nat)) w' := fun w' g h ty => World.ownsMap.len h Tryd.underlying59 ty
    replace HSZ := Lib.hid HSZ
    clear hr hs hsz hnl hnd
    generalize Maps.size (namesK (nms l) l.length) = z at *
    go_enter Tryd.func12, Tryd.ntmps12
    go_wp2_with (go_at_call 23; refine HN.out.mono ?_; rintro e w1 ⟨b1, g, rfl, hg, hM⟩; have hln := HSZ.out _ _ hM; replace b1 := Lib.hid b1; clear hM)
    go_ret
    exact ⟨rfl, b1.out⟩
  have hzq : Maps.size (namesK (nms l) l.length) = l.length := hsz.2.2 hnd
  have HSZ : ∀ (w' : World) (g : Nat), NamesAt w' g (nms l) l.length → ∀ ty, (Builtin.len_ #[59] ty #[.map (some g)]).run Tryd.prog w' = .ok (.int .i64 (l.length : Nat)) w' := fun w' g h ty => by
    have := World.ownsMap.len h Tryd.underlying59 ty
    rw [hzq] at this
    exact this
  replace HSZ := Lib.hid HSZ
  have HR := Lib.hid hr
  have HS := Lib.hid hs
  have HND := Lib.hid hnd
  clear hr hs hsz hnl hnd hzq
  go_enter Tryd.func12, Tryd.ntmps12
  go_wp2_with (go_at_call 23; refine HN.out.mono ?_; rintro e w1 ⟨b1, g, rfl, hg, hM⟩; have hln := HSZ.out _ _ hM; replace b1 := Lib.hid b1; clear hM)
  go_loopw [3, 26] (fun r i wx => VaRel w l r i wx) (fun _ i _ => l.length - (intOf i).toNat)
  case atStart => exact ⟨0, Nat.zero_le _, rfl, b1.out, OwnV.start _ _, fun x hx => by simp at hx⟩
  case round =>
    clear hln
    obtain ⟨k, hk, rfl, hB, HO, HK⟩ := hrel
    by_cases hlt : k < l.length
    · obtain ⟨ad, rfl, had, hca⟩ := (HR.out.up hB).at hlt
      obtain ⟨q0, q1, q2, q3, q4, q5, q6⟩ := hca
      have HNM := Lib.hid fun w1 => named_any w1 l[k].nm (HS.out _ (List.getElem_mem hlt))
      have HIV := Lib.hid fun w1 => interval_any w1 l[k].v
      have HTK := Lib.hid (show l.take (k + 1) = l.take k ++ [l[k]] from List.take_succ_eq_append_getElem hlt)
      have HME := Lib.hid (List.getElem_mem hlt)
      generalize hx : l[k] = x at *
      clear hx
      have hz := hB.size
      by_cases hn : isName x.nm = true
      · by_cases hv : x.v.ok = true
        · rw [hn] at HNM
          rw [hv] at HIV
          have HK2 : Hid (∀ y ∈ l.take (k + 1), isName y.nm = true ∧ y.v.ok = true) := fun y hy => by
            rw [HTK.out] at hy
            rcases List.mem_append.1 hy with hy | hy
            · exact HK.out y hy
            · obtain rfl := List.mem_singleton.1 hy; exact ⟨hn, hv⟩
          clear hn hv
          go_wp2_with (first
            | (go_at_call 24; refine (HNM.out _).mono ?_; rintro e w2 ⟨rfl, b2⟩; have K2 := Lib.hid ((Blk.new wr 50 x.cells).below b2 (by simp)); replace b2 := Lib.hid b2; have d1 := K2.out.cell 1; have d2 := K2.out.cell 2; have d3 := K2.out.cell 3; have d4 := K2.out.cell 4; have d5 := K2.out.cell 5; have d6 := K2.out.cell 6; simp at d1 d2 d3 d4 d5 d6)
            | (go_at_call 20; refine (HIV.out _).mono ?_; rintro e w3 ⟨rfl, b3⟩; have K3 := Lib.hid (K2.out.below b3 K2.out.lt); have HB3 := Lib.hid (below_on (((Below.refl wr.heap.size wr).alloc (Nat.le_refl _) (.cells x.cells 50)).trans (b2.out.mono (by simp))) b3); have HO3 := Lib.hid ((HO.out.on HB3.out).alloc (.cells x.v.cells 25)); have hz3 := HB3.out.size; replace b3 := Lib.hid b3; have f1 := K3.out.cell 1; have f2 := K3.out.cell 2; have f3 := K3.out.cell 3; have f4 := K3.out.cell 4; have f5 := K3.out.cell 5; have f6 := K3.out.cell 6; simp at f1 f2 f3 f4 f5 f6)
            | (at_builtin; go_must (refine wpList_appv _ rfl (.tmp 40) (.tmp 43) rfl w.heap.size _ _ rfl HO3.out (w3.heap.size + 1) (some ⟨w3.heap.size, 0, none⟩) 1 x.v rfl (shows_vec w3 x.v) (by simp; omega) (by simp; omega) ?_); intro v4 w4 ho4 hg4 _; replace ho4 := Lib.hid ho4; replace hg4 := Lib.hid hg4))
          go_roundw
          case rel => exact ⟨k + 1, by omega, by go_num, below_grown ((below_on hB HB3.out).alloc (below_on hB HB3.out).size _) hg4.out (by simp; omega) (fun g h => HO.out.block g h), by rw [HTK.out, List.map_append]; exact ho4.out, HK2⟩
          case measure => simp [intOf]; omega
        · have HF := Lib.hid (validB_false (l := l) fun h => hv (h.vecs x HME.out))
          rw [hn] at HNM
          rw [Bool.eq_false_iff.2 hv] at HIV
          clear hn hv
          go_wp2_with (first
            | (go_at_call 24; refine (HNM.out _).mono ?_; rintro e w2 ⟨rfl, b2⟩; have K2 := Lib.hid ((Blk.new wr 50 x.cells).below b2 (by simp)); replace b2 := Lib.hid b2; have d1 := K2.out.cell 1; have d2 := K2.out.cell 2; have d3 := K2.out.cell 3; have d4 := K2.out.cell 4; have d5 := K2.out.cell 5; have d6 := K2.out.cell 6; simp at d1 d2 d3 d4 d5 d6)
            | (go_at_call 20; refine (HIV.out _).mono ?_; rintro e w3 ⟨rfl, b3⟩; have K3 := Lib.hid (K2.out.below b3 K2.out.lt); have HB3 := Lib.hid (below_on (((Below.refl wr.heap.size wr).alloc (Nat.le_refl _) (.cells x.cells 50)).trans (b2.out.mono (by simp))) b3); have hz3 := HB3.out.size; replace b3 := Lib.hid b3; have f1 := K3.out.cell 1; have f2 := K3.out.cell 2; have f3 := K3.out.cell 3; have f4 := K3.out.cell 4; have f5 := K3.out.cell 5; have f6 := K3.out.cell 6; simp at f1 f2 f3 f4 f5 f6))
          go_ret
          exact ⟨by rw [HF.out]; rfl, below_on hB HB3.out⟩
      · have HF := Lib.hid (validB_false (l := l) fun h => hn (h.names x HME.out))
        rw [Bool.eq_false_iff.2 hn] at HNM
        clear hn
        go_wp2_with (go_at_call 24; refine (HNM.out _).mono ?_; rintro e w2 ⟨rfl, b2⟩; have K2 := Lib.hid ((Blk.new wr 50 x.cells).below b2 (by simp)); replace b2 := Lib.hid b2; have d1 := K2.out.cell 1; have d2 := K2.out.cell 2; have d3 := K2.out.cell 3; have d4 := K2.out.cell 4; have d5 := K2.out.cell 5; have d6 := K2.out.cell 6; simp at d1 d2 d3 d4 d5 d6)
        go_ret
        exact ⟨by rw [HF.out]; rfl, below_on hB (((Below.refl wr.heap.size wr).alloc (Nat.le_refl _) (.cells x.cells 50)).trans (b2.out.mono (by simp)))⟩
    · obtain rfl : k = l.length := by omega
      obtain ⟨Av, cv, rfl, -, hrv⟩ := HO.out.form
      rw [List.take_length] at *
      have hml : (l.map Cm.v).length = l.length := by simp
      have hvok : ∀ v ∈ l.map Cm.v, v.ok = true := fun v hv => by
        obtain ⟨x, hx, rfl⟩ := List.mem_map.1 hv
        exact (HK.out x hx).2
      have HVL : Hid (volOk (l.map Cm.v) = true → Indep 6 (l.map fun x => x.v.at) → validB l = true) := fun h1 h2 => validB_true ⟨by omega, by omega, HND.out, fun x hx => (HK.out x hx).1, fun x hx => (HK.out x hx).2, h1, h2⟩
      rcases hvo : volOk (l.map Cm.v) with _ | _
      · have HRK := Lib.hid (rank_bad wr Av cv _ hrv (by omega) hvok hvo)
        have HF := Lib.hid (validB_false (l := l) fun h => by have := h.vol; rw [hvo] at this; cases this)
        rw [hml] at HRK ⊢
        clear hvok hrv HO hvo
        go_wp2_with (go_at_call 25; refine HRK.out.mono ?_; rintro e w5 ⟨rfl, b5⟩; replace b5 := Lib.hid b5)
        go_ret
        exact ⟨by rw [HF.out]; rfl, below_on hB b5.out⟩
      · have HRK := Lib.hid (rank_good wr Av cv _ hrv (by omega) hvok hvo)
        rw [hml, map_vat] at HRK
        rw [hml]
        have HVL2 := Lib.hid (HVL.out hvo)
        have HVF := Lib.hid fun (h : ¬ Indep 6 (l.map fun x => x.v.at)) => validB_false (l := l) fun hv => h hv.ind
        clear hvok hrv HO hvo HVL
        by_cases hI : Indep 6 (l.map fun x => x.v.at)
        · have HT := Lib.hid (HVL2.out hI)
          have HI := Lib.hid hI
          clear hI
          go_wp2_with (go_at_call 25; refine HRK.out.mono ?_; rintro e w5 ⟨b5, n, rfl, hn⟩; replace b5 := Lib.hid b5; have hnn := hn.2 HI.out; clear hn; subst hnn)
          go_ret
          exact ⟨by rw [HT.out]; rfl, below_on hB b5.out⟩
        · have HT := Lib.hid (HVF.out hI)
          have HI := Lib.hid hI
          clear hI
          go_wp2_with (go_at_call 25; refine HRK.out.mono ?_; rintro e w5 ⟨b5, n, rfl, hn⟩; replace b5 := Lib.hid b5; have hnn : ((n : Int) == (l.length : Int)) = false := (by rw [beq_eq_false_iff_ne]; intro e; exact HI.out (hn.1 (by omega))); clear hn)
          go_ret
          exact ⟨by rw [HT.out]; rfl, below_on hB b5.out⟩

end Go.Proofs.YtipaapplingbnaaDoor
