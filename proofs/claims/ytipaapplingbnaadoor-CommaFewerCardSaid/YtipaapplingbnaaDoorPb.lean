/- Plain law of CommaFewer. -/
import Derived.Test.YtipaapplingbnaaDoorPa
namespace Go.Proofs.YtipaapplingbnaaDoor

theorem makes_snoc {m : List Cm} {x : Cm} {ds : List Int} {k : Int} {v : Vc} (hd : ds.length = m.length) : MakesV (m ++ [x]) (ds ++ [k]) v ↔ ∀ j, k * x.v.at j + comb ds (m.map fun x => x.v.at) j = v.at j := by
  have e : ∀ j, comb (ds ++ [k]) ((m ++ [x]).map fun x => x.v.at) j = k * x.v.at j + comb ds (m.map fun x => x.v.at) j := fun j => by
    have := comb_mid ds [] k (m.map fun x => x.v.at) [] x.v.at (by simpa using hd) j
    simpa using this
  constructor
  · intro h j
    rw [← e j]
    exact h.2 j
  · intro h
    refine ⟨by simp [hd], fun j => ?_⟩
    rw [e j]
    exact h j
theorem makes_zero {m : List Cm} {x : Cm} {ds : List Int} {v : Vc} (h : MakesV m ds v) : MakesV (m ++ [x]) (ds ++ [0]) v := by
  rw [makes_snoc h.1]
  intro j
  rw [Int.zero_mul, Int.zero_add]
  exact h.2 j
theorem inRange_snoc (ds : List Int) : inRange (ds ++ [0]) = inRange ds := by
  unfold inRange
  rw [List.all_append]
  simp
theorem ValidL.init {m : List Cm} {x : Cm} (h : ValidL (m ++ [x])) (hm : 1 ≤ m.length) : ValidL m where
  lo := hm
  hi := by have := h.hi; simp at this; omega
  nodup := by
    have := h.nodup
    unfold nms at this ⊢
    rw [List.map_append, List.nodup_append] at this
    exact this.1
  names := fun y hy => h.names y (by simp [hy])
  vecs := fun y hy => h.vecs y (by simp [hy])
  vol := by
    have h1 := of_decide_eq_true h.vol
    refine decide_eq_true (Nat.le_trans ?_ h1)
    have := vol_take ((m ++ [x]).map Cm.v) m.length
    rw [List.map_append, List.take_left' (by simp)] at this
    rw [List.map_append]
    exact this
  ind := by
    have := h.ind
    rw [List.map_append] at this
    exact Indep.init this
theorem fewer_law {m : List Cm} {x : Cm} {v : Vc} (h : ValidL (m ++ [x])) (hm : 1 ≤ m.length) :
    (cntK (m ++ [x]) v ≠ 0 → cntK m v = cntK (m ++ [x]) v ∨ (cntK (m ++ [x]) v = 3 ∧ cntK m v = 4)) ∧
    (cntK (m ++ [x]) v = 0 → ∃ ds k, ds.length = m.length ∧ cntV (m ++ [x]) v = ds ++ [k] ∧ (k ≠ 0 → cntK m v = 4) ∧ (k = 0 → cntK m v = 0 ∧ cntV m v = ds)) := by
  have hV := h.init hm
  by_cases hv : v.ok = true
  · have hno : ∀ {ds k}, ds.length = m.length → MakesV (m ++ [x]) (ds ++ [k]) v → k ≠ 0 → ¬ ∃ es, MakesV m es v := by
      rintro ds k hd hmk hk ⟨es, he⟩
      have := makes_inj h hmk (makes_zero (x := x) he)
      have hl := List.append_inj_right this (hd.trans he.1.symm)
      injection hl with hl
      exact hk hl
    by_cases hc : ∃ cs, MakesV (m ++ [x]) cs v
    · obtain ⟨cs, hmk⟩ := hc
      obtain ⟨ds, k, hd, rfl⟩ : ∃ ds k, ds.length = m.length ∧ cs = ds ++ [k] := by
        have hl := hmk.1
        rw [List.length_append, List.length_singleton] at hl
        have hne : cs ≠ [] := fun e => by rw [e] at hl; simp at hl
        refine ⟨cs.dropLast, cs.getLast hne, by rw [List.length_dropLast]; omega, (List.dropLast_concat_getLast hne).symm⟩
      have h1 := cnt_makes ⟨h, hv⟩ hmk
      have hz : k = 0 → MakesV m ds v := fun e => by
        subst e
        refine ⟨hd, fun j => ?_⟩
        have := (makes_snoc hd).1 hmk j
        rwa [Int.zero_mul, Int.zero_add] at this
      by_cases hk : k = 0
      · have h2 := cnt_makes ⟨hV, hv⟩ (hz hk)
        subst hk
        rw [inRange_snoc] at h1
        rw [h1.1, h1.2, h2.1, h2.2]
        rcases inRange ds with _ | _
        · exact ⟨fun _ => .inl rfl, fun e => absurd e (by simp)⟩
        · exact ⟨fun _ => .inl rfl, fun _ => ⟨ds, 0, hd, rfl, fun e => absurd rfl e, fun _ => ⟨rfl, rfl⟩⟩⟩
      · have h2 := cnt_none ⟨hV, hv⟩ (hno hd hmk hk)
        rw [h1.1, h1.2, h2.1]
        rcases inRange (ds ++ [k]) with _ | _
        · exact ⟨fun _ => .inr ⟨rfl, rfl⟩, fun e => absurd e (by simp)⟩
        · exact ⟨fun e => absurd rfl e, fun _ => ⟨ds, k, hd, rfl, fun _ => rfl, fun e => absurd e hk⟩⟩
    · have h1 := cnt_none ⟨h, hv⟩ hc
      have h2 := cnt_none ⟨hV, hv⟩ (fun ⟨ds, hd⟩ => hc ⟨_, makes_zero (x := x) hd⟩)
      rw [h1.1, h2.1]
      exact ⟨fun _ => .inl rfl, fun e => absurd e (by decide)⟩
  · have h1 := cnt_arg (l := m ++ [x]) (v := v) (fun e => hv e.2)
    have h2 := cnt_arg (l := m) (v := v) (fun e => hv e.2)
    rw [h1.1, h2.1]
    exact ⟨fun _ => .inl rfl, fun e => absurd e (by decide)⟩

end Go.Proofs.YtipaapplingbnaaDoor
