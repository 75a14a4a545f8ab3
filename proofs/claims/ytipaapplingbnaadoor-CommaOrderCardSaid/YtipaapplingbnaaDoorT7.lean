/- Several texts in one: Pa, Pd, Hd, Oa, O0. -/
import Derived.Test.YtipaapplingbnaaDoorHc
import Derived.Test.YtipaapplingbnaaDoorHa
import Derived.Deep.RegionHeld3
import Derived.Deep.DeepCutAuto
namespace Go.Proofs.YtipaapplingbnaaDoor
open Go.RowKit Go.Deep

theorem tot_makes {l : List Cm} {cs : List Int} (hc : cs.length = l.length) : MakesV l cs (tot l cs l.length) := ⟨hc, fun j => (tot_all l cs hc j).symm⟩
theorem makes_tot {l : List Cm} {cs : List Int} {v : Vc} (h : MakesV l cs v) : tot l cs l.length = v := by
  refine Vc.ext_at fun j _ => ?_
  rw [tot_all l cs h.1 j]
  exact h.2 j
theorem sum_good {l : List Cm} {cs : List Int} (h : sumE l cs = 0) : accB l cs = true ∧ (tot l cs l.length).ok = true ∧ sumV l cs = tot l cs l.length := by
  unfold sumE at h
  rcases ha : accB l cs with _ | _
  · rw [ha] at h; simp at h
  · rw [ha] at h
    rcases ho : (tot l cs l.length).ok with _ | _
    · rw [ho] at h; simp at h
    · exact ⟨rfl, rfl, by unfold sumV; rw [ha, ho]; rfl⟩
theorem sum_of {l : List Cm} {cs : List Int} {v : Vc} (hL : ValidL l) (hv : v.ok = true) (h : MakesV l cs v) (hi : inRange cs = true) : sumE l cs = 0 ∧ sumV l cs = v := by
  have ha : accB l cs = true := accB_iff.2 ⟨hi, h.1, hL⟩
  unfold sumE sumV
  rw [ha, makes_tot h, hv]
  exact ⟨rfl, rfl⟩
/-- Counts of what Sum returns. -/
theorem cnt_sum {l : List Cm} {cs : List Int} (h : sumE l cs = 0) : cntK l (sumV l cs) = 0 ∧ cntV l (sumV l cs) = cs := by
  obtain ⟨ha, ho, e⟩ := sum_good h
  obtain ⟨hi, hlen, hL⟩ := accB_iff.1 ha
  rw [e]
  have := cnt_makes ⟨hL, ho⟩ (tot_makes hlen)
  rw [hi] at this
  exact this
theorem cnt_good {l : List Cm} {v : Vc} (h : cntK l v = 0) : ValidL l ∧ v.ok = true ∧ MakesV l (cntV l v) v ∧ inRange (cntV l v) = true := by
  by_cases h1 : ValidL l ∧ v.ok = true
  · by_cases h2 : ∃ cs, MakesV l cs v
    · obtain ⟨cs, hm⟩ := h2
      have := cnt_makes h1 hm
      rcases hi : inRange cs with _ | _
      · rw [hi] at this; rw [this.1] at h; simp at h
      · rw [hi] at this
        rw [this.2]
        exact ⟨h1.1, h1.2, hm, hi⟩
    · rw [(cnt_none h1 h2).1] at h; cases h
  · rw [(cnt_arg h1).1] at h; cases h
/-- Sum of what Counts returns. -/
theorem sum_cnt {l : List Cm} {v : Vc} (h : cntK l v = 0) : sumE l (cntV l v) = 0 ∧ sumV l (cntV l v) = v := by
  obtain ⟨hL, hv, hm, hi⟩ := cnt_good h
  exact sum_of hL hv hm hi
theorem cnt_small (l : List Cm) (v : Vc) : (cntV l v).length ≤ 6 := by
  by_cases h1 : ValidL l ∧ v.ok = true
  · have h6 := h1.1.hi
    by_cases h2 : ∃ cs, MakesV l cs v
    · obtain ⟨cs, hm⟩ := h2
      rw [(cnt_makes h1 hm).2]
      split
      · rw [hm.1]; exact h6
      · simp
    · rw [(cnt_none h1 h2).2]; simp
  · rw [(cnt_arg h1).2]; simp

end Go.Proofs.YtipaapplingbnaaDoor
namespace Go.Proofs.YtipaapplingbnaaDoor

/-- A list that begins at its k-th element. -/
def rot {α : Type} (k : Nat) (l : List α) : List α := l.drop k ++ l.take k
theorem rot_perm {α : Type} (k : Nat) (l : List α) : (rot k l).Perm l := by
  unfold rot
  exact (List.perm_append_comm).trans (by rw [List.take_append_drop])
theorem rot_len {α : Type} (k : Nat) (l : List α) : (rot k l).length = l.length := (rot_perm k l).length_eq
theorem rot_map {α β : Type} (f : α → β) (k : Nat) (l : List α) : (rot k l).map f = rot k (l.map f) := by
  unfold rot
  rw [List.map_append, List.map_drop, List.map_take]
theorem vol_perm {l m : List Vc} (h : l.Perm m) : vol l = vol m := by
  have hc : ∀ (v : Vc) (r : List Vc), vol (v :: r) = fac v * vol r := fun v r => by
    have := vol_fold r (1 * fac v)
    rw [Nat.one_mul] at this
    show (v :: r).foldl (fun a v => a * fac v) 1 = _
    rw [List.foldl_cons, Nat.one_mul]
    exact this
  induction h with
  | nil => rfl
  | cons v _ ih => rw [hc, hc, ih]
  | swap v u r => rw [hc, hc, hc, hc, ← Nat.mul_assoc, ← Nat.mul_assoc, Nat.mul_comm (fac u)]
  | trans _ _ h1 h2 => rw [h1, h2]
theorem ValidL.perm {l m : List Cm} (hp : l.Perm m) (h : ValidL l) : ValidL m where
  lo := by rw [← hp.length_eq]; exact h.lo
  hi := by rw [← hp.length_eq]; exact h.hi
  nodup := ((hp.map Cm.nm).nodup_iff).1 h.nodup
  names := fun x hx => h.names x (hp.mem_iff.2 hx)
  vecs := fun x hx => h.vecs x (hp.mem_iff.2 hx)
  vol := by
    have h1 := of_decide_eq_true h.vol
    refine decide_eq_true ?_
    rw [← vol_perm (hp.map Cm.v)]
    exact h1
  ind := Indep.perm (hp.map _) h.ind
theorem valid_rot (k : Nat) (l : List Cm) : validB (rot k l) = validB l := by
  by_cases h : ValidL l
  · rw [validB_true h, validB_true (h.perm (rot_perm k l).symm)]
  · rw [validB_false h, validB_false (fun h2 => h (h2.perm (rot_perm k l)))]
theorem comb_append (a b : List Int) (rs ss : List (Nat → Int)) (h : a.length = rs.length) (j : Nat) : comb (a ++ b) (rs ++ ss) j = comb a rs j + comb b ss j := by
  induction a generalizing rs with
  | nil =>
    cases rs with
    | nil => simp [comb]
    | cons r rs => simp at h
  | cons x a ih =>
    cases rs with
    | nil => simp at h
    | cons r rs =>
      have := ih rs (by simpa using h)
      simp only [List.cons_append, comb, this]
      omega
theorem comb_rot (k : Nat) (cs : List Int) (rs : List (Nat → Int)) (h : cs.length = rs.length) (j : Nat) : comb (rot k cs) (rot k rs) j = comb cs rs j := by
  unfold rot
  rw [comb_append _ _ _ _ (by simp [h])]
  have := comb_append (cs.take k) (cs.drop k) (rs.take k) (rs.drop k) (by simp [h]) j
  rw [List.take_append_drop, List.take_append_drop] at this
  omega
theorem makes_rot {l : List Cm} {cs : List Int} {v : Vc} (k : Nat) (h : cs.length = l.length) : MakesV (rot k l) (rot k cs) v ↔ MakesV l cs v := by
  have e : ∀ j, comb (rot k cs) ((rot k l).map fun x => x.v.at) j = comb cs (l.map fun x => x.v.at) j := fun j => by
    rw [rot_map, comb_rot _ _ _ (by simp [h])]
  constructor
  · intro hm
    exact ⟨h, fun j => (e j).symm.trans (hm.2 j)⟩
  · intro hm
    exact ⟨by rw [rot_len, rot_len]; exact h, fun j => (e j).trans (hm.2 j)⟩
theorem rot_range (k : Nat) (cs : List Int) : inRange (rot k cs) = inRange cs := by
  have : ∀ (a b : List Int), inRange (a ++ b) = (inRange a && inRange b) := fun a b => by unfold inRange; rw [List.all_append]
  unfold rot
  rw [this, Bool.and_comm, ← this, List.take_append_drop]
/-- Turning back. -/
theorem rot_back {α : Type} (k : Nat) (l : List α) (_hk : k ≤ l.length) : rot (l.length - k) (rot k l) = l := by
  unfold rot
  have h1 : (l.drop k).length = l.length - k := by simp
  rw [← h1, List.drop_left, List.take_left, List.take_append_drop]
theorem cnt_rot {l : List Cm} (k : Nat) (hk : k ≤ l.length) (v : Vc) : cntK (rot k l) v = cntK l v ∧ (cntK l v = 0 → cntV (rot k l) v = rot k (cntV l v) ∧ (cntV l v).length = l.length) := by
  by_cases h1 : ValidL l ∧ v.ok = true
  · have h1' : ValidL (rot k l) ∧ v.ok = true := ⟨h1.1.perm (rot_perm k l).symm, h1.2⟩
    by_cases h2 : ∃ cs, MakesV l cs v
    · obtain ⟨cs, hm⟩ := h2
      have a := cnt_makes h1 hm
      have b := cnt_makes h1' ((makes_rot k hm.1).2 hm)
      rw [rot_range] at b
      rw [a.1, a.2, b.1, b.2]
      refine ⟨rfl, fun h => ?_⟩
      rcases hi : inRange cs with _ | _
      · rw [hi] at h; simp at h
      · exact ⟨rfl, hm.1⟩
    · have h2' : ¬ ∃ cs, MakesV (rot k l) cs v := fun ⟨ds, hd⟩ => by
        refine h2 ⟨rot (l.length - k) ds, ?_⟩
        have hdl : ds.length = (rot k l).length := hd.1
        have := (makes_rot (l.length - k) hdl).2 hd
        rwa [rot_back k l hk] at this
      have a := cnt_none h1 h2
      have b := cnt_none h1' h2'
      rw [a.1, b.1]
      exact ⟨rfl, fun h => absurd h (by decide)⟩
  · have h1' : ¬ (ValidL (rot k l) ∧ v.ok = true) := fun h => h1 ⟨h.1.perm (rot_perm k l), h.2⟩
    rw [(cnt_arg h1).1, (cnt_arg h1').1]
    exact ⟨rfl, fun h => absurd h (by decide)⟩
theorem sum_rot {l : List Cm} {cs : List Int} (k : Nat) (h : cs.length = l.length) : sumE (rot k l) (rot k cs) = sumE l cs ∧ sumV (rot k l) (rot k cs) = sumV l cs := by
  have ha : accB (rot k l) (rot k cs) = accB l cs := by
    unfold accB
    rw [rot_range, rot_len, rot_len, valid_rot]
  have ht : tot (rot k l) (rot k cs) (rot k l).length = tot l cs l.length := makes_tot ((makes_rot k h).2 (tot_makes h))
  unfold sumE sumV
  rw [ha, ht]
  exact ⟨rfl, rfl⟩
/-- A take for the turned list. -/
def mvT (n k : Nat) (t : Tk) : Tk := if t.n ≠ 0 ∧ 0 ≤ t.c ∧ t.c < n then ⟨t.s, (t.c + n - k) % n, t.n, t.d⟩ else t
theorem wrong_mv {n k i : Nat} {t : Tk} (hn : 0 < n) : wrongT n i (mvT n k t) = wrongT n i t := by
  unfold mvT
  split
  · rename_i h
    obtain ⟨h0, h1, h2⟩ := h
    have m1 := Int.emod_nonneg (t.c + n - k) (b := (n : Int)) (by omega)
    have m2 := Int.emod_lt_of_pos (t.c + n - k) (b := (n : Int)) (by omega)
    unfold wrongT
    generalize (t.c + n - k) % (n : Int) = q at *
    have e1 : decide (q < 0) = decide (t.c < 0) := by rw [decide_eq_decide]; omega
    have e2 : decide ((n : Int) ≤ q) = decide ((n : Int) ≤ t.c) := by rw [decide_eq_decide]; omega
    simp only [e1, e2, if_neg h0]
  · rfl
theorem okT_mv {n k : Nat} (ts : List Tk) (hn : 0 < n) : okT n (ts.map (mvT n k)) = okT n ts := by
  unfold okT
  rw [decide_eq_decide, List.length_map]
  have e : ∀ i, i < ts.length → (ts.map (mvT n k)).getD i ⟨0, 0, 0, 0⟩ = mvT n k (ts.getD i ⟨0, 0, 0, 0⟩) := fun i hi => by
    rw [getD_at (by rw [List.length_map]; exact hi), getD_at hi, List.getElem_map]
  constructor
  · intro h i hi
    have := h i hi
    rw [e i hi, wrong_mv hn] at this
    exact this
  · intro h i hi
    rw [e i hi, wrong_mv hn]
    exact h i hi
theorem rot_at {α : Type} (k : Nat) (l : List α) (hk : k < l.length) (d : α) (c : Nat) (hc : c < l.length) : (rot k l).getD ((c + l.length - k) % l.length) d = l.getD c d := by
  have hm : (c + l.length - k) % l.length < l.length := Nat.mod_lt _ (by omega)
  rw [getD_at (by rw [rot_len]; exact hm), getD_at hc]
  by_cases h : k ≤ c
  · have e : (c + l.length - k) % l.length = c - k := by
      rw [show c + l.length - k = (c - k) + l.length by omega, Nat.add_mod_right, Nat.mod_eq_of_lt (by omega)]
    simp only [e]
    unfold rot
    rw [List.getElem_append_left (by simp; omega), List.getElem_drop]
    congr 1
    omega
  · have e : (c + l.length - k) % l.length = l.length - k + c := by
      rw [Nat.mod_eq_of_lt (by omega)]; omega
    simp only [e]
    unfold rot
    rw [List.getElem_append_right (by simp)]
    simp
theorem shV_mv {l : List Cm} {ts : List Tk} {k : Nat} (hk : k < l.length) (ht : okT l.length ts = true) (i : Nat) (hi : i ≤ ts.length) : shV (rot k l) (ts.map (mvT l.length k)) i = shV l ts i := by
  induction i with
  | zero => rfl
  | succ i ih =>
    obtain ⟨c0, c1, -⟩ := wrong_small (of_decide_eq_true ht i (by omega))
    have e : (ts.map (mvT l.length k)).getD i ⟨0, 0, 0, 0⟩ = mvT l.length k (ts.getD i ⟨0, 0, 0, 0⟩) := by
      rw [getD_at (by rw [List.length_map]; omega), getD_at (show i < ts.length by omega), List.getElem_map]
    rw [shV, shV, ih (by omega), e]
    generalize ts.getD i ⟨0, 0, 0, 0⟩ = t at *
    unfold mvT
    by_cases h0 : t.n = 0
    · rw [if_neg (by simp [h0])]
      refine Vc.ext_at fun j _ => ?_
      rw [Vc.addm_at, Vc.addm_at, h0, Int.zero_mul, Int.zero_mul]
    · rw [if_pos ⟨h0, c0, c1⟩]
      have e2 : (((t.c + (l.length : Int) - (k : Int)) % (l.length : Int)).toNat) = (t.c.toNat + l.length - k) % l.length := by
        have : (t.c + (l.length : Int) - (k : Int)) = ((t.c.toNat + l.length - k : Nat) : Int) := by omega
        rw [this, ← Int.natCast_emod, Int.toNat_natCast]
      show Vc.addm _ t.n ((rot k l).getD (((t.c + (l.length : Int) - (k : Int)) % (l.length : Int)).toNat) ⟨[], zeroV⟩).v = _
      rw [e2, rot_at k l hk _ t.c.toNat (by omega)]
theorem walk_mv {l : List Cm} {ts : List Tk} {k : Nat} (hk : k < l.length) : walkE (rot k l) (ts.map (mvT l.length k)) = walkE l ts ∧ walkV (rot k l) (ts.map (mvT l.length k)) = walkV l ts := by
  have h1 := valid_rot k l
  have h2 : okT (rot k l).length (ts.map (mvT l.length k)) = okT l.length ts := by rw [rot_len]; exact okT_mv ts (by omega)
  rcases ho : okT l.length ts with _ | _
  · unfold walkE walkV
    rw [h1, h2, ho]
    simp
  · have h3 : ∀ i, i ≤ ts.length → shV (rot k l) (ts.map (mvT l.length k)) i = shV l ts i := fun i hi => shV_mv hk ho i hi
    have h4 : okS (rot k l) (ts.map (mvT l.length k)) = okS l ts := by
      unfold okS
      rw [decide_eq_decide, List.length_map]
      exact ⟨fun h i hi => by rw [← h3 i hi]; exact h i hi, fun h i hi => by rw [h3 i hi]; exact h i hi⟩
    have h5 : (List.range (ts.length + 1)).map (shV (rot k l) (ts.map (mvT l.length k))) = (List.range (ts.length + 1)).map (shV l ts) :=
      List.map_congr_left fun i hi => h3 i (by have := List.mem_range.1 hi; omega)
    unfold walkE walkV
    rw [h1, h2, h4, List.length_map, h5]
    exact ⟨rfl, rfl⟩

end Go.Proofs.YtipaapplingbnaaDoor
namespace Go.Proofs.YtipaapplingbnaaDoor
open Go.RowKit Go.Deep

set_option maxRecDepth 100000 in
set_option maxHeartbeats 2000000 in
theorem ints_q (w : World) (A B : Option Addr) (c d : Nat) (l m : List Int) (hl : RdI w w.heap.size A l) (hm : RdI w w.heap.size B m) (hll : l.length ≤ 9223372036854775806) :
    Calls Tryd.prog 11 #[.slice A l.length c, .slice B m.length d] w fun e w' => e = .returned (.bool (decide (l = m))) ∧ ∃ n, w' = w.drewN n := by
  have HL := Lib.hid hl
  have HM := Lib.hid hm
  clear hl hm
  by_cases hlen : l.length = m.length
  · have hn : ((l.length : Int) != (m.length : Int)) = false := by rw [bne_eq_false_iff_eq, hlen]
    have HLEN := Lib.hid hlen
    obtain ⟨R, hR⟩ : ∃ R, decide (l = m) = R := ⟨_, rfl⟩
    rw [hR]
    have HR := Lib.hid hR
    clear hlen hR
    go_enter Tryd.func11, Tryd.ntmps11
    go_wp2_with fail
    clear hn
    go_loopw [5] (fun i wx => ∃ k : Nat, k ≤ l.length ∧ i = .int .i64 k ∧ Hid (∃ n, wx = w.drewN n) ∧ Hid (∀ j, j < k → l.getD j 0 = m.getD j 0)) (fun i _ => l.length - (intOf i).toNat)
    case atStart => exact ⟨0, Nat.zero_le _, rfl, ⟨0, rfl⟩, fun j hj => absurd hj (by omega)⟩
    case round =>
      obtain ⟨k, hk, rfl, HB, HE⟩ := hrel
      have hbb : Below w.heap.size w wr := by
        obtain ⟨n, e⟩ := HB.out
        rw [e]
        exact below_dN (Below.refl _ _) n
      have HBB := Lib.hid hbb
      have HDN : Hid (∀ q, ∃ n, wr.drewN q = w.drewN n) := fun q => by
        obtain ⟨n, e⟩ := HB.out
        exact ⟨n + q, by rw [e, World.drewN_drewN]⟩
      clear hbb
      by_cases hlt : k < l.length
      · obtain ⟨a, rfl, ha, qa⟩ := (HL.out.up HBB.out).at hlt
        have hlm : k < m.length := by have := HLEN.out; omega
        obtain ⟨b, rfl, hb, qb⟩ := (HM.out.up HBB.out).at hlm
        have HRF : Hid (l.getD k 0 ≠ m.getD k 0 → R = false) := fun h => by
          rw [← HR.out, decide_eq_false_iff_not]
          intro e
          exact h (by rw [e])
        have HEX : Hid (l.getD k 0 = m.getD k 0 → ∀ j, j < k + 1 → l.getD j 0 = m.getD j 0) := fun h j hj => by
          rcases Nat.lt_or_ge j k with h' | h'
          · exact HE.out j h'
          · obtain rfl : j = k := by omega
            exact h
        generalize l.getD k 0 = x at *
        generalize m.getD k 0 = y at *
        by_cases hxy : x = y
        · have HN := Lib.hid (HEX.out hxy)
          have h1 : (x != y) = false := by rw [bne_eq_false_iff_eq]; exact hxy
          clear hxy HEX HRF
          go_wp2_with fail
          go_quiet (fail)
          go_wp2_with fail
          go_roundw
          case rel => exact ⟨k + 1, by omega, by go_num, HDN.out _, HN.out⟩
          case measure => simp [intOf]; omega
        · have HN := Lib.hid (HRF.out hxy)
          have h1 : (x != y) = true := by rw [bne_iff_ne]; exact hxy
          clear hxy HEX HRF
          go_wp2_with fail
          go_quiet (fail)
          go_wp2_with fail
          go_ret
          exact ⟨by rw [HN.out]; rfl, HDN.out _⟩
      · obtain rfl : k = l.length := by omega
        have HN : Hid (R = true) := by
          show _ = _
          rw [← HR.out, decide_eq_true_eq]
          exact getD_ext HLEN.out HE.out
        go_wp2_with fail
        go_ret
        exact ⟨by rw [HN.out]; rfl, HB.out⟩
  · have hn : ((l.length : Int) != (m.length : Int)) = true := by rw [bne_iff_ne]; omega
    have HF : Hid (decide (l = m) = false) := by show _ = _; rw [decide_eq_false_iff_not]; intro e; exact hlen (by rw [e])
    clear hlen
    go_enter Tryd.func11, Tryd.ntmps11
    go_wp2_with fail
    go_ret
    exact ⟨by rw [HF.out]; rfl, ⟨0, rfl⟩⟩


end Go.Proofs.YtipaapplingbnaaDoor
namespace Go.Proofs.YtipaapplingbnaaDoor
open Go.RowKit Go.Deep

theorem named_info : (Tryd.prog.info? 50).map (fun i => (i.zero, i.size, i.bytes)) = some (some (.agg #[.string ⟨#[]⟩, .int .i64 0, .int .i64 0, .int .i64 0, .int .i64 0, .int .i64 0, .int .i64 0]), 7, 64) := by kernel_rfl
theorem take_info : (Tryd.prog.info? 37).map (fun i => (i.zero, i.size, i.bytes)) = some (some (.agg #[.int .i64 0, .int .i64 0, .int .i64 0, .int .i64 0]), 4, 32) := by kernel_rfl
theorem Tk.cs_one (t : Tk) : ∀ u ∈ t.cs, u.oneCell' = true := by
  intro u hu
  simp [Tk.cs] at hu
  rcases hu with rfl | rfl | rfl | rfl <;> rfl
section
variable {α : Type} (cf : α → List Value) (k : Nat)
theorem rcells_drop (hcf : ∀ x, (cf x).length = k) (l : List α) (i : Nat) : rcells cf (l.drop i) = (rcells cf l).drop (i * k) := by
  induction i generalizing l with
  | zero => simp
  | succ i ih =>
    rcases l with _ | ⟨x, l⟩
    · simp [rcells]
    · rw [List.drop_succ_cons, ih l, Nat.succ_mul, Nat.add_comm, ← List.drop_drop]
      have : rcells cf (x :: l) = cf x ++ rcells cf l := by simp [rcells]
      rw [this, List.drop_left' (hcf x)]
end
theorem icells_drop (l : List Int) (k : Nat) : (icells l).drop k = icells (l.drop k) := by simp [icells, List.map_drop]
theorem icells_take (l : List Int) (k : Nat) : (icells l).take k = icells (l.take k) := by simp [icells, List.map_take]
theorem RdI.from_ {w : World} {B : Nat} {A : Option Addr} {l : List Int} (h : RdI w B A l) {k cap : Nat} (hk : k ≤ l.length) (hc : l.length ≤ cap) : Shows w B 1 (if cap = k then A else A.map (·.add k)) (l.length - k) (icells (l.drop k)) := by
  have := Shows.cut (k := k) (cap := cap) h hk hc
  rw [Nat.mul_one, icells_drop] at this
  exact this
theorem RdI.take_ {w : World} {B : Nat} {A : Option Addr} {l : List Int} (h : RdI w B A l) {k : Nat} (hk : k ≤ l.length) : Shows w B 1 A k (icells (l.take k)) := by
  have := Shows.head (k := k) h hk
  rw [Nat.mul_one, icells_take] at this
  exact this
theorem RdN.from_ {w : World} {B : Nat} {A : Option Addr} {l : List Cm} (h : RdN w B A l) {k cap : Nat} (hk : k ≤ l.length) (hc : l.length ≤ cap) : Shows w B 7 (if cap = k then A else A.map (·.add (k * 7))) (l.length - k) (rcells Cm.cs (l.drop k)) := by
  have := Shows.cut (k := k) (cap := cap) h hk hc
  rw [← rcells_drop Cm.cs 7 Cm.cs_len] at this
  exact this
theorem RdN.take_ {w : World} {B : Nat} {A : Option Addr} {l : List Cm} (h : RdN w B A l) {k : Nat} (hk : k ≤ l.length) : Shows w B 7 A k (rcells Cm.cs (l.take k)) := by
  have := Shows.head (k := k) h hk
  rw [← rcells_take Cm.cs 7 Cm.cs_len] at this
  exact this
set_option maxRecDepth 10000 in
theorem slice_from (t e : TypeId) (size : Nat) (hu : Tryd.prog.underlying t = some (.slice e)) (he : Tryd.prog.elem t = e) (hi : (Tryd.prog.info? e).map (·.size) = some size) (A : Option Addr) (n c p : Nat) (h : p ≤ n) (w : World) : (Instr.slice t (.slice A n c) (some (.int .i64 (p : Int))) none none).run Tryd.prog w = .ok (.slice (if c = p then A else A.map (·.add (p * size))) (n - p) (c - p)) w := by
  obtain ⟨i0, hi0, hz⟩ := Option.map_eq_some_iff.1 hi
  rw [run_slice_l (P := Tryd.prog) (w := w) t A n c (by rw [he]; exact hu) .i64 (p : Int) (by omega) (by omega)]
  rw [he]
  simp [sizeOf, typeInfo, hi0, hz, sliced, Result.andThen]
/-- A row of named commas of the call's own. -/
def OwnN (w : World) (base : Nat) (v : Value) (l : List Cm) : Prop := w.ownsRow base 50 7 v l.length (rcells Cm.cs l)
theorem OwnN.form {w : World} {base n : Nat} {v : Value} {l : List Cm} (hn : l.length = n) (h : OwnN w base v l) : ∃ A c, v = .slice A n c ∧ RdN w w.heap.size A l := by
  subst hn
  have h' := h
  rcases h'.2 with ⟨rfl, h0⟩ | ⟨g, cap, cur, rfl, -, -, hc, -⟩
  · obtain rfl : l = [] := List.eq_nil_of_length_eq_zero h0
    exact ⟨none, 0, rfl, RdN.nil _ _ _⟩
  · exact ⟨_, cap, rfl, Shows.of_own h⟩
theorem OwnN.two {w : World} {base k j : Nat} {v : Value} {a b : List Cm} (ha : a.length = k) (hb : b.length = j) (h : w.ownsRow base 50 7 v (0 + k + j) ([] ++ rcells Cm.cs a ++ rcells Cm.cs b)) : OwnN w base v (a ++ b) := by
  subst ha hb
  unfold OwnN
  rw [List.length_append, rcells_append]
  rw [Nat.zero_add] at h
  exact h
/-- A row of integers of the call's own. -/
def OwnZ (w : World) (base : Nat) (v : Value) (l : List Int) : Prop := w.ownsRow base 3 1 v l.length (icells l)
theorem OwnZ.form {w : World} {base n : Nat} {v : Value} {l : List Int} (hn : l.length = n) (h : OwnZ w base v l) : ∃ A c, v = .slice A n c ∧ RdI w w.heap.size A l := by
  subst hn
  have h' := h
  rcases h'.2 with ⟨rfl, h0⟩ | ⟨g, cap, cur, rfl, -, -, hc, -⟩
  · obtain rfl : l = [] := List.eq_nil_of_length_eq_zero h0
    exact ⟨none, 0, rfl, RdI.nil _ _ _⟩
  · exact ⟨_, cap, rfl, Shows.of_own h⟩
theorem OwnZ.two {w : World} {base k j : Nat} {v : Value} {a b : List Int} (ha : a.length = k) (hb : b.length = j) (h : w.ownsRow base 3 1 v (0 + k + j) ([] ++ icells a ++ icells b)) : OwnZ w base v (a ++ b) := by
  subst ha hb
  unfold OwnZ
  rw [List.length_append, icells_append]
  rw [Nat.zero_add] at h
  exact h
/-- A row of takes of the call's own. -/
def OwnT (w : World) (base : Nat) (v : Value) (l : List Tk) : Prop := w.ownsRow base 37 4 v l.length (rcells Tk.cs l)
theorem OwnT.start (w : World) (base : Nat) : OwnT w base (.slice none 0 0) [] := ⟨rfl, Or.inl ⟨rfl, rfl⟩⟩
theorem OwnT.form {w : World} {base n : Nat} {v : Value} {l : List Tk} (hn : l.length = n) (h : OwnT w base v l) : ∃ A c, v = .slice A n c ∧ RdT w w.heap.size A l := by
  subst hn
  have h' := h
  rcases h'.2 with ⟨rfl, h0⟩ | ⟨g, cap, cur, rfl, -, -, hc, -⟩
  · obtain rfl : l = [] := List.eq_nil_of_length_eq_zero h0
    exact ⟨none, 0, rfl, Shows.nil_⟩
  · exact ⟨_, cap, rfl, Shows.of_own h⟩
theorem OwnT.snoc {w : World} {base n : Nat} {v : Value} {l : List Tk} {u : Tk} (hn : l.length = n) (h : w.ownsRow base 37 4 v (n + 1) (rcells Tk.cs l ++ u.cs)) : OwnT w base v (l ++ [u]) := by
  subst hn
  unfold OwnT
  rw [List.length_append, rcells_append, rcells_single]
  exact h
theorem owned_new (w : World) (e : TypeId) (size base : Nat) (h : base ≤ w.heap.size) : (w.alloc (.cells #[] e)).ownsRow base e size (.slice (some ⟨w.heap.size, 0, none⟩) 0 0) 0 [] :=
  World.ownsRow_made (e := e) (size := size) w #[] 0 h (by simp) (by simp)
theorem owned_new1 (w : World) (o : Obj) (e : TypeId) (size base : Nat) (h : base ≤ w.heap.size) : ((w.alloc o).alloc (.cells #[] e)).ownsRow base e size (.slice (some ⟨w.heap.size + 1, 0, none⟩) 0 0) 0 [] := by
  have := owned_new (w.alloc o) e size base (by simp; omega)
  rw [World.size_alloc] at this
  exact this
/-- An append inside a region that draws, under a guard or none; wherever the source lies. -/
theorem step_apg {P : Program} (w : World) {ops : Array Oper} {o : Oper} {a : Act} {K : Act → World → Prop} {Q : Exit → Act → World → Prop} {E : Prop} (hw : Region.wanted o (yielded ops a.tmps) = true) (s x : Operand) (t e : TypeId) (z : Value) (size bytes : Nat)
    (ho : o.op = .call { callee := .builtin .append, args := #[s, x], argTypes := #[t, t] }) (ht : P.underlying t = some (.slice e)) (hinf : (P.info? e).map (fun i => (i.zero, i.size, i.bytes)) = some (some z, size, bytes)) (hzs : z.cells.size = size) (hsz : 0 < size)
    (base : Nat) (v : Value) (n : Nat) (xs : List Value) (hs : a.eval s = v) (hown : w.ownsRow base e size v n xs)
    (A : Option Addr) (m c : Nat) (news : List Value) (hx : a.eval x = .slice A m c) (hr : ∃ B, Shows w B size A m news) (h1 : ∀ u ∈ news, u.oneCell' = true)
    (h63 : n + m ≤ maxLen) (hbytes : (n + m) * bytes ≤ 140737488355328) (hbase : base ≤ w.heap.size)
    (h : ∀ v' w', w'.ownsRow base e size v' (n + m) (xs ++ news) → w.grownBy w' v.ownBlock → (v'.ownBlock = v.ownBlock ∨ v'.ownBlock = some w.heap.size) → K (a.put o.dst v') w') :
    if Region.wanted o (yielded ops a.tmps) = true then Oper.wp P o a w K Q else E := by
  obtain ⟨B, hr⟩ := hr
  rw [if_pos hw]
  obtain ⟨i0, hi, hz0, hz1, hz2⟩ := info_parts hinf
  exact wp_app w s x _ ho base _ i0 _ size bytes ht hi hz0 hz1 hz2 hzs hsz v n xs hs hown B A m c news hx hr h1 h63 hbytes hbase h
theorem slice_ints (A : Option Addr) (n c p : Nat) (h : p ≤ n) (w : World) : (Instr.slice 23 (.slice A n c) (some (.int .i64 (p : Int))) none none).run Tryd.prog w = .ok (.slice (if c = p then A else A.map (·.add p)) (n - p) (c - p)) w := by
  have := slice_from 23 3 1 Tryd.underlying23 (by kernel_rfl) (by kernel_rfl) A n c p h w
  simpa using this
theorem shows_new1 (w : World) (o : Obj) (cs : Array Value) (t : TypeId) (n size : Nat) (hn : cs.size = n * size) : Shows ((w.alloc o).alloc (.cells cs t)) (w.heap.size + 2) size (some ⟨w.heap.size + 1, 0, none⟩) n cs.toList := by
  have h := shows_new (w.alloc o) cs t n size hn
  rw [World.size_alloc] at h
  exact h
theorem take_mv {f : Tk → Tk} {ts : List Tk} {j : Nat} (h : j < ts.length) (d : Tk) : (ts.map f).take (j + 1) = (ts.map f).take j ++ [f (ts.getD j d)] := by
  rw [List.take_succ_eq_append_getElem (by rw [List.length_map]; exact h), List.getElem_map, List.getD_eq_getElem?_getD, List.getElem?_eq_getElem h]
  rfl
theorem mv_yes {n k : Nat} {t : Tk} (h1 : t.n ≠ 0) (h2 : 0 ≤ t.c) (h3 : t.c < n) : mvT n k t = ⟨t.s, (t.c + n - k) % n, t.n, t.d⟩ := by unfold mvT; rw [if_pos ⟨h1, h2, h3⟩]
theorem mv_no {n k : Nat} {t : Tk} (h : t.n = 0 ∨ t.c < 0 ∨ (n : Int) ≤ t.c) : mvT n k t = t := by unfold mvT; rw [if_neg (by omega)]
theorem rot_mem {α : Type} {k : Nat} {l : List α} {x : α} (h : x ∈ rot k l) : x ∈ l := (rot_perm k l).mem_iff.1 h

end Go.Proofs.YtipaapplingbnaaDoor
namespace Go.Proofs.YtipaapplingbnaaDoor
open Go.RowKit Go.Deep

theorem ends_cntc {w w' : World} {l : List Cm} {v : Vc} {e : Ending} (h : CntEnds w l v e w') : Below w.heap.size w w' ∧ ∃ A c, e = .returned (.tuple #[.slice A (cntV l v).length c, .int .i64 (cntK l v)]) ∧ RdI w' w'.heap.size A (cntV l v) ∧ (cntV l v).length ≤ c := h
theorem ends_walk {w w' : World} {l : List Cm} {ts : List Tk} {e : Ending} (h : WalkEnds w l ts e w') : Below w.heap.size w w' ∧ ∃ A c, e = .returned (.tuple #[.slice A (walkV l ts).length c, .int .i64 (walkE l ts)]) ∧ RdV w' w'.heap.size A (walkV l ts) := h
theorem walkV_len (l : List Cm) (ts : List Tk) : (walkV l ts).length ≤ 16 := by
  unfold walkV
  split
  · rename_i h
    simp only [Bool.and_eq_true, decide_eq_true_eq] at h
    rw [List.length_map, List.length_range]
    omega
  · simp
set_option maxRecDepth 100000 in
set_option maxHeartbeats 8000000 in
theorem order_none (w : World) (A A1 At : Option Addr) (c c1 ct : Nat) (l : List Cm) (cs : List Int) (v : Vc) (ts : List Tk) (x : Int) (_hx0 : 0 ≤ x) (_hx1 : x ≤ 255) (hr : RdN w w.heap.size A l) (hs : ∀ x ∈ l, x.nm.length ≤ 9223372036854775807) (hll : l.length * 64 ≤ 140737488351232) (_hlc : l.length ≤ c) (_hrc : RdI w w.heap.size A1 cs) (_hcl : cs.length * 8 ≤ 140737488351232) (_hcc : cs.length ≤ c1) (_hrt : RdT w w.heap.size At ts) (_htl : ts.length * 32 ≤ 140737488351232) (hT : Tab w) (hE : Errs w) (hz : l = []) :
    Calls Tryd.prog 4 #[.slice A l.length c, .agg #[.int .i64 v.a, .int .i64 v.b, .int .i64 v.c, .int .i64 v.d, .int .i64 v.e, .int .i64 v.f], .slice A1 cs.length c1, .slice At ts.length ct, .int .u8 x] w fun e w' => e = .returned (.bool true) ∧ Below w.heap.size w w' := by
  have HHD := Lib.hid fun W (hb : Below w.heap.size w W) => head_any W (hT.below hb) (hE.below hb)
  have HVA := Lib.hid fun W (hb : Below w.heap.size w W) => valid_any W A c l (hr.up hb) hs (by omega)
  obtain ⟨w0, hw0⟩ : ∃ w0, w0 = w.alloc (.cells #[.int .i64 v.a, .int .i64 v.b, .int .i64 v.c, .int .i64 v.d, .int .i64 v.e, .int .i64 v.f] 25) := ⟨_, rfl⟩
  have hB0 : Below w.heap.size w w0 := by rw [hw0]; exact (Below.refl w.heap.size w).alloc (Nat.le_refl _) (.cells v.cells 25)
  have H0 := Lib.hid hB0
  have kv : Hid (Blk w0 w.heap.size 25 v.cells) := by rw [hw0]; exact Blk.new w 25 v.cells
  have HW0 := Lib.hid hw0
  have hvf : validB l = false := validB_false (fun h => by have := h.lo; rw [hz] at this; simp at this)
  rw [hvf] at HVA
  have hl0 : l.length = 0 := by rw [hz]; rfl
  rw [hl0] at HVA ⊢
  clear hr _hrc _hrt hT hE hB0 hw0 hs hll _hlc _hcl _hcc _htl hz hvf hl0 _hx0 _hx1
  go_enter Tryd.func4, Tryd.ntmps4
  have tk0 := Lib.hid trivial
  go_wp2_with (first
    | (have _t := tk0; go_at_call 8; rw [← HW0.out]; have bp := Below.refl w0.heap.size w0; have hb := below_on H0.out bp; refine (HHD.out _ hb).mono ?_; rintro e v0w ⟨rfl, b'⟩; have b := below_on bp b'; have h0 := Lib.hid (below_on H0.out b); replace kv := Lib.hid (kv.out.below b kv.out.lt); have kvc0 := kv.out.cell 0; have kvc1 := kv.out.cell 1; have kvc2 := kv.out.cell 2; have kvc3 := kv.out.cell 3; have kvc4 := kv.out.cell 4; have kvc5 := kv.out.cell 5; have kvl := kv.out.lt; simp at kvc0 kvc1 kvc2 kvc3 kvc4 kvc5; have tk1 := Lib.hid trivial; clear b b' bp hb tk0)
    | (have _t := tk1; go_at_call 12; have bp := Below.refl v0w.heap.size v0w; have hb := below_on h0.out bp; refine (HVA.out _ hb).mono ?_; rintro e v1w ⟨rfl, b'⟩; have b := below_on bp b'; have h1 := Lib.hid (below_on h0.out b); replace kv := Lib.hid (kv.out.below b kv.out.lt); have kvc0 := kv.out.cell 0; have kvc1 := kv.out.cell 1; have kvc2 := kv.out.cell 2; have kvc3 := kv.out.cell 3; have kvc4 := kv.out.cell 4; have kvc5 := kv.out.cell 5; have kvl := kv.out.lt; simp at kvc0 kvc1 kvc2 kvc3 kvc4 kvc5; have tk2 := Lib.hid trivial; clear b b' bp hb tk1))
  go_ret
  exact ⟨rfl, h1.out⟩

end Go.Proofs.YtipaapplingbnaaDoor
