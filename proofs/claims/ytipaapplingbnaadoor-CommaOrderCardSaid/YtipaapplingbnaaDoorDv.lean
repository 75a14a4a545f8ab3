/- Plain laws: independent rows, the greedy search, Cramer's rule. -/
import Derived.Test.YtipaapplingbnaaDoorDu
namespace Go.Proofs.YtipaapplingbnaaDoor

/-- Some columns below m make the rows independent. -/
def Indep (m : Nat) (rs : List (Nat → Int)) : Prop := ∃ T : List Nat, (∀ c ∈ T, c < m) ∧ Dt rs T ≠ 0
theorem Indep.perm {m : Nat} {rs ss : List (Nat → Int)} (hp : rs.Perm ss) (h : Indep m rs) : Indep m ss := by
  obtain ⟨T, h1, h2⟩ := h
  exact ⟨T, h1, fun e => h2 ((Dt_perm hp T).2 e)⟩
/-- Without its last row. -/
theorem Indep.init {m : Nat} {rs : List (Nat → Int)} {r : Nat → Int} (h : Indep m (rs ++ [r])) : Indep m rs := by
  obtain ⟨T, h1, h2⟩ := h
  have hp : (rs ++ [r]).Perm (r :: rs) := List.perm_append_singleton r rs
  have h3 : Dt (r :: rs) T ≠ 0 := fun e => h2 ((Dt_perm hp T).2 e)
  rw [Dt_cons] at h3
  have : ∀ (f : List Nat → Int) (cs : List Nat), W r f cs ≠ 0 → ∃ t, f t ≠ 0 ∧ ∀ c ∈ t, c ∈ cs := by
    intro f cs
    induction cs generalizing f with
    | nil => intro h; exact absurd rfl h
    | cons c cs ih =>
      intro h
      by_cases h0 : f cs = 0
      · have : W r (fun t => f (c :: t)) cs ≠ 0 := fun e => h (by show r c * f cs - W r (fun t => f (c :: t)) cs = 0; rw [h0, e]; simp)
        obtain ⟨t, ht, hs⟩ := ih _ this
        refine ⟨c :: t, ht, fun x hx => ?_⟩
        rcases List.mem_cons.1 hx with rfl | hx
        · exact List.mem_cons_self ..
        · exact List.mem_cons_of_mem _ (hs x hx)
      · exact ⟨cs, h0, fun x hx => List.mem_cons_of_mem _ hx⟩
  obtain ⟨t, ht, hs⟩ := this _ _ h3
  exact ⟨t, fun c hc => h1 c (hs c hc), ht⟩

theorem nodup_sub : ∀ {l m : List Nat}, l.Nodup → (∀ x ∈ l, x ∈ m) → l.length ≤ m.length
  | [], _, _, _ => Nat.zero_le _
  | x :: l, m, hn, hs => by
    rw [List.nodup_cons] at hn
    have hx : x ∈ m := hs x (List.mem_cons_self ..)
    have h1 := nodup_sub (m := m.erase x) hn.2 (fun y hy => by
      have hne : y ≠ x := fun e => hn.1 (e ▸ hy)
      exact (List.mem_erase_of_ne hne).2 (hs y (List.mem_cons_of_mem _ hy)))
    have h2 := List.length_erase_of_mem hx
    have h3 := List.length_pos_of_mem hx
    simp only [List.length_cons]
    omega

/-- A row of the list at an index. -/
def rowAt (rows : List (Nat → Int)) (i : Nat) : Nat → Int := rows.getD i (fun _ => 0)
def rowsAt (rows : List (Nat → Int)) (is : List Nat) : List (Nat → Int) := is.map (rowAt rows)
/-- The column c hangs on the columns js. -/
def Hangs (rows : List (Nat → Int)) (js : List Nat) (c : Nat) : Prop := ∃ (k : Int) (L : List (Int × Nat)), k ≠ 0 ∧ (∀ p ∈ L, p.2 ∈ js) ∧ ∀ r ∈ rows, k * r c + lc L r = 0
theorem Hangs.more {rows : List (Nat → Int)} {js js' : List Nat} {c : Nat} (h : Hangs rows js c) (hs : ∀ x ∈ js, x ∈ js') : Hangs rows js' c := by
  obtain ⟨k, L, h1, h2, h3⟩ := h
  exact ⟨k, L, h1, fun p hp => hs _ (h2 p hp), h3⟩
/-- Bordered minors that are all 0. -/
theorem hangs_of {rows : List (Nat → Int)} {rs : List (Nat → Int)} {js : List Nat} {c : Nat} (hd : Dt rs js ≠ 0) (h : ∀ r ∈ rows, Dt (rs ++ [r]) (js ++ [c]) = 0) : Hangs rows js c := by
  obtain ⟨P, s, h1, h2, h3⟩ := coef_last (Dt rs) js c
  refine ⟨s * Dt rs js, P, ?_, fun p hp => ?_, fun r hr => ?_⟩
  · rcases h2 with rfl | rfl <;> omega
  · rw [← h3]; exact List.mem_map.2 ⟨p, hp, rfl⟩
  · have := (Dt_perm (List.perm_append_singleton r rs) (js ++ [c])).1 (h r hr)
    rw [Dt_cons, W_coef, h1, lc_append] at this
    simp only [lc] at this
    omega
/-- All columns hang on too few. -/
theorem Dt_few {rows : List (Nat → Int)} {js : List Nat} {m : Nat} (hh : ∀ c, c < m → c ∉ js → Hangs rows js c) (hjm : ∀ c ∈ js, c < m) : ∀ (n : Nat) (T : List Nat), (∀ c ∈ T, c < m) → js.length < T.length → (T.filter (fun c => decide (c ∉ js))).length ≤ n → Dt rows T = 0 := by
  intro n
  induction n with
  | zero =>
    intro T _ hl h0
    refine (Alt.Dt rows).twice fun hn => ?_
    have := nodup_sub (m := js) hn (fun x hx => by
      refine Classical.byContradiction fun hx' => ?_
      have : x ∈ T.filter (fun c => decide (c ∉ js)) := List.mem_filter.2 ⟨hx, decide_eq_true hx'⟩
      have := List.length_pos_of_mem this
      omega)
    omega
  | succ n ih =>
    intro T hT hl h1
    by_cases hz : (T.filter (fun c => decide (c ∉ js))).length ≤ n
    · exact ih T hT hl hz
    · have hpos : 0 < (T.filter (fun c => decide (c ∉ js))).length := by omega
      obtain ⟨c, hc⟩ := List.exists_mem_of_length_pos hpos
      obtain ⟨hcT, hcj⟩ := List.mem_filter.1 hc
      have hcj := of_decide_eq_true hcj
      obtain ⟨k, L, hk, hL, hrel⟩ := hh c (hT c hcT) hcj
      have hp := List.perm_cons_erase hcT
      refine ((Alt.Dt rows).perm hp).2 ?_
      have hrel2 := Dt_rel ((k, c) :: L) rows (fun r hr => hrel r hr) (T.erase c)
      simp only [lc] at hrel2
      have hz : ∀ M : List (Int × Nat), (∀ p ∈ M, p.2 ∈ js) → lc M (fun t => Dt rows (t :: T.erase c)) = 0 := by
        intro M
        induction M with
        | nil => intro _; rfl
        | cons p M ihM =>
          intro hM
          have hpj := hM p (List.mem_cons_self ..)
          have hlen : (p.2 :: T.erase c).length = T.length := by
            rw [List.length_cons, List.length_erase_of_mem hcT]
            have := List.length_pos_of_mem hcT
            omega
          have hpm := hjm _ hpj
          have h0 := ih (p.2 :: T.erase c) (fun x hx => by
            rcases List.mem_cons.1 hx with rfl | hx
            · exact hpm
            · exact hT x (List.mem_of_mem_erase hx)) (by omega) (by
            have e1 : (p.2 :: T.erase c).filter (fun c => decide (c ∉ js)) = (T.erase c).filter (fun c => decide (c ∉ js)) := by
              rw [List.filter_cons_of_neg]
              simp [hpj]
            have e2 : ((c :: T.erase c).filter (fun c => decide (c ∉ js))).length = (T.filter (fun c => decide (c ∉ js))).length := (hp.filter _).length_eq.symm
            rw [List.filter_cons_of_pos (by simp [hcj]), List.length_cons] at e2
            rw [e1]
            omega)
          simp only [lc, h0, ihM (fun q hq => hM q (List.mem_cons_of_mem _ hq))]
          omega
      rw [hz L hL] at hrel2
      have hk0 : k * Dt rows (c :: T.erase c) = 0 := by omega
      rcases Int.mul_eq_zero.1 hk0 with h | h
      · exact absurd h hk
      · exact h

theorem rowsAt_range (rows : List (Nat → Int)) : rowsAt rows (List.range rows.length) = rows := by
  refine List.ext_getElem (by simp [rowsAt]) fun i h1 h2 => ?_
  simp [rowsAt, rowAt, h2]
theorem rowsAt_nodup {rows : List (Nat → Int)} {is js : List Nat} (h : Dt (rowsAt rows is) js ≠ 0) : is.Nodup := by
  refine Classical.byContradiction fun hn => h ?_
  have : ∀ (l : List Nat), ¬ l.Nodup → ∃ x pre mid post, l = pre ++ x :: mid ++ x :: post := by
    intro l
    induction l with
    | nil => intro h; exact absurd List.nodup_nil h
    | cons a l ih =>
      intro h
      rw [List.nodup_cons] at h
      by_cases ha : a ∈ l
      · obtain ⟨s, t, rfl⟩ := List.append_of_mem ha
        exact ⟨a, [], s, t, rfl⟩
      · obtain ⟨x, pre, mid, post, rfl⟩ := ih (fun hn => h ⟨ha, hn⟩)
        exact ⟨x, a :: pre, mid, post, rfl⟩
  obtain ⟨x, pre, mid, post, rfl⟩ := this is hn
  exact Dt_twice (rowsAt rows pre) (rowsAt rows mid) (rowsAt rows post) (r := rowAt rows x) (by simp [rowsAt]) js
/-- The greedy search finds as many columns as there are rows exactly if these are independent. -/
theorem greedy_full {rows : List (Nat → Int)} {is js : List Nat} {m : Nat} (hd : Dt (rowsAt rows is) js ≠ 0) (hi : ∀ i ∈ is, i < rows.length) (hj : ∀ c ∈ js, c < m) (hh : ∀ c, c < m → c ∉ js → Hangs rows js c) : is.length = rows.length ↔ Indep m rows := by
  have hn := rowsAt_nodup hd
  have hle : is.length ≤ rows.length := by
    have := nodup_sub (m := List.range rows.length) hn (fun x hx => List.mem_range.2 (hi x hx))
    simpa using this
  have hlen := Dt_len hd
  rw [show (rowsAt rows is).length = is.length by simp [rowsAt]] at hlen
  constructor
  · intro he
    refine ⟨js, hj, ?_⟩
    have hsub : ∀ x ∈ List.range rows.length, x ∈ is := by
      intro x hx
      refine Classical.byContradiction fun hx' => ?_
      have := nodup_sub (l := x :: is) (m := List.range rows.length) (List.nodup_cons.2 ⟨hx', hn⟩) (fun y hy => by
        rcases List.mem_cons.1 hy with rfl | hy
        · exact hx
        · exact List.mem_range.2 (hi y hy))
      simp at this
      omega
    have hp : is.Perm (List.range rows.length) := by
      refine (List.perm_ext_iff_of_nodup hn List.nodup_range).2 fun x => ⟨fun hx => List.mem_range.2 (hi x hx), hsub x⟩
    have hp2 : (rowsAt rows is).Perm rows := by
      have := hp.map (rowAt rows)
      rw [show (List.range rows.length).map (rowAt rows) = rows from rowsAt_range rows] at this
      exact this
    exact fun e => hd ((Dt_perm hp2 js).2 e)
  · rintro ⟨T, hT, hdT⟩
    have hl := Dt_len hdT
    rcases Nat.lt_or_ge js.length T.length with h | h
    · exact absurd (Dt_few hh hj _ T hT h (Nat.le_refl _)) hdT
    · omega

theorem comb_mid (kp kq : List Int) (k : Int) (pre post : List (Nat → Int)) (r : Nat → Int) (h : kp.length = pre.length) (j : Nat) : comb (kp ++ k :: kq) (pre ++ r :: post) j = k * r j + comb (kp ++ kq) (pre ++ post) j := by
  induction pre generalizing kp with
  | nil =>
    obtain rfl := List.eq_nil_of_length_eq_zero h
    rfl
  | cons p pre ih =>
    cases kp with
    | nil => cases h
    | cons a kp =>
      have := ih kp (by simpa using h)
      show a * p j + comb (kp ++ k :: kq) (pre ++ r :: post) j = k * r j + (a * p j + comb (kp ++ kq) (pre ++ post) j)
      rw [this]
      omega
/-- Cramer's rule. -/
theorem cramer (pre post : List (Nat → Int)) (r : Nat → Int) (kp kq : List Int) (k : Int) (h : kp.length = pre.length) (v : Nat → Int) (hv : ∀ j, v j = comb (kp ++ k :: kq) (pre ++ r :: post) j) (T : List Nat) : Dt (pre ++ v :: post) T = k * Dt (pre ++ r :: post) T := by
  have e : v = fun j => k * r j + comb (kp ++ kq) (pre ++ post) j := funext fun j => by rw [hv, comb_mid kp kq k pre post r h]
  have e2 : W v (WW post one0) = fun t => k * W r (WW post one0) t + W (comb (kp ++ kq) (pre ++ post)) (WW post one0) t := funext fun t => by rw [e, W_row_add (fun j => k * r j) (comb (kp ++ kq) (pre ++ post)), W_row_mul]
  have hz := WW_comb pre post one0 (kp ++ kq) (pre ++ post) T (fun q hq => by
    rcases List.mem_append.1 hq with hq | hq
    · obtain ⟨s, t, rfl⟩ := List.append_of_mem hq
      exact Dt_twice (rs := (s ++ q :: t) ++ q :: post) (r := q) s t post (by simp) T
    · obtain ⟨s, t, rfl⟩ := List.append_of_mem hq
      exact Dt_twice (rs := pre ++ q :: (s ++ q :: t)) (r := q) pre s t (by simp) T)
  unfold Dt
  rw [WW_append, WW_cons, e2, WW_add, WW_mul, WW_append, WW_cons]
  rw [WW_append, WW_cons] at hz
  show k * WW pre (W r (WW post one0)) T + WW pre (W (comb (kp ++ kq) (pre ++ post)) (WW post one0)) T = _
  rw [hz]
  omega
theorem cramer_at (rs : List (Nat → Int)) (ks : List Int) (hl : ks.length = rs.length) (v : Nat → Int) (hv : ∀ j, v j = comb ks rs j) (T : List Nat) (i : Nat) (hi : i < rs.length) : Dt (rs.set i v) T = ks.getD i 0 * Dt rs T := by
  have e1 : rs = rs.take i ++ rs[i] :: rs.drop (i + 1) := by rw [List.getElem_cons_drop, List.take_append_drop]
  have e2 : ks = ks.take i ++ ks[i]'(by omega) :: ks.drop (i + 1) := by rw [List.getElem_cons_drop, List.take_append_drop]
  have e3 : rs.set i v = rs.take i ++ v :: rs.drop (i + 1) := by rw [List.set_eq_take_append_cons_drop, if_pos hi]
  have e4 : ks.getD i 0 = ks[i]'(by omega) := by simp [List.getD_eq_getElem?_getD, List.getElem?_eq_getElem (show i < ks.length by omega)]
  have := cramer (rs.take i) (rs.drop (i + 1)) rs[i] (ks.take i) (ks.drop (i + 1)) (ks[i]'(by omega)) (by simp; omega) v (fun j => by rw [hv, ← e1, ← e2]) T
  rw [e3, e4, this, ← e1]
/-- Only one combination of independent rows makes a row. -/
theorem comb_inj {m : Nat} {rs : List (Nat → Int)} (hI : Indep m rs) {ks ls : List Int} (hk : ks.length = rs.length) (hl : ls.length = rs.length) (h : ∀ j, comb ks rs j = comb ls rs j) : ks = ls := by
  obtain ⟨T, -, hd⟩ := hI
  refine List.ext_getElem (by omega) fun i h1 h2 => ?_
  have a1 := cramer_at rs ks hk (comb ks rs) (fun _ => rfl) T i (by omega)
  have a2 := cramer_at rs ls hl (comb ks rs) h T i (by omega)
  rw [a1] at a2
  have := Int.eq_of_mul_eq_mul_right hd a2
  simpa [List.getD_eq_getElem?_getD, List.getElem?_eq_getElem h1, List.getElem?_eq_getElem h2] using this

end Go.Proofs.YtipaapplingbnaaDoor
