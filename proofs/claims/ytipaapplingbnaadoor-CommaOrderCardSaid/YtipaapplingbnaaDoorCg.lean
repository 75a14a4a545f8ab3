/- Walks: matrix.minor. -/
import Derived.Test.YtipaapplingbnaaDoorCf
namespace Go.Proofs.YtipaapplingbnaaDoor
open Go.RowKit Go.Deep

/-- The rows as functions of the column. -/
def rowf (rows : List Vc) (is : List Nat) : List (Nat → Int) := is.map fun i => (rows.getD i ⟨0, 0, 0, 0, 0, 0⟩).at
/-- What the closure has captured: the rows, the chosen ones, the columns, the flags, itself. -/
structure Env (w : World) (g gi gj gu gr ge : Nat) (Ai Aj Ar : Option Addr) (ci cj cr : Nat) (is js : List Nat) (rows : List Vc) : Prop where
  hi : w.cell? ⟨gi, 0, none⟩ = some (.slice Ai is.length ci)
  hj : w.cell? ⟨gj, 0, none⟩ = some (.slice Aj js.length cj)
  hu : w.cell? ⟨gu, 0, none⟩ = some (.slice (some ⟨g, 0, none⟩) js.length js.length)
  hr : w.cell? ⟨gr, 0, none⟩ = some (.slice Ar rows.length cr)
  he : w.cell? ⟨ge, 0, none⟩ = some (.func (.func 71) #[] #[.pointer (some ⟨gi, 0, none⟩), .pointer (some ⟨gj, 0, none⟩), .pointer (some ⟨gu, 0, none⟩), .pointer (some ⟨gr, 0, none⟩), .pointer (some ⟨ge, 0, none⟩)])
  ri : RdI w g Ai (ofN is)
  rj : RdI w g Aj (ofN js)
  rr : RdV w g Ar rows
  bi : gi < g ∨ g < gi
  bj : gj < g ∨ g < gj
  bu : gu < g ∨ g < gu
  br : gr < g ∨ g < gr
  be : ge < g ∨ g < ge
  lt : g < w.heap.size
theorem cell_lt {w : World} {a : Addr} {v : Value} (h : w.cell? a = some v) : a.block < w.heap.size := World.block_lt_of_cell? w _ h
theorem Env.only {w w' : World} {g gi gj gu gr ge : Nat} {Ai Aj Ar : Option Addr} {ci cj cr : Nat} {is js : List Nat} {rows : List Vc} (h : Env w g gi gj gu gr ge Ai Aj Ar ci cj cr is js rows) (o : Only g w w') : Env w' g gi gj gu gr ge Ai Aj Ar ci cj cr is js rows where
  hi := (o.cell (p := ⟨gi, 0, none⟩) (by have := h.bi; simp; omega) (cell_lt h.hi)).trans h.hi
  hj := (o.cell (p := ⟨gj, 0, none⟩) (by have := h.bj; simp; omega) (cell_lt h.hj)).trans h.hj
  hu := (o.cell (p := ⟨gu, 0, none⟩) (by have := h.bu; simp; omega) (cell_lt h.hu)).trans h.hu
  hr := (o.cell (p := ⟨gr, 0, none⟩) (by have := h.br; simp; omega) (cell_lt h.hr)).trans h.hr
  he := (o.cell (p := ⟨ge, 0, none⟩) (by have := h.be; simp; omega) (cell_lt h.he)).trans h.he
  ri := h.ri.same fun p hp => o.cell (by omega) (by have := h.lt; omega)
  rj := h.rj.same fun p hp => o.cell (by omega) (by have := h.lt; omega)
  rr := h.rr.same fun p hp => o.cell (by omega) (by have := h.lt; omega)
  bi := h.bi
  bj := h.bj
  bu := h.bu
  br := h.br
  be := h.be
  lt := Nat.lt_of_lt_of_le h.lt o.size
/-- The sum over the columns before the k-th. -/
structure MinAt (w wx : World) (g : Nat) (u : List Bool) (is js : List Nat) (rows : List Vc) (i k : Nat) (s : Int) : Prop where
  only : Only g w wx
  fl : Flags wx g u
  part : Part ((rows.getD (is.getD i 0) ⟨0, 0, 0, 0, 0, 0⟩).at) (Dt (rowf rows (is.drop (i + 1)))) 48 (288 ^ (is.length - (i + 1))) (avail (js.take k) (u.take k)) (avail (js.drop k) (u.drop k)) s
def MinRel (w : World) (g : Nat) (u : List Bool) (is js : List Nat) (rows : List Vc) (i : Nat) (s sn x : Value) (wx : World) : Prop :=
  ∃ (k : Nat) (v : Int), k ≤ js.length ∧ x = .int .i64 k ∧ s = .int .i64 v ∧ sn = .int .i64 (sg (avail (js.take k) (u.take k)).length) ∧ Hid (MinAt w wx g u is js rows i k v)

theorem getD_lt {α : Type} (l : List α) (i : Nat) (d : α) (h : i < l.length) : l.getD i d = l[i] := by simp [List.getD_eq_getElem?_getD, List.getElem?_eq_getElem h]
set_option maxRecDepth 100000 in
set_option maxHeartbeats 1000000 in
theorem expand_end (w : World) (g gi gj gu gr ge : Nat) (Ai Aj Ar : Option Addr) (ci cj cr : Nat) (is js : List Nat) (rows : List Vc) (u : List Bool) (hE : Env w g gi gj gu gr ge Ai Aj Ar ci cj cr is js rows) (hF : Flags w g u) (hav : (avail js u).length = 0) :
    Calls Tryd.prog 71 #[.int .i64 (is.length : Nat), .pointer (some ⟨gi, 0, none⟩), .pointer (some ⟨gj, 0, none⟩), .pointer (some ⟨gu, 0, none⟩), .pointer (some ⟨gr, 0, none⟩), .pointer (some ⟨ge, 0, none⟩)] w
      fun e w' => e = .returned (.int .i64 (Dt (rowf rows (is.drop is.length)) (avail js u))) ∧ Only g w w' ∧ Flags w' g u := by
  have h1 := hE.hi
  have hd : Dt (rowf rows (is.drop is.length)) (avail js u) = 1 := by
    rw [List.drop_length]
    have : avail js u = [] := List.eq_nil_of_length_eq_zero (by omega)
    rw [this]
    rfl
  rw [hd]
  have HF := Lib.hid hF
  clear hE hF hd hav
  go_enter Tryd.func71, Tryd.ntmps71
  go_wp2_with fail
  go_ret
  exact ⟨rfl, Only.refl _ _, HF.out⟩
theorem rowf_len (rows : List Vc) (is : List Nat) : (rowf rows is).length = is.length := by simp [rowf]
theorem vec_ok {rows : List Vc} (hok : ∀ v ∈ rows, v.ok = true) (i c : Nat) (hc : c < 6) : ((rows.getD i ⟨0, 0, 0, 0, 0, 0⟩).at c).natAbs ≤ 48 := by
  by_cases h : i < rows.length
  · have e : rows.getD i ⟨0, 0, 0, 0, 0, 0⟩ = rows[i] := by simp [List.getD_eq_getElem?_getD, h]
    rw [e]
    exact (Vc.ok_iff _).1 (hok _ (List.getElem_mem h)) c hc
  · have e : rows.getD i ⟨0, 0, 0, 0, 0, 0⟩ = ⟨0, 0, 0, 0, 0, 0⟩ := by simp [List.getD_eq_getElem?_getD, List.getElem?_eq_none (show rows.length ≤ i by omega)]
    rw [e]
    rcases (show c = 0 ∨ c = 1 ∨ c = 2 ∨ c = 3 ∨ c = 4 ∨ c = 5 by omega) with rfl | rfl | rfl | rfl | rfl | rfl <;> simp [Vc.at]
theorem minor_bound {rows : List Vc} (hok : ∀ v ∈ rows, v.ok = true) (is cs : List Nat) (hc : ∀ c ∈ cs, c < 6) (hl : cs.length ≤ 6) : (Dt (rowf rows is) cs).natAbs ≤ 288 ^ is.length := by
  have := Dt_bound 48 6 (rowf rows is) cs hl (fun r hr c hcs => by
    obtain ⟨i, -, rfl⟩ := List.mem_map.1 hr
    exact vec_ok hok i c (hc c hcs))
  rwa [rowf_len] at this
theorem avail_len (js : List Nat) (u : List Bool) : (avail js u).length ≤ js.length := by
  induction js generalizing u with
  | nil => simp [avail]
  | cons j js ih =>
    cases u with
    | nil => simp [avail]
    | cons b u =>
      have := ih u
      unfold avail
      split
      · simp; omega
      · simp; omega
theorem pow288 {n : Nat} (h : n ≤ 5) : 288 ^ n ≤ 1981355655168 := Nat.le_trans (Nat.pow_le_pow_right (by omega) h) (by decide)
/-- One column more. -/
theorem min_step {r : Nat → Int} {rows : List Vc} {is js : List Nat} {u : List Bool} {i k : Nat} {v : Int} (hok : ∀ v ∈ rows, v.ok = true) (hjc : ∀ c ∈ js, c < 6) (hj6 : js.length ≤ 6) (hi6 : is.length ≤ 6) (hi : i < is.length) (hu : u.length = js.length) (hk : k < js.length) (hf : u.getD k false = false) (hr : (r (js.getD k 0)).natAbs ≤ 48)
    (h : Part r (Dt (rowf rows (is.drop (i + 1)))) 48 (288 ^ (is.length - (i + 1))) (avail (js.take k) (u.take k)) (avail (js.drop k) (u.drop k)) v) :
    Part r (Dt (rowf rows (is.drop (i + 1)))) 48 (288 ^ (is.length - (i + 1))) (avail (js.take (k + 1)) (u.take (k + 1))) (avail (js.drop (k + 1)) (u.drop (k + 1))) (v + sg (avail (js.take k) (u.take k)).length * r (js.getD k 0) * Dt (rowf rows (is.drop (i + 1))) (avail js (u.set k true)))
    ∧ v.natAbs ≤ 600000000000000 ∧ (Dt (rowf rows (is.drop (i + 1))) (avail js (u.set k true))).natAbs ≤ 1981355655168 ∧ sg (avail (js.take (k + 1)) (u.take (k + 1))).length = - sg (avail (js.take k) (u.take k)).length ∧ (avail js (u.set k true)).length + 1 = (avail js u).length := by
  have hq := avail_here js u k hu hk
  rw [hf, if_neg (by decide)] at hq
  have hp := avail_next js u k hu hk
  rw [hf, if_neg (by decide)] at hp
  have hs := avail_set js u k hu hk
  rw [hq] at h
  have hb := minor_bound hok (is.drop (i + 1)) (avail js (u.set k true)) (fun c hc => hjc c (avail_sub _ _ c hc)) (Nat.le_trans (avail_len _ _) hj6)
  rw [List.length_drop] at hb
  have h5 : 288 ^ (is.length - (i + 1)) ≤ 1981355655168 := pow288 (by omega)
  have hpl : (avail (js.take k) (u.take k)).length ≤ 6 := Nat.le_trans (avail_len _ _) (by simp; omega)
  have hsm := h.small
  have hn := h.next hr (by rw [← hs]; exact hb)
  refine ⟨by rw [hp, hs]; exact hn, ?_, by omega, by rw [hp, List.length_append, List.length_singleton, sg_succ], ?_⟩
  · have : 48 * (avail (js.take k) (u.take k)).length * 288 ^ (is.length - (i + 1)) ≤ 288 * 1981355655168 := Nat.mul_le_mul (by omega) h5
    omega
  · rw [hs, avail_split js u k hu, hq]
    simp
    omega
theorem min_pass {r : Nat → Int} {f : List Nat → Int} {F : Nat} {js : List Nat} {u : List Bool} {k : Nat} {v : Int} (hu : u.length = js.length) (hk : k < js.length) (hf : u.getD k false = true)
    (h : Part r f 48 F (avail (js.take k) (u.take k)) (avail (js.drop k) (u.drop k)) v) :
    Part r f 48 F (avail (js.take (k + 1)) (u.take (k + 1))) (avail (js.drop (k + 1)) (u.drop (k + 1))) v ∧ avail (js.take (k + 1)) (u.take (k + 1)) = avail (js.take k) (u.take k) := by
  have hq := avail_here js u k hu hk
  rw [hf, if_pos rfl] at hq
  have hp := avail_next js u k hu hk
  rw [hf, if_pos rfl] at hp
  exact ⟨by rw [hp, ← hq]; exact h, hp⟩

set_option maxRecDepth 100000 in
set_option maxHeartbeats 2000000 in
theorem expand_any (n : Nat) : ∀ (w : World) (g gi gj gu gr ge : Nat) (Ai Aj Ar : Option Addr) (ci cj cr : Nat) (is js : List Nat) (rows : List Vc) (u : List Bool) (i : Nat), Env w g gi gj gu gr ge Ai Aj Ar ci cj cr is js rows → Flags w g u → u.length = js.length → js.length ≤ 6 → is.length ≤ 6 → rows.length ≤ 6 → (∀ c ∈ js, c < 6) → (∀ c ∈ is, c < rows.length) → (∀ v ∈ rows, v.ok = true) → i ≤ is.length → is.length - i ≤ n → (avail js u).length + i = is.length →
    Calls Tryd.prog 71 #[.int .i64 i, .pointer (some ⟨gi, 0, none⟩), .pointer (some ⟨gj, 0, none⟩), .pointer (some ⟨gu, 0, none⟩), .pointer (some ⟨gr, 0, none⟩), .pointer (some ⟨ge, 0, none⟩)] w
      fun e w' => e = .returned (.int .i64 (Dt (rowf rows (is.drop i)) (avail js u))) ∧ Only g w w' ∧ Flags w' g u := by
  induction n with
  | zero =>
    intro w g gi gj gu gr ge Ai Aj Ar ci cj cr is js rows u i hE hF hu hj6 hi6 hr6 hjc hic hok hi hn hav
    obtain rfl : i = is.length := by omega
    exact expand_end w g gi gj gu gr ge Ai Aj Ar ci cj cr is js rows u hE hF (by omega)
  | succ n ih =>
    intro w g gi gj gu gr ge Ai Aj Ar ci cj cr is js rows u i hE hF hu hj6 hi6 hr6 hjc hic hok hi hn hav
    by_cases hlt : i < is.length
    · have h1 := hE.hi
      have h2 := hE.hj
      have hne : ((i : Int) == (is.length : Int)) = false := by rw [beq_eq_false_iff_ne]; omega
      have HE := Lib.hid hE
      have HF := Lib.hid hF
      clear hE hF
      go_enter Tryd.func71, Tryd.ntmps71
      go_wp2_with fail
      go_loopw [8, 9, 19] (fun s sn x wx => MinRel w g u is js rows i s sn x wx) (fun _ _ x _ => js.length - (intOf x).toNat)
      case atStart => exact ⟨0, 0, Nat.zero_le _, rfl, rfl, rfl, Only.refl _ _, HF.out, by simpa [avail] using Part.start _ _ _ _ _⟩
      case round =>
        obtain ⟨k, v, hk, rfl, rfl, rfl, HM⟩ := hrel
        by_cases hkt : k < js.length
        · have hE' := HE.out.only HM.out.only
          have q1 := hE'.hi
          have q2 := hE'.hj
          have q3 := hE'.hu
          have q4 := hE'.hr
          have q5 := hE'.he
          have q6 := HM.out.fl.cell (i := k) (by omega)
          have hfz := HM.out.fl.frozen k
          obtain ⟨aj, rfl, haj, cj1⟩ := hE'.rj.at (i := k) (by rw [ofN_length]; exact hkt)
          obtain ⟨ai, rfl, hai, ci1⟩ := hE'.ri.at (i := i) (by rw [ofN_length]; exact hlt)
          rw [ofN_at _ _ hkt] at cj1
          rw [ofN_at _ _ hlt] at ci1
          have hc6 : js.getD k 0 < 6 := hjc _ (by rw [List.getD_eq_getElem?_getD, List.getElem?_eq_getElem hkt]; exact List.getElem_mem hkt)
          have hρ : is.getD i 0 < rows.length := hic _ (by rw [List.getD_eq_getElem?_getD, List.getElem?_eq_getElem hlt]; exact List.getElem_mem hlt)
          obtain ⟨ar, rfl, har, -, cr1⟩ := hE'.rr.at hρ
          have cr2 := cr1 _ hc6
          rw [show rows[is.getD i 0] = rows.getD (is.getD i 0) ⟨0, 0, 0, 0, 0, 0⟩ from (getD_lt rows _ _ hρ).symm] at cr2
          have HEW := Lib.hid hE'
          have hPT := Lib.hid HM.out.part
          have HO := Lib.hid HM.out.only
          have HFL := Lib.hid HM.out.fl
          have hv48 := vec_ok hok (is.getD i 0) (js.getD k 0) hc6
          clear cr1 hE' HM
          rcases hfl : u.getD k false with _ | _
          · obtain ⟨s1, s2, s3, s4, s5⟩ := min_step hok hjc hj6 hi6 hlt hu hkt hfl hv48 hPT.out
            replace s1 := Lib.hid s1
            replace s4 := Lib.hid s4
            have hs0 := sg_cases (avail (js.take k) (u.take k)).length
            generalize hS : sg (avail (js.take k) (u.take k)).length = S at *
            rw [hfl] at q6
            have HPR : ∀ t : Int, Part ((rows.getD (is.getD i 0) ⟨0, 0, 0, 0, 0, 0⟩).at) (Dt (rowf rows (is.drop (i + 1)))) 48 (288 ^ (is.length - (i + 1))) (avail (js.take (k + 1)) (u.take (k + 1))) (avail (js.drop (k + 1)) (u.drop (k + 1))) t → ∀ wx, Only g w wx → Flags wx g u → MinAt w wx g u is js rows i (k + 1) t := fun t ht wx h1 h2 => ⟨h1, h2, ht⟩
            replace HPR := Lib.hid HPR
            generalize hX : (rows.getD (is.getD i 0) ⟨0, 0, 0, 0, 0, 0⟩).at (js.getD k 0) = X at *
            clear hX
            by_cases hX0 : X = 0
            · subst hX0
              rw [Int.mul_zero, Int.zero_mul, Int.add_zero] at s1
              have HN := Lib.hid (HPR.out _ s1.out wr.drew HO.out.drew HFL.out)
              clear s1 s2 s3 s5 hPT HPR
              generalize js.getD k 0 = c at *
              generalize is.getD i 0 = ρ at *
              go_wp2_with fail
              go_region
              go_wp2_with fail
              go_roundw
              case rel => exact ⟨k + 1, v, by omega, by go_num, rfl, by rw [s4.out], HN⟩
              case measure => simp [intOf]; omega
            · have HIH := Lib.hid (ih (wr.setCell ⟨g, k, none⟩ (.bool true)).drew g gi gj gu gr ge (some ai) (some aj) (some ar) ci cj cr is js rows (u.set k true) (i + 1) (HEW.out.only ((Only.refl _ _).setCell _ _).drew) (HFL.out.set k true (by omega)) (by simp [hu]) hj6 hi6 hr6 hjc hic hok (by omega) (by omega) (by omega))
              have HSB := Lib.hid (set_back u k (by omega) hfl)
              have q10 := (HEW.out.only ((Only.refl g wr).setCell k (.bool true))).he
              have HUL := Lib.hid (show k < (u.set k true).length by simp; omega)
              have HG1 := Lib.hid (show (u.set k true).getD k false = true by rw [getD_setB u k k true (by omega), if_pos rfl])
              generalize hD : Dt (rowf rows (is.drop (i + 1))) (avail js (u.set k true)) = D at *
              clear hD
              have hX0' : (X != 0) = true := by rw [bne_iff_ne]; exact hX0
              have hSX : ∃ Y1, S * X = Y1 ∧ -48 ≤ Y1 ∧ Y1 ≤ 48 := ⟨_, rfl, by rcases hs0 with rfl | rfl <;> omega, by rcases hs0 with rfl | rfl <;> omega⟩
              obtain ⟨Y1, y1, y2, y3⟩ := hSX
              rw [y1] at s1
              have hYD : ∃ Y2, Y1 * D = Y2 ∧ -95105071448064 ≤ Y2 ∧ Y2 ≤ 95105071448064 := by
                refine ⟨_, rfl, ?_⟩
                have h1 : (Y1 * D).natAbs ≤ 48 * 1981355655168 := by rw [Int.natAbs_mul]; exact Nat.mul_le_mul (by omega) s3
                omega
              obtain ⟨Y2, z1, z2, z3⟩ := hYD
              rw [z1] at s1
              have v1 : -600000000000000 ≤ v := by omega
              have v2 : v ≤ 600000000000000 := by omega
              have hs1 : -1 ≤ S := by omega
              have hs2 : S ≤ 1 := by omega
              have HRES := Lib.hid fun wx h1 h2 => HPR.out _ s1.out wx h1 h2
              clear s1 s2 s3 s5 hPT HPR hv48 hX0 hs0 hS ih
              generalize js.getD k 0 = c at *
              generalize is.getD i 0 = ρ at *
              go_wp2_with fail
              go_region
              go_wp2_with (go_at_call 71; refine HIH.out.mono ?_; rintro e w2 ⟨rfl, o2, f2⟩; have q7 := (HEW.out.only ((((Only.refl g wr).setCell k (.bool true)).drew).trans o2)).hu; have q8 := f2.cell (i := k) HUL.out; rw [HG1.out] at q8; have q9 := f2.frozen k; replace o2 := Lib.hid o2; replace f2 := Lib.hid f2)
              have f3 := f2.out.set k false HUL.out
              rw [HSB.out] at f3
              refine ⟨⟨k + 1, v + Y2, by omega, by go_num, rfl, by rw [s4.out], HRES.out _ (HO.out.trans ((((Only.refl g wr).setCell k (.bool true)).drew.trans o2.out).setCell k (.bool false))) f3⟩, by simp [intOf]; omega⟩
          · obtain ⟨s1, s2⟩ := min_pass hu hkt hfl hPT.out
            rw [hfl] at q6
            have HN : Hid (MinAt w wr g u is js rows i (k + 1) v) := ⟨HO.out, HFL.out, s1⟩
            have HS := Lib.hid s2
            clear s1 s2 hPT HO HFL hv48
            go_wp2_with fail
            go_roundw
            case rel => exact ⟨k + 1, v, by omega, by go_num, rfl, by rw [HS.out], HN⟩
            case measure => simp [intOf]; omega
        · obtain rfl : k = js.length := by omega
          have hp := HM.out.part
          rw [List.take_length, List.take_of_length_le (by omega), List.drop_of_length_le (Nat.le_refl _)] at hp
          have hd : Dt (rowf rows (is.drop i)) (avail js u) = v := by
            rw [List.drop_eq_getElem_cons hlt]
            have e : is.getD i 0 = is[i] := by simp [List.getD_eq_getElem?_getD, List.getElem?_eq_getElem hlt]
            rw [e] at hp
            have := Part.done (by simpa [avail] using hp)
            exact this
          have HD := Lib.hid hd
          clear hp hd
          go_wp2_with fail
          go_ret
          exact ⟨by rw [HD.out]; rfl, HM.out.only, HM.out.fl⟩
    · obtain rfl : i = is.length := by omega
      exact expand_end w g gi gj gu gr ge Ai Aj Ar ci cj cr is js rows u hE hF (by omega)

end Go.Proofs.YtipaapplingbnaaDoor
