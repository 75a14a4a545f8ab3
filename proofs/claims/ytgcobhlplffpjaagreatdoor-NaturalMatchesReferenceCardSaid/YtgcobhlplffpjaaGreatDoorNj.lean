/- Walks: take, restore. -/
import Derived.Test.YtgcobhlplffpjaaGreatDoorNi
namespace Go.Proofs.YtgcobhlplffpjaaGreatDoor
open Go.RowKit Go.Deep

/-- All blocks but g are as they were. -/
structure Only (g : Nat) (w w' : World) : Prop where
  os : w'.os = w.os
  tape : w'.tape = w.tape
  output : w'.output = w.output
  size : w.heap.size ≤ w'.heap.size
  block : ∀ k, k ≠ g → k < w.heap.size → w'.heap[k]? = w.heap[k]?
theorem Only.refl (g : Nat) (w : World) : Only g w w := ⟨rfl, rfl, rfl, Nat.le_refl _, fun _ _ _ => rfl⟩
theorem Only.trans {g : Nat} {a b c : World} (h : Only g a b) (k : Only g b c) : Only g a c :=
  ⟨k.os.trans h.os, k.tape.trans h.tape, k.output.trans h.output, Nat.le_trans h.size k.size, fun i hi hl => (k.block i hi (Nat.lt_of_lt_of_le hl h.size)).trans (h.block i hi hl)⟩
theorem Only.of_below {g : Nat} {w w' : World} (h : Below w.heap.size w w') : Only g w w' := ⟨h.os, h.tape, h.output, h.size, fun k _ hl => h.block k hl⟩
theorem Only.setCell {g : Nat} {a w : World} (h : Only g a w) (i : Nat) (v : Value) : Only g a (w.setCell ⟨g, i, none⟩ v) :=
  h.trans ⟨rfl, rfl, rfl, by rw [nblk_setCell]; exact Nat.le_refl _, fun k hk _ => blk_setCell_other _ _ _ _ (by simpa using hk)⟩
theorem Only.arr {g x : Nat} {w w' : World} {l : List Nat} (h : Only g w w') (ha : Arr w x l) (hx : x ≠ g) : Arr w' x l := World.rowIs.of_block ha (h.block x hx ha.lt)
theorem Only.below {g B : Nat} {w w' : World} (h : Only g w w') (hB : B ≤ g) (hs : B ≤ w.heap.size) : Below B w w' := ⟨h.os, h.tape, h.output, h.size, fun k hk => h.block k (by omega) (by omega)⟩

structure TakeAt (gu gv o : Nat) (V M0 : List Nat) (d i c b : Nat) (wx : World) (M : List Nat) : Prop where
  len : M.length = M0.length
  lim : Lim M
  arr : Arr wx gu M
  arv : Arr wx gv V
  eqn : val M + pw o * (d * val (V.take i)) = val M0 + (c + b) * pw (o + i)
  far : ∀ j, o + i ≤ j → M.getD j 0 = M0.getD j 0
def TakeRel (w : World) (gu gv o n : Nat) (V M0 : List Nat) (d : Nat) (c b i : Value) (wx : World) : Prop :=
  ∃ k cy bw : Nat, k ≤ n ∧ i = .int .i64 k ∧ c = .int .u64 cy ∧ b = .int .u32 bw ∧ cy < 4294967296 ∧ bw ≤ 1 ∧ Only gu w wx ∧ ∃ M, Hid (TakeAt gu gv o V M0 d k cy bw wx M)
theorem TakeAt.next {gu gv o : Nat} {V M0 : List Nat} {d i c b c' b' lo r : Nat} {wx : World} {M : List Nat} (h : TakeAt gu gv o V M0 d i c b wx M) (hne : gv ≠ gu) (hi : o + i < M0.length) (hr : r < 4294967296)
    (hp : d * V.getD i 0 + c = 4294967296 * c' + lo) (he : M.getD (o + i) 0 + 4294967296 * b' = lo + b + r) :
    TakeAt gu gv o V M0 d (i + 1) c' b' (wx.setCell ⟨gu, o + i, none⟩ (.int .u32 (r : Int))) (M.set (o + i) r) where
  len := by rw [List.length_set]; exact h.len
  lim := h.lim.set _ _ hr
  arr := h.arr.set _ _ (by have := h.len; omega)
  arv := h.arv.other (by simpa using hne) _
  eqn := by
    have hl := h.len
    have h1 := val_set M (o + i) r (by omega)
    have h3 := h.eqn
    have h5 : pw o * (d * val (V.take (i + 1))) = pw o * (d * val (V.take i)) + pw (o + i) * (d * V.getD i 0) := by
      rw [val_take_next, Nat.mul_add d, Nat.mul_add (pw o), pw_add, ← Nat.mul_assoc d, Nat.mul_comm d (pw i), Nat.mul_assoc (pw i), Nat.mul_assoc (pw o) (pw i)]
    rw [h5, show o + (i + 1) = o + i + 1 from rfl, pw_succ]
    generalize pw (o + i) = P at *
    have k1 : P * (M.getD (o + i) 0 + 4294967296 * b') = P * (lo + b + r) := by rw [he]
    have k2 : P * (d * V.getD i 0 + c) = P * (4294967296 * c' + lo) := by rw [hp]
    have k3 : (c' + b') * (4294967296 * P) = P * (4294967296 * c') + P * (4294967296 * b') := by
      rw [← Nat.mul_add, ← Nat.mul_add, Nat.mul_comm, Nat.mul_comm 4294967296 P, Nat.mul_assoc]
    rw [Nat.mul_add, Nat.mul_add, Nat.mul_add] at k1
    rw [Nat.mul_add, Nat.mul_add] at k2
    rw [k3]
    rw [Nat.add_mul, Nat.mul_comm c P, Nat.mul_comm b P] at h3
    omega
  far := fun j hj => by
    rw [getD_set _ _ _ _ (by have := h.len; omega), if_neg (by omega)]
    exact h.far j (by omega)
theorem TakeAt.below {gu gv o : Nat} {V M0 : List Nat} {d i c b : Nat} {wx wy : World} {M : List Nat} (h : TakeAt gu gv o V M0 d i c b wx M) (hb : Below wx.heap.size wx wy) : TakeAt gu gv o V M0 d i c b wy M :=
  ⟨h.len, h.lim, h.arr.below hb h.arr.lt, h.arv.below hb h.arv.lt, h.eqn, h.far⟩
theorem TakeAt.last {gu gv o n : Nat} {V M0 : List Nat} {d c b b' r : Nat} {wx : World} {M : List Nat} (h : TakeAt gu gv o V M0 d n c b wx M) (hi : o + n < M0.length) (hr : r < 4294967296) (he : M.getD (o + n) 0 + 4294967296 * b' = c + b + r) :
    Arr (wx.setCell ⟨gu, o + n, none⟩ (.int .u32 (r : Int))) gu (M.set (o + n) r) ∧ (M.set (o + n) r).length = M0.length ∧ Lim (M.set (o + n) r) ∧
      val (M.set (o + n) r) + pw o * (d * val (V.take n)) = val M0 + b' * pw (o + n + 1) ∧ (∀ j, o + n < j → (M.set (o + n) r).getD j 0 = M0.getD j 0) := by
  have hl := h.len
  refine ⟨h.arr.set _ _ (by omega), by rw [List.length_set]; exact hl, h.lim.set _ _ hr, ?_, fun j hj => by rw [getD_set _ _ _ _ (by omega), if_neg (by omega)]; exact h.far j (by omega)⟩
  have h1 := val_set M (o + n) r (by omega)
  have h3 := h.eqn
  rw [pw_succ]
  generalize pw (o + n) = P at *
  have k1 : P * (M.getD (o + n) 0 + 4294967296 * b') = P * (c + b + r) := by rw [he]
  have k3 : b' * (4294967296 * P) = P * (4294967296 * b') := by rw [Nat.mul_comm, Nat.mul_comm 4294967296 P, Nat.mul_assoc]
  rw [Nat.mul_add, Nat.mul_add, Nat.mul_add] at k1
  rw [Nat.add_mul, Nat.mul_comm c P, Nat.mul_comm b P] at h3
  rw [k3]
  omega
theorem mul_bound' {d x c : Nat} (hd : d ≤ 4294967296) (hx : x < 4294967296) (hc : c < 4294967296) : d * x + c ≤ 18446744073709551615 := by
  have : d * x ≤ 4294967296 * 4294967295 := Nat.mul_le_mul hd (by omega)
  omega

set_option maxRecDepth 100000 in
set_option maxHeartbeats 1000000 in
theorem take_any (w : World) (gu gv o n cu cv d : Nat) (M V : List Nat) (hM : Arr w gu M) (hV : Arr w gv V) (lM : Lim M) (lV : Lim V) (hne : gv ≠ gu) (hn : n ≤ V.length) (ho : o + n < M.length) (hb : M.length ≤ 100000) (hd : d ≤ 4294967296) :
    Calls Tryz.prog 90 #[.slice (some ⟨gu, o, none⟩) (n + 1) cu, .slice (some ⟨gv, 0, none⟩) n cv, .int .u64 d] w fun e w' => Only gu w w' ∧ ∃ (b : Nat) (M' : List Nat), e = .returned (.bool (decide (b ≠ 0))) ∧ b ≤ 1 ∧ Arr w' gu M' ∧ M'.length = M.length ∧ Lim M' ∧
      val M' + pw o * (d * val (V.take n)) = val M + b * pw (o + n + 1) ∧ (∀ j, o + n < j → M'.getD j 0 = M.getD j 0) := by
  have HM := Lib.hid (And.intro (And.intro hM hV) (And.intro lM lV)); clear hM hV lM lV
  have HNE := Lib.hid hne; clear hne
  go_enter Tryz.func90, Tryz.ntmps90
  go_wp2
  go_loopw [7, 8, 15] (fun c b i wx => TakeRel w gu gv o n V M d c b i wx) (fun _ _ i _ => n - (intOf i).toNat)
  case atStart => exact ⟨0, 0, 0, Nat.zero_le _, rfl, rfl, rfl, by omega, by omega, Only.refl _ _, M, rfl, HM.out.2.1, HM.out.1.1, HM.out.1.2, by simp [val], fun _ _ => rfl⟩
  case round =>
    obtain ⟨i, cy, bw, hi, rfl, rfl, rfl, hcy, hbw, hO, m, HS⟩ := hrel
    have hlm : m.length = M.length := HS.out.len
    have HL := Lib.hid hlm
    by_cases hlt : i < n
    · have hx := HS.out.arv.cell (i := i) (by omega)
      have xl := HM.out.2.2.getD i
      have hu := HS.out.arr.cell (i := o + i) (by omega)
      have ul := HS.out.lim.getD (o + i)
      have hfz := HS.out.arr.frozen (o + i)
      obtain ⟨p, hp⟩ : ∃ p, d * V.getD i 0 = p := ⟨_, rfl⟩
      obtain ⟨t, ht⟩ : ∃ t, p + cy = t := ⟨_, rfl⟩
      have hpb := mul_bound' hd xl hcy
      rw [hp, ht] at hpb
      have hp' : (d : Int) * ((V.getD i 0 : Nat) : Int) = (p : Int) := by rw [← hp, Int.natCast_mul]
      have HN := Lib.hid fun (r b' : Nat) (hr : r < 4294967296) he => HS.out.next (r := r) (b' := b') (c' := t / 4294967296) (lo := t % 4294967296) HNE.out (by omega) hr (by rw [hp, ht]; omega) he
      have HA := Lib.hid (sub32_any wr (m.getD (o + i) 0) (t % 4294967296) bw ul (Nat.mod_lt _ (by omega)) hbw)
      have ht' : (p : Int) + (cy : Int) = (t : Int) := by omega
      have h1 : (t : Int) % 4294967296 = ((t % 4294967296 : Nat) : Int) := by omega
      have h2 : (t : Int) / 4294967296 = ((t / 4294967296 : Nat) : Int) := by omega
      have hq2 : t / 4294967296 < 4294967296 := by omega
      clear hp HS hlm
      generalize V.getD i 0 = x at *
      generalize m.getD (o + i) 0 = u at *
      generalize t % 4294967296 = q1 at *
      generalize t / 4294967296 = q2 at *
      clear ht
      go_wp2_with (go_at_call 66; refine HA.out.mono ?_; rintro e w' ⟨r, b', rfl, hr, hb', he, rfl⟩; replace HN := Lib.hid (HN.out r b' hr he); replace he := Lib.hid he)
      go_roundw
      case rel => exact ⟨i + 1, q2, b', by omega, by go_num, rfl, rfl, hq2, hb', hO.setCell _ _, _, HN⟩
      case measure => simp [intOf]; omega
    · have hin : i = n := by omega
      subst hin
      have hu := HS.out.arr.cell (i := o + i) (by omega)
      have ul := HS.out.lim.getD (o + i)
      have hfz := HS.out.arr.frozen (o + i)
      have HN := Lib.hid fun (r b' : Nat) (hr : r < 4294967296) he => HS.out.last (r := r) (b' := b') (by omega) hr he
      have HA := Lib.hid (sub32_any wr (m.getD (o + i) 0) cy bw ul hcy hbw)
      clear HS hlm
      generalize m.getD (o + i) 0 = u at *
      go_wp2_with (go_at_call 66; refine HA.out.mono ?_; rintro e w' ⟨r, b', rfl, hr, hb', he, rfl⟩; replace HN := Lib.hid (HN.out r b' hr he); replace he := Lib.hid he)
      go_ret
      obtain ⟨n1, n2, n3, n4, n5⟩ := HN.out
      refine ⟨hO.setCell _ _, b', _, ?_, hb', n1, n2, n3, n4, n5⟩
      rcases (show b' = 0 ∨ b' = 1 by omega) with rfl | rfl <;> rfl

structure RestAt (gu gv o : Nat) (V M0 : List Nat) (i c : Nat) (wx : World) (M : List Nat) : Prop where
  len : M.length = M0.length
  lim : Lim M
  arr : Arr wx gu M
  arv : Arr wx gv V
  eqn : val M + c * pw (o + i) = val M0 + pw o * val (V.take i)
  far : ∀ j, o + i ≤ j → M.getD j 0 = M0.getD j 0
def RestRel (w : World) (gu gv o n : Nat) (V M0 : List Nat) (c i : Value) (wx : World) : Prop :=
  ∃ k cy : Nat, k ≤ n ∧ i = .int .i64 k ∧ c = .int .u32 cy ∧ cy ≤ 1 ∧ Only gu w wx ∧ ∃ M, Hid (RestAt gu gv o V M0 k cy wx M)
theorem RestAt.next {gu gv o : Nat} {V M0 : List Nat} {i c : Nat} {wx : World} {M : List Nat} (h : RestAt gu gv o V M0 i c wx M) (hne : gv ≠ gu) (hi : o + i < M0.length) :
    RestAt gu gv o V M0 (i + 1) ((M.getD (o + i) 0 + V.getD i 0 + c) / 4294967296) (wx.setCell ⟨gu, o + i, none⟩ (.int .u32 (((M.getD (o + i) 0 + V.getD i 0 + c) % 4294967296 : Nat) : Int))) (M.set (o + i) ((M.getD (o + i) 0 + V.getD i 0 + c) % 4294967296)) where
  len := by rw [List.length_set]; exact h.len
  lim := h.lim.set _ _ (Nat.mod_lt _ (by omega))
  arr := h.arr.set _ _ (by have := h.len; omega)
  arv := h.arv.other (by simpa using hne) _
  eqn := by
    have hl := h.len
    have h1 := val_set M (o + i) ((M.getD (o + i) 0 + V.getD i 0 + c) % 4294967296) (by omega)
    have h2 := sum_step (val M) (pw (o + i)) (M.getD (o + i) 0) (V.getD i 0) c _ rfl
    have h3 := h.eqn
    have h5 : pw o * val (V.take (i + 1)) = pw o * val (V.take i) + pw (o + i) * V.getD i 0 := by
      rw [val_take_next, Nat.mul_add, pw_add, Nat.mul_assoc]
    rw [h5, show o + (i + 1) = o + i + 1 from rfl, pw_succ, Nat.mul_comm _ (4294967296 * pw (o + i))]
    omega
  far := fun j hj => by
    rw [getD_set _ _ _ _ (by have := h.len; omega), if_neg (by omega)]
    exact h.far j (by omega)
theorem RestAt.last {gu gv o n : Nat} {V M0 : List Nat} {c : Nat} {wx : World} {M : List Nat} (h : RestAt gu gv o V M0 n c wx M) (hi : o + n < M0.length) :
    Arr (wx.setCell ⟨gu, o + n, none⟩ (.int .u32 (((M.getD (o + n) 0 + c) % 4294967296 : Nat) : Int))) gu (M.set (o + n) ((M.getD (o + n) 0 + c) % 4294967296)) ∧ (M.set (o + n) ((M.getD (o + n) 0 + c) % 4294967296)).length = M0.length ∧
      Lim (M.set (o + n) ((M.getD (o + n) 0 + c) % 4294967296)) ∧ val (M.set (o + n) ((M.getD (o + n) 0 + c) % 4294967296)) + (M.getD (o + n) 0 + c) / 4294967296 * pw (o + n + 1) = val M0 + pw o * val (V.take n) ∧
      (∀ j, o + n < j → (M.set (o + n) ((M.getD (o + n) 0 + c) % 4294967296)).getD j 0 = M0.getD j 0) := by
  have hl := h.len
  refine ⟨h.arr.set _ _ (by omega), by rw [List.length_set]; exact hl, h.lim.set _ _ (Nat.mod_lt _ (by omega)), ?_, fun j hj => by rw [getD_set _ _ _ _ (by omega), if_neg (by omega)]; exact h.far j (by omega)⟩
  have h1 := val_set M (o + n) ((M.getD (o + n) 0 + c) % 4294967296) (by omega)
  have h2 := sum_step (val M) (pw (o + n)) (M.getD (o + n) 0) 0 c _ rfl
  have h3 := h.eqn
  simp only [Nat.add_zero, Nat.mul_zero] at h2
  rw [pw_succ, Nat.mul_comm _ (4294967296 * pw (o + n))]
  omega

set_option maxRecDepth 100000 in
set_option maxHeartbeats 1000000 in
theorem restore_any (w : World) (gu gv o n cu cv : Nat) (M V : List Nat) (hM : Arr w gu M) (hV : Arr w gv V) (lM : Lim M) (lV : Lim V) (hne : gv ≠ gu) (hn : n ≤ V.length) (ho : o + n < M.length) (hb : M.length ≤ 100000) :
    Calls Tryz.prog 91 #[.slice (some ⟨gu, o, none⟩) (n + 1) cu, .slice (some ⟨gv, 0, none⟩) n cv] w fun e w' => Only gu w w' ∧ ∃ (b : Nat) (M' : List Nat), e = .returned (.tuple #[]) ∧ Arr w' gu M' ∧ M'.length = M.length ∧ Lim M' ∧
      val M' + b * pw (o + n + 1) = val M + pw o * val (V.take n) ∧ (∀ j, o + n < j → M'.getD j 0 = M.getD j 0) := by
  have HM := Lib.hid (And.intro (And.intro hM hV) (And.intro lM lV)); clear hM hV lM lV
  have HNE := Lib.hid hne; clear hne
  go_enter Tryz.func91, Tryz.ntmps91
  go_wp2
  go_loopw [4, 9] (fun c i wx => RestRel w gu gv o n V M c i wx) (fun _ i _ => n - (intOf i).toNat)
  case atStart => exact ⟨0, 0, Nat.zero_le _, rfl, rfl, by omega, Only.refl _ _, M, rfl, HM.out.2.1, HM.out.1.1, HM.out.1.2, by simp [val], fun _ _ => rfl⟩
  case round =>
    obtain ⟨i, cy, hi, rfl, rfl, hcy, hO, m, HS⟩ := hrel
    have hlm : m.length = M.length := HS.out.len
    by_cases hlt : i < n
    · have hx := HS.out.arv.cell (i := i) (by omega)
      have xl := HM.out.2.2.getD i
      have hu := HS.out.arr.cell (i := o + i) (by omega)
      have ul := HS.out.lim.getD (o + i)
      have hfz := HS.out.arr.frozen (o + i)
      have HN := Lib.hid (HS.out.next HNE.out (by omega))
      have HA := Lib.hid (add32_any wr (m.getD (o + i) 0) (V.getD i 0) cy ul xl hcy)
      have hq2 : (m.getD (o + i) 0 + V.getD i 0 + cy) / 4294967296 ≤ 1 := by omega
      clear HS hlm
      generalize V.getD i 0 = x at *
      generalize m.getD (o + i) 0 = u at *
      generalize (u + x + cy) % 4294967296 = q1 at *
      generalize (u + x + cy) / 4294967296 = q2 at *
      go_wp2_with (go_at_call 65; refine HA.out.mono ?_; rintro e w' ⟨rfl, rfl⟩)
      go_roundw
      case rel => exact ⟨i + 1, q2, by omega, by go_num, rfl, hq2, hO.setCell _ _, _, HN⟩
      case measure => simp [intOf]; omega
    · have hin : i = n := by omega
      subst hin
      have hu := HS.out.arr.cell (i := o + i) (by omega)
      have ul := HS.out.lim.getD (o + i)
      have hfz := HS.out.arr.frozen (o + i)
      have HN := Lib.hid (HS.out.last (by omega))
      clear HS hlm
      generalize m.getD (o + i) 0 = u at *
      have h1 : ((u : Int) + (cy : Int)) % 4294967296 = (((u + cy) % 4294967296 : Nat) : Int) := by omega
      generalize (u + cy) % 4294967296 = q1 at *
      go_wp2
      go_end0
      obtain ⟨n1, n2, n3, n4, n5⟩ := HN.out
      exact ⟨hO.setCell _ _, _, _, rfl, n1, n2, n3, n4, n5⟩

end Go.Proofs.YtgcobhlplffpjaaGreatDoor
