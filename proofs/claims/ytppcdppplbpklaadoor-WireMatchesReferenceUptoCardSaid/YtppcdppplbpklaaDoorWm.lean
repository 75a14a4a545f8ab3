/- Plain laws of the wire format: a frame is read as the message that was written, and what is read was written so. -/
import Derived.Test.YtppcdppplbpklaaDoorWh
namespace Go.Proofs.YtppcdppplbpklaaDoor
open Go.RowKit

theorem toNat_ofNat {n : Nat} (h : n < 256) : (UInt8.ofNat n).toNat = n := by simp [UInt8.toNat_ofNat']; omega
theorem ofNat_toNat (x : UInt8) : UInt8.ofNat x.toNat = x := by simp

theorem num_digs : ∀ (f j acc n : Nat) (r : List UInt8), n < 128 ^ (f + 1) → (0 < j → 0 < n) → numG (f + 1) j acc (digs f n ++ r) = some (acc + n * 2 ^ (7 * j), j + (digs f n).length) := by
  intro f
  induction f with
  | zero =>
    intro j acc n r hn h0
    have hn' : n < 128 := by simpa using hn
    simp only [digs, List.cons_append, List.nil_append, numG, toNat_ofNat (show n < 256 by omega), if_pos hn']
    rw [if_neg (by rintro ⟨h, h'⟩; have := h0 h'; omega), Nat.mod_eq_of_lt hn']
    rfl
  | succ f ih =>
    intro j acc n r hn h0
    by_cases h : 127 < n
    · have h1 : n % 128 + 128 < 256 := by omega
      simp only [digs, if_pos h, List.cons_append, numG, toNat_ofNat h1]
      rw [if_neg (by omega), ih (j + 1) _ (n / 128) r (by rw [Nat.pow_succ] at hn; omega) (by omega)]
      have e1 : (n % 128 + 128) % 128 = n % 128 := by omega
      rw [e1, show 7 * (j + 1) = 7 + 7 * j from by omega, Nat.pow_add, List.length_cons]
      congr 1
      congr 1
      · have : n = n % 128 + 128 * (n / 128) := by omega
        generalize 2 ^ (7 * j) = P
        have e2 : n * P = (n % 128) * P + (n / 128) * (2 ^ 7 * P) := by
          rw [show (n / 128) * (2 ^ 7 * P) = (128 * (n / 128)) * P from by rw [← Nat.mul_assoc, Nat.mul_comm (n / 128)], ← Nat.add_mul, ← this]
        rw [e2]; omega
      · omega
    · simp only [digs, if_neg h, List.cons_append, List.nil_append, numG, toNat_ofNat (show n < 256 by omega)]
      rw [if_pos (by omega), if_neg (by rintro ⟨h1, h2⟩; have := h0 h2; omega), Nat.mod_eq_of_lt (by omega)]
      rfl

theorem digs_num : ∀ (f j acc : Nat) (l : List UInt8) (v j' : Nat), numG (f + 1) j acc l = some (v, j') →
    ∃ n, v = acc + n * 2 ^ (7 * j) ∧ n < 128 ^ (f + 1) ∧ (0 < j → 0 < n) ∧ j' = j + (digs f n).length ∧ l = digs f n ++ l.drop (j' - j) := by
  intro f
  induction f with
  | zero =>
    intro j acc l v j' h
    cases l with
    | nil => simp [numG] at h
    | cons x r =>
      simp only [numG] at h
      split at h
      · split at h
        · cases h
        · rename_i h1 h2
          simp only [Option.some.injEq, Prod.mk.injEq] at h
          refine ⟨x.toNat, by rw [← h.1, Nat.mod_eq_of_lt h1], by simpa using h1, by omega, by rw [← h.2]; rfl, ?_⟩
          rw [show j' - j = 1 from by omega]
          simp [digs]
      · cases h
  | succ f ih =>
    intro j acc l v j' h
    cases l with
    | nil => simp [numG] at h
    | cons x r =>
      rw [numG] at h
      split at h
      · split at h
        · cases h
        · rename_i h1 h2
          simp only [Option.some.injEq, Prod.mk.injEq] at h
          have hd : digs (f + 1) x.toNat = [x] := by rw [digs, if_neg (by omega), ofNat_toNat]
          refine ⟨x.toNat, by rw [← h.1, Nat.mod_eq_of_lt h1], Nat.lt_of_lt_of_le h1 (by rw [Nat.pow_succ]; exact Nat.le_mul_of_pos_left _ (Nat.pow_pos (by omega))), by omega, by rw [hd]; exact h.2.symm, ?_⟩
          rw [hd, show j' - j = 1 from by omega]
          rfl
      · rename_i h1
        have hx := x.toNat_lt
        obtain ⟨n, hv, hn, hn0, hj, hl⟩ := ih (j + 1) _ r v j' h
        have hn1 : 0 < n := hn0 (by omega)
        have hd : digs (f + 1) (128 * n + x.toNat % 128) = x :: digs f n := by
          rw [digs, if_pos (by omega), show (128 * n + x.toNat % 128) % 128 + 128 = x.toNat from by omega, ofNat_toNat, show (128 * n + x.toNat % 128) / 128 = n from by omega]
        refine ⟨128 * n + x.toNat % 128, ?_, by rw [Nat.pow_succ]; omega, by omega, by rw [hd, List.length_cons]; omega, ?_⟩
        · rw [hv, show 7 * (j + 1) = 7 + 7 * j from by omega, Nat.pow_add]
          generalize 2 ^ (7 * j) = P
          rw [Nat.add_mul, show n * (2 ^ 7 * P) = 128 * n * P from by rw [← Nat.mul_assoc, Nat.mul_comm n]]
          omega
        · rw [hd, List.cons_append]
          congr 1
          rw [show j' - j = (j' - (j + 1)) + 1 from by omega, List.drop_succ_cons]
          exact hl
theorem byteAt_cons (x : UInt8) (l : List UInt8) : byteAt (x :: l) 0 = x.toNat := rfl
theorem byteAt_append (P : List UInt8) (T : List UInt8) (i : Nat) : byteAt (P ++ T) (P.length + i) = byteAt T i := by
  unfold byteAt
  rw [List.getD_eq_getElem?_getD, List.getD_eq_getElem?_getD, List.getElem?_append_right (by omega), Nat.add_sub_cancel_left]

theorem fin_ok {m : Msg} (h : m.ok = true) : fin m = some m := by simp only [fin, h, if_true]
theorem fin_some {m x : Msg} (h : fin m = some x) : m.ok = true ∧ m = x := by
  unfold fin at h
  split at h
  · rename_i hk
    exact ⟨hk, Option.some.inj h⟩
  · cases h

theorem parse_body (m : Msg) (h : m.ok = true) : parse m.body = some m := by
  obtain ⟨k, f, t, s, b, v, ts, tc, tn, td⟩ := m
  obtain ⟨k1, k2, f1, f2, t1, t2, hft, s1, s2, b1, b2, v1, v2, tc1, tc2, tn1, tn2, td1, td2, HV⟩ := valid_bounds (show validB k f t s b v ts tc tn td = true from h)
  have hfin := fin_ok h
  obtain ⟨k, rfl⟩ := Int.eq_ofNat_of_zero_le (show 0 ≤ k by omega)
  obtain ⟨f, rfl⟩ := Int.eq_ofNat_of_zero_le f1
  obtain ⟨t, rfl⟩ := Int.eq_ofNat_of_zero_le t1
  obtain ⟨s, rfl⟩ := Int.eq_ofNat_of_zero_le (show 0 ≤ s by omega)
  obtain ⟨b, rfl⟩ := Int.eq_ofNat_of_zero_le (show 0 ≤ b by omega)
  obtain ⟨v, rfl⟩ := Int.eq_ofNat_of_zero_le v1
  obtain ⟨tc, rfl⟩ := Int.eq_ofNat_of_zero_le tc1
  obtain ⟨td, rfl⟩ := Int.eq_ofNat_of_zero_le td1
  have e8 : ((8 : Int) * (f : Int) + (t : Int)).toNat = 8 * f + t := by omega
  -- the tail
  have htail : ∀ (P : List UInt8) (mid : List UInt8), P = [UInt8.ofNat k, UInt8.ofNat (8 * f + t), UInt8.ofNat s] ++ mid →
      parseTail (P ++ (Msg.mk k f t s b v ts tc tn td).tail) b v P.length = some (Msg.mk k f t s b v ts tc tn td) := by
    intro P mid hP
    have h0 : byteAt (P ++ (Msg.mk k f t s b v ts tc tn td).tail) 0 = k := by rw [hP]; exact toNat_ofNat (by omega)
    have h1 : byteAt (P ++ (Msg.mk k f t s b v ts tc tn td).tail) 1 = 8 * f + t := by rw [hP]; exact toNat_ofNat (by omega)
    have h2 : byteAt (P ++ (Msg.mk k f t s b v ts tc tn td).tail) 2 = s := by rw [hP]; exact toNat_ofNat (by omega)
    rw [parseTail_eq _ b v P.length k (8 * f + t) s h0 h1 h2, show (8 * f + t) / 8 = f from by omega, show (8 * f + t) % 8 = t from by omega]
    by_cases hn : ts = 0 ∧ (tc : Int) = 0 ∧ tn = 0 ∧ (td : Int) = 0
    · have ht : (Msg.mk k f t s b v ts tc tn td).tail = [] := by
        have : (Msg.mk k f t s b v ts tc tn td).none_ = true := by simpa [Msg.none_] using hn
        simp only [Msg.tail, this, if_true]
      rw [ht, List.append_nil, if_pos rfl]
      obtain ⟨rfl, h4, rfl, h5⟩ := hn
      rw [h4, h5] at hfin ⊢
      exact hfin
    · have hx : ∃ x : Nat, 3 * (tc : Int) + tn + 1 = x ∧ x < 256 := ⟨(3 * (tc : Int) + tn + 1).toNat, by omega, by omega⟩
      obtain ⟨x, hx1, hx2⟩ := hx
      have ht : (Msg.mk k f t s b v ts tc tn td).tail = [UInt8.ofNat x, UInt8.ofNat td] := by
        have : (Msg.mk k f t s b v ts tc tn td).none_ = false := by simpa [Msg.none_] using hn
        simp only [Msg.tail, this, Bool.false_eq_true, if_false, hx1, Int.toNat_natCast]
      have hts : ts = s := by rcases HV with h | h | h | h <;> omega
      have g0 : byteAt (P ++ (Msg.mk k f t s b v ts tc tn td).tail) P.length = x := by
        have := byteAt_append P (Msg.mk k f t s b v ts tc tn td).tail 0
        rw [Nat.add_zero] at this
        rw [this, ht]; exact toNat_ofNat hx2
      have g1 : byteAt (P ++ (Msg.mk k f t s b v ts tc tn td).tail) (P.length + 1) = td := by
        rw [byteAt_append, ht]; exact toNat_ofNat (by omega)
      rw [g0, g1, if_neg (by rw [ht, List.length_append]; simp), if_pos (by rw [ht, List.length_append]; rfl)]
      rw [show (x : Int) / 3 = tc from by omega, show (x : Int) % 3 - 1 = tn from by omega, ← hts]
      rw [← hts] at hfin
      exact hfin
  have hb : b < 128 ^ (2 + 1) := by omega
  have hv : v < 128 ^ (2 + 1) := by omega
  have hbody : (Msg.mk k f t s b v ts tc tn td).body = [UInt8.ofNat k, UInt8.ofNat (8 * f + t), UInt8.ofNat s] ++ (digs 2 b ++ ((Msg.mk k f t s b v ts tc tn td).mid ++ (Msg.mk k f t s b v ts tc tn td).tail)) := by
    simp only [Msg.body, Msg.head, Int.toNat_natCast, e8, List.append_assoc]
  have n1 := num_digs 2 0 0 b ((Msg.mk k f t s b v ts tc tn td).mid ++ (Msg.mk k f t s b v ts tc tn td).tail) hb (by omega)
  simp only [Nat.zero_add, Nat.mul_zero, Nat.pow_zero, Nat.mul_one] at n1
  have hd3 : (Msg.mk k f t s b v ts tc tn td).body.drop 3 = digs 2 b ++ ((Msg.mk k f t s b v ts tc tn td).mid ++ (Msg.mk k f t s b v ts tc tn td).tail) := by rw [hbody]; rfl
  unfold parse
  rw [hd3, n1]
  have hk0 : byteAt (Msg.mk k f t s b v ts tc tn td).body 0 = k := by rw [hbody]; exact toNat_ofNat (by omega)
  rw [hk0]
  have hd4 : (Msg.mk k f t s b v ts tc tn td).body.drop (3 + (digs 2 b).length) = (Msg.mk k f t s b v ts tc tn td).mid ++ (Msg.mk k f t s b v ts tc tn td).tail := by
    rw [← List.drop_drop, hd3, List.drop_left]
  simp only []
  by_cases hk2 : k = 2
  · rw [if_pos hk2, hd4]
    have hmid : (Msg.mk k f t s b v ts tc tn td).mid = digs 2 v := by
      simp only [Msg.mid, Int.toNat_natCast]
      rw [if_pos (by omega)]
    have n2 := num_digs 2 0 0 v (Msg.mk k f t s b v ts tc tn td).tail hv (by omega)
    simp only [Nat.zero_add, Nat.mul_zero, Nat.pow_zero, Nat.mul_one] at n2
    rw [hmid, n2]
    have := htail ([UInt8.ofNat k, UInt8.ofNat (8 * f + t), UInt8.ofNat s] ++ (digs 2 b ++ digs 2 v)) _ rfl
    rw [hbody, hmid]
    simp only [List.length_append, List.length_cons, List.length_nil, List.append_assoc] at this ⊢
    rw [show 3 + (digs 2 b).length + (digs 2 v).length = 0 + 1 + 1 + 1 + ((digs 2 b).length + (digs 2 v).length) from by omega]
    exact this
  · rw [if_neg hk2]
    have hmid : (Msg.mk k f t s b v ts tc tn td).mid = [] := by
      simp only [Msg.mid]
      rw [if_neg (by omega)]
    have hv0 : v = 0 := by rcases HV with h | h | h | h <;> omega
    have := htail ([UInt8.ofNat k, UInt8.ofNat (8 * f + t), UInt8.ofNat s] ++ digs 2 b) _ rfl
    rw [hbody, hmid]
    simp only [List.length_append, List.length_cons, List.length_nil, List.append_assoc, List.nil_append] at this ⊢
    rw [show 3 + (digs 2 b).length = 0 + 1 + 1 + 1 + (digs 2 b).length from by omega]
    rw [hv0] at this ⊢
    exact this
theorem list3 (l : List UInt8) (h : 3 ≤ l.length) : l = [l.getD 0 0, l.getD 1 0, l.getD 2 0] ++ l.drop 3 := by
  match l, h with
  | a :: b :: c :: r, _ => rfl

theorem ofNat_byteAt (l : List UInt8) (i : Nat) : UInt8.ofNat (byteAt l i) = l.getD i 0 := ofNat_toNat _

theorem parseTail_some (l : List UInt8) (b v p : Nat) (m : Msg) (h : parseTail l b v p = some m) :
    m.ok = true ∧ m.k = byteAt l 0 ∧ m.f = (byteAt l 1 / 8 : Nat) ∧ m.t = (byteAt l 1 % 8 : Nat) ∧ m.s = byteAt l 2 ∧ m.b = b ∧ m.v = v ∧ l.drop p = m.tail := by
  rw [parseTail_eq l b v p _ _ _ rfl rfl rfl] at h
  split at h
  · rename_i hp
    obtain ⟨hk, rfl⟩ := fin_some h
    refine ⟨hk, rfl, rfl, rfl, rfl, rfl, rfl, ?_⟩
    rw [List.drop_eq_nil_of_le (by omega)]
    rfl
  · split at h
    · rename_i hp1 hp
      obtain ⟨hk, rfl⟩ := fin_some h
      refine ⟨hk, rfl, rfl, rfl, rfl, rfl, rfl, ?_⟩
      have hb := valid_bounds hk
      dsimp only at hb
      have h0 : byteAt l p < 256 := (l.getD p 0).toNat_lt
      have hn : (Msg.mk (byteAt l 0) (byteAt l 1 / 8 : Nat) (byteAt l 1 % 8 : Nat) (byteAt l 2) b v (byteAt l 2) ((byteAt l p : Int) / 3) ((byteAt l p : Int) % 3 - 1) (byteAt l (p + 1))).none_ = false := by
        simp only [Msg.none_, decide_eq_false_iff_not]
        omega
      simp only [Msg.tail, hn, Bool.false_eq_true, if_false]
      rw [show (3 * ((byteAt l p : Int) / 3) + ((byteAt l p : Int) % 3 - 1) + 1).toNat = byteAt l p from by omega, Int.toNat_natCast, ofNat_byteAt, ofNat_byteAt]
      rw [drop_cons l p (by omega), drop_cons l (p + 1) (by omega), List.drop_eq_nil_of_le (by omega)]
    · cases h

theorem parse_some (l : List UInt8) (m : Msg) (hl : 3 ≤ l.length) (h : parse l = some m) : m.ok = true ∧ m.body = l := by
  unfold parse at h
  rcases h1 : numG 3 0 0 (l.drop 3) with _ | ⟨b, j⟩
  · rw [h1] at h; cases h
  · rw [h1] at h
    simp only [] at h
    obtain ⟨b', hb, hb2, -, hj, hd⟩ := digs_num 2 0 0 (l.drop 3) b j h1
    simp only [Nat.zero_add, Nat.mul_zero, Nat.pow_zero, Nat.mul_one, Nat.sub_zero] at hb hj hd
    subst hb
    have x1 : byteAt l 1 < 256 := (l.getD 1 0).toNat_lt
    have hbody : ∀ (v p : Nat) (mid : List UInt8), parseTail l b v p = some m → (m.mid = mid) → l.drop (3 + j) = mid ++ l.drop p → m.ok = true ∧ m.body = l := by
      intro v p mid hp hmid hdr
      obtain ⟨hok, ek, ef, et, es, eb, ev, ht⟩ := parseTail_some l b v p m hp
      refine ⟨hok, ?_⟩
      have e8 : (8 * m.f + m.t).toNat = byteAt l 1 := by rw [ef, et]; omega
      unfold Msg.body Msg.head
      rw [e8, ek, es, eb, hmid, ← ht, Int.toNat_natCast, Int.toNat_natCast, Int.toNat_natCast, ofNat_byteAt, ofNat_byteAt, ofNat_byteAt, List.append_assoc, List.append_assoc, ← hdr]
      have : l.drop 3 = digs 2 b ++ l.drop (3 + j) := by rw [← List.drop_drop]; exact hd
      rw [← this]
      exact (list3 l hl).symm
    split at h
    · rename_i hk2
      rcases h2 : numG 3 0 0 (l.drop (3 + j)) with _ | ⟨v, i⟩
      · rw [h2] at h; cases h
      · rw [h2] at h
        simp only [] at h
        obtain ⟨v', hv, hv2, -, hi, hdv⟩ := digs_num 2 0 0 (l.drop (3 + j)) v i h2
        simp only [Nat.zero_add, Nat.mul_zero, Nat.pow_zero, Nat.mul_one, Nat.sub_zero] at hv hi hdv
        subst hv
        have hp := parseTail_some l b v _ m h
        refine hbody v (3 + j + i) (digs 2 v) h ?_ (by rw [show l.drop (3 + j + i) = (l.drop (3 + j)).drop i from by rw [List.drop_drop]]; exact hdv)
        unfold Msg.mid
        rw [if_pos (by rw [hp.2.1]; omega), hp.2.2.2.2.2.2.1, Int.toNat_natCast]
    · rename_i hk2
      have hp := parseTail_some l b 0 _ m h
      refine hbody 0 (3 + j) [] h ?_ rfl
      unfold Msg.mid
      rw [if_neg (by rw [hp.2.1]; omega)]

theorem be_val (c : Nat) (_h : c < 4294967296) : beOf (be32 c) = c := by
  simp only [be32, beOf, List.foldl_cons, List.foldl_nil, UInt8.toNat_ofNat']
  omega
theorem be_back (l : List UInt8) (_h : l.length = 4) : be32 (beOf l) = l := by
  match l, _h with
  | [a, b, c, d], _ =>
    have ha := a.toNat_lt
    have hb := b.toNat_lt
    have hc := c.toNat_lt
    have hd := d.toNat_lt
    simp only [be32, beOf, List.foldl_cons, List.foldl_nil]
    congr 1
    · exact (congrArg UInt8.ofNat (by omega)).trans (ofNat_toNat a)
    · have g : ∀ (n : Nat) (x : UInt8), n % 256 = x.toNat → UInt8.ofNat n = x := fun n x hx => UInt8.toNat_inj.1 (by rw [UInt8.toNat_ofNat']; exact hx)
      congr 1
      · exact g _ _ (by omega)
      · congr 1
        · exact g _ _ (by omega)
        · congr 1
          exact g _ _ (by omega)
theorem crcSum_lt (l : List UInt8) : crcSum l < 4294967296 := Nat.xor_lt_two_pow (n := 32) (by omega) (crcFrom_lt (by omega) l)

theorem body_bounds (m : Msg) (_h : m.ok = true) : 4 ≤ m.body.length ∧ m.body.length ≤ 11 := by
  have h1 := digs_length 2 m.b.toNat
  have h2 := digs_length 2 m.v.toNat
  have h3 : m.mid.length ≤ 3 := by unfold Msg.mid; split <;> first | omega | simp
  have h4 : m.tail.length ≤ 2 := by unfold Msg.tail; split <;> simp
  simp only [Msg.body, Msg.head, List.length_append, List.length_cons, List.length_nil]
  omega

theorem frame_length (m : Msg) : m.frame.length = m.body.length + 5 := by simp [Msg.frame, withSum, be32]

/-- Reading behind a frame. -/
theorem dec_frame (m : Msg) (more : List UInt8) (h : m.ok = true) : dec (m.frame ++ more) = some m ∧ bodyOf (m.frame ++ more) = m.body := by
  obtain ⟨hb1, hb2⟩ := body_bounds m h
  have hn : (UInt8.ofNat m.body.length).toNat = m.body.length := toNat_ofNat (by omega)
  have h0 : ((m.frame ++ more).getD 0 0).toNat = m.body.length := hn
  have e1 : m.frame ++ more = (UInt8.ofNat m.body.length :: m.body) ++ (be32 (crcSum (UInt8.ofNat m.body.length :: m.body)) ++ more) := by simp [Msg.frame, withSum]
  have hfe : frameErr (m.frame ++ more) = 0 := by
    unfold frameErr
    rw [h0, if_neg (by rw [List.length_append, frame_length]; omega), if_neg (by omega), if_neg (by rw [List.length_append, frame_length]; omega), if_neg]
    intro hne
    apply hne
    have hl : (UInt8.ofNat m.body.length :: m.body).length = m.body.length + 1 := rfl
    rw [e1, ← hl, List.drop_left, List.take_left, List.take_append_of_le_length (by simp [be32])]
    have : (be32 (crcSum (UInt8.ofNat m.body.length :: m.body))).take 4 = be32 (crcSum (UInt8.ofNat m.body.length :: m.body)) := rfl
    rw [this]
    exact be_val _ (crcSum_lt _)
  have hbo : bodyOf (m.frame ++ more) = m.body := by
    unfold bodyOf
    rw [h0, e1, List.cons_append, List.drop_succ_cons, List.drop_zero, List.take_left]
  refine ⟨?_, hbo⟩
  unfold dec
  rw [if_pos hfe, hbo, parse_body m h]

/-- What is read was written so. -/
theorem dec_some (l : List UInt8) (m : Msg) (h : dec l = some m) : m.ok = true ∧ bodyOf l = m.body ∧ m.body.length + 5 ≤ l.length ∧ l.take (m.body.length + 5) = m.frame := by
  unfold dec at h
  split at h
  · rename_i hz
    have hz' := frameErr_zero hz
    obtain ⟨hok, hb⟩ := parse_some (bodyOf l) m (by omega) h
    have hbl : m.body.length = (l.getD 0 0).toNat := by rw [hb]; exact hz'.2.2.2
    refine ⟨hok, hb.symm, by omega, ?_⟩
    unfold frameErr at hz
    rw [if_neg (by omega), if_neg (by omega), if_neg (by omega)] at hz
    have hs : beOf ((l.drop ((l.getD 0 0).toNat + 1)).take 4) = crcSum (l.take ((l.getD 0 0).toNat + 1)) := by
      split at hz
      · cases hz
      · rename_i h; exact Classical.not_not.1 h
    have h1 : l.take ((l.getD 0 0).toNat + 1) = l.getD 0 0 :: bodyOf l := by
      have : l = l.getD 0 0 :: l.drop 1 := by
        match l, (show 0 < l.length by omega) with
        | a :: r, _ => rfl
      rw [this, List.take_succ_cons]
      rfl
    unfold Msg.frame withSum
    rw [hbl, ofNat_toNat, hb, ← h1, ← hs]
    rw [be_back _ (by rw [List.length_take, List.length_drop]; omega)]
    rw [show (l.getD 0 0).toNat + 5 = ((l.getD 0 0).toNat + 1) + 4 from by omega, List.take_add]
  · cases h
end Go.Proofs.YtppcdppplbpklaaDoor
