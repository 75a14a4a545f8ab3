/- Plain laws: the checksum tells bursts of up to four bytes apart and is additive; damaged frames are not read, cut frames are too short, no two messages have one frame. -/
import Derived.Test.YtppcdppplbpklaaDoorWm
namespace Go.Proofs.YtppcdppplbpklaaDoor

theorem xor_div16 (a b : Nat) : (a ^^^ b) / 16 = a / 16 ^^^ b / 16 := by
  have := Nat.shiftRight_xor_distrib (a := a) (b := b) (i := 4)
  simpa [Nat.shiftRight_eq_div_pow] using this
theorem xor_mod16 (a b : Nat) : (a ^^^ b) % 16 = a % 16 ^^^ b % 16 := Nat.xor_mod_two_pow (n := 4)
theorem nib_xor (i j : Nat) (hi : i < 16) (hj : j < 16) : nib.getD (i ^^^ j) 0 = nib.getD i 0 ^^^ nib.getD j 0 := by
  have key : ∀ i, i < 16 → ∀ j, j < 16 → nib.getD (i ^^^ j) 0 = nib.getD i 0 ^^^ nib.getD j 0 := by decide +kernel
  exact key i hi j hj
theorem xor_four (a b c d : Nat) : (a ^^^ b) ^^^ (c ^^^ d) = (a ^^^ c) ^^^ (b ^^^ d) := by
  simp only [Nat.xor_assoc]
  rw [← Nat.xor_assoc b c d, Nat.xor_comm b c, Nat.xor_assoc c b d]
theorem nibStep_xor (a b : Nat) : nibStep (a ^^^ b) = nibStep a ^^^ nibStep b := by
  unfold nibStep
  rw [xor_div16, xor_mod16, nib_xor _ _ (Nat.mod_lt _ (by omega)) (Nat.mod_lt _ (by omega)), xor_four]
theorem byteStep_xor (a b x y : Nat) : byteStep (a ^^^ b) (x ^^^ y) = byteStep a x ^^^ byteStep b y := by
  unfold byteStep
  rw [xor_four, nibStep_xor, nibStep_xor]
/-- The checksum's step is one-to-one. -/
theorem nib_high (i j : Nat) (hi : i < 16) (hj : j < 16) (h : nib.getD i 0 / 268435456 = nib.getD j 0 / 268435456) : i = j := by
  have key : ∀ i, i < 16 → ∀ j, j < 16 → nib.getD i 0 / 268435456 = nib.getD j 0 / 268435456 → i = j := by decide +kernel
  exact key i hi j hj h
theorem xor_cancel {a b c : Nat} (h : a ^^^ c = b ^^^ c) : a = b := by
  have := congrArg (· ^^^ c) h
  simpa [Nat.xor_assoc] using this
theorem xor_div28 (a b : Nat) : (a ^^^ b) / 268435456 = a / 268435456 ^^^ b / 268435456 := by
  have := Nat.shiftRight_xor_distrib (a := a) (b := b) (i := 28)
  simpa [Nat.shiftRight_eq_div_pow] using this
theorem nibStep_inj {a b : Nat} (ha : a < 4294967296) (hb : b < 4294967296) (h : nibStep a = nibStep b) : a = b := by
  unfold nibStep at h
  have h1 := congrArg (· / 268435456) h
  simp only [xor_div28] at h1
  rw [show a / 16 / 268435456 = 0 from by omega, show b / 16 / 268435456 = 0 from by omega, Nat.zero_xor, Nat.zero_xor] at h1
  have h2 := nib_high _ _ (Nat.mod_lt _ (by omega)) (Nat.mod_lt _ (by omega)) h1
  rw [h2] at h
  have h3 := xor_cancel h
  omega
def twiceN (c : Nat) : Nat := nibStep (nibStep c)
theorem twiceN_lt {c : Nat} (h : c < 4294967296) : twiceN c < 4294967296 := nibStep_lt (nibStep_lt h)
theorem twiceN_inj {a b : Nat} (ha : a < 4294967296) (hb : b < 4294967296) (h : twiceN a = twiceN b) : a = b :=
  nibStep_inj ha hb (nibStep_inj (nibStep_lt ha) (nibStep_lt hb) h)
theorem nibStep_mul (d : Nat) : nibStep (16 * d) = d := by
  unfold nibStep
  rw [show 16 * d / 16 = d from by omega, show 16 * d % 16 = 0 from by omega]
  exact Nat.xor_zero d
theorem twiceN_mul (c d : Nat) : twiceN (c ^^^ 256 * d) = twiceN c ^^^ d := by
  unfold twiceN
  rw [nibStep_xor, nibStep_xor, show 256 * d = 16 * (16 * d) from by omega, nibStep_mul, nibStep_mul]
/-- The bytes as one number, the first one lowest. -/
def leB : List UInt8 → Nat
  | [] => 0
  | x :: l => x.toNat + 256 * leB l
theorem leB_lt : ∀ l : List UInt8, leB l < 256 ^ l.length
  | [] => by simp [leB]
  | x :: l => by
    have h := leB_lt l
    have hx := x.toNat_lt
    simp only [leB, List.length_cons, Nat.pow_succ]
    generalize 256 ^ l.length = p at *
    omega
theorem leB_inj : ∀ l m : List UInt8, l.length = m.length → leB l = leB m → l = m
  | [], [], _, _ => rfl
  | [], _ :: _, h, _ => by simp at h
  | _ :: _, [], h, _ => by simp at h
  | x :: l, y :: m, h, e => by
    simp only [leB] at e
    have hx := x.toNat_lt
    have hy := y.toNat_lt
    rw [leB_inj l m (by simpa using h) (by omega), UInt8.toNat_inj.1 (show x.toNat = y.toNat from by omega)]
theorem xor_add (x d : Nat) (hx : x < 256) : x ^^^ 256 * d = x + 256 * d := by
  have h1 : (x ^^^ 256 * d) / 256 = d := by
    have := Nat.shiftRight_xor_distrib (a := x) (b := 256 * d) (i := 8)
    simp only [Nat.shiftRight_eq_div_pow] at this
    rw [show (256 : Nat) = 2 ^ 8 from rfl, this, show x / 2 ^ 8 = 0 from by omega, show 2 ^ 8 * d / 2 ^ 8 = d from by omega]
    exact Nat.zero_xor d
  have h2 : (x ^^^ 256 * d) % 256 = x := by
    have := Nat.xor_mod_two_pow (a := x) (b := 256 * d) (n := 8)
    rw [show (256 : Nat) = 2 ^ 8 from rfl, this, show x % 2 ^ 8 = x from by omega, show 2 ^ 8 * d % 2 ^ 8 = 0 from by omega]
    exact Nat.xor_zero x
  omega
def timesN : Nat → Nat → Nat
  | 0, c => c
  | n + 1, c => timesN n (twiceN c)
theorem timesN_inj : ∀ (n : Nat) {a b : Nat}, a < 4294967296 → b < 4294967296 → timesN n a = timesN n b → a = b
  | 0, _, _, _, _, h => h
  | n + 1, _, _, ha, hb, h => twiceN_inj ha hb (timesN_inj n (twiceN_lt ha) (twiceN_lt hb) h)
theorem crcFrom_leB : ∀ (l : List UInt8) (c : Nat), crcFrom c l = timesN l.length (c ^^^ leB l)
  | [], c => by simp [crcFrom, timesN, leB]
  | x :: l, c => by
    show crcFrom (byteStep c x.toNat) l = timesN l.length (twiceN (c ^^^ leB (x :: l)))
    rw [crcFrom_leB l]
    congr 1
    show twiceN (c ^^^ x.toNat) ^^^ leB l = twiceN (c ^^^ (x.toNat + 256 * leB l))
    rw [← xor_add _ _ x.toNat_lt, ← Nat.xor_assoc, twiceN_mul]
/-- Up to four bytes that follow one another are told apart by the checksum, from any state. -/
theorem crc_burst (c : Nat) (l m : List UInt8) (hc : c < 4294967296) (hl : l.length ≤ 4) (hm : l.length = m.length) (h : crcFrom c l = crcFrom c m) : l = m := by
  rw [crcFrom_leB, crcFrom_leB, ← hm] at h
  have b : ∀ k : List UInt8, k.length ≤ 4 → leB k < 4294967296 := fun k hk =>
    Nat.lt_of_lt_of_le (leB_lt k) (Nat.le_trans (Nat.pow_le_pow_right (by omega) hk) (by decide))
  have h1 := timesN_inj _ (Nat.xor_lt_two_pow (n := 32) hc (b l hl)) (Nat.xor_lt_two_pow (n := 32) hc (b m (by omega))) h
  rw [Nat.xor_comm c, Nat.xor_comm c] at h1
  exact leB_inj l m hm (xor_cancel h1)
theorem byteStep_inj {a b x : Nat} (ha : a < 4294967296) (hb : b < 4294967296) (hx : x < 256) (h : byteStep a x = byteStep b x) : a = b :=
  xor_cancel (twiceN_inj (Nat.xor_lt_two_pow (n := 32) ha (by omega)) (Nat.xor_lt_two_pow (n := 32) hb (by omega)) h)
theorem crcFrom_inj : ∀ (l : List UInt8) {a b : Nat}, a < 4294967296 → b < 4294967296 → crcFrom a l = crcFrom b l → a = b
  | [], _, _, _, _, h => h
  | x :: l, _, _, ha, hb, h => byteStep_inj ha hb x.toNat_lt (crcFrom_inj l (byteStep_lt ha x.toNat_lt) (byteStep_lt hb x.toNat_lt) h)
theorem crcSum_burst (p l m s : List UInt8) (hl : l.length ≤ 4) (hm : l.length = m.length) (h : crcSum (p ++ l ++ s) = crcSum (p ++ m ++ s)) : l = m := by
  have h0 : crcFrom 4294967295 (p ++ l ++ s) = crcFrom 4294967295 (p ++ m ++ s) := by
    unfold crcSum at h
    rw [Nat.xor_comm 4294967295, Nat.xor_comm 4294967295 (crcFrom _ _)] at h
    exact xor_cancel h
  rw [List.append_assoc, List.append_assoc, crcFrom_append, crcFrom_append, crcFrom_append, crcFrom_append] at h0
  have hp : crcFrom 4294967295 p < 4294967296 := crcFrom_lt (by omega) p
  exact crc_burst _ l m hp hl hm (crcFrom_inj s (crcFrom_lt hp l) (crcFrom_lt hp m) h0)
/-- The checksum of the bytewise XOR of three lists of the same length. -/
theorem crcFrom_xor : ∀ (a b c : List UInt8) (s t u : Nat), a.length = b.length → b.length = c.length →
    crcFrom (s ^^^ t ^^^ u) ((a.zip (b.zip c)).map fun x => x.1 ^^^ x.2.1 ^^^ x.2.2) = crcFrom s a ^^^ crcFrom t b ^^^ crcFrom u c
  | [], [], [], _, _, _, _, _ => rfl
  | x :: a, y :: b, z :: c, s, t, u, h1, h2 => by
    show crcFrom (byteStep (s ^^^ t ^^^ u) (x ^^^ y ^^^ z).toNat) _ = crcFrom (byteStep s x.toNat) a ^^^ crcFrom (byteStep t y.toNat) b ^^^ crcFrom (byteStep u z.toNat) c
    rw [UInt8.toNat_xor, UInt8.toNat_xor, byteStep_xor, byteStep_xor]
    exact crcFrom_xor a b c _ _ _ (by simpa using h1) (by simpa using h2)
  | [], _ :: _, _, _, _, _, h, _ => by simp at h
  | _ :: _, [], _, _, _, _, h, _ => by simp at h
  | [], [], _ :: _, _, _, _, _, h => by simp at h
  | _ :: _, _ :: _, [], _, _, _, _, h => by simp at h
theorem crcSum_xor (a b c : List UInt8) (h1 : a.length = b.length) (h2 : b.length = c.length) :
    crcSum ((a.zip (b.zip c)).map fun x => x.1 ^^^ x.2.1 ^^^ x.2.2) = crcSum a ^^^ crcSum b ^^^ crcSum c := by
  unfold crcSum
  have := crcFrom_xor a b c 4294967295 4294967295 4294967295 h1 h2
  rw [show (4294967295 ^^^ 4294967295 ^^^ 4294967295 : Nat) = 4294967295 from by decide] at this
  rw [this, xor_four 4294967295 _ 4294967295 _, Nat.xor_self, Nat.zero_xor]
  generalize crcFrom 4294967295 a = p
  generalize crcFrom 4294967295 b = q
  generalize crcFrom 4294967295 c = r
  simp only [Nat.xor_assoc]
  rw [← Nat.xor_assoc 4294967295 p, Nat.xor_comm 4294967295 p, Nat.xor_assoc, ← Nat.xor_assoc 4294967295 q, Nat.xor_comm 4294967295 q, Nat.xor_assoc]

theorem digs_cancel {n n' : Nat} {r r' : List UInt8} (hn : n < 128 ^ 3) (hn' : n' < 128 ^ 3) (e : digs 2 n ++ r = digs 2 n' ++ r') : n = n' ∧ r = r' := by
  have h1 := num_digs 2 0 0 n r hn (fun h => absurd h (Nat.lt_irrefl 0))
  have h2 := num_digs 2 0 0 n' r' hn' (fun h => absurd h (Nat.lt_irrefl 0))
  rw [e, h2] at h1
  simp only [Option.some.injEq, Prod.mk.injEq] at h1
  obtain rfl : n = n' := by omega
  exact ⟨rfl, List.append_cancel_left e⟩
theorem none_of_ok (m : Msg) (h : m.ok = true) : m.none_ = decide (m.k = 1 ∨ (m.k = 2 ∧ m.v = 0)) := by
  obtain ⟨k, f, t, s, b, v, ts, tc, tn, td⟩ := m
  have H := valid_bounds (show validB k f t s b v ts tc tn td = true from h)
  rw [Bool.eq_iff_iff]
  simp only [Msg.none_, decide_eq_true_eq]
  omega
theorem tail_length (m : Msg) : m.tail.length = if m.none_ then 0 else 2 := by
  unfold Msg.tail
  split <;> rfl
/-- No body is a proper beginning of another one. -/
theorem body_prefix (m n : Msg) (h : m.ok = true) (h' : n.ok = true) (s : List UInt8) (e : m.body = n.body ++ s) : s = [] := by
  have H := valid_bounds (show validB m.k m.f m.t m.s m.b m.v m.ts m.tc m.tn m.td = true from h)
  have H' := valid_bounds (show validB n.k n.f n.t n.s n.b n.v n.ts n.tc n.tn n.td = true from h')
  have hz := none_of_ok m h
  have hz' := none_of_ok n h'
  have ht := tail_length m
  have ht' := tail_length n
  simp only [Msg.body, Msg.head, List.cons_append, List.nil_append, List.append_assoc, List.cons.injEq] at e
  obtain ⟨ek, -, -, e⟩ := e
  have hk : m.k = n.k := by
    have := congrArg UInt8.toNat ek
    rw [toNat_ofNat (by omega), toNat_ofNat (by omega)] at this
    omega
  obtain ⟨-, e⟩ := digs_cancel (by omega) (by omega) e
  have hl : s.length = 0 → s = [] := List.length_eq_zero_iff.1
  unfold Msg.mid at e
  by_cases h2 : m.k = 2
  · rw [if_pos h2, if_pos (by omega)] at e
    obtain ⟨ev, e⟩ := digs_cancel (by omega) (by omega) e
    have := congrArg List.length e
    rw [List.length_append, ht, ht', hz, hz'] at this
    have hv : m.v = n.v := by omega
    rw [hk, hv] at this
    exact hl (by omega)
  · rw [if_neg h2, if_neg (by omega), List.nil_append, List.nil_append] at e
    have := congrArg List.length e
    rw [List.length_append, ht, ht', hz, hz'] at this
    have e1 : decide (m.k = 1 ∨ (m.k = 2 ∧ m.v = 0)) = decide (n.k = 1 ∨ (n.k = 2 ∧ n.v = 0)) := by rw [decide_eq_decide]; omega
    rw [e1] at this
    exact hl (by omega)
def Msg.pre (m : Msg) : List UInt8 := UInt8.ofNat m.body.length :: m.body
theorem frame_pre (m : Msg) : m.frame = m.pre ++ be32 (crcSum m.pre) := rfl
theorem pre_length (m : Msg) : m.pre.length = m.body.length + 1 := rfl
theorem be32_inj {a b : Nat} (ha : a < 4294967296) (hb : b < 4294967296) (h : be32 a = be32 b) : a = b := by
  rw [← be_val a ha, ← be_val b hb, h]
theorem frame_first (m : Msg) (h : m.ok = true) : (m.frame.getD 0 0).toNat = m.body.length := by
  have := body_bounds m h
  exact toNat_ofNat (by omega)
theorem frame_inj (m n : Msg) (h : m.ok = true) (h' : n.ok = true) (e : m.frame = n.frame) : m = n := by
  have h1 := (dec_frame m [] h).1
  have h2 := (dec_frame n [] h').1
  rw [e, h2] at h1
  exact (Option.some.inj h1).symm
/-- A frame of which one byte is changed is not read. -/
theorem dec_damaged (m : Msg) (h : m.ok = true) (k : Nat) (hk : k < m.frame.length) (y : UInt8) (hy : y ≠ m.frame.getD k 0) : dec (m.frame.set k y) = none := by
  rcases hd : dec (m.frame.set k y) with _ | n
  · rfl
  · exfalso
    obtain ⟨hn, hb, hl, ht⟩ := dec_some _ n hd
    have hb1 := body_bounds m h
    have hb2 := body_bounds n hn
    have hf := frame_first n hn
    rw [List.length_set, frame_length] at hl
    rw [frame_length] at hk
    have h0 : (m.frame.set k y).getD 0 0 = n.frame.getD 0 0 := by
      rw [← ht]
      simp only [List.getD_eq_getElem?_getD]
      rw [List.getElem?_take_of_lt (by omega)]
    by_cases k0 : k = 0
    · subst k0
      have h1 : (m.frame.set 0 y).getD 0 0 = y := rfl
      rw [h1] at h0
      have h2 : m.body.length ≠ n.body.length := by
        intro e
        apply hy
        rw [h0, ← UInt8.toNat_inj, hf, frame_first m h, e]
      have h3 : n.body = m.body.take n.body.length := hb.symm.trans (by
        unfold bodyOf
        rw [h1, h0, hf]
        show (m.body ++ be32 (crcSum m.pre)).take n.body.length = _
        rw [List.take_append_of_le_length (by omega)])
      have h4 := body_prefix m n h hn (m.body.drop n.body.length) (by
        have := List.take_append_drop n.body.length m.body
        rw [← h3] at this
        exact this.symm)
      have := congrArg List.length h4
      rw [List.length_drop] at this
      simp at this
      omega
    · have e0 : (m.frame.set k y).getD 0 0 = m.frame.getD 0 0 := by
        simp only [List.getD_eq_getElem?_getD]
        rw [List.getElem?_set_ne k0]
      rw [e0] at h0
      have hln : n.body.length = m.body.length := by rw [← hf, ← h0, frame_first m h]
      rw [hln, List.take_of_length_le (by rw [List.length_set, frame_length]; exact Nat.le_refl _)] at ht
      rw [frame_pre m, frame_pre n] at ht
      have hpl : n.pre.length = m.pre.length := by rw [pre_length, pre_length, hln]
      by_cases kp : k < m.pre.length
      · rw [List.set_append_left _ _ kp] at ht
        obtain ⟨t1, t2⟩ := List.append_inj ht (by rw [List.length_set, hpl])
        have t3 := be32_inj (crcSum_lt _) (crcSum_lt _) t2
        have hx : m.frame.getD k 0 = m.pre[k] := by
          rw [frame_pre, List.getD_eq_getElem?_getD, List.getElem?_append_left kp, List.getElem?_eq_getElem kp]; rfl
        have e1 : m.pre = m.pre.take k ++ [m.pre[k]] ++ m.pre.drop (k + 1) := by
          rw [List.append_assoc, List.singleton_append, List.getElem_cons_drop kp, List.take_append_drop]
        have e2 : n.pre = m.pre.take k ++ [y] ++ m.pre.drop (k + 1) := by
          rw [← t1, List.set_eq_take_append_cons_drop, if_pos kp, List.append_assoc, List.singleton_append]
        have h5 := crcSum_burst (m.pre.take k) [m.pre[k]] [y] (m.pre.drop (k + 1)) (by simp) rfl (by rw [← e1, ← e2]; exact t3)
        apply hy
        rw [hx]
        exact (List.cons.inj h5).1.symm
      · rw [List.set_append_right _ _ (by omega)] at ht
        obtain ⟨t1, t2⟩ := List.append_inj ht hpl.symm
        rw [← t1] at t2
        have hkl : k - m.pre.length < (be32 (crcSum m.pre)).length := by rw [pre_length]; show _ < 4; omega
        have h5 := congrArg (fun l => l.getD (k - m.pre.length) 0) t2
        simp only [List.getD_eq_getElem?_getD, List.getElem?_set_self hkl] at h5
        apply hy
        rw [frame_pre, List.getD_eq_getElem?_getD, List.getElem?_append_right (by omega), ← h5]
        rfl
/-- A proper beginning of a frame is too short. -/
theorem dec_short (m : Msg) (h : m.ok = true) (i : Nat) (hi : i < m.frame.length) : dec (m.frame.take i) = none ∧ decErr (m.frame.take i) = 12 := by
  have hb1 := body_bounds m h
  have hl : (m.frame.take i).length = i := by rw [List.length_take]; omega
  have hfe : frameErr (m.frame.take i) = 12 := by
    unfold frameErr
    rw [hl]
    by_cases i0 : i = 0
    · rw [if_pos i0]
    · have h0 : ((m.frame.take i).getD 0 0).toNat = m.body.length := by
        rw [← frame_first m h]
        simp only [List.getD_eq_getElem?_getD]
        rw [List.getElem?_take_of_lt (by omega)]
      rw [frame_length] at hi
      rw [if_neg i0, h0, if_neg (by omega), if_pos hi]
  constructor
  · unfold dec; rw [hfe]; rfl
  · unfold decErr; rw [hfe]; rfl
end Go.Proofs.YtppcdppplbpklaaDoor
