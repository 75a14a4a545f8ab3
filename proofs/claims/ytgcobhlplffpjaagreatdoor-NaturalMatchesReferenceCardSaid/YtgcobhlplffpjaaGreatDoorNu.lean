/- Plain law: the rounds of the long division. -/
import Derived.Test.YtgcobhlplffpjaaGreatDoorNl
namespace Go.Proofs.YtgcobhlplffpjaaGreatDoor
open Go.RowKit Go.Deep

/-- The quotient's limbs from k on are there, M is what is left. -/
structure LongInv (U V n k len : Nat) (q M : List Nat) : Prop where
  lim : Lim M
  len : M.length = len
  eqn : U = val q * V + val M
  bnd : val M < pw k * V
  low : ∀ i, i < k → q.getD i 0 = 0

theorem val_drop_take (M : List Nat) (j c : Nat) (hj : j ≤ M.length) (hz : ∀ i, j + c ≤ i → M.getD i 0 = 0) : val M = val (M.take j) + pw j * val ((M.drop j).take c) := by
  have h1 := val_split M j hj
  rcases Nat.lt_or_ge (M.drop j).length c with h | h
  · rw [List.take_of_length_le (Nat.le_of_lt h)]; exact h1
  · have h2 := val_split (M.drop j) c h
    have h3 : val ((M.drop j).drop c) = 0 := by
      rw [List.drop_drop]
      have : ∀ (l : List Nat), (∀ i, l.getD i 0 = 0) → val l = 0 := by
        intro l
        induction l with
        | nil => intro _; rfl
        | cons x l ih =>
          intro h
          have h0 : x = 0 := by simpa using h 0
          have ht := ih (fun i => by simpa using h (i + 1))
          rw [val, h0, ht]
      refine this _ (fun i => ?_)
      rw [List.getD_eq_getElem?_getD, List.getElem?_drop, ← List.getD_eq_getElem?_getD]
      exact hz _ (by omega)
    rw [h3, Nat.mul_zero, Nat.add_zero] at h2
    rw [h1, h2]

theorem val_high_zero {M : List Nat} (c : Nat) (h : val M < pw c) : ∀ i, c ≤ i → M.getD i 0 = 0 := by
  intro i hi
  rcases Nat.lt_or_ge i M.length with hl | hl
  · have h1 := val_split M i (by omega)
    rw [drop_cons M i hl, val, Nat.mul_add] at h1
    rcases Nat.eq_zero_or_pos (M.getD i 0) with h0 | h0
    · exact h0
    · have h2 : pw i * 1 ≤ pw i * M.getD i 0 := Nat.mul_le_mul_left _ h0
      have h3 := pw_le hi
      omega
  · rw [List.getD_eq_getElem?_getD, List.getElem?_eq_none hl]; rfl

theorem getD_drop_take (M : List Nat) (j c i : Nat) (h : i < c) : ((M.drop j).take c).getD i 0 = M.getD (j + i) 0 := by
  rw [List.getD_eq_getElem?_getD, List.getElem?_take, if_pos h, List.getElem?_drop, ← List.getD_eq_getElem?_getD]

/-- What the guess wants. -/
theorem LongInv.part {U V n j len : Nat} {q M v : List Nat} (h : LongInv U V n (j + 1) len q M) (hv : v.length = n) (lv : Lim v) (hV : val v = V) (hj : j + n < len) :
    val M = val (M.take j) + pw j * val ((M.drop j).take (n + 1)) ∧ val ((M.drop j).take (n + 1)) < 4294967296 * V ∧ val (M.take j) < pw j := by
  have hb := h.bnd
  have hvl := val_lt lv
  rw [hv, hV] at hvl
  have hz : val M < pw (j + 1 + n) := by
    rw [pw_add]
    exact Nat.lt_of_lt_of_le hb (Nat.mul_le_mul_left _ (Nat.le_of_lt hvl))
  have h1 := val_drop_take M j (n + 1) (by rw [h.len]; omega) (fun i hi => val_high_zero _ hz i (by omega))
  refine ⟨h1, ?_, ?_⟩
  · rw [pw_succ, Nat.mul_assoc, Nat.mul_left_comm] at hb
    exact Nat.lt_of_mul_lt_mul_left (a := pw j) (by omega)
  · have := val_lt (h.lim.take j)
    rw [List.length_take, Nat.min_eq_left (by rw [h.len]; omega)] at this
    exact this

theorem LongInv.guess {U V n j len : Nat} {q M v : List Nat} (h : LongInv U V n (j + 1) len q M) (hn : 2 ≤ n) (hv : v.length = n) (lv : Lim v) (hV : val v = V) (hj : j + n < len) (htop : 2147483648 ≤ v.getD (n - 1) 0) :
    GuessLaw (M.getD (j + n) 0 * 4294967296 + M.getD (j + (n - 1)) 0) (v.getD (n - 1) 0) (v.getD (n - 2) 0) (M.getD (j + (n - 2)) 0) (val ((M.drop j).take (n + 1)) / V) := by
  obtain ⟨-, h2, -⟩ := h.part hv lv hV hj
  have := guess_law ((M.drop j).take (n + 1)) v n hn (by rw [List.length_take, List.length_drop, h.len]; omega) hv ((h.lim.drop j).take (n + 1)) lv htop (by rw [hV]; exact h2)
  rw [hV, getD_drop_take _ _ _ _ (by omega), getD_drop_take _ _ _ _ (by omega), getD_drop_take _ _ _ _ (by omega)] at this
  exact this

theorem LongInv.store {U V n j len : Nat} {q M M' : List Nat} (h : LongInv U V n (j + 1) len q M) (hq : j < q.length) (d : Nat) (lM : Lim M') (nM : M'.length = len) (he : val M = pw j * (d * V) + val M') (hb : val M' < pw j * V) :
    LongInv U V n j len (q.set j d) M' where
  lim := lM
  len := nM
  eqn := by
    have h1 := val_set q j d hq
    rw [h.low j (by omega), Nat.mul_zero, Nat.add_zero] at h1
    rw [h1, Nat.add_mul, h.eqn, he, Nat.mul_assoc]
    omega
  bnd := hb
  low := fun i hi => by rw [getD_set _ _ _ _ hq, if_neg (by omega)]; exact h.low i (by omega)

theorem val_lt_of_zero {l : List Nat} (h : Lim l) (c : Nat) (hz : ∀ i, c ≤ i → l.getD i 0 = 0) : val l < pw c := by
  rcases Nat.lt_or_ge l.length c with h2 | h2
  · exact Nat.lt_of_lt_of_le (val_lt h) (pw_le (Nat.le_of_lt h2))
  · have h3 := val_split l c h2
    have h4 := val_lt (h.take c)
    rw [List.length_take, Nat.min_eq_left h2] at h4
    have h5 : val (l.drop c) = 0 := by
      have : ∀ (l : List Nat), (∀ i, l.getD i 0 = 0) → val l = 0 := by
        intro l
        induction l with
        | nil => intro _; rfl
        | cons x l ih =>
          intro h
          have h0 : x = 0 := by simpa using h 0
          have ht := ih (fun i => by simpa using h (i + 1))
          rw [val, h0, ht]
      refine this _ (fun i => ?_)
      rw [List.getD_eq_getElem?_getD, List.getElem?_drop, ← List.getD_eq_getElem?_getD]
      exact hz _ (by omega)
    rw [h5] at h3
    omega
theorem LongInv.high {U V n j len : Nat} {q M v : List Nat} (h : LongInv U V n (j + 1) len q M) (hv : v.length = n) (lv : Lim v) (hV : val v = V) (i : Nat) (hi : j + n + 1 ≤ i) : M.getD i 0 = 0 := by
  have hb := h.bnd
  have hvl := val_lt lv
  rw [hv, hV] at hvl
  refine val_high_zero (j + 1 + n) ?_ i (by omega)
  rw [pw_add]
  exact Nat.lt_of_lt_of_le hb (Nat.mul_le_mul_left _ (Nat.le_of_lt hvl))
/-- The guess was right: what take leaves is what is left. -/
theorem LongInv.right {U V n j len d : Nat} {q M M' v : List Nat} (h : LongInv U V n (j + 1) len q M) (hv : v.length = n) (lv : Lim v) (hV : val v = V) (hj : j + n < len) (hV0 : 0 < V)
    (hd : val ((M.drop j).take (n + 1)) / V ≤ d) (he : val M' + pw j * (d * V) = val M) : val M = pw j * (d * V) + val M' ∧ val M' < pw j * V ∧ d < 4294967296 := by
  obtain ⟨h1, h2, h3⟩ := h.part hv lv hV hj
  generalize val ((M.drop j).take (n + 1)) = p at *
  have hd2 : d * V ≤ p := by
    have : pw j * (d * V) < pw j * (p + 1) := by rw [Nat.mul_add]; omega
    have := Nat.lt_of_mul_lt_mul_left this
    omega
  have hd1 : d ≤ p / V := (Nat.le_div_iff_mul_le hV0).2 hd2
  have hdq : d = p / V := by omega
  have hm : p < (d + 1) * V := by rw [hdq, Nat.mul_comm]; exact Nat.lt_mul_div_succ p hV0
  have hp : p + 1 ≤ d * V + V := by rw [Nat.add_mul] at hm; omega
  have hpw := Nat.mul_le_mul_left (pw j) hp
  rw [Nat.mul_add, Nat.mul_add] at hpw
  refine ⟨by omega, by omega, ?_⟩
  rw [hdq, Nat.div_lt_iff_lt_mul hV0]
  exact h2
theorem long_pos {V n j d c : Nat} {M : List Nat} (he : c + pw j * (d * V) = val M + pw (j + n + 1)) (hc : c < pw (j + n + 1)) : 1 ≤ d := by
  rcases Nat.eq_zero_or_pos d with h0 | h0
  · subst h0
    rw [Nat.zero_mul, Nat.mul_zero] at he
    omega
  · exact h0
/-- The guess was greater by 1: what restore leaves is what is left. -/
theorem LongInv.wrong {U V n j len d b : Nat} {q M M' M'' v : List Nat} (h : LongInv U V n (j + 1) len q M) (hv : v.length = n) (lv : Lim v) (hV : val v = V) (hj : j + n < len) (hV0 : 0 < V)
    (hd1 : d ≤ val ((M.drop j).take (n + 1)) / V + 1) (he : val M' + pw j * (d * V) = val M + pw (j + n + 1)) (hM' : val M' < pw (j + n + 1)) (hr : val M'' + b * pw (j + n + 1) = val M' + pw j * V) (hM'' : val M'' < pw (j + n + 1)) :
    1 ≤ d ∧ val M = pw j * ((d - 1) * V) + val M'' ∧ val M'' < pw j * V ∧ d - 1 < 4294967296 := by
  obtain ⟨h1, h2, h3⟩ := h.part hv lv hV hj
  have hvl := val_lt lv
  rw [hv, hV] at hvl
  generalize val ((M.drop j).take (n + 1)) = p at *
  have hqV : p / V * V ≤ p := Nat.div_mul_le_self p V
  have hdV : val M < pw j * (d * V) := by
    have g := he
    generalize pw j * (d * V) = P at g ⊢
    omega
  have hd2 : p / V < d := by
    rcases Nat.lt_or_ge (p / V) d with k | k
    · exact k
    · have k1 : d * V ≤ p / V * V := Nat.mul_le_mul_right _ k
      have k2 : pw j * (d * V) ≤ pw j * p := Nat.mul_le_mul_left _ (by omega)
      omega
  obtain ⟨z, hz⟩ : ∃ z, p / V = z := ⟨_, rfl⟩
  rw [hz] at hd1 hd2 hqV
  obtain ⟨c, rfl⟩ : ∃ c, d = c + 1 := ⟨d - 1, by omega⟩
  have hc : c = p / V := by rw [hz]; omega
  have hm : p < (c + 1) * V := by rw [hc, Nat.mul_comm]; exact Nat.lt_mul_div_succ p hV0
  have hp : p + 1 ≤ c * V + V := by rw [Nat.add_mul] at hm; omega
  have hpw := Nat.mul_le_mul_left (pw j) hp
  have k3 : pw j * (c * V) ≤ pw j * p := Nat.mul_le_mul_left _ (by rw [hc, hz]; exact hqV)
  have k4 : pw j * V ≤ pw (j + n) := by rw [pw_add]; exact Nat.mul_le_mul_left _ (Nat.le_of_lt hvl)
  have k5 : pw (j + n) < pw (j + n + 1) := pw_lt (by omega)
  rw [Nat.add_mul, Nat.one_mul, Nat.mul_add] at he
  rw [Nat.mul_add, Nat.mul_add] at hpw
  have hb : b = 1 := by
    rcases Nat.lt_trichotomy b 1 with k | k | k
    · have : b = 0 := by omega
      subst this
      omega
    · exact k
    · have : 2 * pw (j + n + 1) ≤ b * pw (j + n + 1) := Nat.mul_le_mul_right _ k
      omega
  subst hb
  refine ⟨by omega, ?_, ?_, ?_⟩
  · rw [Nat.add_sub_cancel]; omega
  · omega
  · rw [Nat.add_sub_cancel, hc, Nat.div_lt_iff_lt_mul hV0]
    exact h2

theorem long_start (a b u v : List Nat) (n s : Nat) (hn : b.length = n) (la : Lim a) (nb : Norm b) (hb0 : b ≠ []) (lu : Lim u) (nu : u.length = a.length + 1) (hu : val u = val a * 2 ^ s) (hv : val v = val b * 2 ^ s) (k : Nat) (hk : k + n = a.length + 1) (q : List Nat) (hq : ∀ i, q.getD i 0 = 0) (hq0 : val q = 0) :
    LongInv (val u) (val v) n k (a.length + 1) q u where
  lim := lu
  len := nu
  eqn := by rw [hq0, Nat.zero_mul, Nat.zero_add]
  bnd := by
    have h1 := val_lt la
    have h2 := norm_pos nb hb0
    rw [hn] at h2
    have h3 : pw a.length = pw k * pw (n - 1) := by
      have hn1 : 0 < n := by rw [← hn]; exact List.length_pos_iff.2 hb0
      rw [← pw_add]; congr 1; omega
    have h4 : val a < pw k * val b := Nat.lt_of_lt_of_le h1 (by rw [h3]; exact Nat.mul_le_mul_left _ h2)
    rw [hu, hv, ← Nat.mul_assoc]
    exact Nat.mul_lt_mul_of_pos_right h4 (Nat.two_pow_pos s)
  low := fun i _ => hq i

theorem LongInv.done {a b s n len : Nat} {q M : List Nat} (h : LongInv (a * 2 ^ s) (b * 2 ^ s) n 0 len q M) : val q = a / b ∧ val M / 2 ^ s = a % b := by
  have h0 := h.eqn
  have h1 := h.bnd
  rw [pw_zero, Nat.one_mul] at h1
  have hd := div_of h0 h1
  have e1 : a * 2 ^ s / (b * 2 ^ s) = a / b := Nat.mul_div_mul_right _ _ (Nat.two_pow_pos s)
  have e2 : a * 2 ^ s % (b * 2 ^ s) = a % b * 2 ^ s := Nat.mul_mod_mul_right _ _ _
  rw [e1] at hd
  rw [e2] at hd
  exact ⟨hd.1.symm, by rw [← hd.2]; exact Nat.mul_div_cancel _ (Nat.two_pow_pos s)⟩

/-- The divisor shifted so that its highest bit is set. -/
theorem top_shift (b v : List Nat) (n t s : Nat) (hn : b.length = n) (h2 : 1 ≤ n) (hs : s ≤ 31) (lb : Lim b) (lv : Lim v) (nv : v.length = n + 1) (hv : val v = val b * 2 ^ s) (ht : t = b.getD (n - 1) 0) (h0 : 2147483648 ≤ t * 2 ^ s) (h1 : t * 2 ^ s < 4294967296) :
    val (v.take n) = val b * 2 ^ s ∧ 2147483648 ≤ v.getD (n - 1) 0 := by
  obtain ⟨m, rfl⟩ : ∃ m, n = m + 1 := ⟨n - 1, by omega⟩
  simp only [Nat.add_sub_cancel] at *
  have e1 : val b = val (b.take m) + pw m * t := by rw [ht, ← val_take_next, List.take_of_length_le (by omega)]
  have e2 := val_lt (lb.take m)
  rw [List.length_take, Nat.min_eq_left (by omega)] at e2
  have hK : 2 ^ s * 2 ^ (32 - s) = 4294967296 := by rw [← Nat.pow_add, show s + (32 - s) = 32 by omega]
  have hs := Nat.two_pow_pos s
  generalize 2 ^ s = K at *
  generalize 2 ^ (32 - s) = L at *
  have f1 : val b * K < pw (m + 1) := by
    have g0 : val b < pw m * (t + 1) := by rw [Nat.mul_add]; omega
    have g1 : (t + 1) * K ≤ 4294967296 := by
      have : t < L := Nat.lt_of_mul_lt_mul_right (a := K) (by rw [Nat.mul_comm L, hK]; exact h1)
      have := Nat.mul_le_mul_right K this
      rw [Nat.mul_comm L, hK] at this
      exact this
    have g2 : val b * K < pw m * (t + 1) * K := Nat.mul_lt_mul_of_pos_right g0 hs
    have g3 : pw m * (t + 1) * K ≤ pw m * 4294967296 := by rw [Nat.mul_assoc]; exact Nat.mul_le_mul_left _ g1
    rw [pw_succ, Nat.mul_comm 4294967296]
    omega
  have f2 := val_split v (m + 1) (by omega)
  have f3 : val (v.drop (m + 1)) = 0 := by
    rcases Nat.eq_zero_or_pos (val (v.drop (m + 1))) with h | h
    · exact h
    · have : pw (m + 1) * 1 ≤ pw (m + 1) * val (v.drop (m + 1)) := Nat.mul_le_mul_left _ h
      omega
  rw [f3, Nat.mul_zero, Nat.add_zero, hv] at f2
  refine ⟨f2.symm, ?_⟩
  have f4 := val_take_next v m
  have f5 := val_lt (lv.take m)
  rw [List.length_take, Nat.min_eq_left (by omega)] at f5
  have f6 : pw m * 2147483648 ≤ val b * K := by
    have : pw m * 2147483648 ≤ pw m * (t * K) := Nat.mul_le_mul_left _ h0
    rw [e1, Nat.add_mul, Nat.mul_assoc]
    omega
  have f7 : pw m * 2147483648 < pw m * (v.getD m 0 + 1) := by rw [Nat.mul_add]; omega
  have := Nat.lt_of_mul_lt_mul_left f7
  omega

end Go.Proofs.YtgcobhlplffpjaaGreatDoor
