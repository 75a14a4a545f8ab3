/- Texts of the Notation chapter, together: Za, Zb, Zc, Zd, Ze. -/
import Derived.Test.YtcjhihmaegagdaaGreatDoorG1
import Derived.Test.YtcjhihmaegagdaaGreatDoorK3
import Derived.Test.YtcjhihmaegagdaaGreatDoorG3
import Derived.Test.YtcjhihmaegagdaaGreatDoorG2
import Derived.StillTailTactics
set_option maxRecDepth 100000
set_option maxHeartbeats 8000000
set_option linter.unusedSimpArgs false
set_option linter.unusedVariables false
set_option linter.unusedSectionVars false
set_option linter.unnecessarySimpa false
namespace Go.Proofs.YtcjhihmaegagdaaGreatDoor
open Go.RowKit Go.Deep
theorem zAN (w : World) (x : UInt8) : Calls Tryz.prog 29 #[.int .u8 (x.toNat : Int)] w fun e w' => e = .returned (.bool (k9 x)) ∧ w' = w := by
 unfold k9;by_cases h1 : 97 ≤ x.toNat
 ·
  by_cases h2 : x.toNat ≤ 122
  · simp only [h1, h2, decide_true, Bool.and_self];exact m97
  simp only [h1, h2, decide_true, decide_false, Bool.and_false];exact m97
 simp only [h1, decide_false, Bool.false_and];exact m97
theorem zAg (w : World) (x : UInt8) : Calls Tryz.prog 30 #[.int .u8 (x.toNat : Int)] w fun e w' => e = .returned (.bool (zd x)) ∧ w' = w := by
 unfold zd;by_cases h1 : 48 ≤ x.toNat
 ·
  by_cases h2 : x.toNat ≤ 57
  · simp only [h1, h2, decide_true, Bool.and_self];exact m98
  simp only [h1, h2, decide_true, decide_false, Bool.and_false];exact m98
 simp only [h1, decide_false, Bool.false_and];exact m98
theorem zI4 (w : World) (x : UInt8) : Calls Tryz.prog 31 #[.int .u8 (x.toNat : Int)] w fun e w' => e = .returned (.bool (jv x)) ∧ w' = w := by
 unfold jv;have h1 : ((x.toNat : Int) == 59) = (x == 59) := jR x 59 (by decide);have h2 : ((x.toNat : Int) == 58) = (x == 58) := jR x 58 (by decide);have h3 : ((x.toNat : Int) == 47) = (x == 47) := jR x 47 (by decide);have h4 : ((x.toNat : Int) == 45) = (x == 45) := jR x 45 (by decide);have h5 : ((x.toNat : Int) == 91) = (x == 91) := jR x 91 (by decide);have h6 : ((x.toNat : Int) == 93) = (x == 93) := jR x 93 (by decide);generalize (x == 59) = b1 at *;generalize (x == 58) = b2 at *;generalize (x == 47) = b3 at *;generalize (x == 45) = b4 at *;generalize (x == 91) = b5 at *;generalize (x == 93) = b6 at *;generalize (x.toNat : Int) = n at *;cases b1 <;> (try cases b2) <;> (try cases b3) <;> (try cases b4) <;> (try cases b5) <;> (try cases b6) <;> (go_enter Tryz.func31, Tryz.ntmps31; go_wp2; go_ret; exact ⟨rfl, rfl⟩)
theorem zKs {p : UInt8 → Bool} {r : List UInt8} {m : Nat} (h : (r.takeWhile p).length = m + ((r.drop m).takeWhile p).length) (hm : m < r.length) (hp : p r[m] = true) : (r.takeWhile p).length = (m + 1) + ((r.drop (m + 1)).takeWhile p).length := by
 rw [List.drop_eq_getElem_cons hm, List.takeWhile_cons, if_pos hp, List.length_cons] at h;omega
theorem zG9 {p : UInt8 → Bool} {r : List UInt8} {m : Nat} (h : (r.takeWhile p).length = m + ((r.drop m).takeWhile p).length) (hm : m < r.length) (hp : p r[m] = false) : (r.takeWhile p).length = m := by
 rw [List.drop_eq_getElem_cons hm, List.takeWhile_cons, if_neg (by rw [hp]; decide), List.length_nil] at h;omega
theorem zG1 {p : UInt8 → Bool} {r : List UInt8} {m : Nat} (h : (r.takeWhile p).length = m + ((r.drop m).takeWhile p).length) (hm : r.length ≤ m) : (r.takeWhile p).length = m := by
 rw [List.drop_of_length_le hm] at h;exact h
theorem zE7 {s : List UInt8} {p : Nat} {x : UInt8} {r : List UInt8} (h : s.drop p = x :: r) (m : Nat) (hm : m < r.length) (hs : p + 1 + m < s.length) : s[p + 1 + m] = r[m] := by
 have h1 : (s.drop p)[m + 1]? = s[p + (m + 1)]? := List.getElem?_drop;rw [h, List.getElem?_cons_succ, List.getElem?_eq_getElem hm, List.getElem?_eq_getElem (by omega)] at h1;injection h1 with h1;rw [h1];congr 1;omega
theorem zFp {s : List UInt8} {p q k : Nat} {l : List UInt8} (h : s.drop p = l) (hq : q = p + k) : zLo s p q = l.take k := by
 unfold zLo;rw [h, hq, Nat.add_sub_cancel_left]
theorem zJM (l : List UInt8) (y : UInt8) : num 0 (l ++ [y]) = 10 * num 0 l + (y.toNat - 48) := by rw [zDP]; rfl
theorem zJD (a d : Nat) : min (10 * min a 10000000 + d) 10000000 = min (10 * a + d) 10000000 := by omega
theorem zBF (p q k : Nat) (h : q = p + k) : Value.int .i64 (q : Int) = .int .i64 ((p + k : Nat) : Int) := by rw [h]
theorem zFi (n p q : Nat) (h1 : p < q) (h2 : p < n) : n - (zD (.int .i64 (q : Int))).toNat < n - (zD (.int .i64 (p : Int))).toNat := by
 simp only [zD];omega
theorem zGj (w : World) (s : List UInt8) (hs : s.length ≤ 9223372036854775807) :
 Calls Tryz.prog 13 #[str s] w fun e w' => j5 w s e w' := by
 have hsz : (⟨s.toArray⟩ : ByteArray).size = s.length := by simp [ByteArray.size]
 by_cases h8 : 8000 < s.length
 ·
  have h9 : jG s = [] := if_pos h8;have h10 : zBc s = 0 := if_pos h8;have h11 : kP s = 2 := if_pos h8;unfold j5;rw [h9, h10, h11];clear h9 h10 h11;go_enter Tryz.func13, Tryz.ntmps13
  go_wp2
  go_ret3
  exact ⟨Below.refl _ _, none, 0, rfl, RdT.nil _ _ _, Nat.le_refl _⟩
 have H8 := hid h8;have h8' : (s.length : Int) ≤ 8000 := by omega
 clear h8;go_enter Tryz.func13, Tryz.ntmps13
 go_wp2
 go_loopw [5, 6] (fun v i wx => ∃ (p : Nat) (T : List Tok), i = .int .i64 p ∧ Hid (zAl w s p T v wx)) (fun _ i _ => s.length - (zD i).toNat)
 case atStart => exact ⟨0, [], rfl, Nat.zero_le _, Nat.zero_le _, Below.refl _ _, qP.start _ _, by simp⟩
 case round =>
  obtain ⟨p, T, rfl, HA⟩ := hrel;by_cases hlt : p < s.length
  case neg =>
   have HE := hid (zBO HA.out hlt H8.out);(have hnl : ¬ (p : Int) < (s.length : Int) := by omega);(go_wp2_with fail);(go_ret3);exact HE.out
  obtain ⟨x, r, hr⟩ : ∃ x r, s.drop p = x :: r := List.exists_cons_of_ne_nil (by intro e; have := congrArg List.length e; simp at this; omega);have hlen := zBZ hr
  have hzx : (⟨s.toArray⟩ : ByteArray)[p]'(by rw [hsz]; omega) = x := by
   have h1 : (s.drop p)[0]? = s[p + 0]? := List.getElem?_drop;rw [hr, List.getElem?_cons_zero, List.getElem?_eq_getElem (by omega)] at h1;injection h1 with h1;rw [h1]; rfl
  have HRD := hid hr;(have hle1 : p + 1 + r.length ≤ s.length := by omega);(have hle2 : s.length ≤ p + 1 + r.length := by omega);clear hr hlen;by_cases hx : yw x = true
  ·
   have HB := hid (fun W => zEB W x);rw [hx] at HB;have HS : Hid (zP (x :: r) = .skip 1) := hid (by simp only [zP]; rw [if_pos hx]);clear hx;go_wp2_with (go_at_call 28; with_reducible refine (HB.out _).mono ?_; rintro e w1 ⟨rfl, hw1⟩; rw [hw1]; clear hw1)
   go_roundw
   case rel => exact ⟨p + 1, T, by go_num, hid (zAH HA.out HRD.out (Below.refl _ _) (vS HS.out) (by omega))⟩
   case measure => simp [zD]; omega
  (have hxf : yw x = false := by simpa using hx);have HB := hid (fun W => zEB W x);rw [hxf] at HB;by_cases h35 : x = 35
  ·
   have HSW : Hid (∀ m, (r.takeWhile (· != 10)).length = m → zP (x :: r) = .skip (1 + m)) := hid fun m e => by
    simp only [zP];rw [if_neg hx, if_pos (by rw [h35]; rfl), e]
   have h35i : ((x.toNat : Int) == 35) = true := by rw [h35]; rfl
   clear hx hxf h35;go_wp2_with (go_at_call 28; with_reducible refine (HB.out _).mono ?_; rintro e w1 ⟨rfl, hw1⟩; rw [hw1]; clear hw1)
   clear hzx;obtain ⟨wo, hwo⟩ : ∃ wo, wo = wr := ⟨_, rfl⟩
   subst hwo;go_loopw [8] (fun t wx => ∃ m : Nat, m ≤ r.length ∧ t = .int .i64 ((p + 1 + m : Nat) : Int) ∧ wx = wo ∧ Hid ((r.takeWhile (· != 10)).length = m + ((r.drop m).takeWhile (· != 10)).length)) (fun t _ => s.length - (zD t).toNat)
   case atStart => exact ⟨0, Nat.zero_le _, by go_num, rfl, hid (by simp)⟩
   case round =>
    obtain ⟨m, hmr0, rfl, hwr, HTW⟩ := hrel;rw [hwr];clear hwr;obtain ⟨q, hq⟩ : ∃ q, q = p + 1 + m := ⟨_, rfl⟩
    rw [← hq];have hqs : q ≤ s.length := by omega
    have hq1 : q ≤ p + 1 + m := by omega
    have hq2 : p + 1 + m ≤ q := by omega
    have HQE := hid hq;clear hq;by_cases hmr : m < r.length
    ·
     obtain ⟨y, hy⟩ : ∃ y, y = r[m] := ⟨_, rfl⟩
     have hz : (⟨s.toArray⟩ : ByteArray)[q]'(by rw [hsz]; omega) = y := by
      have hq := HQE.out;subst hq;rw [hy, ← zE7 HRD.out m hmr (by omega)]; rfl
     have hin := fun h => zKs HTW.out hmr (p := (· != 10)) h
     have hout := fun h => zG9 HTW.out hmr (p := (· != 10)) h
     rw [← hy] at hin hout;have hql : (q : Int) < (s.length : Int) := by omega
     have HYM := hid hy;by_cases h10 : y = 10
     · have hm : (r.takeWhile (· != 10)).length = m := hout (by rw [h10]; decide);subst h10;clear hin hout HYM hy;exact m94
     have hy10 : ((y.toNat : Int) != 10) = true := by
      rw [bne_iff_ne]; intro e; apply h10;have e2 : y.toNat = 10 := by omega
      rw [← UInt8.ofNat_toNat (x := y), e2]; rfl
     have HPY : Hid ((y != 10) = true) := hid (by simpa using h10);clear h10 hy hout;go_wp2_with fail
     exact m90
    have hm : (r.takeWhile (· != 10)).length = m := zG1 HTW.out (by omega);have hql : ¬ (q : Int) < (s.length : Int) := by omega
    exact m94
  have h35i : ((x.toNat : Int) == 35) = false := by
   rw [beq_eq_false_iff_ne]; intro e; apply h35;(have e2 : x.toNat = 35 := by omega);rw [← UInt8.ofNat_toNat (x := x), e2]; rfl
  (have h35b : (x == 35) = false := by simpa using h35);by_cases hx3 : k9 x = true
  ·
   have HL := hid (fun W => zAN W x);rw [hx3] at HL
   have HSW : Hid (∀ k, 1 + (r.takeWhile yD).length = k → zP (x :: r) = if 16 < k then .bad else .tok 1 0 k) := hid fun k e => by
    simp only [zP];rw [if_neg hx, if_neg (by rw [h35b]; decide), if_pos hx3, e]
   clear hx hxf h35 h35b hx3;go_wp2_with (first | (go_at_call 28; with_reducible refine (HB.out _).mono ?_; rintro e w1 ⟨rfl, hw1⟩; rw [hw1]; clear hw1) | (go_at_call 29; with_reducible refine (HL.out _).mono ?_; rintro e w1 ⟨rfl, hw1⟩; rw [hw1]; clear hw1))
   clear hzx;obtain ⟨wo, hwo⟩ : ∃ wo, wo = wr := ⟨_, rfl⟩
   subst hwo;go_loopw [8] (fun t wx => ∃ m : Nat, m ≤ r.length ∧ t = .int .i64 ((p + 1 + m : Nat) : Int) ∧ wx = wo ∧ Hid ((r.takeWhile yD).length = m + ((r.drop m).takeWhile yD).length)) (fun t _ => s.length - (zD t).toNat)
   case atStart => exact ⟨0, Nat.zero_le _, by go_num, rfl, hid (by simp)⟩
   case round =>
    obtain ⟨m, hmr0, rfl, hwr, HTW⟩ := hrel;rw [hwr];clear hwr;obtain ⟨q, hq⟩ : ∃ q, q = p + 1 + m := ⟨_, rfl⟩
    rw [← hq];have hqs : q ≤ s.length := by omega
    have hq1 : q ≤ p + 1 + m := by omega
    have hq2 : p + 1 + m ≤ q := by omega
    have HQE := hid hq;clear hq;by_cases hmr : m < r.length
    ·
     obtain ⟨y, hy⟩ : ∃ y, y = r[m] := ⟨_, rfl⟩
     have hz : (⟨s.toArray⟩ : ByteArray)[q]'(by rw [hsz]; omega) = y := by
      have hq := HQE.out;subst hq;rw [hy, ← zE7 HRD.out m hmr (by omega)]; rfl
     have hin := fun h => zKs HTW.out hmr (p := yD) h
     have hout := fun h => zG9 HTW.out hmr (p := yD) h
     rw [← hy] at hin hout;have hql : (q : Int) < (s.length : Int) := by omega
     have HYM := hid hy;have HLY := hid (fun W => zAN W y);have HDY := hid (fun W => zAg W y);rcases hl : k9 y with _ | _
     ·
      rcases hd : zd y with _ | _
      ·
       have hm : (r.takeWhile yD).length = m := hout (by unfold yD; rw [hl, hd]; rfl);rw [hl] at HLY;rw [hd] at HDY;clear hin hout HYM hy hl hd;go_upto_region 16 with (first | (go_at_call 29; with_reducible refine (HLY.out _).mono ?_; rintro e w1 ⟨rfl, hw1⟩; rw [hw1]; clear hw1) | (go_at_call 30; with_reducible refine (HDY.out _).mono ?_; rintro e w1 ⟨rfl, hw1⟩; rw [hw1]; clear hw1))
       clear hz HLY HDY;exact m33
      rw [hl] at HLY;rw [hd] at HDY;have HPY : Hid (yD y = true) := hid (by unfold yD; rw [hl, hd]; rfl);clear hy hout hl hd;go_wp2_with (first | (go_at_call 29; with_reducible refine (HLY.out _).mono ?_; rintro e w1 ⟨rfl, hw1⟩; rw [hw1]; clear hw1) | (go_at_call 30; with_reducible refine (HDY.out _).mono ?_; rintro e w1 ⟨rfl, hw1⟩; rw [hw1]; clear hw1))
      exact m90
     rw [hl] at HLY;have HPY : Hid (yD y = true) := hid (by unfold yD; rw [hl]; rfl);clear hy hout hl HDY;go_wp2_with (go_at_call 29; with_reducible refine (HLY.out _).mono ?_; rintro e w1 ⟨rfl, hw1⟩; rw [hw1]; clear hw1)
     exact m90
    have hm : (r.takeWhile yD).length = m := zG1 HTW.out (by omega);have hql : ¬ (q : Int) < (s.length : Int) := by omega
    go_upto_region 16 with (fail)
    exact m33
  have HL := hid (fun W => zAN W x);rw [show k9 x = false by simpa using hx3] at HL;by_cases hx4 : zd x = true
  ·
   have HD := hid (fun W => zAg W x);rw [hx4] at HD
   have HSW : Hid (∀ k, 1 + (r.takeWhile zd).length = k → zP (x :: r) = if 7 < k ∨ (1 < k ∧ x = 48) then .bad else .tok 2 (num 0 (x :: r.takeWhile zd)) k) := hid fun k e => by
    simp only [zP];rw [if_neg hx, if_neg (by rw [h35b]; decide), if_neg hx3, if_pos hx4, e]
   have hx48 : 48 ≤ x.toNat ∧ x.toNat ≤ 57 := by simpa [zd] using hx4
   obtain ⟨hx48a, hx48b⟩ := hx48;clear hx hxf h35 h35b hx3;go_wp2_with (first | (go_at_call 28; with_reducible refine (HB.out _).mono ?_; rintro e w1 ⟨rfl, hw1⟩; rw [hw1]; clear hw1) | (go_at_call 29; with_reducible refine (HL.out _).mono ?_; rintro e w1 ⟨rfl, hw1⟩; rw [hw1]; clear hw1) | (go_at_call 30; with_reducible refine (HD.out _).mono ?_; rintro e w1 ⟨rfl, hw1⟩; rw [hw1]; clear hw1))
   clear hzx;obtain ⟨wo, hwo⟩ : ∃ wo, wo = wr := ⟨_, rfl⟩
   subst hwo;go_loopw [8, 9] (fun t n wx => ∃ m : Nat, m ≤ r.length ∧ n = .int .i64 ((min (num 0 (x :: r.take m)) 10000000 : Nat) : Int) ∧ t = .int .i64 ((p + 1 + m : Nat) : Int) ∧ wx = wo ∧ Hid ((r.takeWhile zd).length = m + ((r.drop m).takeWhile zd).length)) (fun t _ _ => s.length - (zD t).toNat)
   case atStart =>
    refine ⟨0, Nat.zero_le _, ?_, by go_num, rfl, hid (by simp)⟩;have e : num 0 (x :: r.take 0) = x.toNat - 48 := by simp [num]
    rw [e];congr 1;omega
   case round =>
    obtain ⟨m, hmr0, rfl, rfl, hwr, HTW⟩ := hrel;rw [hwr];clear hwr;obtain ⟨q, hq⟩ : ∃ q, q = p + 1 + m := ⟨_, rfl⟩
    rw [← hq];have hqs : q ≤ s.length := by omega
    have hq1 : q ≤ p + 1 + m := by omega
    have hq2 : p + 1 + m ≤ q := by omega
    have HQE := hid hq;clear hq;by_cases hmr : m < r.length
    ·
     obtain ⟨y, hy⟩ : ∃ y, y = r[m] := ⟨_, rfl⟩
     have hz : (⟨s.toArray⟩ : ByteArray)[q]'(by rw [hsz]; omega) = y := by
      have hq := HQE.out;subst hq;rw [hy, ← zE7 HRD.out m hmr (by omega)]; rfl
     have hin := fun h => zKs HTW.out hmr (p := zd) h
     have hout := fun h => zG9 HTW.out hmr (p := zd) h
     rw [← hy] at hin hout;have hql : (q : Int) < (s.length : Int) := by omega
     have HYM := hid hy;have HDY := hid (fun W => zAg W y);rcases hd : zd y with _ | _
     ·
      have hm : (r.takeWhile zd).length = m := hout hd;rw [hd] at HDY;clear hin hout HYM hy hd;go_upto_region 24 with (go_at_call 30; with_reducible refine (HDY.out _).mono ?_; rintro e w1 ⟨rfl, hw1⟩; rw [hw1]; clear hw1)
      clear hz HDY;exact m20
     rw [hd] at HDY;have HPY : Hid (zd y = true) := hid hd;have hy48 : 48 ≤ y.toNat ∧ y.toNat ≤ 57 := by simpa [zd] using hd
     obtain ⟨hy48a, hy48b⟩ := hy48
     have HNS : Hid (min (10 * min (num 0 (x :: r.take m)) 10000000 + (y.toNat - 48)) 10000000 = min (num 0 (x :: r.take (m + 1))) 10000000) := hid (by
      rw [zJD, List.take_succ_eq_append_getElem hmr, ← hy, ← List.cons_append, zJM])
     obtain ⟨nv, hnv⟩ : ∃ nv, nv = min (num 0 (x :: r.take m)) 10000000 := ⟨_, rfl⟩
     have hnb : nv ≤ 10000000 := by rw [hnv]; exact Nat.min_le_right _ _
     rw [← hnv] at HNS ⊢;clear hy hout hd hnv;go_wp2_with (go_at_call 30; with_reducible refine (HDY.out _).mono ?_; rintro e w1 ⟨rfl, hw1⟩; rw [hw1]; clear hw1)
     go_roundw
     case rel => exact ⟨m + 1, by omega, (by rw [← HNS.out]; congr 1; omega), (by rw [show p + 1 + (m + 1) = q + 1 by omega]; first | rfl | (congr 1)), by simp, hid (hin HPY.out)⟩
     case measure => simp [zD]; omega
    have hm : (r.takeWhile zd).length = m := zG1 HTW.out (by omega);have hql : ¬ (q : Int) < (s.length : Int) := by omega
    go_upto_region 24 with (fail)
    exact m20
  have HD := hid (fun W => zAg W x);rw [show zd x = false by simpa using hx4] at HD;have HM := hid (fun W => zI4 W x);by_cases hx5 : jv x = true
  ·
   rw [hx5] at HM
   have HS : Hid (zP (x :: r) = .tok 3 0 1) := hid (by
    simp only [zP];rw [if_neg hx, if_neg (by rw [h35b]; decide), if_neg hx3, if_neg hx4, if_pos hx5])
   have hex := zFy s p (p + 1);rw [zFp HRD.out (show p + 1 = p + 1 from rfl)] at hex;clear hx hxf h35 h35b hx3 hx4 hx5;go_wp2_with (first | (go_at_call 28; with_reducible refine (HB.out _).mono ?_; rintro e w1 ⟨rfl, hw1⟩; rw [hw1]; clear hw1) | (go_at_call 29; with_reducible refine (HL.out _).mono ?_; rintro e w1 ⟨rfl, hw1⟩; rw [hw1]; clear hw1) | (go_at_call 30; with_reducible refine (HD.out _).mono ?_; rintro e w1 ⟨rfl, hw1⟩; rw [hw1]; clear hw1) | (go_at_call 31; with_reducible refine (HM.out _).mono ?_; rintro e w1 ⟨rfl, hw1⟩; rw [hw1]; clear hw1) | (at_builtin; go_must (refine vF _ rfl _ _ rfl w.heap.size _ T rfl (HA.out.2.2.2.1.on ((Below.refl wr.heap.size wr).alloc (Nat.le_refl _) _)) _ _ _ ⟨3, p, 0, (x :: r).take 1⟩ rfl (vl _ ⟨3, p, 0, (x :: r).take 1⟩ _ rfl) (by have := HA.out.2.1; omega) (by have := HA.out.2.2.1.size; simp; omega) ?_); intro v4 w4 ho4 hg4 _; replace ho4 := hid ho4; replace hg4 := hid hg4))
   go_roundw
   case rel => exact ⟨p + 1, T ++ [⟨3, p, 0, (x :: r).take 1⟩], by go_num, hid (vk HA.out HRD.out HS.out ((Below.refl wr.heap.size wr).alloc (Nat.le_refl _) _) ho4.out hg4.out)⟩
   case measure => simp [zD]; omega
  rw [show jv x = false by simpa using hx5] at HM
  have HS : Hid (zP (x :: r) = .bad) := hid (by
   simp only [zP];rw [if_neg hx, if_neg (by rw [h35b]; decide), if_neg hx3, if_neg hx4, if_neg hx5])
  clear hx hxf h35 h35b hx3 hx4 hx5;(go_wp2_with (first | (go_at_call 28; with_reducible refine (HB.out _).mono ?_; rintro e w1 ⟨rfl, hw1⟩; rw [hw1]; clear hw1) | (go_at_call 29; with_reducible refine (HL.out _).mono ?_; rintro e w1 ⟨rfl, hw1⟩; rw [hw1]; clear hw1) | (go_at_call 30; with_reducible refine (HD.out _).mono ?_; rintro e w1 ⟨rfl, hw1⟩; rw [hw1]; clear hw1) | (go_at_call 31; with_reducible refine (HM.out _).mono ?_; rintro e w1 ⟨rfl, hw1⟩; rw [hw1]; clear hw1)));(go_ret3);exact jU HA.out HRD.out HS.out H8.out (Below.refl _ _)
open Go.RowKit Go.Deep
structure Qr where
 i : Nat
 pos : Nat
 e : Nat
deriving DecidableEq
abbrev Qr.cells (q : Qr) (A : Option Addr) (n c en : Nat) : Array Value := #[.slice A n c, .int .i64 (en : Int), .int .i64 (q.i : Int), .int .i64 (q.pos : Int), .int .i64 (q.e : Int)]
abbrev zy : Array Value := #[.slice none 0 0, .int .i64 0, .int .i64 0, .int .i64 0, .int .i64 0]
theorem zE : (Tryz.prog.info? 74).map (·.size) = some 5 := by kernel_rfl
theorem Qr.all_one (q : Qr) (A : Option Addr) (n c en : Nat) : (q.cells A n c en).all (·.oneCell') = true := by simp [Value.oneCell']
def zGa (ts : List Tok) (en : Nat) (q : Qr) : Nat := if q.i < ts.length then (ts.getD q.i xc).pos else en
def yG (ts : List Tok) (en : Nat) (q : Qr) (k : Nat) : Qr := if q.e = 0 then ⟨q.i, zGa ts en q, k⟩ else q
def isQ (ts : List Tok) (q : Qr) (s : List UInt8) : Bool := decide (q.e = 0) && (decide (q.i < ts.length) && decide ((ts.getD q.i xc).text = s))
def zK (ts : List Tok) (en : Nat) (q : Qr) (s : List UInt8) : Qr := if isQ ts q s then ⟨q.i + 1, q.pos, q.e⟩ else yG ts en q 10
def zA3 (ts : List Tok) (q : Qr) : Bool := decide (q.e = 0) && (decide (q.i < ts.length) && decide ((ts.getD q.i xc).kind = 2))
def zg (ts : List Tok) (q : Qr) : Nat := if zA3 ts q then (ts.getD q.i xc).n else 0
def zM (ts : List Tok) (en : Nat) (q : Qr) : Qr := if zA3 ts q then ⟨q.i + 1, q.pos, q.e⟩ else yG ts en q 10
structure TkR (w : World) (A : Option Addr) (ts : List Tok) : Prop where
 r : RdT w w.heap.size A ts
 n : ts.length ≤ 8000
theorem TkR.up {w w' : World} {A : Option Addr} {ts : List Tok} (h : TkR w A ts) (b : Below w.heap.size w w') : TkR w' A ts := ⟨RdT.up h.r b, h.n⟩
theorem TkR.tok {w wx : World} {A : Option Addr} {ts : List Tok} (h : TkR w A ts) (b : Below w.heap.size w wx) {i : Nat} (hi : i < ts.length) : ∃ ad, A = some ad ∧ zLN wx (ad.add (i * 4)) (ts.getD i xc) := by
 obtain ⟨ad, rfl, -, h1⟩ := RdT.at (RdT.up h.r b) hi;refine ⟨ad, rfl, ?_⟩;rw [zN hi];exact h1
theorem zFM (w : World) (A : Option Addr) (c en : Nat) (ts : List Tok) (q : Qr) (hT : TkR w A ts) (hi : q.i ≤ 8000) :
 Calls Tryz.prog 125 #[.agg (q.cells A ts.length c en)] w fun e w' => e = .returned (.int .i64 (zGa ts en q : Nat)) ∧ Below w.heap.size w w' := by
 obtain ⟨n, hn⟩ : ∃ n, n = ts.length := ⟨_, rfl⟩
 obtain ⟨i, po, k⟩ := q;change i ≤ 8000 at hi;obtain ⟨R, hR⟩ : ∃ R, R = zGa ts en ⟨i, po, k⟩ := ⟨_, rfl⟩
 rw [← hR, ← hn];have HR := hid hR;have HN := hid hn;have HT := hid hT;have hn8 : n ≤ 8000 := by rw [hn]; exact hT.n
 clear hR hn hT;go_enter Tryz.func125, Tryz.ntmps125
 go_upto_region 1 with (fail)
 obtain ⟨w1, hw1⟩ : ∃ w1, w1 = w.alloc (.cells #[.slice A n c, .int .i64 (en : Int), .int .i64 (i : Int), .int .i64 (po : Int), .int .i64 (k : Int)] 74) := ⟨_, rfl⟩
 have B1 : Hid (Below w.heap.size w w1) := hid (by rw [hw1]; exact (Below.refl _ _).alloc (Nat.le_refl _) _);have K1 : Hid (Blk w1 w.heap.size 74 #[.slice A n c, .int .i64 (en : Int), .int .i64 (i : Int), .int .i64 (po : Int), .int .i64 (k : Int)]) := hid (by rw [hw1]; exact Blk.new _ _ _);rw [← hw1];clear hw1;have x0 := K1.out.cell 0;have x1 := K1.out.cell 1;have x2 := K1.out.cell 2;by_cases hlt : i < n
 ·
  obtain ⟨ad, rfl, ht⟩ := HT.out.tok B1.out (i := i) (by rw [← HN.out]; exact hlt);have HRR : Hid (R = (ts.getD i xc).pos) := hid (by rw [HR.out]; unfold zGa; rw [if_pos (by rw [← HN.out]; exact hlt)]);obtain ⟨u, hu⟩ : ∃ u, u = ts.getD i xc := ⟨_, rfl⟩
  rw [← hu] at ht HRR;have c1 := ht.b;clear ht hu;go_wp2_with fail
  go_ret;exact ⟨by rw [HRR.out]; rfl, B1.out⟩
 have HRR : Hid (R = en) := hid (by rw [HR.out]; unfold zGa; rw [if_neg (by rw [← HN.out]; exact hlt)]);go_wp2_with fail
 go_ret;exact ⟨by rw [HRR.out]; rfl, B1.out⟩
theorem zHQ (w : World) (A : Option Addr) (c en : Nat) (ts : List Tok) (q : Qr) (ke : Nat) (hT : TkR w A ts) (hi : q.i ≤ 8000) :
 Calls Tryz.prog 84 #[.agg (q.cells A ts.length c en), .int .i64 (ke : Nat)] w fun e w' => e = .returned (.agg ((yG ts en q ke).cells A ts.length c en)) ∧ Below w.heap.size w w' := by
 have HO := hid (fun W (b : Below w.heap.size w W) => zFM W A c en ts q (hT.up b) hi);obtain ⟨n, hn⟩ : ∃ n, n = ts.length := ⟨_, rfl⟩
 obtain ⟨i, po, k⟩ := q;change i ≤ 8000 at hi;obtain ⟨R, hR⟩ : ∃ R, R = yG ts en ⟨i, po, k⟩ ke := ⟨_, rfl⟩
 obtain ⟨o, ho⟩ : ∃ o, o = zGa ts en ⟨i, po, k⟩ := ⟨_, rfl⟩
 rw [← hR, ← hn];rw [← hn, ← ho] at HO;have HR : Hid (R = if k = 0 then ⟨i, o, ke⟩ else ⟨i, po, k⟩) := hid (by rw [hR, ho]; rfl);clear hR hn hT ho;go_enter Tryz.func84, Tryz.ntmps84
 go_upto_region 1 with (fail)
 obtain ⟨w1, hw1⟩ : ∃ w1, w1 = (w.alloc (.cells #[.slice A n c, .int .i64 (en : Int), .int .i64 (i : Int), .int .i64 (po : Int), .int .i64 (k : Int)] 74)).alloc (.cells zy 74) := ⟨_, rfl⟩
 have B1 : Hid (Below w.heap.size w w1) := hid (by rw [hw1]; exact ((Below.refl _ _).alloc (Nat.le_refl _) _).alloc (by simp) _);have K1 : Hid (Blk w1 w.heap.size 74 #[.slice A n c, .int .i64 (en : Int), .int .i64 (i : Int), .int .i64 (po : Int), .int .i64 (k : Int)]) := hid (by rw [hw1]; exact (Blk.new _ _ _).alloc _)
 have Z1 : Hid (Blk w1 (w.heap.size + 1) 74 zy) := hid (by
  rw [hw1];have := Blk.new (w.alloc (.cells #[.slice A n c, .int .i64 (en : Int), .int .i64 (i : Int), .int .i64 (po : Int), .int .i64 (k : Int)] 74)) 74 zy;rw [show (w.alloc (.cells #[.slice A n c, .int .i64 (en : Int), .int .i64 (i : Int), .int .i64 (po : Int), .int .i64 (k : Int)] 74)).heap.size = w.heap.size + 1 by simp] at this;exact this)
 rw [← hw1];clear hw1;have HG : Hid (w.heap.size < w1.heap.size ∧ w.heap.size + 1 < w1.heap.size) := hid ⟨K1.out.lt, Z1.out.lt⟩;by_cases h0 : k = 0
 ·
  have HRR : Hid (R = ⟨i, o, ke⟩) := hid (by rw [HR.out, if_pos h0]);have hk0 : ((k : Int) == 0) = true := by rw [beq_iff_eq]; omega
  have x0 := K1.out.cell 0;have x1 := K1.out.cell 1;have x2 := K1.out.cell 2;have x3 := K1.out.cell 3;have x4 := K1.out.cell 4;clear h0;go_upto_region 3 with (go_at_call 125; with_reducible refine (HO.out _ B1.out).mono ?_; rintro e w2 ⟨rfl, b2⟩; have k2 := K1.out.below b2 K1.out.lt; have f3 := k2.frozen 3; have y3 := k2.cell 3; clear k2; replace b2 := hid b2)
  have K2 := hid (((K1.out.below b2.out K1.out.lt).set_ 3 (.int .i64 (o : Int))));have Z2 := hid ((Z1.out.below b2.out Z1.out.lt).far (p := ⟨w.heap.size, 3, none⟩) (by simp) (.int .i64 (o : Int)));have B2 : Hid (Below w.heap.size w (w2.setCell ⟨w.heap.size, 3, none⟩ (.int .i64 (o : Int)))) := hid ((zB B1.out b2.out).setCell (p := ⟨w.heap.size, 3, none⟩) (Nat.le_refl _) _);generalize (w2.setCell ⟨w.heap.size, 3, none⟩ (.int .i64 (o : Int))) = w3 at K2 Z2 B2 ⊢;have K3 : Hid (Blk w3 w.heap.size 74 #[.slice A n c, .int .i64 (en : Int), .int .i64 (i : Int), .int .i64 (o : Int), .int .i64 (k : Int)]) := hid (by simpa using K2.out);clear K2 x0 x1 x2 x3 x4 y3 f3;have y4 := K3.out.cell 4;have f4 := K3.out.frozen 4;go_upto_region 4 with (fail)
  have K4 := hid (K3.out.set_ 4 (.int .i64 (ke : Int)));have Z4 := hid (Z2.out.far (p := ⟨w.heap.size, 4, none⟩) (by simp) (.int .i64 (ke : Int)));have B4 : Hid (Below w.heap.size w (w3.setCell ⟨w.heap.size, 4, none⟩ (.int .i64 (ke : Int)))) := hid (B2.out.setCell (p := ⟨w.heap.size, 4, none⟩) (Nat.le_refl _) _);generalize (w3.setCell ⟨w.heap.size, 4, none⟩ (.int .i64 (ke : Int))) = w4 at K4 Z4 B4 ⊢;have K5 : Hid (Blk w4 w.heap.size 74 #[.slice A n c, .int .i64 (en : Int), .int .i64 (i : Int), .int .i64 (o : Int), .int .i64 (ke : Int)]) := hid (by simpa using K4.out);clear K4 K3 y4 f4;go_wp2_with (first | (refine zp 74 K5.out Tryz.underlying74 zE ?_) | (refine zI rfl 74 (.tmp 4) (.tmp 13) rfl (w.heap.size + 1) #[.slice A n c, .int .i64 (en : Int), .int .i64 (i : Int), .int .i64 (o : Int), .int .i64 (ke : Int)] rfl rfl 74 zy Z4.out zE rfl (by simp [Value.oneCell']) ?_; intro w9 b9 g9 z9; replace b9 := hid b9; replace g9 := hid g9; clear z9; try simp only [Act.put, sS]))
  refine bodyPost_ret (yN rfl _ ⟨w.heap.size + 1, 0, none⟩ rfl _ Tryz.underlying74 rfl _ #[.slice A n c, .int .i64 (en : Int), .int .i64 (i : Int), .int .i64 (o : Int), .int .i64 (ke : Int)] zE (zO b9.out)) rfl ?_;refine ⟨by rw [HRR.out], B4.out.grown g9.out B4.out.size (fun y e => by injection e with e; omega)⟩
 have HRR : Hid (R = ⟨i, po, k⟩) := hid (by rw [HR.out, if_neg h0]);have x4 := K1.out.cell 4;have hk0 : ((k : Int) == 0) = false := by rw [beq_eq_false_iff_ne]; omega
 clear h0;go_wp2_with (first | (refine zp 74 K1.out Tryz.underlying74 zE ?_) | (refine zI rfl 74 (.tmp 4) (.tmp 13) rfl (w.heap.size + 1) #[.slice A n c, .int .i64 (en : Int), .int .i64 (i : Int), .int .i64 (po : Int), .int .i64 (k : Int)] rfl rfl 74 zy Z1.out zE rfl (by simp [Value.oneCell']) ?_; intro w9 b9 g9 z9; replace b9 := hid b9; replace g9 := hid g9; clear z9; try simp only [Act.put, sS]))
 refine bodyPost_ret (yN rfl _ ⟨w.heap.size + 1, 0, none⟩ rfl _ Tryz.underlying74 rfl _ #[.slice A n c, .int .i64 (en : Int), .int .i64 (i : Int), .int .i64 (po : Int), .int .i64 (k : Int)] zE (zO b9.out)) rfl ?_;refine ⟨by rw [HRR.out], B1.out.grown g9.out B1.out.size (fun y e => by injection e with e; omega)⟩
theorem xl (w : World) (A : Option Addr) (c en : Nat) (ts : List Tok) (q : Qr) (ke : Nat) (ki : Int) (hk : ki = ke) (hT : TkR w A ts) (hi : q.i ≤ 8000) :
 Calls Tryz.prog 84 #[.agg (q.cells A ts.length c en), .int .i64 ki] w fun e w' => e = .returned (.agg ((yG ts en q ke).cells A ts.length c en)) ∧ Below w.heap.size w w' := hk ▸ zHQ w A c en ts q ke hT hi
theorem zAW (w : World) (A : Option Addr) (c en : Nat) (ts : List Tok) (q : Qr) (s : List UInt8) (hT : TkR w A ts) (hi : q.i ≤ 8000) :
 Calls Tryz.prog 81 #[.agg (q.cells A ts.length c en), str s] w fun e w' => e = .returned (.bool (isQ ts q s)) ∧ Below w.heap.size w w' := by
 obtain ⟨n, hn⟩ : ∃ n, n = ts.length := ⟨_, rfl⟩
 obtain ⟨i, po, k⟩ := q;change i ≤ 8000 at hi;obtain ⟨R, hR⟩ : ∃ R, R = isQ ts ⟨i, po, k⟩ s := ⟨_, rfl⟩
 rw [← hR, ← hn];have HR := hid hR;have HN := hid hn;have HT := hid hT;have hn8 : n ≤ 8000 := by rw [hn]; exact hT.n
 clear hR hn hT;go_enter Tryz.func81, Tryz.ntmps81
 go_upto_region 1 with (fail)
 obtain ⟨w1, hw1⟩ : ∃ w1, w1 = w.alloc (.cells #[.slice A n c, .int .i64 (en : Int), .int .i64 (i : Int), .int .i64 (po : Int), .int .i64 (k : Int)] 74) := ⟨_, rfl⟩
 have B1 : Hid (Below w.heap.size w w1) := hid (by rw [hw1]; exact (Below.refl _ _).alloc (Nat.le_refl _) _);have K1 : Hid (Blk w1 w.heap.size 74 #[.slice A n c, .int .i64 (en : Int), .int .i64 (i : Int), .int .i64 (po : Int), .int .i64 (k : Int)]) := hid (by rw [hw1]; exact Blk.new _ _ _);rw [← hw1];clear hw1;have x0 := K1.out.cell 0;have x2 := K1.out.cell 2;have x4 := K1.out.cell 4;by_cases h0 : k = 0
 case neg =>
  have HRR : Hid (R = false) := hid (by rw [HR.out]; unfold isQ; simp [h0]);(have hk0 : ((k : Int) == 0) = false := by rw [beq_eq_false_iff_ne]; omega);clear h0;(go_wp2_with fail);go_ret;exact ⟨by rw [HRR.out]; rfl, B1.out⟩
 have hk0 : ((k : Int) == 0) = true := by rw [beq_iff_eq]; omega
 by_cases hlt : i < n
 case neg =>
  have HRR : Hid (R = false) := hid (by rw [HR.out]; unfold isQ; rw [decide_eq_false (p := i < ts.length) (by rw [← HN.out]; exact hlt)]; simp);(have hlf : decide ((i : Int) < (n : Int)) = false := by rw [decide_eq_false_iff_not]; omega);clear h0;(go_wp2_with fail);go_ret;exact ⟨by rw [HRR.out]; rfl, B1.out⟩
 have hlf : decide ((i : Int) < (n : Int)) = true := by rw [decide_eq_true_eq]; omega
 obtain ⟨ad, rfl, ht⟩ := HT.out.tok B1.out (i := i) (by rw [← HN.out]; exact hlt);have HRR : Hid (R = decide ((ts.getD i xc).text = s)) := hid (by rw [HR.out]; unfold isQ; rw [decide_eq_true (p := i < ts.length) (by rw [← HN.out]; exact hlt)]; simp [h0]);obtain ⟨u, hu⟩ : ∃ u, u = (ts.getD i xc).text := ⟨_, rfl⟩
 have c3 := ht.d;rw [← hu] at c3 HRR;have e1 := zHm u s;clear ht hu h0;by_cases hus : u = s
 ·
  have e2 : (u == s) = true := by simpa using hus
  rw [decide_eq_true hus] at HRR e1;clear hus;go_wp2_with fail
  go_ret;exact ⟨by rw [HRR.out]; rfl, B1.out⟩
 have e2 : (u == s) = false := by simpa using hus
 rw [decide_eq_false hus] at HRR e1;clear hus;go_wp2_with fail
 go_ret;exact ⟨by rw [HRR.out]; rfl, B1.out⟩
theorem qX (w : World) (A : Option Addr) (c en : Nat) (ts : List Tok) (q : Qr) (s : List UInt8) (hT : TkR w A ts) (hi : q.i ≤ 8000) :
 Calls Tryz.prog 79 #[.agg (q.cells A ts.length c en), str s] w fun e w' => e = .returned (.agg ((zK ts en q s).cells A ts.length c en)) ∧ Below w.heap.size w w' := by
 have HI := hid (fun W (b : Below w.heap.size w W) => zAW W A c en ts q s (hT.up b) hi);have HWR := hid (fun W (b : Below w.heap.size w W) => xl W A c en ts q 10 10 rfl (hT.up b) hi);obtain ⟨n, hn⟩ : ∃ n, n = ts.length := ⟨_, rfl⟩
 obtain ⟨i, po, k⟩ := q;change i ≤ 8000 at hi;obtain ⟨R, hR⟩ : ∃ R, R = zK ts en ⟨i, po, k⟩ s := ⟨_, rfl⟩
 obtain ⟨o, ho⟩ : ∃ o, o = yG ts en ⟨i, po, k⟩ 10 := ⟨_, rfl⟩
 obtain ⟨b, hb⟩ : ∃ b, b = isQ ts ⟨i, po, k⟩ s := ⟨_, rfl⟩
 rw [← hR, ← hn];rw [← hn, ← ho] at HWR;rw [← hn, ← hb] at HI;have HR : Hid (R = if b = true then ⟨i + 1, po, k⟩ else o) := hid (by rw [hR, ho, hb]; rfl);clear hR hn hT ho hb;obtain ⟨oi, op, oe⟩ := o;go_enter Tryz.func79, Tryz.ntmps79
 go_upto_region 1 with (fail)
 obtain ⟨w1, hw1⟩ : ∃ w1, w1 = (w.alloc (.cells #[.slice A n c, .int .i64 (en : Int), .int .i64 (i : Int), .int .i64 (po : Int), .int .i64 (k : Int)] 74)).alloc (.cells zy 74) := ⟨_, rfl⟩
 have B1 : Hid (Below w.heap.size w w1) := hid (by rw [hw1]; exact ((Below.refl _ _).alloc (Nat.le_refl _) _).alloc (by simp) _);have K1 : Hid (Blk w1 w.heap.size 74 #[.slice A n c, .int .i64 (en : Int), .int .i64 (i : Int), .int .i64 (po : Int), .int .i64 (k : Int)]) := hid (by rw [hw1]; exact (Blk.new _ _ _).alloc _)
 have Z1 : Hid (Blk w1 (w.heap.size + 1) 74 zy) := hid (by
  rw [hw1];have := Blk.new (w.alloc (.cells #[.slice A n c, .int .i64 (en : Int), .int .i64 (i : Int), .int .i64 (po : Int), .int .i64 (k : Int)] 74)) 74 zy;rw [show (w.alloc (.cells #[.slice A n c, .int .i64 (en : Int), .int .i64 (i : Int), .int .i64 (po : Int), .int .i64 (k : Int)] 74)).heap.size = w.heap.size + 1 by simp] at this;exact this)
 rw [← hw1];clear hw1;have HG : Hid (w.heap.size < w1.heap.size ∧ w.heap.size + 1 < w1.heap.size) := hid ⟨K1.out.lt, Z1.out.lt⟩;cases b
 · have HRR : Hid (R = ⟨oi, op, oe⟩) := hid (by rw [HR.out, if_neg (by decide)]);go_wp2_with (first | (refine zp 74 K1.out Tryz.underlying74 zE ?_) | (go_at_call 81; with_reducible refine (HI.out _ B1.out).mono ?_; rintro e w2 ⟨rfl, b2⟩; replace K1 := hid (K1.out.below b2 K1.out.lt); replace Z1 := hid (Z1.out.below b2 Z1.out.lt); replace B1 := hid (zB B1.out b2); clear b2) | (go_at_call 84; with_reducible refine (HWR.out _ B1.out).mono ?_; rintro e w3 ⟨rfl, b3⟩; replace K1 := hid (K1.out.below b3 K1.out.lt); replace Z1 := hid (Z1.out.below b3 Z1.out.lt); replace B1 := hid (zB B1.out b3); clear b3) | (refine zI rfl 74 (.tmp 4) (.tmp 10) rfl (w.heap.size + 1) #[.slice A n c, .int .i64 (en : Int), .int .i64 (oi : Int), .int .i64 (op : Int), .int .i64 (oe : Int)] rfl rfl 74 zy Z1.out zE rfl (by simp [Value.oneCell']) ?_; intro w9 b9 g9 z9; replace b9 := hid b9; replace g9 := hid g9; clear z9; try simp only [Act.put, sS]))
   refine bodyPost_ret (yN rfl _ ⟨w.heap.size + 1, 0, none⟩ rfl _ Tryz.underlying74 rfl _ #[.slice A n c, .int .i64 (en : Int), .int .i64 (oi : Int), .int .i64 (op : Int), .int .i64 (oe : Int)] zE (zO b9.out)) rfl ?_;refine ⟨by rw [HRR.out], B1.out.grown g9.out B1.out.size (fun y e => by injection e with e; omega)⟩
 have HRR : Hid (R = ⟨i + 1, po, k⟩) := hid (by rw [HR.out, if_pos rfl]);go_upto_region 3 with (first | (refine zp 74 K1.out Tryz.underlying74 zE ?_) | (go_at_call 81; with_reducible refine (HI.out _ B1.out).mono ?_; rintro e w2 ⟨rfl, b2⟩; replace K1 := hid (K1.out.below b2 K1.out.lt); replace Z1 := hid (Z1.out.below b2 Z1.out.lt); replace B1 := hid (zB B1.out b2); clear b2))
 have x2 := K1.out.cell 2;have f2 := K1.out.frozen 2;have r1 : IntKind.i64.wrap ((i : Int) + 1) = ((i + 1 : Nat) : Int) := by rw [IntKind.wrap_i64]; omega
 go_upto_region 4 with (fail)
 have K2 := hid (K1.out.set_ 2 (.int .i64 ((i : Int) + 1)));have Z2 := hid (Z1.out.far (p := ⟨w.heap.size, 2, none⟩) (by simp) (.int .i64 ((i : Int) + 1)));have B2 : Hid (Below w.heap.size w (w2.setCell ⟨w.heap.size, 2, none⟩ (.int .i64 ((i : Int) + 1)))) := hid (B1.out.setCell (p := ⟨w.heap.size, 2, none⟩) (Nat.le_refl _) _);generalize (w2.setCell ⟨w.heap.size, 2, none⟩ (.int .i64 ((i : Int) + 1))) = w3 at K2 Z2 B2 ⊢;have K3 : Hid (Blk w3 w.heap.size 74 #[.slice A n c, .int .i64 (en : Int), .int .i64 ((i + 1 : Nat) : Int), .int .i64 (po : Int), .int .i64 (k : Int)]) := hid (by simpa using K2.out);clear K2 x2 f2;go_wp2_with (first | (refine zp 74 K3.out Tryz.underlying74 zE ?_) | (refine zI rfl 74 (.tmp 4) (.tmp 15) rfl (w.heap.size + 1) #[.slice A n c, .int .i64 (en : Int), .int .i64 ((i + 1 : Nat) : Int), .int .i64 (po : Int), .int .i64 (k : Int)] rfl rfl 74 zy Z2.out zE rfl (by simp [Value.oneCell']) ?_; intro w9 b9 g9 z9; replace b9 := hid b9; replace g9 := hid g9; clear z9; try simp only [Act.put, sS]))
 refine bodyPost_ret (yN rfl _ ⟨w.heap.size + 1, 0, none⟩ rfl _ Tryz.underlying74 rfl _ #[.slice A n c, .int .i64 (en : Int), .int .i64 ((i + 1 : Nat) : Int), .int .i64 (po : Int), .int .i64 (k : Int)] zE (zO b9.out)) rfl ?_;refine ⟨by rw [HRR.out], B2.out.grown g9.out B2.out.size (fun y e => by injection e with e; omega)⟩
open Go.RowKit Go.Deep
theorem yZ {P : Program} {fn : Func} {t u : Tmp} {ty : TypeId} (hf : fn.results = #[.tmp u, .cell t ty]) (tmps : Array Value) (a : Addr) (ht : tmps.getD t undef = .pointer (some a)) (d : TypeDesc) (hu : P.underlying ty = some d) (hd : (match d with | .struct _ | .array _ _ => true | _ => false) = true) (w : World) (cs : Array Value) (hi : (P.info? ty).map (·.size) = some cs.size)
 (h : ∀ j v, cs.toList[j]? = some v → w.cell? (a.add j) = some v) : (results fn tmps).run P w = .ok (.tuple #[tmps.getD u undef, .agg cs]) w := by
 have := qS ty d hu hd w a cs hi h;rw [Array.getD_eq_getD_getElem?] at ht;simp [results, hf, ht, asAddr, this]
theorem jA (w : World) (A : Option Addr) (c en : Nat) (ts : List Tok) (q : Qr) (hT : TkR w A ts) (hi : q.i ≤ 8000) :
 Calls Tryz.prog 80 #[.agg (q.cells A ts.length c en)] w fun e w' => e = .returned (.tuple #[.int .i64 (zg ts q : Nat), .agg ((zM ts en q).cells A ts.length c en)]) ∧ Below w.heap.size w w' := by
 have HWR := hid (fun W (b : Below w.heap.size w W) => xl W A c en ts q 10 10 rfl (hT.up b) hi);obtain ⟨n, hn⟩ : ∃ n, n = ts.length := ⟨_, rfl⟩
 obtain ⟨i, po, k⟩ := q;change i ≤ 8000 at hi;obtain ⟨R, hR⟩ : ∃ R, R = zM ts en ⟨i, po, k⟩ := ⟨_, rfl⟩
 obtain ⟨V, hV⟩ : ∃ V, V = zg ts ⟨i, po, k⟩ := ⟨_, rfl⟩
 obtain ⟨o, ho⟩ : ∃ o, o = yG ts en ⟨i, po, k⟩ 10 := ⟨_, rfl⟩
 obtain ⟨b, hb⟩ : ∃ b, b = zA3 ts ⟨i, po, k⟩ := ⟨_, rfl⟩
 rw [← hR, ← hV, ← hn];rw [← hn, ← ho] at HWR
 have HRV : Hid ((b = true → R = ⟨i + 1, po, k⟩ ∧ V = (ts.getD i xc).n) ∧ (b = false → R = o ∧ V = 0)) := hid ⟨fun h => by
  rw [hR, hV]; unfold zM zg; rw [← hb, h]; exact ⟨rfl, rfl⟩, fun h => by
  rw [hR, hV]; unfold zM zg; rw [← hb, h]; exact ⟨ho.symm, rfl⟩⟩
 have HB := hid hb;have HN := hid hn;have HT := hid hT;have hn8 : n ≤ 8000 := by rw [hn]; exact hT.n
 clear hR hV hn hT ho hb;obtain ⟨oi, op, oe⟩ := o;go_enter Tryz.func80, Tryz.ntmps80
 go_upto_region 1 with (fail)
 obtain ⟨w1, hw1⟩ : ∃ w1, w1 = (w.alloc (.cells #[.slice A n c, .int .i64 (en : Int), .int .i64 (i : Int), .int .i64 (po : Int), .int .i64 (k : Int)] 74)).alloc (.cells zy 74) := ⟨_, rfl⟩
 have B1 : Hid (Below w.heap.size w w1) := hid (by rw [hw1]; exact ((Below.refl _ _).alloc (Nat.le_refl _) _).alloc (by simp) _);have K1 : Hid (Blk w1 w.heap.size 74 #[.slice A n c, .int .i64 (en : Int), .int .i64 (i : Int), .int .i64 (po : Int), .int .i64 (k : Int)]) := hid (by rw [hw1]; exact (Blk.new _ _ _).alloc _)
 have Z1 : Hid (Blk w1 (w.heap.size + 1) 74 zy) := hid (by
  rw [hw1];have := Blk.new (w.alloc (.cells #[.slice A n c, .int .i64 (en : Int), .int .i64 (i : Int), .int .i64 (po : Int), .int .i64 (k : Int)] 74)) 74 zy;rw [show (w.alloc (.cells #[.slice A n c, .int .i64 (en : Int), .int .i64 (i : Int), .int .i64 (po : Int), .int .i64 (k : Int)] 74)).heap.size = w.heap.size + 1 by simp] at this;exact this)
 rw [← hw1];clear hw1;have HG : Hid (w.heap.size < w1.heap.size ∧ w.heap.size + 1 < w1.heap.size) := hid ⟨K1.out.lt, Z1.out.lt⟩;have x0 := K1.out.cell 0;have x2 := K1.out.cell 2;have x4 := K1.out.cell 4;by_cases h0 : k = 0
 case neg =>
  have HRR := hid (HRV.out.2 (by rw [HB.out]; unfold zA3; simp [h0]));(have hk0 : ((k : Int) != 0) = true := by rw [bne_iff_ne]; omega);exact m41
 have hk0 : ((k : Int) != 0) = false := by rw [bne_eq_false_iff_eq]; omega
 by_cases hlt : i < n
 case neg =>
  have HRR := hid (HRV.out.2 (by rw [HB.out]; unfold zA3; rw [decide_eq_false (p := i < ts.length) (by rw [← HN.out]; exact hlt)]; simp));(have hlf : decide ((n : Int) ≤ (i : Int)) = true := by rw [decide_eq_true_eq]; omega);exact m41
 have hlf : decide ((n : Int) ≤ (i : Int)) = false := by rw [decide_eq_false_iff_not]; omega
 obtain ⟨ad, rfl, ht⟩ := HT.out.tok B1.out (i := i) (by rw [← HN.out]; exact hlt);obtain ⟨u, hu⟩ : ∃ u, u = ts.getD i xc := ⟨_, rfl⟩
 have HBU : Hid (b = decide (u.kind = 2)) := hid (by rw [HB.out]; unfold zA3; rw [decide_eq_true (p := i < ts.length) (by rw [← HN.out]; exact hlt), hu]; simp [h0]);rw [← hu] at ht HRV;have c0 := ht.a;have c2 := ht.c;clear ht hu h0;by_cases hkd : u.kind = 2
 case neg =>
  have HRR := hid (HRV.out.2 (by rw [HBU.out]; simp [hkd]));(have hkk : ((u.kind : Int) != 2) = true := by rw [bne_iff_ne]; omega);clear hkd HRV;(go_upto_region 2 with (fail));clear c0 c2;clear x0 x2 x4;(go_wp2_with (first | (refine zp 74 K1.out Tryz.underlying74 zE ?_) | (go_at_call 84; with_reducible refine (HWR.out _ B1.out).mono ?_; rintro e w3 ⟨rfl, b3⟩; replace Z1 := hid (Z1.out.below b3 Z1.out.lt); replace B1 := hid (zB B1.out b3); clear b3) | (refine zI rfl 74 (.tmp 3) (.tmp 27) rfl (w.heap.size + 1) #[.slice (some ad) n c, .int .i64 (en : Int), .int .i64 (oi : Int), .int .i64 (op : Int), .int .i64 (oe : Int)] rfl rfl 74 zy Z1.out zE rfl (by simp [Value.oneCell']) ?_; intro w9 b9 g9 z9; replace b9 := hid b9; replace g9 := hid g9; clear z9; try simp only [Act.put, sS])));exact zNc
 have HRR := hid (HRV.out.1 (by rw [HBU.out]; simp [hkd]));have hkk : ((u.kind : Int) != 2) = false := by rw [bne_eq_false_iff_eq]; omega
 clear hkd HRV;have f2 := K1.out.frozen 2;obtain ⟨un, hun⟩ : ∃ un, un = u.n := ⟨_, rfl⟩
 rw [← hun] at c2 HRR;clear hun;go_upto_region 5 with (fail)
 have K2 := hid (K1.out.set_ 2 (.int .i64 ((i : Int) + 1)));have Z2 := hid (Z1.out.far (p := ⟨w.heap.size, 2, none⟩) (by simp) (.int .i64 ((i : Int) + 1)));have B2 : Hid (Below w.heap.size w (w1.setCell ⟨w.heap.size, 2, none⟩ (.int .i64 ((i : Int) + 1)))) := hid (B1.out.setCell (p := ⟨w.heap.size, 2, none⟩) (Nat.le_refl _) _);generalize (w1.setCell ⟨w.heap.size, 2, none⟩ (.int .i64 ((i : Int) + 1))) = w3 at K2 Z2 B2 ⊢;have K3 : Hid (Blk w3 w.heap.size 74 #[.slice (some ad) n c, .int .i64 (en : Int), .int .i64 ((i + 1 : Nat) : Int), .int .i64 (po : Int), .int .i64 (k : Int)]) := hid (by simpa using K2.out);clear K2 x0 x2 x4 f2 c0 c2;have x0 := K3.out.cell 0;have x1 := K3.out.cell 1;have x2 := K3.out.cell 2;have x3 := K3.out.cell 3;have x4 := K3.out.cell 4;go_still_tail 3, (by kernel_rfl)
 change wpList _ _ _ _ _ w3.drew;have Z3 := hid Z2.out.drew;have B3 := hid B2.out.drew;generalize w3.drew = w4 at *;go_wp2_with (refine zI rfl 74 (.tmp 3) (.tmp 40) rfl (w.heap.size + 1) #[.slice (some ad) n c, .int .i64 (en : Int), .int .i64 ((i + 1 : Nat) : Int), .int .i64 (po : Int), .int .i64 (k : Int)] rfl rfl 74 zy Z3.out zE rfl (by simp [Value.oneCell']) ?_; intro w9 b9 g9 z9; replace b9 := hid b9; replace g9 := hid g9; clear z9; try simp only [Act.put, sS])
 refine bodyPost_ret (yZ rfl _ ⟨w.heap.size + 1, 0, none⟩ rfl _ Tryz.underlying74 rfl _ #[.slice (some ad) n c, .int .i64 (en : Int), .int .i64 ((i + 1 : Nat) : Int), .int .i64 (po : Int), .int .i64 (k : Int)] zE (zO b9.out)) rfl ?_;refine ⟨by rw [HRR.out.1, HRR.out.2]; rfl, B3.out.grown g9.out B3.out.size (fun y e => by injection e with e; omega)⟩
def jx (ts : List Tok) (q : Qr) : Bool := decide (q.e = 0) && (decide (q.i < ts.length) && (decide ((ts.getD q.i xc).kind = 1) && !decide ((ts.getD q.i xc).text ∈ zi)))
def kT (ts : List Tok) (q : Qr) : List UInt8 := if jx ts q then (ts.getD q.i xc).text else []
def vB (ts : List Tok) (en : Nat) (q : Qr) : Qr := if jx ts q then ⟨q.i + 1, q.pos, q.e⟩ else yG ts en q 10
theorem zJZ (w : World) (s : List UInt8) (hs : s.length ≤ 1000000) :
 Calls Tryz.prog 158 #[str s] w fun e w' => e = .returned (.bool (decide (s ∈ zi))) ∧ w' = w := by
 by_cases h0 : s = [118, 111, 105, 99, 101, 115]
 ·
  have e0 : (s == [118, 111, 105, 99, 101, 115]) = true := by simpa using h0
  have hm : decide (s ∈ zi) = true := by rw [h0]; rfl
  rw [hm];clear hm h0;exact m44
 have e0 : (s == [118, 111, 105, 99, 101, 115]) = false := by simpa using h0
 by_cases h1 : s = [99, 97, 100, 101, 110, 99, 101]
 ·
  have e1 : (s == [99, 97, 100, 101, 110, 99, 101]) = true := by simpa using h1
  have hm : decide (s ∈ zi) = true := by rw [h1]; rfl
  rw [hm];clear hm h1;exact m44
 have e1 : (s == [99, 97, 100, 101, 110, 99, 101]) = false := by simpa using h1
 by_cases h2 : s = [110, 111, 116, 101]
 ·
  have e2 : (s == [110, 111, 116, 101]) = true := by simpa using h2
  have hm : decide (s ∈ zi) = true := by rw [h2]; rfl
  rw [hm];clear hm h2;exact m44
 have e2 : (s == [110, 111, 116, 101]) = false := by simpa using h2
 by_cases h3 : s = [116, 105, 101, 100]
 ·
  have e3 : (s == [116, 105, 101, 100]) = true := by simpa using h3
  have hm : decide (s ∈ zi) = true := by rw [h3]; rfl
  rw [hm];clear hm h3;exact m44
 have e3 : (s == [116, 105, 101, 100]) = false := by simpa using h3
 by_cases h4 : s = [112, 97, 105, 114]
 ·
  have e4 : (s == [112, 97, 105, 114]) = true := by simpa using h4
  have hm : decide (s ∈ zi) = true := by rw [h4]; rfl
  rw [hm];clear hm h4;exact m44
 have e4 : (s == [112, 97, 105, 114]) = false := by simpa using h4
 by_cases h5 : s = [118, 111, 105, 99, 101]
 ·
  have e5 : (s == [118, 111, 105, 99, 101]) = true := by simpa using h5
  have hm : decide (s ∈ zi) = true := by rw [h5]; rfl
  rw [hm];clear hm h5;exact m44
 have e5 : (s == [118, 111, 105, 99, 101]) = false := by simpa using h5
 by_cases h6 : s = [102, 114, 111, 109]
 ·
  have e6 : (s == [102, 114, 111, 109]) = true := by simpa using h6
  have hm : decide (s ∈ zi) = true := by rw [h6]; rfl
  rw [hm];clear hm h6;exact m44
 have e6 : (s == [102, 114, 111, 109]) = false := by simpa using h6
 by_cases h7 : s = [116, 111]
 ·
  have e7 : (s == [116, 111]) = true := by simpa using h7
  have hm : decide (s ∈ zi) = true := by rw [h7]; rfl
  rw [hm];clear hm h7;exact m44
 have e7 : (s == [116, 111]) = false := by simpa using h7
 by_cases h8 : s = [97, 116]
 ·
  have e8 : (s == [97, 116]) = true := by simpa using h8
  have hm : decide (s ∈ zi) = true := by rw [h8]; rfl
  rw [hm];clear hm h8;exact m44
 have e8 : (s == [97, 116]) = false := by simpa using h8
 by_cases h9 : s = [98, 121]
 ·
  have e9 : (s == [98, 121]) = true := by simpa using h9
  have hm : decide (s ∈ zi) = true := by rw [h9]; rfl
  rw [hm];clear hm h9;exact m44
 have e9 : (s == [98, 121]) = false := by simpa using h9
 by_cases h10 : s = [119, 105, 116, 104, 105, 110]
 ·
  have e10 : (s == [119, 105, 116, 104, 105, 110]) = true := by simpa using h10
  have hm : decide (s ∈ zi) = true := by rw [h10]; rfl
  rw [hm];clear hm h10;exact m44
 have e10 : (s == [119, 105, 116, 104, 105, 110]) = false := by simpa using h10
 have hm : decide (s ∈ zi) = false := by
  rw [decide_eq_false_iff_not];intro h;simp only [zi, List.mem_cons, List.not_mem_nil, or_false] at h;rcases h with h | h | h | h | h | h | h | h | h | h | h
  · exact h0 h
  · exact h1 h
  · exact h2 h
  · exact h3 h
  · exact h4 h
  · exact h5 h
  · exact h6 h
  · exact h7 h
  · exact h8 h
  · exact h9 h
  exact h10 h
 rw [hm];clear hm h0 h1 h2 h3 h4 h5 h6 h7 h8 h9 h10;go_enter Tryz.func158, Tryz.ntmps158
 go_wp2
 go_ret;exact ⟨rfl, rfl⟩
theorem zIC (w : World) (A : Option Addr) (c en : Nat) (ts : List Tok) (q : Qr) (hT : TkR w A ts) (hi : q.i ≤ 8000) (hx : ∀ t ∈ ts, t.text.length ≤ 8000) :
 Calls Tryz.prog 121 #[.agg (q.cells A ts.length c en)] w fun e w' => e = .returned (.tuple #[str (kT ts q), .agg ((vB ts en q).cells A ts.length c en)]) ∧ Below w.heap.size w w' := by
 have HWR := hid (fun W (b : Below w.heap.size w W) => xl W A c en ts q 10 10 rfl (hT.up b) hi);have HX := hid hx;obtain ⟨n, hn⟩ : ∃ n, n = ts.length := ⟨_, rfl⟩
 obtain ⟨i, po, k⟩ := q;change i ≤ 8000 at hi;obtain ⟨R, hR⟩ : ∃ R, R = vB ts en ⟨i, po, k⟩ := ⟨_, rfl⟩
 obtain ⟨V, hV⟩ : ∃ V, V = kT ts ⟨i, po, k⟩ := ⟨_, rfl⟩
 obtain ⟨o, ho⟩ : ∃ o, o = yG ts en ⟨i, po, k⟩ 10 := ⟨_, rfl⟩
 obtain ⟨b, hb⟩ : ∃ b, b = jx ts ⟨i, po, k⟩ := ⟨_, rfl⟩
 rw [← hR, ← hV, ← hn];rw [← hn, ← ho] at HWR
 have HRV : Hid ((b = true → R = ⟨i + 1, po, k⟩ ∧ V = (ts.getD i xc).text) ∧ (b = false → R = o ∧ V = [])) := hid ⟨fun h => by
  rw [hR, hV]; unfold vB kT; rw [← hb, h]; exact ⟨rfl, rfl⟩, fun h => by
  rw [hR, hV]; unfold vB kT; rw [← hb, h]; exact ⟨ho.symm, rfl⟩⟩
 have HB := hid hb;have HN := hid hn;have HT := hid hT;have hn8 : n ≤ 8000 := by rw [hn]; exact hT.n
 clear hR hV hn hT ho hb hx;obtain ⟨oi, op, oe⟩ := o;go_enter Tryz.func121, Tryz.ntmps121
 go_upto_region 1 with (fail)
 obtain ⟨w1, hw1⟩ : ∃ w1, w1 = (w.alloc (.cells #[.slice A n c, .int .i64 (en : Int), .int .i64 (i : Int), .int .i64 (po : Int), .int .i64 (k : Int)] 74)).alloc (.cells zy 74) := ⟨_, rfl⟩
 have B1 : Hid (Below w.heap.size w w1) := hid (by rw [hw1]; exact ((Below.refl _ _).alloc (Nat.le_refl _) _).alloc (by simp) _);have K1 : Hid (Blk w1 w.heap.size 74 #[.slice A n c, .int .i64 (en : Int), .int .i64 (i : Int), .int .i64 (po : Int), .int .i64 (k : Int)]) := hid (by rw [hw1]; exact (Blk.new _ _ _).alloc _)
 have Z1 : Hid (Blk w1 (w.heap.size + 1) 74 zy) := hid (by
  rw [hw1];have := Blk.new (w.alloc (.cells #[.slice A n c, .int .i64 (en : Int), .int .i64 (i : Int), .int .i64 (po : Int), .int .i64 (k : Int)] 74)) 74 zy;rw [show (w.alloc (.cells #[.slice A n c, .int .i64 (en : Int), .int .i64 (i : Int), .int .i64 (po : Int), .int .i64 (k : Int)] 74)).heap.size = w.heap.size + 1 by simp] at this;exact this)
 rw [← hw1];clear hw1;have HG : Hid (w.heap.size < w1.heap.size ∧ w.heap.size + 1 < w1.heap.size) := hid ⟨K1.out.lt, Z1.out.lt⟩;have x0 := K1.out.cell 0;have x2 := K1.out.cell 2;have x4 := K1.out.cell 4;by_cases h0 : k = 0
 case neg =>
  have HRR := hid (HRV.out.2 (by rw [HB.out]; unfold jx; simp [h0]));(have hk0 : ((k : Int) != 0) = true := by rw [bne_iff_ne]; omega);exact m40
 have hk0 : ((k : Int) != 0) = false := by rw [bne_eq_false_iff_eq]; omega
 by_cases hlt : i < n
 case neg =>
  have HRR := hid (HRV.out.2 (by rw [HB.out]; unfold jx; rw [decide_eq_false (p := i < ts.length) (by rw [← HN.out]; exact hlt)]; simp));(have hlf : decide ((n : Int) ≤ (i : Int)) = true := by rw [decide_eq_true_eq]; omega);exact m40
 have hlf : decide ((n : Int) ≤ (i : Int)) = false := by rw [decide_eq_false_iff_not]; omega
 have hxt : (ts.getD i xc).text.length ≤ 8000 := by
  rw [zN (by rw [← HN.out]; exact hlt)];exact HX.out _ (List.getElem_mem _)
 obtain ⟨ad, rfl, ht⟩ := HT.out.tok B1.out (i := i) (by rw [← HN.out]; exact hlt);obtain ⟨u, hu⟩ : ∃ u, u = ts.getD i xc := ⟨_, rfl⟩
 have HBU : Hid (b = (decide (u.kind = 1) && !decide (u.text ∈ zi))) := hid (by rw [HB.out]; unfold jx; rw [decide_eq_true (p := i < ts.length) (by rw [← HN.out]; exact hlt), hu]; simp [h0]);rw [← hu] at ht HRV hxt;have c0 := ht.a;have c3 := ht.d;clear ht hu h0;by_cases hkd : u.kind = 1
 case neg =>
  have HRR := hid (HRV.out.2 (by rw [HBU.out]; simp [hkd]));(have hkk : ((u.kind : Int) != 1) = true := by rw [bne_iff_ne]; omega);clear hkd HRV;(go_upto_region 2 with (fail));exact m42
 have hkk : ((u.kind : Int) != 1) = false := by rw [bne_eq_false_iff_eq]; omega
 obtain ⟨ut, hut⟩ : ∃ ut, ut = u.text := ⟨_, rfl⟩
 rw [← hut] at c3 HRV HBU hxt;clear hut;have HKEY := hid (fun W => zJZ W ut (by omega));by_cases hky : ut ∈ zi
 case pos =>
  have HRR := hid (HRV.out.2 (by rw [HBU.out]; simp [hky]));rw [decide_eq_true hky] at HKEY;clear hkd HRV hky;(go_upto_region 2 with (go_at_call 158; with_reducible refine (HKEY.out _).mono ?_; rintro e w2 ⟨rfl, hw2⟩; rw [hw2]; clear hw2));exact m42
 have HRR := hid (HRV.out.1 (by rw [HBU.out]; simp [hkd, hky]));rw [decide_eq_false hky] at HKEY;clear hkd HRV hky;have f2 := K1.out.frozen 2;go_upto_region 5 with (go_at_call 158; with_reducible refine (HKEY.out _).mono ?_; rintro e w2 ⟨rfl, hw2⟩; rw [hw2]; clear hw2)
 have K2 := hid (K1.out.set_ 2 (.int .i64 ((i : Int) + 1)));have Z2 := hid (Z1.out.far (p := ⟨w.heap.size, 2, none⟩) (by simp) (.int .i64 ((i : Int) + 1)));have B2 : Hid (Below w.heap.size w (w1.setCell ⟨w.heap.size, 2, none⟩ (.int .i64 ((i : Int) + 1)))) := hid (B1.out.setCell (p := ⟨w.heap.size, 2, none⟩) (Nat.le_refl _) _);generalize (w1.setCell ⟨w.heap.size, 2, none⟩ (.int .i64 ((i : Int) + 1))) = w3 at K2 Z2 B2 ⊢;have K3 : Hid (Blk w3 w.heap.size 74 #[.slice (some ad) n c, .int .i64 (en : Int), .int .i64 ((i + 1 : Nat) : Int), .int .i64 (po : Int), .int .i64 (k : Int)]) := hid (by simpa using K2.out);clear K2 x0 x2 x4 f2 c0 c3;have x0 := K3.out.cell 0;have x1 := K3.out.cell 1;have x2 := K3.out.cell 2;have x3 := K3.out.cell 3;have x4 := K3.out.cell 4;go_still_tail 3, (by kernel_rfl)
 change wpList _ _ _ _ _ w3.drew;have Z3 := hid Z2.out.drew;have B3 := hid B2.out.drew;generalize w3.drew = w4 at *;go_wp2_with (refine zI rfl 74 (.tmp 3) (.tmp 50) rfl (w.heap.size + 1) #[.slice (some ad) n c, .int .i64 (en : Int), .int .i64 ((i + 1 : Nat) : Int), .int .i64 (po : Int), .int .i64 (k : Int)] rfl rfl 74 zy Z3.out zE rfl (by simp [Value.oneCell']) ?_; intro w9 b9 g9 z9; replace b9 := hid b9; replace g9 := hid g9; clear z9; try simp only [Act.put, sS])
 refine bodyPost_ret (yZ rfl _ ⟨w.heap.size + 1, 0, none⟩ rfl _ Tryz.underlying74 rfl _ #[.slice (some ad) n c, .int .i64 (en : Int), .int .i64 ((i + 1 : Nat) : Int), .int .i64 (po : Int), .int .i64 (k : Int)] zE (zO b9.out)) rfl ?_;refine ⟨by rw [HRR.out.1, HRR.out.2]; rfl, B3.out.grown g9.out B3.out.size (fun y e => by injection e with e; omega)⟩
open Go.RowKit Go.Deep
theorem zDL (w : World) (k : Nat) (hk : k < 6) : Calls Tryz.prog 132 #[.int .i64 (k : Int)] w fun e w' => e = .returned (.int .i64 (zr k : Nat)) ∧ w' = w := by
 rcases (show k = 0 ∨ k = 1 ∨ k = 2 ∨ k = 3 ∨ k = 4 ∨ k = 5 by omega) with rfl | rfl | rfl | rfl | rfl | rfl <;>
 ·
  clear hk;go_enter Tryz.func132, Tryz.ntmps132
  go_wp2
  go_ret;exact ⟨rfl, rfl⟩
theorem zGZ (w : World) (n d : Nat) (hn : n ≤ 9223372036854775807) (hd : d ≤ 9223372036854775807) :
 Calls Tryz.prog 159 #[.int .i64 n, .int .i64 d] w fun e w' => e = .returned (.tuple #[.agg (zAt n d).cells, .int .i64 (zAr n d)]) ∧ Below w.heap.size w w' := by
 by_cases hok : n < 1 ∨ 1000000000 < n ∨ d < 1 ∨ 1000000000 < d
 ·
  have hE : zAr n d = 1 := if_pos hok;have hV : zAt n d = vc0 := by unfold zAt xS; rw [if_pos hok]; rfl
  rw [hE, hV];clear hE hV;by_cases h0 : n < 1
  ·
   have b0 : (n : Int) < 1 := by omega
   clear hok h0;exact m16
  by_cases h1 : 1000000000 < n
  ·
   have b0 : ¬ (n : Int) < 1 := by omega
   have b1 : (1000000000 : Int) < n := by omega
   clear hok h0 h1;exact m16
  by_cases h2 : d < 1
  ·
   have b0 : ¬ (n : Int) < 1 := by omega
   have b1 : ¬ (1000000000 : Int) < n := by omega
   have b2 : (d : Int) < 1 := by omega
   clear hok h0 h1 h2;exact m16
  have b0 : ¬ (n : Int) < 1 := by omega
  have b1 : ¬ (1000000000 : Int) < n := by omega
  have b2 : ¬ (d : Int) < 1 := by omega
  have b3 : (1000000000 : Int) < d := by omega
  clear hok h0 h1 h2;exact m16
 have hn1 : 1 ≤ n := by omega
 have hn2 : n ≤ 1000000000 := by omega
 have hd1 : 1 ≤ d := by omega
 have hd2 : d ≤ 1000000000 := by omega
 have b0 : ¬ (n : Int) < 1 := by omega
 have b1 : ¬ (1000000000 : Int) < n := by omega
 have b2 : ¬ (d : Int) < 1 := by omega
 have b3 : ¬ (1000000000 : Int) < d := by omega
 clear hok;go_enter Tryz.func159, Tryz.ntmps159
 go_wp2
 go_loopw [0, 1, 7] (fun sn sd si wx => ∃ k : Nat, k ≤ 6 ∧ sn = .int .i64 (zm n d k).1 ∧ sd = .int .i64 (zm n d k).2.1 ∧ si = .int .i64 k ∧ Hid (Below w.heap.size w wx) ∧ Hid (Blk wx w.heap.size 53 vc0.cells) ∧ Hid (Blk wx (w.heap.size + 1) 53 (zm n d k).2.2.cells)) (fun _ _ i _ => 6 - (zD i).toNat)
 case atStart => exact ⟨0, by omega, rfl, rfl, rfl, ((Below.refl _ _).alloc (Nat.le_refl _) _).alloc (by simp) _, (Blk.new w 53 vc0.cells).alloc _, zBN w _ 53 vc0.cells _ rfl⟩
 case round =>
  obtain ⟨k, hk, rfl, rfl, rfl, HB, HZ, HV⟩ := hrel;by_cases hlt : k < 6
  ·
   have HPR := hid (fun W => zDL W k hlt);obtain ⟨p2, p13⟩ := qC k;obtain ⟨a1, a2, a3, a4⟩ := zCb n d k hn1 hd1;have hat := zEj n d k k (Nat.le_refl _) hlt;have HSU := hid (j6 n d k);generalize hpv : zm n d k = R at *;obtain ⟨a, b, v⟩ := R;simp only at a1 a2 a3 a4 hat HSU HV ⊢;generalize zr k = p at *;have hp0 : ¬ (p : Int) = 0 := by omega
   have hpb : ((p : Int) == 0) = false := by rw [beq_eq_false_iff_ne]; omega
   clear hpv;have HS0 := hid (qD p a a1 (by omega));have HS1 := hid (qD p b a3 (by omega))
   have HV0 : Hid (Blk wr (w.heap.size + 1) 53 (v.put k ((0 : Nat) : Int)).cells) := by
    have := HV.out;rw [← zFQ v k hlt, hat] at this;exact this
   have hai : (a : Int) ≤ 1000000000 := by omega
   have hbi : (b : Int) ≤ 1000000000 := by omega
   go_wp2_with (go_at_call 132; with_reducible refine (HPR.out _).mono ?_; rintro e w1 ⟨rfl, hw1⟩; rw [hw1]; clear hw1)
   clear HPR;exact m12
  exact m24
open Go.RowKit Go.Deep
def zCf (ts : List Tok) (en : Nat) (q : Qr) : Qr := if isQ ts q [45] then zK ts en q [45] else q
def zA4 (ts : List Tok) (q : Qr) : Int := if isQ ts q [45] then -1 else 1
def jO (ts : List Tok) (q : Qr) : Bool := decide (q.e = 0) && !isQ ts q [93]
def zAi (ts : List Tok) (en : Nat) : Nat → Vc → Qr → Vc × Qr
 | 0, v, q => if jO ts q then (v, yG ts en q 10) else (v, zK ts en q [93])
 | m + 1, v, q => if jO ts q then zAi ts en m (v.put (5 - m) (zA4 ts q * (zg ts (zCf ts en q) : Int))) (zM ts en (zCf ts en q)) else (v, zK ts en q [93])
def zHT (ts : List Tok) (en : Nat) (q : Qr) : Vc × Qr :=
 let q1 := zM ts en q
 let q2 := zK ts en q1 [47]
 let q3 := zM ts en q2
 if q3.e = 0 then (if zAr (zg ts q) (zg ts q2) = 0 then (zAt (zg ts q) (zg ts q2), q3) else (vc0, yG ts en q 9)) else (vc0, q3)
def zh (ts : List Tok) (en : Nat) (q : Qr) : Vc × Qr := if isQ ts q [91] then zAi ts en 6 vc0 (zK ts en q [91]) else zHT ts en q
theorem jy (ts : List Tok) (en : Nat) (q : Qr) (k : Nat) : (yG ts en q k).i = q.i := by unfold yG; split <;> rfl
theorem zL2 {ts : List Tok} {q : Qr} {s : List UInt8} (h : isQ ts q s = true) : q.i < ts.length := by
 unfold isQ at h;simp only [Bool.and_eq_true, decide_eq_true_eq] at h;exact h.2.1
theorem zCM {ts : List Tok} {en : Nat} {q : Qr} {s : List UInt8} (h : q.i ≤ ts.length) : (zK ts en q s).i ≤ ts.length := by
 unfold zK;split
 · next h1 => have := zL2 h1; show q.i + 1 ≤ _; omega
 rw [jy]; exact h
theorem zB6 {ts : List Tok} {en : Nat} {q : Qr} (h : q.i ≤ ts.length) : (zM ts en q).i ≤ ts.length := by
 unfold zM;split
 · next h1 =>
   unfold zA3 at h1;simp only [Bool.and_eq_true, decide_eq_true_eq] at h1;show q.i + 1 ≤ _;omega
 rw [jy]; exact h
theorem zMa {ts : List Tok} {en : Nat} {q : Qr} (h : q.i ≤ ts.length) : (zCf ts en q).i ≤ ts.length := by
 unfold zCf;split
 · exact zCM h
 exact h
theorem zHR {ts : List Tok} (h : ∀ t ∈ ts, t.n ≤ 10000000) (q : Qr) : zg ts q ≤ 10000000 := by
 unfold zg;split
 · next h1 =>
   unfold zA3 at h1;simp only [Bool.and_eq_true, decide_eq_true_eq] at h1;rw [zN h1.2.1];exact h _ (List.getElem_mem _)
 omega
structure Ivs (w W : World) (A : Option Addr) (n c en : Nat) (q : Qr) (v : Vc) : Prop where
 b : Below w.heap.size w W
 r : Blk W w.heap.size 74 (q.cells A n c en)
 rv : Blk W (w.heap.size + 1) 53 vc0.cells
 rr : Blk W (w.heap.size + 1 + 1) 74 zy
 v : Blk W (w.heap.size + 1 + 1 + 1) 53 v.cells
section
variable {w W W' : World} {A : Option Addr} {n c en : Nat} {q q' : Qr} {v v' : Vc}
theorem Ivs.up (h : Ivs w W A n c en q v) (b : Below W.heap.size W W') : Ivs w W' A n c en q v := ⟨zB h.b b, h.r.below b h.r.lt, h.rv.below b h.rv.lt, h.rr.below b h.rr.lt, h.v.below b h.v.lt⟩
theorem Ivs.drew (h : Ivs w W A n c en q v) : Ivs w W.drew A n c en q v := ⟨h.b.drew, h.r.drew, h.rv.drew, h.rr.drew, h.v.drew⟩
theorem Ivs.putr (h : Ivs w W A n c en q v) (b : Blk W' w.heap.size 74 (q'.cells A n c en)) (g : W.grownBy W' (some w.heap.size)) : Ivs w W' A n c en q' v :=
 ⟨h.b.grown g h.b.size (fun y e => by injection e with e; omega), b, h.rv.grown g (by intro e; injection e with e; omega), h.rr.grown g (by intro e; injection e with e; omega), h.v.grown g (by intro e; injection e with e; omega)⟩
theorem Ivs.putV (h : Ivs w W A n c en q v) (b : Blk W' (w.heap.size + 1 + 1 + 1) 53 v'.cells) (g : W.grownBy W' (some (w.heap.size + 1 + 1 + 1))) : Ivs w W' A n c en q v' :=
 ⟨h.b.grown g h.b.size (fun y e => by injection e with e; omega), h.r.grown g (by intro e; injection e with e; omega), h.rv.grown g (by intro e; injection e with e; omega), h.rr.grown g (by intro e; injection e with e; omega), b⟩
theorem Ivs.putv (h : Ivs w W A n c en q v) {k : Nat} (hk : k < 6) (x : Int) : Ivs w (W.setCell ⟨w.heap.size + 1 + 1 + 1, k, none⟩ (.int .i64 x)) A n c en q (v.put k x) :=
 ⟨h.b.setCell (p := ⟨w.heap.size + 1 + 1 + 1, k, none⟩) (by show w.heap.size ≤ w.heap.size + 1 + 1 + 1; omega) _, h.r.far (by show w.heap.size ≠ w.heap.size + 1 + 1 + 1; omega) _, h.rv.far (by show w.heap.size + 1 ≠ w.heap.size + 1 + 1 + 1; omega) _, h.rr.far (by show w.heap.size + 1 + 1 ≠ w.heap.size + 1 + 1 + 1; omega) _, by
  have := h.v.set_ k (.int .i64 x)
  rwa [zFw _ _ hk] at this⟩
def Rdv (w : World) (A : Option Addr) (n c en : Nat) (q : Qr) (v : Vc) (W : World) : Prop := Blk W w.heap.size 74 (q.cells A n c en) ∧ Blk W (w.heap.size + 1 + 1 + 1) 53 v.cells
theorem Ivs.s (h : Ivs w W A n c en q v) : Rdv w A n c en q v W := ⟨h.r, h.v⟩
theorem Rdv.grown (h : Rdv w A n c en q v W) {r : Nat} (g : W.grownBy W' (some r)) (h1 : r ≠ w.heap.size) (h2 : r ≠ w.heap.size + 1 + 1 + 1) : Rdv w A n c en q v W' := ⟨h.1.grown g (by intro e; injection e with e; exact h1 e), h.2.grown g (by intro e; injection e with e; exact h2 e)⟩
theorem Ivs.new (h : Ivs w W A n c en q v) {cs : Array Value} (g : (W.alloc (.cells cs 74)).grownBy W' (some W.heap.size)) : Ivs w W' A n c en q v :=
 h.up (((Below.refl _ _).alloc (Nat.le_refl _) _).grown g (by simp) (fun y e => by injection e with e; omega))
theorem Ivs.start (w : World) (A : Option Addr) (n c en : Nat) (q : Qr) : Ivs w ((((w.alloc (.cells (q.cells A n c en) 74)).alloc (.cells vc0.cells 53)).alloc (.cells zy 74)).alloc (.cells vc0.cells 53)) A n c en q vc0 := by
 obtain ⟨w1, hw1⟩ : ∃ w1, w1 = w.alloc (.cells (q.cells A n c en) 74) := ⟨_, rfl⟩
 have s1 : w1.heap.size = w.heap.size + 1 := by rw [hw1]; simp
 have k1 : Blk w1 w.heap.size 74 (q.cells A n c en) := by rw [hw1]; exact Blk.new _ _ _
 have b1 : Below w.heap.size w w1 := by rw [hw1]; exact (Below.refl _ _).alloc (Nat.le_refl _) _
 rw [← hw1];obtain ⟨w2, hw2⟩ : ∃ w2, w2 = w1.alloc (.cells vc0.cells 53) := ⟨_, rfl⟩
 have s2 : w2.heap.size = w.heap.size + 1 + 1 := by rw [hw2]; simp [s1]
 have k2 : Blk w2 (w.heap.size + 1) 53 vc0.cells := by rw [hw2, ← s1]; exact Blk.new _ _ _
 have m1 : Blk w2 w.heap.size 74 (q.cells A n c en) := by rw [hw2]; exact k1.alloc _
 have b2 : Below w.heap.size w w2 := by rw [hw2]; exact b1.alloc b1.size _
 rw [← hw2];obtain ⟨w3, hw3⟩ : ∃ w3, w3 = w2.alloc (.cells zy 74) := ⟨_, rfl⟩
 have s3 : w3.heap.size = w.heap.size + 1 + 1 + 1 := by rw [hw3]; simp [s2]
 have k3 : Blk w3 (w.heap.size + 1 + 1) 74 zy := by rw [hw3, ← s2]; exact Blk.new _ _ _
 have b3 : Below w.heap.size w w3 := by rw [hw3]; exact b2.alloc b2.size _
 have n1 : Blk w3 w.heap.size 74 (q.cells A n c en) := by rw [hw3]; exact m1.alloc _
 have n2 : Blk w3 (w.heap.size + 1) 53 vc0.cells := by rw [hw3]; exact k2.alloc _
 rw [← hw3];exact ⟨b3.alloc b3.size _, n1.alloc _, n2.alloc _, k3.alloc _, by rw [← s3]; exact Blk.new _ _ _⟩
end
theorem xK {P : Program} {fn : Func} {t u : Tmp} {ty ty2 : TypeId} (hf : fn.results = #[.cell t ty, .cell u ty2]) (tmps : Array Value) (a b : Addr) (ht : tmps.getD t undef = .pointer (some a)) (hu2 : tmps.getD u undef = .pointer (some b)) (d d2 : TypeDesc) (hu : P.underlying ty = some d) (hd : (match d with | .struct _ | .array _ _ => true | _ => false) = true) (hv : P.underlying ty2 = some d2) (hd2 : (match d2 with | .struct _ | .array _ _ => true | _ => false) = true) (w : World) (cs cs2 : Array Value) (hi : (P.info? ty).map (·.size) = some cs.size) (hi2 : (P.info? ty2).map (·.size) = some cs2.size)
 (h : ∀ j v, cs.toList[j]? = some v → w.cell? (a.add j) = some v) (h2 : ∀ j v, cs2.toList[j]? = some v → w.cell? (b.add j) = some v) : (results fn tmps).run P w = .ok (.tuple #[.agg cs, .agg cs2]) w := by
 have := qS ty d hu hd w a cs hi h;have this2 := qS ty2 d2 hv hd2 w b cs2 hi2 h2;rw [Array.getD_eq_getD_getElem?] at ht hu2;simp [results, hf, ht, hu2, asAddr, this, this2]
theorem zDZ (w : World) (A : Option Addr) (c en : Nat) (ts : List Tok) (q : Qr) (hT : TkR w A ts) (hi : q.i ≤ ts.length) (hx : ∀ t ∈ ts, t.n ≤ 10000000) :
 Calls Tryz.prog 123 #[.agg (q.cells A ts.length c en)] w fun e w' => e = .returned (.tuple #[.agg (zh ts en q).1.cells, .agg ((zh ts en q).2.cells A ts.length c en)]) ∧ Below w.heap.size w w' := by
 have hT8 := hT.n;obtain ⟨n, hn⟩ : ∃ n, n = ts.length := ⟨_, rfl⟩
 have HI : Hid (∀ W, Below w.heap.size w W → ∀ q s b, isQ ts q s = b → q.i ≤ n → Calls Tryz.prog 81 #[.agg (q.cells A n c en), str s] W fun e w' => e = .returned (.bool b) ∧ Below W.heap.size W w') := hid fun W hb q s b h1 h2 => by
  subst h1; rw [hn]; exact zAW W A c en ts q s (hT.up hb) (by omega)
 have HS : Hid (∀ W, Below w.heap.size w W → ∀ q s q1, zK ts en q s = q1 → q.i ≤ n → Calls Tryz.prog 79 #[.agg (q.cells A n c en), str s] W fun e w' => e = .returned (.agg (q1.cells A n c en)) ∧ Below W.heap.size W w') := hid fun W hb q s b h1 h2 => by
  subst h1; rw [hn]; exact qX W A c en ts q s (hT.up hb) (by omega)
 have HW : Hid (∀ W, Below w.heap.size w W → ∀ q (ke : Nat) (ki : Int), ki = ke → ∀ q1, yG ts en q ke = q1 → q.i ≤ n → Calls Tryz.prog 84 #[.agg (q.cells A n c en), .int .i64 ki] W fun e w' => e = .returned (.agg (q1.cells A n c en)) ∧ Below W.heap.size W w') := hid fun W hb q ke ki hk q1 h1 h2 => by
  subst h1; rw [hn]; exact xl W A c en ts q ke ki hk (hT.up hb) (by omega)
 have HN : Hid (∀ W, Below w.heap.size w W → ∀ q nv q1, zg ts q = nv ∧ zM ts en q = q1 → q.i ≤ n → Calls Tryz.prog 80 #[.agg (q.cells A n c en)] W fun e w' => e = .returned (.tuple #[.int .i64 (nv : Nat), .agg (q1.cells A n c en)]) ∧ Below W.heap.size W w') := hid fun W hb q nv q1 h1 h2 => by
  obtain ⟨rfl, rfl⟩ := h1; rw [hn]; exact jA W A c en ts q (hT.up hb) (by omega)
 have HNV := hid (zHR hx);have HTL := hid hn;obtain ⟨R, hR⟩ : ∃ R, R = zh ts en q := ⟨_, rfl⟩
 rw [← hR, ← hn];rw [← hn] at hi hT8;have HR := hid hR;clear hR hn hT hx;go_enter Tryz.func123, Tryz.ntmps123
 go_upto_region 2 with (fail)
 obtain ⟨w1, hw1⟩ : ∃ w1, w1 = ((((w.alloc (.cells (q.cells A n c en) 74)).alloc (.cells #[.int .i64 0, .int .i64 0, .int .i64 0, .int .i64 0, .int .i64 0, .int .i64 0] 53)).alloc (.cells #[.slice none 0 0, .int .i64 0, .int .i64 0, .int .i64 0, .int .i64 0] 74)).alloc (.cells #[.int .i64 0, .int .i64 0, .int .i64 0, .int .i64 0, .int .i64 0, .int .i64 0] 53)) := ⟨_, rfl⟩
 have ST : Hid (Ivs w w1 A n c en q vc0) := hid (by rw [hw1]; exact Ivs.start w A n c en q);rw [← hw1];clear hw1;by_cases hop : isQ ts q [91] = true
 ·
  have HR1 : Hid (R = zAi ts en 6 vc0 (zK ts en q [91])) := hid (by rw [HR.out]; unfold zh; rw [if_pos hop]);obtain ⟨q1, hq1⟩ : ∃ q1, zK ts en q [91] = q1 := ⟨_, rfl⟩
  have hq1n : q1.i ≤ n := by rw [← hq1, HTL.out]; exact zCM (by rw [← HTL.out]; exact hi)
  rw [hq1] at HR1;have HOP := hid hop;have HQ1 := hid hq1;clear hop hq1 HR;go_upto_region 5 with (first | (refine zp 74 ST.out.r Tryz.underlying74 zE ?_) | (go_at_call 81; with_reducible refine (HI.out _ ST.out.b q [91] true HOP.out hi).mono ?_; rintro e w2 ⟨rfl, b2⟩; replace ST := hid (ST.out.up b2); clear b2) | (go_at_call 79; with_reducible refine (HS.out _ ST.out.b q [91] q1 HQ1.out hi).mono ?_; rintro e w2 ⟨rfl, b2⟩; replace ST := hid (ST.out.up b2); clear b2) | (refine xJ 74 (q1.cells A n c en) ST.out.r zE (Qr.all_one _ _ _ _ _) ?_; intro w9 b9 g9 z9; replace ST := hid (ST.out.putr b9 g9); clear b9 g9 z9; try simp only [Act.put, sS]))
  clear HOP HQ1;go_loopw [5] (fun sj wx => ∃ (k : Nat) (q : Qr) (v : Vc), k ≤ 6 ∧ sj = .int .i64 k ∧ q.i ≤ n ∧ Hid (Ivs w wx A n c en q v) ∧ Hid (R = zAi ts en (6 - k) v q)) (fun sj _ => 6 - (zD sj).toNat)
  case atStart => exact ⟨0, q1, vc0, by omega, rfl, hq1n, ST, HR1⟩
  case round =>
   clear ST HR1;clear hi;obtain ⟨k, q, v, hk6, rfl, hqn, ST, HB⟩ := hrel;have x0 := ST.out.r.cell 0; have x1 := ST.out.r.cell 1; have x2 := ST.out.r.cell 2; have x3 := ST.out.r.cell 3; have x4 := ST.out.r.cell 4;obtain ⟨qc, hqc⟩ : ∃ qc, zK ts en q [93] = qc := ⟨_, rfl⟩
   have HQC := hid hqc
   have HEX : Hid (jO ts q = false → R = (v, qc)) := hid fun h => by
    rw [HB.out, ← hqc]
    cases 6 - k with
    | zero => unfold zAi; rw [h]; rfl
    | succ m => unfold zAi; rw [h]; rfl
   clear hqc;by_cases he : q.e = 0
   case neg =>
    (have he0 : ((q.e : Int) == 0) = false := by rw [beq_eq_false_iff_ne]; omega);have HF := hid (HEX.out (by unfold jO; rw [decide_eq_false he]; rfl));clear HEX HB he;(go_upto_region 16 with (fail));exact m27
   have he0 : ((q.e : Int) == 0) = true := by rw [beq_iff_eq]; omega
   rcases hcl : isQ ts q [93] with _ | _
   case true =>
    have HF := hid (HEX.out (by unfold jO; rw [hcl]; simp));have HCL := hid hcl;clear HEX HB he hcl;(go_upto_region 16 with (first | (refine zp 74 ST.out.r Tryz.underlying74 zE ?_) | (go_at_call 81; with_reducible refine (HI.out _ ST.out.b q [93] true HCL.out hqn).mono ?_; rintro e w2 ⟨rfl, b2⟩; replace ST := hid (ST.out.up b2); clear b2)));exact m27
   have HCL := hid hcl;have HMO : Hid (jO ts q = true) := hid (by unfold jO; rw [hcl, decide_eq_true he]; rfl);clear HEX he hcl;by_cases h6 : k = 6
   ·
    subst h6;obtain ⟨qw, hqw⟩ : ∃ qw, yG ts en q 10 = qw := ⟨_, rfl⟩
    have HQW := hid hqw;have HF : Hid (R = (v, qw)) := hid (by rw [HB.out, ← hqw]; show zAi ts en 0 v q = _; unfold zAi; rw [if_pos HMO.out]);clear hqw;go_upto_region 8 with (first | (refine zp 74 ST.out.r Tryz.underlying74 zE ?_) | (go_at_call 81; with_reducible refine (HI.out _ ST.out.b q [93] false HCL.out hqn).mono ?_; rintro e w2 ⟨rfl, b2⟩; replace ST := hid (ST.out.up b2); clear b2))
    clear x0 x1 x2 x3 x4 he0;replace ST := hid ST.out.drew;refine jF (Rdv w A n c en q v) ST.out.s fun hHeld => ?_
    refine zJ 0 ?_ (hy := Or.inl ⟨by rfl, fun w hSw => by have y0 := hSw.2.cell 0; have y1 := hSw.2.cell 1; have y2 := hSw.2.cell 2; have y3 := hSw.2.cell 3; have y4 := hSw.2.cell 4; have y5 := hSw.2.cell 5; clear hSw; go_simp; try with_reducible rfl⟩);refine zJ 1 ?_ (hy := Or.inl ⟨by rfl, fun w hSw => by have x0 := hSw.1.cell 0; have x1 := hSw.1.cell 1; have x2 := hSw.1.cell 2; have x3 := hSw.1.cell 3; have x4 := hSw.1.cell 4; clear hSw; go_simp; try with_reducible rfl⟩);refine yL 2 ?_;intro K hK;go_simp;refine (HW.out _ ST.out.b q 10 10 rfl qw HQW.out hqn).mono ?_;rintro e w4 ⟨rfl, b2⟩;replace ST := hid (ST.out.up b2);clear b2;try simp only []
    refine zq hK ST.out.s fun hHeld => ?_
    clear hK K;refine yL 3 ?_;intro K hK;refine jV 53 v.cells ST.out.rv zR (by simp [Value.oneCell']) ?_;intro w6 b6 g6 z6;have RR := hid (ST.out.rr.grown g6 (by intro e; injection e with e; omega));have B6 := hid (ST.out.b.grown g6 ST.out.b.size (fun y e => by injection e with e; omega));have RV := hid b6;have SS := hid (ST.out.s.grown g6 (by omega) (by omega));clear b6 g6 z6;refine zq hK SS.out fun hHeld => ?_
    clear hK K;refine yL 4 ?_;intro K hK;refine jV 74 (qw.cells A n c en) RR.out zE (Qr.all_one _ _ _ _ _) ?_;intro w7 b7 g7 z7;have RV7 := hid (RV.out.grown g7 (by intro e; injection e with e; omega));have B7 := hid (B6.out.grown g7 B6.out.size (fun y e => by injection e with e; omega));have RR7 := hid b7;have S7 := hid (SS.out.grown g7 (by omega) (by omega));clear b7 g7 z7;refine zq hK S7.out fun hHeld => ?_
    clear hK K;refine jc ?_;go_wp2_with fail
    refine bodyPost_ret (xK rfl _ ⟨w.heap.size + 1, 0, none⟩ ⟨w.heap.size + 1 + 1, 0, none⟩ rfl rfl _ _ Tryz.underlying53 rfl Tryz.underlying74 rfl _ v.cells (qw.cells A n c en) zR zE (zO RV7.out) (zO RR7.out)) rfl ?_;exact ⟨by rw [HF.out], B7.out⟩
   have hkl : k < 6 := by omega
   have hk6 : ((k : Int) == 6) = false := by rw [beq_eq_false_iff_ne]; omega
   obtain ⟨qm, hqm⟩ : ∃ qm, zCf ts en q = qm := ⟨_, rfl⟩
   obtain ⟨nv, hnv⟩ : ∃ nv, zg ts qm = nv := ⟨_, rfl⟩
   obtain ⟨qn, hqn2⟩ : ∃ qn, zM ts en qm = qn := ⟨_, rfl⟩
   have hqmn : qm.i ≤ n := by rw [← hqm, HTL.out]; exact zMa (by rw [← HTL.out]; exact hqn)
   have hqnn : qn.i ≤ n := by rw [← hqn2, HTL.out]; exact zB6 (by rw [← HTL.out]; exact hqmn)
   have hnvb : nv ≤ 10000000 := by rw [← hnv]; exact HNV.out qm
   have HNQ := hid (And.intro hnv hqn2)
   have HNX : Hid (R = zAi ts en (6 - (k + 1)) (v.put k (zA4 ts q * (nv : Int))) qn) := hid (by
    rw [HB.out, show 6 - k = (5 - k) + 1 by omega];show (if jO ts q then _ else _) = _;rw [if_pos HMO.out, hqm, hnv, hqn2, show 5 - (5 - k) = k by omega, show 6 - (k + 1) = 5 - k by omega])
   clear hnv hqn2 HB HMO;rcases hmi : isQ ts q [45] with _ | _
   ·
    have hqe : qm = q := by rw [← hqm]; unfold zCf; rw [hmi]; rfl
    subst hqe;have hsg : zA4 ts qm = 1 := by unfold zA4; rw [hmi]; rfl
    rw [hsg] at HNX;have HMI := hid hmi;clear hsg hmi hqm;go_upto_region 14 with (first | (refine zp 74 ST.out.r Tryz.underlying74 zE ?_) | (go_at_call 81; with_reducible refine (HI.out _ ST.out.b qm [93] false HCL.out hqn).mono ?_; rintro e w2 ⟨rfl, b2⟩; replace ST := hid (ST.out.up b2); clear b2) | (go_at_call 81; with_reducible refine (HI.out _ ST.out.b qm [45] false HMI.out hqn).mono ?_; rintro e w2 ⟨rfl, b2⟩; replace ST := hid (ST.out.up b2); clear b2) | (go_at_call 80; with_reducible refine (HN.out _ ST.out.b qm nv qn HNQ.out hqmn).mono ?_; rintro e w3 ⟨rfl, b2⟩; replace ST := hid (ST.out.up b2); clear b2) | (refine zI rfl 74 (.tmp 8) (.tmp 40) rfl w3.heap.size (qn.cells A n c en) rfl rfl 74 zy (Blk.new w3 _ _) zE rfl (Qr.all_one _ _ _ _ _) ?_; intro w5 b5 g5 z5; replace ST := hid (ST.out.new g5); have B5 := hid b5; clear b5 g5 z5; try simp only [Act.put, sS]))
    clear x0 x1 x2 x3 x4 he0 hk6;go_upto_region 15 with (first | (refine zp 74 B5.out Tryz.underlying74 zE ?_) | (refine xJ 74 (qn.cells A n c en) ST.out.r zE (Qr.all_one _ _ _ _ _) ?_; intro w9 b9 g9 z9; replace ST := hid (ST.out.putr b9 g9); clear b9 g9 z9; try simp only [Act.put, sS]))
    clear B5;have cv : w9.cell? ⟨w.heap.size + 1 + 1 + 1, k, none⟩ = some (.int .i64 (v.at k)) := by rw [ST.out.v.cell k]; exact Vc.cell v k hkl
    have fv := ST.out.v.frozen k;have hm1 : IntKind.i64.wrap ((1 : Int) * (nv : Int)) = (1 : Int) * (nv : Int) := by rw [IntKind.wrap_i64]; omega
    have hkb : (k : Int) < 6 := by omega
    have ST2 := hid (ST.out.putv hkl ((1 : Int) * (nv : Int)));go_wp2_with fail
    go_roundw
    case rel => exact ⟨k + 1, qn, v.put k ((1 : Int) * (nv : Int)), by omega, by go_num, hqnn, by simpa using ST2, HNX⟩
    case measure => simp [zD]; omega
   have HSK : Hid (zK ts en q [45] = qm) := hid (by rw [← hqm]; unfold zCf; rw [if_pos hmi]);have hsg : zA4 ts q = -1 := by unfold zA4; rw [if_pos hmi]
   rw [hsg] at HNX;have HMI := hid hmi;clear hsg hmi hqm;go_upto_region 14 with (first | (refine zp 74 ST.out.r Tryz.underlying74 zE ?_) | (go_at_call 81; with_reducible refine (HI.out _ ST.out.b q [93] false HCL.out hqn).mono ?_; rintro e w2 ⟨rfl, b2⟩; replace ST := hid (ST.out.up b2); clear b2) | (go_at_call 81; with_reducible refine (HI.out _ ST.out.b q [45] true HMI.out hqn).mono ?_; rintro e w2 ⟨rfl, b2⟩; replace ST := hid (ST.out.up b2); clear b2) | (go_at_call 79; with_reducible refine (HS.out _ ST.out.b q [45] qm HSK.out hqn).mono ?_; rintro e w2 ⟨rfl, b2⟩; replace ST := hid (ST.out.up b2); clear b2) | (refine xJ 74 (qm.cells A n c en) ST.out.r zE (Qr.all_one _ _ _ _ _) ?_; intro w9 b9 g9 z9; replace ST := hid (ST.out.putr b9 g9); clear b9 g9 z9; try simp only [Act.put, sS]) | (go_at_call 80; with_reducible refine (HN.out _ ST.out.b qm nv qn HNQ.out hqmn).mono ?_; rintro e w3 ⟨rfl, b2⟩; replace ST := hid (ST.out.up b2); clear b2) | (refine zI rfl 74 (.tmp 8) (.tmp 40) rfl w3.heap.size (qn.cells A n c en) rfl rfl 74 zy (Blk.new w3 _ _) zE rfl (Qr.all_one _ _ _ _ _) ?_; intro w5 b5 g5 z5; replace ST := hid (ST.out.new g5); have B5 := hid b5; clear b5 g5 z5; try simp only [Act.put, sS]))
   clear x0 x1 x2 x3 x4 he0 hk6;go_upto_region 15 with (first | (refine zp 74 B5.out Tryz.underlying74 zE ?_) | (refine xJ 74 (qn.cells A n c en) ST.out.r zE (Qr.all_one _ _ _ _ _) ?_; intro w9 b9 g9 z9; replace ST := hid (ST.out.putr b9 g9); clear b9 g9 z9; try simp only [Act.put, sS]))
   clear B5;have cv : w9.cell? ⟨w.heap.size + 1 + 1 + 1, k, none⟩ = some (.int .i64 (v.at k)) := by rw [ST.out.v.cell k]; exact Vc.cell v k hkl
   have fv := ST.out.v.frozen k;have hm1 : IntKind.i64.wrap ((-1 : Int) * (nv : Int)) = (-1 : Int) * (nv : Int) := by rw [IntKind.wrap_i64]; omega
   have hkb : (k : Int) < 6 := by omega
   have ST2 := hid (ST.out.putv hkl ((-1 : Int) * (nv : Int)));go_wp2_with fail
   go_roundw
   case rel => exact ⟨k + 1, qn, v.put k ((-1 : Int) * (nv : Int)), by omega, by go_num, hqnn, by simpa using ST2, HNX⟩
   case measure => simp [zD]; omega
 have HR2 : Hid (R = zHT ts en q) := hid (by rw [HR.out]; unfold zh; rw [if_neg hop]);have hopf : isQ ts q [91] = false := by simpa using hop
 have HOP := hid hopf;obtain ⟨n1, hn1⟩ : ∃ n1, zg ts q = n1 := ⟨_, rfl⟩
 obtain ⟨q1, hq1⟩ : ∃ q1, zM ts en q = q1 := ⟨_, rfl⟩
 obtain ⟨q2, hq2⟩ : ∃ q2, zK ts en q1 [47] = q2 := ⟨_, rfl⟩
 obtain ⟨n2, hn2⟩ : ∃ n2, zg ts q2 = n2 := ⟨_, rfl⟩
 obtain ⟨q3, hq3⟩ : ∃ q3, zM ts en q2 = q3 := ⟨_, rfl⟩
 have hi1 : q1.i ≤ n := by rw [← hq1, HTL.out]; exact zB6 (by rw [← HTL.out]; exact hi)
 have hi2 : q2.i ≤ n := by rw [← hq2, HTL.out]; exact zCM (by rw [← HTL.out]; exact hi1)
 have hb1 : n1 ≤ 10000000 := by rw [← hn1]; exact HNV.out q
 have hb2 : n2 ≤ 10000000 := by rw [← hn2]; exact HNV.out q2
 have HR3 : Hid (R = if q3.e = 0 then (if zAr n1 n2 = 0 then (zAt n1 n2, q3) else (vc0, yG ts en q 9)) else (vc0, q3)) := hid (by
  rw [HR2.out]; unfold zHT; simp only [hn1, hq1, hq2, hn2, hq3])
 have HQ1 := hid (And.intro hn1 hq1);have HQ2 := hid hq2;have HQ3 := hid (And.intro hn2 hq3);clear hop hopf hn1 hq1 hq2 hn2 hq3 HR HR2;go_upto_region 18 with (first | (refine zp 74 ST.out.r Tryz.underlying74 zE ?_) | (go_at_call 81; with_reducible refine (HI.out _ ST.out.b q [91] false HOP.out hi).mono ?_; rintro e w2 ⟨rfl, b2⟩; replace ST := hid (ST.out.up b2); clear b2) | (refine zI rfl 74 (.tmp 9) (.tmp 50) rfl w2.heap.size (q.cells A n c en) rfl rfl 74 zy (Blk.new w2 _ _) zE rfl (Qr.all_one _ _ _ _ _) ?_; intro w5 b5 g5 z5; have HFN := hid ST.out.v.lt; replace ST := hid (ST.out.new g5); have FB := hid b5; clear b5 g5 z5; try simp only [Act.put, sS]))
 obtain ⟨f, hf⟩ : ∃ f, f = w2.heap.size := ⟨_, rfl⟩
 rw [← hf] at FB HFN ⊢;clear hf;go_upto_region 19 with (first | (refine zp 74 ST.out.r Tryz.underlying74 zE ?_) | (go_at_call 80; with_reducible refine (HN.out _ ST.out.b q n1 q1 HQ1.out hi).mono ?_; rintro e w3 ⟨rfl, b2⟩; replace ST := hid (ST.out.up b2); replace FB := hid (FB.out.below b2 FB.out.lt); clear b2) | (refine xJ 74 (q1.cells A n c en) ST.out.r zE (Qr.all_one _ _ _ _ _) ?_; intro w9 b9 g9 z9; replace ST := hid (ST.out.putr b9 g9); replace FB := hid (FB.out.grown g9 (by intro e; injection e with e; have := HFN.out; omega)); clear b9 g9 z9; try simp only [Act.put, sS]))
 go_upto_region 20 with (first | (refine zp 74 ST.out.r Tryz.underlying74 zE ?_) | (go_at_call 79; with_reducible refine (HS.out _ ST.out.b q1 [47] q2 HQ2.out hi1).mono ?_; rintro e w2 ⟨rfl, b2⟩; replace ST := hid (ST.out.up b2); replace FB := hid (FB.out.below b2 FB.out.lt); clear b2) | (refine xJ 74 (q2.cells A n c en) ST.out.r zE (Qr.all_one _ _ _ _ _) ?_; intro w9 b9 g9 z9; replace ST := hid (ST.out.putr b9 g9); replace FB := hid (FB.out.grown g9 (by intro e; injection e with e; have := HFN.out; omega)); clear b9 g9 z9; try simp only [Act.put, sS]))
 go_upto_region 21 with (first | (refine zp 74 ST.out.r Tryz.underlying74 zE ?_) | (go_at_call 80; with_reducible refine (HN.out _ ST.out.b q2 n2 q3 HQ3.out hi2).mono ?_; rintro e w3 ⟨rfl, b2⟩; replace ST := hid (ST.out.up b2); replace FB := hid (FB.out.below b2 FB.out.lt); clear b2) | (refine xJ 74 (q3.cells A n c en) ST.out.r zE (Qr.all_one _ _ _ _ _) ?_; intro w9 b9 g9 z9; replace ST := hid (ST.out.putr b9 g9); replace FB := hid (FB.out.grown g9 (by intro e; injection e with e; have := HFN.out; omega)); clear b9 g9 z9; try simp only [Act.put, sS]))
 have x4 := ST.out.r.cell 4;by_cases h3 : q3.e = 0
 case neg =>
  (have h30 : ((q3.e : Int) != 0) = true := by rw [bne_iff_ne]; omega);have HF : Hid (R = (vc0, q3)) := hid (by rw [HR3.out, if_neg h3]);clear h3 HR3;(go_upto_region 22 with (fail));clear x4 h30;replace ST := hid ST.out.drew;(refine jF (Rdv w A n c en q3 vc0) ST.out.s fun hHeld => ?_);refine zJ 0 ?_ (hy := Or.inl ⟨by rfl, fun w hSw => by have y0 := hSw.2.cell 0; have y1 := hSw.2.cell 1; have y2 := hSw.2.cell 2; have y3 := hSw.2.cell 3; have y4 := hSw.2.cell 4; have y5 := hSw.2.cell 5; clear hSw; go_simp; try with_reducible rfl⟩);refine zJ 1 ?_ (hy := Or.inl ⟨by rfl, fun w hSw => by have x0 := hSw.1.cell 0; have x1 := hSw.1.cell 1; have x2 := hSw.1.cell 2; have x3 := hSw.1.cell 3; have x4 := hSw.1.cell 4; clear hSw; go_simp; try with_reducible rfl⟩);refine yL 2 ?_;intro K hK;refine jV 53 vc0.cells ST.out.rv zR (by simp [Value.oneCell']) ?_;intro w6 b6 g6 z6;have RR := hid (ST.out.rr.grown g6 (by intro e; injection e with e; omega));have B6 := hid (ST.out.b.grown g6 ST.out.b.size (fun y e => by injection e with e; omega));have RV := hid b6;have SS := hid (ST.out.s.grown g6 (by omega) (by omega));clear b6 g6 z6;(refine zq hK SS.out fun hHeld => ?_);clear hK K;refine yL 3 ?_
  intro K hK;refine jV 74 (q3.cells A n c en) RR.out zE (Qr.all_one _ _ _ _ _) ?_;intro w7 b7 g7 z7;have RV7 := hid (RV.out.grown g7 (by intro e; injection e with e; omega));have B7 := hid (B6.out.grown g7 B6.out.size (fun y e => by injection e with e; omega));have RR7 := hid b7;have S7 := hid (SS.out.grown g7 (by omega) (by omega));clear b7 g7 z7;(refine zq hK S7.out fun hHeld => ?_);clear hK K;refine jc ?_;(go_wp2_with fail);refine bodyPost_ret (xK rfl _ ⟨w.heap.size + 1, 0, none⟩ ⟨w.heap.size + 1 + 1, 0, none⟩ rfl rfl _ _ Tryz.underlying53 rfl Tryz.underlying74 rfl _ vc0.cells (q3.cells A n c en) zR zE (zO RV7.out) (zO RR7.out)) rfl ?_;exact ⟨by rw [HF.out], B7.out⟩
 have h30 : ((q3.e : Int) != 0) = false := by rw [bne_eq_false_iff_eq]; omega
 have HRT := hid (fun W => zGZ W n1 n2 (by omega) (by omega));rw [if_pos h3] at HR3;obtain ⟨vr, hvr⟩ : ∃ vr, vr = zAt n1 n2 := ⟨_, rfl⟩
 obtain ⟨er, her⟩ : ∃ er, er = zAr n1 n2 := ⟨_, rfl⟩
 rw [← hvr, ← her] at HRT HR3;clear hvr her h3;go_upto_region 24 with (first | (go_at_call 159; with_reducible refine (HRT.out _).mono ?_; rintro e w4 ⟨rfl, b2⟩; replace ST := hid (ST.out.up b2); replace FB := hid (FB.out.below b2 FB.out.lt); clear b2) | (refine xJ 53 vr.cells ST.out.v zR (by simp [Value.oneCell']) ?_; intro w5 b5 g5 z5; replace ST := hid (ST.out.putV b5 g5); replace FB := hid (FB.out.grown g5 (by intro e; injection e with e; have := HFN.out; omega)); clear b5 g5 z5; try simp only [Act.put, sS]))
 clear x4 h30;by_cases h4 : er = 0
 ·
  have h40 : (er != 0) = false := by rw [bne_eq_false_iff_eq]; exact h4
  have HF : Hid (R = (vr, q3)) := hid (by rw [HR3.out, if_pos h4]);clear h4 HR3 FB HFN;go_upto_region 26 with (fail)
  clear h40;replace ST := hid ST.out.drew;refine jF (Rdv w A n c en q3 vr) ST.out.s fun hHeld => ?_
  refine zJ 0 ?_ (hy := Or.inl ⟨by rfl, fun w hSw => by have y0 := hSw.2.cell 0; have y1 := hSw.2.cell 1; have y2 := hSw.2.cell 2; have y3 := hSw.2.cell 3; have y4 := hSw.2.cell 4; have y5 := hSw.2.cell 5; clear hSw; go_simp; try with_reducible rfl⟩);refine zJ 1 ?_ (hy := Or.inl ⟨by rfl, fun w hSw => by have x0 := hSw.1.cell 0; have x1 := hSw.1.cell 1; have x2 := hSw.1.cell 2; have x3 := hSw.1.cell 3; have x4 := hSw.1.cell 4; clear hSw; go_simp; try with_reducible rfl⟩);refine yL 2 ?_;intro K hK;refine jV 53 vr.cells ST.out.rv zR (by simp [Value.oneCell']) ?_;intro w6 b6 g6 z6;have RR := hid (ST.out.rr.grown g6 (by intro e; injection e with e; omega));have B6 := hid (ST.out.b.grown g6 ST.out.b.size (fun y e => by injection e with e; omega));have RV := hid b6;have SS := hid (ST.out.s.grown g6 (by omega) (by omega));clear b6 g6 z6;refine zq hK SS.out fun hHeld => ?_
  clear hK K;refine yL 3 ?_;intro K hK;refine jV 74 (q3.cells A n c en) RR.out zE (Qr.all_one _ _ _ _ _) ?_;intro w7 b7 g7 z7;have RV7 := hid (RV.out.grown g7 (by intro e; injection e with e; omega));have B7 := hid (B6.out.grown g7 B6.out.size (fun y e => by injection e with e; omega));have RR7 := hid b7;have S7 := hid (SS.out.grown g7 (by omega) (by omega));clear b7 g7 z7;refine zq hK S7.out fun hHeld => ?_
  clear hK K;refine jc ?_;go_wp2_with fail
  refine bodyPost_ret (xK rfl _ ⟨w.heap.size + 1, 0, none⟩ ⟨w.heap.size + 1 + 1, 0, none⟩ rfl rfl _ _ Tryz.underlying53 rfl Tryz.underlying74 rfl _ vr.cells (q3.cells A n c en) zR zE (zO RV7.out) (zO RR7.out)) rfl ?_;exact ⟨by rw [HF.out], B7.out⟩
 have h40 : (er != 0) = true := by rw [bne_iff_ne]; exact h4
 obtain ⟨qw, hqw⟩ : ∃ qw, yG ts en q 9 = qw := ⟨_, rfl⟩
 have HQW := hid hqw;have HF : Hid (R = (vc0, qw)) := hid (by rw [HR3.out, if_neg h4, hqw]);clear h4 hqw HR3;go_wp2_with (first | (refine zp 74 FB.out Tryz.underlying74 zE ?_) | (go_at_call 84; with_reducible refine (HW.out _ ST.out.b q 9 9 rfl qw HQW.out hi).mono ?_; rintro e w4 ⟨rfl, b2⟩; replace ST := hid (ST.out.up b2); clear b2) | (refine xJ 53 vc0.cells ST.out.rv zR (by simp [Value.oneCell']) ?_; intro w6 b6 g6 z6; have RR := hid (ST.out.rr.grown g6 (by intro e; injection e with e; omega)); have B6 := hid (ST.out.b.grown g6 ST.out.b.size (fun y e => by injection e with e; omega)); have RV := hid b6; clear b6 g6 z6; try simp only [Act.put, sS]) | (refine xJ 74 (qw.cells A n c en) RR.out zE (Qr.all_one _ _ _ _ _) ?_; intro w7 b7 g7 z7; have RV7 := hid (RV.out.grown g7 (by intro e; injection e with e; omega)); have B7 := hid (B6.out.grown g7 B6.out.size (fun y e => by injection e with e; omega)); have RR7 := hid b7; clear b7 g7 z7; try simp only [Act.put, sS]))
 refine bodyPost_ret (xK rfl _ ⟨w.heap.size + 1, 0, none⟩ ⟨w.heap.size + 1 + 1, 0, none⟩ rfl rfl _ _ Tryz.underlying53 rfl Tryz.underlying74 rfl _ vc0.cells (qw.cells A n c en) zR zE (zO RV7.out) (zO RR7.out)) rfl ?_;exact ⟨by rw [HF.out], B7.out⟩
end Go.Proofs.YtcjhihmaegagdaaGreatDoor
