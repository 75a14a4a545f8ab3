/- Texts of the Notation chapter, together: Zf, Zg, Zh. -/
import Derived.Test.YtcjhihmaegagdaaGreatDoorG1
import Derived.Test.YtcjhihmaegagdaaGreatDoorZ1
import Derived.Test.YtcjhihmaegagdaaGreatDoorK2
import Derived.Test.YtcjhihmaegagdaaGreatDoorH6
import Derived.Test.YtcjhihmaegagdaaGreatDoorG2
set_option maxRecDepth 100000
set_option maxHeartbeats 8000000
set_option linter.unusedSimpArgs false
set_option linter.unusedVariables false
set_option linter.unusedSectionVars false
set_option linter.unnecessarySimpa false
namespace Go.Proofs.YtcjhihmaegagdaaGreatDoor
open Go.RowKit Go.Deep
theorem zJu (w : World) (v : Int) (c : Nat) : (convert 47 9 (.slice (some ⟨w.heap.size, 0, none⟩) 1 c)).run Tryz.prog (w.alloc (.cells #[.int .u8 v] 5)) = .ok (str [UInt8.ofNat v.toNat]) (w.alloc (.cells #[.int .u8 v] 5)) :=
 run_convert_bytes_arg (P := Tryz.prog) (w.alloc (.cells #[.int .u8 v] 5)) 47 5 Tryz.underlying47 Tryz.underlying5 w.heap.size 0 1 c [v] rfl (fun i hi => by
  (obtain rfl : i = 0 := by omega);rw [Nat.add_zero, World.cell?_alloc_new w #[.int .u8 v] 5 0];rfl) 9 Tryz.underlying9
theorem qV (n : Nat) : Lib.itoa (n : Int) = Lib.decDigits n := by
 unfold Lib.itoa;rw [if_neg (by omega)];rfl
theorem zJB (x : Int) : Lib.itoa x = (if x < 0 then [45] else []) ++ Lib.decDigits x.natAbs := by
 unfold Lib.itoa;split
 · rfl
 rw [List.nil_append]; congr 1; omega
theorem zFJ (n : Nat) (h : n ≤ 1000000000) : (Lib.decDigits n).length ≤ 20 := by
 rw [← qV];exact zCK _ (by omega)
theorem qA (w : World) (n : Nat) (hn : n ≤ 1000000000) :
 Calls Tryz.prog 47 #[.int .i64 (n : Int)] w fun e w' => e = .returned (str (Lib.decDigits n)) ∧ Below w.heap.size w w' := by
 have HS := hid (zFJ n hn);obtain ⟨R, hR⟩ : ∃ R, R = Lib.decDigits n := ⟨_, rfl⟩
 rw [← hR] at HS ⊢;have HR := hid hR;clear hR;go_enter Tryz.func47, Tryz.ntmps47
 go_wp2_with fail
 go_loopw [0, 3] (fun x s wx => ∃ (m : Nat) (ds : List UInt8), m ≤ 1000000000 ∧ x = .int .i64 m ∧ s = str ds ∧ Hid (Below w.heap.size w wx) ∧ Hid (R = Lib.decDigits m ++ ds)) (fun x _ _ => (zD x).toNat)
 case atStart => exact ⟨n, [], hn, rfl, rfl, Below.refl _ _, by show _ = _; rw [List.append_nil]; exact HR.out⟩
 case round =>
  obtain ⟨m, ds, hm, rfl, rfl, HB, HM⟩ := hrel;(have hds : ds.length ≤ 20 := by have := HS.out; rw [HM.out, List.length_append] at this; omega);by_cases h9 : 9 < m
  ·
   have h9i : (9 : Int) < (m : Int) := by omega
   obtain ⟨q, hq⟩ : ∃ q, q = m / 10 := ⟨_, rfl⟩
   obtain ⟨r, hr⟩ : ∃ r, r = m % 10 := ⟨_, rfl⟩
   have e1 : (m : Int) % 10 = (r : Int) := by omega
   have e2 : (m : Int) / 10 = (q : Int) := by omega
   have HN : Hid (R = Lib.decDigits q ++ ([UInt8.ofNat (48 + r)] ++ ds)) := by
    show _ = _;rw [HM.out, ku (by omega), ← hq, ← hr, List.append_assoc]
   have hr9 : r < 10 := by omega
   have hqm : q < m := by omega
   clear hq hr HM;have kc := fun W => zJu W (48 + (r : Int)) 1
   obtain ⟨y, hy⟩ : ∃ y : UInt8, y = UInt8.ofNat (48 + r) := ⟨_, rfl⟩
   rw [show (48 + (r : Int)).toNat = 48 + r by omega, ← hy] at kc;rw [← hy] at HN;clear hy;have hd1 : ¬ 9223372036854775807 < 1 + ds.length := by omega
   go_wp2_with fail
   go_roundw
   case rel => exact ⟨q, [y] ++ ds, by omega, by go_num, zHZ [y] ds, HB.out.alloc HB.out.size _, HN.out⟩
   case measure => simp [zD]; omega
  (have h9i : ¬ (9 : Int) < (m : Int) := by omega);have kc := fun W => zJu W (48 + (m : Int)) 1
  have HN : Hid (R = [UInt8.ofNat (48 + m)] ++ ds) := by
   show _ = _;rw [HM.out, xu (by omega)]
  (obtain ⟨y, hy⟩ : ∃ y : UInt8, y = UInt8.ofNat (48 + m) := ⟨_, rfl⟩);rw [show (48 + (m : Int)).toNat = 48 + m by omega, ← hy] at kc;rw [← hy] at HN;(have hd1 : ¬ 9223372036854775807 < 1 + ds.length := by omega);clear hy HM;(go_wp2_with fail);go_ret;exact ⟨by rw [HN.out]; exact congrArg Ending.returned (zHZ [y] ds), HB.out.alloc HB.out.size _⟩
def zD4 (p : Nat) : Nat → Nat → Nat
 | 0, n => n
 | k + 1, n => zD4 p k (min (n * p) 10000000)
theorem zKl (p k n : Nat) (h : ¬ n ≤ 9999999) : jI p k n = n := by
 cases k with
 | zero => rfl
 | succ k => rw [jI, if_neg h]
theorem zAZ (p : Nat) (hp : 1 ≤ p) (k n : Nat) : zD4 p k (min n 10000000) = min (jI p k n) 10000000 := by
 induction k generalizing n with
 | zero => rfl
 | succ k ih =>
  rw [zD4, jI];by_cases h : n ≤ 9999999
  · rw [if_pos h, show min n 10000000 = n by omega, ih]
  rw [if_neg h, show min n 10000000 = 10000000 by omega];have : 10000000 ≤ 10000000 * p := Nat.le_mul_of_pos_right _ hp;rw [show min (10000000 * p) 10000000 = min n 10000000 by omega, ih, zKl p k n h];omega
theorem zLu (p k n : Nat) (h : n ≤ 10000000) : zD4 p k n ≤ 10000000 := by
 induction k generalizing n with
 | zero => exact h
 | succ k ih => rw [zD4]; exact ih _ (Nat.min_le_right _ _)
def zDH (v : Vc) : Nat → Nat
 | 0 => 1
 | i + 1 => zD4 (zr i) (v.at i).toNat (zDH v i)
theorem zLs (v : Vc) (i : Nat) : zDH v i ≤ 10000000 := by
 induction i with
 | zero => show 1 ≤ _; omega
 | succ i ih => rw [zDH]; exact zLu _ _ _ ih
theorem zJ3 (v : Vc) : zDH v 6 = min (xM v) 10000000 := by
 unfold xM;rw [← zAZ 13 (by decide), ← zAZ 11 (by decide), ← zAZ 7 (by decide), ← zAZ 5 (by decide), ← zAZ 3 (by decide), ← zAZ 2 (by decide)];rfl
theorem zLx (v : Vc) (k : Nat) (hk : k < 6) : v.neg.at k = -(v.at k) := by
 exact m65
theorem zDg (w : World) (v u : Vc) (sg : Int) (hs : sg = 1 ∨ sg = -1) (hu : ∀ k, k < 6 → u.at k = sg * v.at k) (hv : ∀ k, k < 6 → (v.at k).natAbs ≤ 1000) :
 Calls Tryz.prog 92 #[.agg v.cells, .int .i64 sg] w fun e w' => e = .returned (.int .i64 ((min (xM u) 10000000 : Nat) : Int)) ∧ Below w.heap.size w w' := by
 rw [← zJ3];have HU := hid hu;have HV := hid hv;have hs1 : -1 ≤ sg := by omega
 have hs2 : sg ≤ 1 := by omega
 have HSG := hid hs;clear hs hu hv;go_enter Tryz.func92, Tryz.ntmps92
 go_upto_region 3 with (fail)
 obtain ⟨w1, hw1⟩ : ∃ w1, w1 = w.alloc (.cells v.cells 53) := ⟨_, rfl⟩
 have B1 : Hid (Below w.heap.size w w1) := hid (by rw [hw1]; exact (Below.refl _ _).alloc (Nat.le_refl _) _);have K1 : Hid (Blk w1 w.heap.size 53 v.cells) := hid (by rw [hw1]; exact Blk.new _ _ _);rw [← hw1];clear hw1;go_loopw [5, 6] (fun n i wx => ∃ k : Nat, k ≤ 6 ∧ i = .int .i64 k ∧ n = .int .i64 (zDH u k : Nat) ∧ wx = w1) (fun _ i _ => 6 - (zD i).toNat)
 case atStart => exact ⟨0, by omega, rfl, rfl, rfl⟩
 case round =>
  obtain ⟨k, hk, rfl, rfl, hwr⟩ := hrel;rw [hwr];clear hwr;by_cases hlt : k < 6
  ·
   have HPR := hid (fun W => zDL W k hlt);obtain ⟨p2, p13⟩ := qC k;have cv : w1.cell? ⟨w.heap.size, k, none⟩ = some (.int .i64 (v.at k)) := by rw [K1.out.cell k]; exact Vc.cell v k hlt
   have hvk := HV.out k hlt;have huk := HU.out k hlt;obtain ⟨x, hx⟩ : ∃ x, x = v.at k := ⟨_, rfl⟩
   obtain ⟨y, hy⟩ : ∃ y, y = u.at k := ⟨_, rfl⟩
   have HST : Hid (zDH u (k + 1) = zD4 (zr k) y.toNat (zDH u k)) := hid (by rw [hy]; rfl);rw [← hx] at cv hvk huk;rw [← hy] at huk
   have hyb : -1000 ≤ y ∧ y ≤ 1000 := by
    rcases HSG.out with h | h
    · rw [huk, h]; omega
    rw [huk, h]; omega
   obtain ⟨hy1, hy2⟩ := hyb;have r1 : IntKind.i64.wrap (sg * x) = y := by rw [← huk, IntKind.wrap_i64]; omega
   have r2 : sg * x = y := huk.symm;obtain ⟨c0, hc0⟩ : ∃ c0, c0 = zDH u k := ⟨_, rfl⟩
   have hc0b : c0 ≤ 10000000 := by rw [hc0]; exact zLs u k
   rw [← hc0] at HST ⊢;obtain ⟨p, hp⟩ : ∃ p, p = zr k := ⟨_, rfl⟩
   rw [← hp] at HST HPR p2 p13;clear hx hy huk hc0 hp;have hki : decide ((k : Int) < (6 : Int)) = true := by rw [decide_eq_true_eq]; omega
   go_upto_region 6 with (fail)
   go_loopw [5, 7] (fun n j wx => ∃ (m c : Nat), m ≤ y.toNat ∧ j = .int .i64 m ∧ n = .int .i64 (c : Nat) ∧ c ≤ 10000000 ∧ Hid (zDH u (k + 1) = zD4 p (y.toNat - m) c) ∧ wx = w1) (fun _ j _ => y.toNat - (zD j).toNat)
   case atStart => exact ⟨0, c0, by omega, rfl, rfl, hc0b, HST, rfl⟩
   case round =>
    clear HST hc0b;obtain ⟨m, c, hm, rfl, rfl, hc, HC, hwr⟩ := hrel;rw [hwr];clear hwr;by_cases hmt : m < y.toNat
    ·
     have hmi : (m : Int) < y := by omega
     obtain ⟨cp, hcp⟩ : ∃ cp, cp = c * p := ⟨_, rfl⟩
     have hcpb : cp ≤ 130000000 := by rw [hcp]; exact Nat.le_trans (Nat.mul_le_mul hc p13) (by omega)
     have r3 : (c : Int) * (p : Int) = (cp : Int) := by rw [hcp, Int.natCast_mul]
     have HN : Hid (zDH u (k + 1) = zD4 p (y.toNat - (m + 1)) (min cp 10000000)) := hid (by rw [HC.out, show y.toNat - m = (y.toNat - (m + 1)) + 1 by omega, zD4, hcp]);clear hcp HC;go_wp2_with (go_at_call 132; with_reducible refine (HPR.out _).mono ?_; rintro e w2 ⟨rfl, hw2⟩; rw [hw2]; clear hw2)
     go_roundw
     case rel => exact ⟨m + 1, min cp 10000000, by omega, by go_num, (by congr 1; omega), Nat.min_le_right _ _, HN, by simp⟩
     case measure => simp [zD]; omega
    have hmi : ¬ (m : Int) < y := by omega
    have HN : Hid (zDH u (k + 1) = c) := hid (by rw [HC.out, show y.toNat - m = 0 by omega]; rfl);clear HC;go_wp2_with fail
    go_roundw
    case rel => exact ⟨k + 1, by omega, by go_num, by rw [HN.out], by simp⟩
    case measure => simp [zD]; omega
  (obtain rfl : k = 6 := by omega);(go_wp2_with fail);go_ret;exact ⟨rfl, B1.out⟩
def brS (v : Vc) : Nat → List UInt8
 | 0 => [91]
 | i + 1 => brS v i ++ ((if 0 < i then [32] else []) ++ Lib.itoa (v.at i))
theorem zKO (v : Vc) (hv : ∀ k, k < 6 → (v.at k).natAbs ≤ 1000) (i : Nat) (hi : i ≤ 6) : (brS v i).length ≤ 1 + 22 * i := by
 induction i with
 | zero => simp [brS]
 | succ i ih =>
  have h1 := ih (by omega);have h2 := zCK (v.at i) (by have := hv i (by omega); omega);rw [brS, List.length_append, List.length_append];(have h3 : (if 0 < i then [32] else [] : List UInt8).length ≤ 1 := by split <;> simp);omega
theorem zHi (v : Vc) (h : ¬ (xM v ≤ 9999999 ∧ xM v.neg ≤ 9999999)) : zc v = brS v 6 ++ [93] := by
 unfold zc;rw [if_neg h];simp [brS, Vc.at]
theorem zKe (b : ByteArray) (l : List UInt8) (h : b = ⟨l.toArray⟩) : Value.string b = str l := by rw [h]
theorem zBr (w : World) (v : Vc) (hv : ∀ k, k < 6 → (v.at k).natAbs ≤ 1000) :
 Calls Tryz.prog 48 #[.agg v.cells] w fun e w' => e = .returned (str (zc v)) ∧ Below w.heap.size w w' := by
 have HP1 := hid (fun W => zDg W v v 1 (Or.inl rfl) (fun k _ => by omega) hv);have HP2 := hid (fun W => zDg W v v.neg (-1) (Or.inr rfl) (fun k hk => by rw [zLx v k hk]; omega) hv)
 have HW1 : Hid (xM v ≤ 9999999 → xM v.neg ≤ 9999999 → zc v = Lib.decDigits (xM v) ++ 47 :: Lib.decDigits (xM v.neg)) := hid fun h1 h2 => by
  unfold zc; rw [if_pos ⟨h1, h2⟩, qV, qV]
 have HW2 := hid (zHi v);have HBL := hid (zKO v hv);have HV := hid hv;obtain ⟨R, hR⟩ : ∃ R, R = zc v := ⟨_, rfl⟩
 rw [← hR] at HW1 HW2 ⊢;generalize xM v = n at *;generalize xM v.neg = d at *;clear hR hv;obtain ⟨mn, hmn⟩ : ∃ mn, mn = min n 10000000 := ⟨_, rfl⟩
 obtain ⟨md, hmd⟩ : ∃ md, md = min d 10000000 := ⟨_, rfl⟩
 rw [← hmn] at HP1;rw [← hmd] at HP2;have HMN := hid (And.intro hmn hmd);have hmnb : mn ≤ 10000000 := by omega
 have hmdb : md ≤ 10000000 := by omega
 clear hmn hmd;go_enter Tryz.func48, Tryz.ntmps48
 go_upto_region 1 with (fail)
 obtain ⟨w1, hw1⟩ : ∃ w1, w1 = w.alloc (.cells v.cells 53) := ⟨_, rfl⟩
 have B1 : Hid (Below w.heap.size w w1) := hid (by rw [hw1]; exact (Below.refl _ _).alloc (Nat.le_refl _) _);have K1 : Hid (Blk w1 w.heap.size 53 v.cells) := hid (by rw [hw1]; exact Blk.new _ _ _);rw [← hw1];clear hw1;go_upto_region 3 with (first | (refine zp 53 K1.out Tryz.underlying53 zR ?_) | (go_at_call 92; with_reducible refine (HP1.out _).mono ?_; rintro e w2 ⟨rfl, b2⟩; replace K1 := hid (K1.out.below b2 K1.out.lt); replace B1 := hid (zB B1.out b2); clear b2) | (go_at_call 92; with_reducible refine (HP2.out _).mono ?_; rintro e w3 ⟨rfl, b2⟩; replace K1 := hid (K1.out.below b2 K1.out.lt); replace B1 := hid (zB B1.out b2); clear b2))
 by_cases hnd : mn ≤ 9999999 ∧ md ≤ 9999999
 ·
  obtain ⟨h1, h2⟩ := hnd;have e1 : n = mn := by have := HMN.out; omega
  have e2 : d = md := by have := HMN.out; omega
  subst e1 e2;have HF := hid (HW1.out h1 h2);have HD1 := hid (fun W => qA W n (by omega));have HD2 := hid (fun W => qA W d (by omega));have l1 := zFJ n (by omega);have l2 := zFJ d (by omega);have q1 : decide ((n : Int) ≤ (9999999 : Int)) = true := by rw [decide_eq_true_eq]; omega
  have q2 : decide ((d : Int) ≤ (9999999 : Int)) = true := by rw [decide_eq_true_eq]; omega
  generalize Lib.decDigits n = dn at *;generalize Lib.decDigits d = dd at *;have g1 : ¬ 9223372036854775807 < dn.length + 1 := by omega
  have g2 : ¬ 9223372036854775807 < dn.length + 1 + dd.length := by omega
  clear HMN HW1 HW2 HP1 HP2 HBL l1 l2;go_wp2_with (first | (go_at_call 47; with_reducible refine (HD1.out _).mono ?_; rintro e w4 ⟨rfl, b2⟩; replace B1 := hid (zB B1.out b2); clear b2) | (go_at_call 47; with_reducible refine (HD2.out _).mono ?_; rintro e w5 ⟨rfl, b2⟩; replace B1 := hid (zB B1.out b2); clear b2))
  exact zNk
 have HF := hid (HW2.out (by have := HMN.out; omega));clear HW1 HW2 HP1 HP2;by_cases h1 : mn ≤ 9999999
 ·
  have h2 : ¬ md ≤ 9999999 := fun h => hnd ⟨h1, h⟩
  have q1 : decide ((mn : Int) ≤ (9999999 : Int)) = true := by rw [decide_eq_true_eq]; omega
  have q2 : decide ((md : Int) ≤ (9999999 : Int)) = false := by rw [decide_eq_false_iff_not]; omega
  clear hnd h1 h2 HMN;go_upto_region 7 with (fail)
  clear q1 q2;go_loopw [5, 6] (fun s i wx => ∃ k : Nat, k ≤ 6 ∧ i = .int .i64 k ∧ s = str (brS v k) ∧ Hid (Below w.heap.size w wx) ∧ Hid (Blk wx w.heap.size 53 v.cells)) (fun _ i _ => 6 - (zD i).toNat)
  case atStart => exact ⟨0, by omega, rfl, rfl, B1, K1⟩
  case round =>
   exact m8
 have q1 : decide ((mn : Int) ≤ (9999999 : Int)) = false := by rw [decide_eq_false_iff_not]; omega
 clear hnd h1 HMN;go_upto_region 7 with (fail)
 clear q1;go_loopw [5, 6] (fun s i wx => ∃ k : Nat, k ≤ 6 ∧ i = .int .i64 k ∧ s = str (brS v k) ∧ Hid (Below w.heap.size w wx) ∧ Hid (Blk wx w.heap.size 53 v.cells)) (fun _ i _ => 6 - (zD i).toNat)
 case atStart => exact ⟨0, by omega, rfl, rfl, B1, K1⟩
 case round =>
  exact m8
open Go.RowKit Go.Deep
theorem zBM (w : World) (v : Vc) (m : Nat) (hm : m ≤ 1000) :
 Calls Tryz.prog 128 #[.agg v.cells, .int .i64 (m : Int)] w fun e w' => e = .returned (.bool (v.le m)) ∧ Below w.heap.size w w' := by
 have rm : IntKind.i64.wrap (-(m : Int)) = -(m : Int) := by rw [IntKind.wrap_i64]; omega
 have S0 := hid (Blk.new w 53 v.cells);have B0 := hid ((Below.refl w.heap.size w).alloc (Nat.le_refl _) (.cells v.cells 53));go_enter Tryz.func128, Tryz.ntmps128
 go_wp2_with fail
 go_loopw [5] (fun i wx => ∃ k : Nat, k ≤ 6 ∧ i = .int .i64 k ∧ Hid (Below w.heap.size w wx) ∧ Hid (Blk wx w.heap.size 53 v.cells) ∧ Hid (v.sm m k)) (fun i _ => 6 - (zD i).toNat)
 case atStart => exact ⟨0, by omega, rfl, B0, S0, hid (fun j hj => by omega)⟩
 case round =>
  clear B0 S0;obtain ⟨k, hk, rfl, HB, HS, HK⟩ := hrel;by_cases hlt : k < 6
  ·
   have hki : (k : Int) < 6 := by omega
   have cv : wr.cell? ⟨w.heap.size, k, none⟩ = some (.int .i64 (v.at k)) := by rw [HS.out.cell k]; exact Vc.cell v k hlt
   obtain ⟨x, hx⟩ : ∃ x, v.at k = x := ⟨_, rfl⟩
   rw [hx] at cv;by_cases hs : -(m : Int) ≤ x ∧ x ≤ m
   ·
    have HK2 : Hid (v.sm m (k + 1)) := hid fun j hj => by
     exact zNQ
    obtain ⟨h1, h2⟩ := hs;have n1 : ¬ x < -(m : Int) := by omega
    have n2 : ¬ (m : Int) < x := by omega
    clear hx h1 h2;go_wp2_with fail
    go_roundw
    case rel => exact ⟨k + 1, by omega, by go_num, HB, HS, HK2⟩
    case measure => simp [zD]; omega
   have HR : Hid (v.le m = false) := by
    exact zNF
   clear hx;by_cases n1 : x < -(m : Int)
   ·
    clear hs;go_wp2_with fail
    go_ret;rw [HR.out];exact ⟨rfl, HB.out⟩
   have n2 : (m : Int) < x := by omega
   clear hs;go_wp2_with fail
   go_ret;rw [HR.out];exact ⟨rfl, HB.out⟩
  have HR : Hid (v.le m = true) := hid ((zJW v m).2 fun j hj => HK.out j (by omega));(go_wp2_with fail);go_ret;rw [HR.out];exact ⟨rfl, HB.out⟩
theorem zAw {w wx : World} {B : Nat} {A : Option Addr} {l : List Nte} (h : RdN w B A l) (hB : B ≤ w.heap.size) (hb : Below w.heap.size w wx) {i : Nat} (hi : i < l.length) :
 ∃ ad, A = some ad ∧ ∀ w', Below wx.heap.size wx w' → ∀ j v, (l.getD i zF).cells[j]? = some v → w'.cell? ((ad.add (i * 10)).add j) = some v := by
 obtain ⟨ad, rfl, h1, h2⟩ := zQ.rec Nte.cs 10 Nte.cs_len h rfl hi;refine ⟨ad, rfl, fun w' hb' j v hv => ?_⟩
 have hj : j < 10 := by
  have := (Array.getElem?_eq_some_iff.1 hv).1;exact this
 have hblk : ((ad.add (i * 10)).add j).block < B := by rw [zs, zs]; exact h1
 rw [hb'.cell (Nat.lt_of_lt_of_le hblk (Nat.le_trans hB hb.size)), hb.cell (Nat.lt_of_lt_of_le hblk hB), h2 j hj, ← hv, zN hi];simp [Nte.cells, Nte.cs]
def kO (v t : Int) (m : Nte) : Bool := decide (m.voice = v) && decide (m.stop = t)
def jg (l : List Nte) (v t : Int) : Int := match l.findIdx? (kO v t) with | some j => (j : Int) | none => -1
theorem zIE {l : List Nte} {v t : Int} {j : Nat} (hj : j < l.length) (h : kO v t (l.getD j zF) = true) (hb : ∀ i, i < j → kO v t (l.getD i zF) = false) : jg l v t = j := by
 unfold jg
 have : l.findIdx? (kO v t) = some j := by
  rw [List.findIdx?_eq_some_iff_getElem];refine ⟨hj, by rw [← zN hj]; exact h, fun i hi => ?_⟩;have := hb i hi;rw [zN (Nat.lt_trans hi hj)] at this;rw [this]; decide
 rw [this]
theorem zIN {l : List Nte} {v t : Int} (hb : ∀ i, i < l.length → kO v t (l.getD i zF) = false) : jg l v t = -1 := by
 unfold jg
 have : l.findIdx? (kO v t) = none := by
  rw [List.findIdx?_eq_none_iff];intro x hx;obtain ⟨i, hi, rfl⟩ := List.getElem_of_mem hx;rw [← zN hi];exact hb i hi
 rw [this]
theorem zHs (w : World) (B : Nat) (v : Value) (s : Scr) (h : kU w B v s) (vo t : Int) : Calls Tryz.prog 127 #[v, .int .i64 vo, .int .i64 t] w fun e w' => e = .returned (.int .i64 (jg s.notes vo t)) ∧ Below w.heap.size w w' := by
 obtain ⟨r, hr⟩ : ∃ r, r = jg s.notes vo t := ⟨_, rfl⟩
 rw [← hr];have HR := hid hr;obtain ⟨An, cn, Ap, cp, Aq, cq, rfl, h1, -, -⟩ := h.ex;have HQ := hid h1;have HBB := hid h.le;obtain ⟨V, hV⟩ : ∃ V, V = s.voices := ⟨_, rfl⟩
 obtain ⟨l, hl⟩ : ∃ l, l = s.notes := ⟨_, rfl⟩
 obtain ⟨nc, hnc⟩ : ∃ nc, nc = s.cad.length := ⟨_, rfl⟩
 obtain ⟨np, hnp⟩ : ∃ np, np = s.pairs.length := ⟨_, rfl⟩
 have hln := h.ln;rw [← hV, ← hl, ← hnc, ← hnp];rw [← hl] at HQ hln HR;obtain ⟨n, hn⟩ : ∃ n, n = l.length := ⟨_, rfl⟩
 rw [← hn] at hln ⊢;have HN := hid hn;clear hr h1 hV hl hnc hnp hn h;have S0 := hid (Blk.new w 26 #[.int .i64 V, .slice An n cn, .slice Ap np cp, .slice Aq nc cq]);have B0 := hid ((Below.refl w.heap.size w).alloc (Nat.le_refl _) (.cells #[.int .i64 V, .slice An n cn, .slice Ap np cp, .slice Aq nc cq] 26));obtain ⟨w0, hw0⟩ : ∃ w0, w0 = w.alloc (.cells #[.int .i64 V, .slice An n cn, .slice Ap np cp, .slice Aq nc cq] 26) := ⟨_, rfl⟩
 rw [← hw0] at S0 B0;have s1 := S0.out.cell 1;go_enter Tryz.func127, Tryz.ntmps127
 go_upto_region 1 with (fail)
 rw [← hw0];clear hw0;go_wp2_with fail
 go_loopw [7] (fun i wx => ∃ j : Nat, j ≤ n ∧ i = .int .i64 j ∧ Hid (wx = w0) ∧ Hid (∀ i, i < j → kO vo t (l.getD i zF) = false)) (fun i _ => n - (zD i).toNat)
 case atStart => exact ⟨0, Nat.zero_le _, rfl, hid rfl, hid fun t ht => by omega⟩
 case round =>
  obtain ⟨j, hj, rfl, HW, HT⟩ := hrel;obtain rfl : wr = w0 := HW.out;by_cases hlt : j < n
  ·
   obtain ⟨ad, rfl, hc⟩ := zAw HQ.out HBB.out B0.out (i := j) (by rw [← HN.out]; exact hlt);obtain ⟨x, hx⟩ : ∃ x, l.getD j zF = x := ⟨_, rfl⟩
   rw [hx] at hc;have c0 : wr.cell? (ad.add (j * 10)) = some (.int .i64 x.voice) := hc _ (Below.refl _ _) 0 _ rfl;have c2 : wr.cell? { block := (ad.add (j * 10)).block, off := (ad.add (j * 10)).off + 2 } = some (.int .i64 x.stop) := hc _ (Below.refl _ _) 2 _ rfl;have HX := hid hx;have r1 : IntKind.i64.wrap ((j : Int) + 1) = ((j + 1 : Nat) : Int) := by rw [IntKind.wrap_i64]; omega
   clear hx hc;by_cases e1 : x.voice = vo
   ·
    by_cases e2 : x.stop = t
    ·
     have HR2 : Hid (r = (j : Int)) := hid (by rw [HR.out]; exact zIE (by rw [← HN.out]; exact hlt) (by rw [HX.out]; simp [kO, e1, e2]) HT.out);go_wp2_with fail
     go_ret;rw [HR2.out];exact ⟨rfl, B0.out⟩
    have HT2 : Hid (∀ i, i < j + 1 → kO vo t (l.getD i zF) = false) := hid fun i hi => by
     rcases Nat.lt_or_ge i j with h | h
     · exact HT.out i h
     rw [show i = j by omega, HX.out]; simp [kO, e1, e2]
    exact m99
   have HT2 : Hid (∀ i, i < j + 1 → kO vo t (l.getD i zF) = false) := hid fun i hi => by
    rcases Nat.lt_or_ge i j with h | h
    · exact HT.out i h
    rw [show i = j by omega, HX.out]; simp [kO, e1]
   exact m99
  have HR2 : Hid (r = -1) := hid (by rw [HR.out]; exact zIN fun i hi => HT.out i (by have := HN.out; omega));(go_wp2_with fail);go_ret;rw [HR2.out];exact ⟨rfl, B0.out⟩
def zAn (V : Int) (n : Nte) : Bool := decide (0 ≤ n.voice) && decide (n.voice < V) && decide (0 ≤ n.start) && decide (n.start < n.stop) && decide (n.stop ≤ 100000) && n.place.le 24
theorem zIs (w : World) (V : Int) (An Ap Aq : Option Addr) (nn np nc cn cp cq : Nat) (x : Nte) :
 Calls Tryz.prog 126 #[.agg #[.int .i64 V, .slice An nn cn, .slice Ap np cp, .slice Aq nc cq], .agg x.cells] w fun e w' => e = .returned (.bool (zAn V x)) ∧ Below w.heap.size w w' := by
 obtain ⟨r, hr⟩ : ∃ r, r = zAn V x := ⟨_, rfl⟩
 rw [← hr];have S0 := hid ((Blk.new w 26 #[.int .i64 V, .slice An nn cn, .slice Ap np cp, .slice Aq nc cq]).alloc (.cells x.cells 55));have N0 := hid (Blk.new (w.alloc (.cells #[.int .i64 V, .slice An nn cn, .slice Ap np cp, .slice Aq nc cq] 26)) 55 x.cells);have B0 := hid (((Below.refl w.heap.size w).alloc (Nat.le_refl _) (.cells #[.int .i64 V, .slice An nn cn, .slice Ap np cp, .slice Aq nc cq] 26)).alloc (by simp) (.cells x.cells 55));rw [show (w.alloc (.cells #[.int .i64 V, .slice An nn cn, .slice Ap np cp, .slice Aq nc cq] 26)).heap.size = w.heap.size + 1 by simp] at N0;obtain ⟨w0, hw0⟩ : ∃ w0, w0 = (w.alloc (.cells #[.int .i64 V, .slice An nn cn, .slice Ap np cp, .slice Aq nc cq] 26)).alloc (.cells x.cells 55) := ⟨_, rfl⟩
 rw [← hw0] at S0 N0 B0;have s0 := S0.out.cell 0;have n0 := N0.out.cell 0;have n1 := N0.out.cell 1;have n2 := N0.out.cell 2;clear S0;have HB := hid fun W => zBM W x.place 24 (by omega)
 go_enter Tryz.func126, Tryz.ntmps126
 go_upto_region 1 with (fail)
 rw [← hw0];clear hw0;by_cases h0 : ¬ 0 ≤ x.voice
 ·
  obtain rfl : r = false := by rw [hr]; simp [zAn, h0]
  clear hr HB N0;go_wp2_with fail
  go_ret;exact ⟨rfl, B0.out⟩
 skip
 by_cases h1 : ¬ x.voice < V
 ·
  obtain rfl : r = false := by rw [hr]; simp [zAn, h0, h1]
  clear hr HB N0;go_wp2_with fail
  go_ret;exact ⟨rfl, B0.out⟩
 skip
 by_cases h2 : ¬ 0 ≤ x.start
 ·
  obtain rfl : r = false := by rw [hr]; simp [zAn, h0, h1, h2]
  clear hr HB N0;go_wp2_with fail
  go_ret;exact ⟨rfl, B0.out⟩
 skip
 by_cases h3 : ¬ x.start < x.stop
 ·
  obtain rfl : r = false := by rw [hr]; simp [zAn, h0, h1, h2, h3]
  clear hr HB N0;go_wp2_with fail
  go_ret;exact ⟨rfl, B0.out⟩
 skip
 by_cases h4 : ¬ x.stop ≤ 100000
 ·
  obtain rfl : r = false := by rw [hr]; simp [zAn, h0, h1, h2, h3, h4]
  clear hr HB N0;go_wp2_with fail
  go_ret;exact ⟨rfl, B0.out⟩
 skip
 have g0 := Decidable.not_not.1 h0;have g1 := Decidable.not_not.1 h1;have g2 := Decidable.not_not.1 h2;have g3 := Decidable.not_not.1 h3;have g4 := Decidable.not_not.1 h4;clear h0 h1 h2 h3 h4;obtain rfl : r = x.place.le 24 := by rw [hr]; simp [zAn, g0, g1, g2, g3, g4]
 clear hr;have n3 := N0.out.cell 3;have n4 := N0.out.cell 4;have n5 := N0.out.cell 5;have n6 := N0.out.cell 6;have n7 := N0.out.cell 7;have n8 := N0.out.cell 8;clear N0;go_wp2_with (go_at_call 128; refine (HB.out _).mono ?_; rintro e w6 ⟨rfl, b6⟩; replace b6 := hid b6)
 go_ret;exact ⟨rfl, zB B0.out b6.out⟩
open Go.RowKit Go.Deep
def okN (V : Int) (l : List Nte) (j : Nat) : Prop := ∀ i, i < j → zAn V (l.getD i zF) = true ∧ (0 < i → yK (l.getD (i - 1) zF) (l.getD i zF) = true) ∧ ∀ k, k < i → (l.getD k zF).voice = (l.getD i zF).voice → (l.getD k zF).stop ≤ (l.getD i zF).start
def okT (l : List Nte) (j : Nat) : Prop := ∀ i, i < j → (l.getD i zF).tied = true → ∃ m : Nat, m < l.length ∧ jg l (l.getD i zF).voice (l.getD i zF).start = m ∧ (l.getD m zF).place = (l.getD i zF).place
theorem zCc {V : Int} {n : Nte} : zAn V n = true ↔ 0 ≤ n.voice ∧ n.voice < V ∧ 0 ≤ n.start ∧ n.start < n.stop ∧ n.stop ≤ 100000 ∧ n.place.le 24 = true := by
 unfold zAn;simp only [Bool.and_eq_true, decide_eq_true_eq, and_assoc]
theorem zCi {l : List Nte} {v t : Int} {m : Nat} (h : jg l v t = m) : ∃ hm : m < l.length, l[m].voice = v ∧ l[m].stop = t := by
 unfold jg at h;split at h
 ·
  rename_i j hj
  obtain ⟨h1, h2, -⟩ := List.findIdx?_eq_some_iff_getElem.1 hj;obtain rfl : j = m := by omega
  refine ⟨h1, ?_⟩;simpa [kO] using h2
 omega
theorem zJt (s : Scr) : (vQ s && xz s) = true ↔ okN s.voices s.notes s.notes.length ∧ okT s.notes s.notes.length := by
 rw [Bool.and_eq_true, zAY, Bool.and_eq_true, xN _ _ zF, zDk, jZ];obtain ⟨l, hl⟩ : ∃ l, l = s.notes := ⟨_, rfl⟩
 rw [← hl];constructor
 ·
  rintro ⟨⟨h1, h2⟩, h3⟩;have hr := List.pairwise_iff_getElem.1 (vO ja l h2);have hv : zBY l := fun k hk => by have := h3 k hk; rwa [zN hk] at this
  have hp : ∀ x ∈ l, x.start < x.stop := fun x hx => by
   obtain ⟨i, hi, rfl⟩ := List.getElem_of_mem hx;have := h1 i hi;rw [zN hi] at this;exact (zCc.1 this).2.2.2.1
  refine ⟨fun i hi => ⟨h1 i hi, fun h0 => ?_, fun k hk e => ?_⟩, fun i hi ht => ?_⟩
  · have := hr (i - 1) i (by omega) hi (by omega);rw [zN hi, zN (show i - 1 < l.length by omega)];exact this
  · rw [zN hi, zN (Nat.lt_trans hk hi)] at e ⊢;exact zCk hv hp i hi k hk e
  rw [zN hi] at ht ⊢;obtain ⟨j, hj, hjl, e1, e2⟩ := zF3 hv hp i hi ht;refine ⟨j, hjl, ?_, by rw [zN hjl]; exact e2⟩;unfold jg;rw [show l.findIdx? (kO l[i].voice l[i].start) = some j from e1]
 rintro ⟨h1, h2⟩
 have hq : xE yK l = true := kf yK l zF fun t ht => by
  have := (h1 (t + 1) ht).2.1 (by omega)
  rwa [Nat.add_sub_cancel] at this
 have hr := List.pairwise_iff_getElem.1 (vO ja l hq)
 have hw : ∀ i (hi : i < l.length), 0 ≤ l[i].start ∧ l[i].start < l[i].stop := fun i hi => by
  have := (h1 i hi).1;rw [zN hi] at this;have := zCc.1 this;exact ⟨this.2.2.1, this.2.2.2.1⟩
 have h3 : ∀ i (hi : i < l.length) k (hk : k < i), l[k].voice = l[i].voice → l[k].stop ≤ l[i].start := fun i hi k hk e => by
  have := (h1 i hi).2.2 k hk;rw [zN hi, zN (Nat.lt_trans hk hi)] at this;exact this e
 refine ⟨⟨fun t ht => (h1 t ht).1, hq⟩, fun k hk => ?_⟩;have hx := hw k hk;rw [zN hk]
 have hA : ¬ l[k].start < (j4 l k l[k].voice).stop := by
  by_cases e0 : (j4 l k l[k].voice).stop = 0
  · rw [e0]; omega
  obtain ⟨m, m1, m2, m3, m4, -⟩ := zDs e0;have := h3 k hk m m1 m4;rw [m3] at this;omega
 unfold vm;simp only [Bool.not_eq_true', Bool.or_eq_false_iff, decide_eq_false_iff_not];refine ⟨hA, ?_⟩;by_cases ht : l[k].tied = true
 ·
  obtain ⟨m, hm, e1, e2⟩ := h2 k hk (by rw [zN hk]; exact ht);rw [zN hk] at e1 e2;rw [zN hm] at e2;obtain ⟨hm2, e3, e4⟩ := zCi e1;have hwm := hw m hm
  have hmk : m < k := by
   rcases Nat.lt_trichotomy m k with h | h | h
   · exact h
   · subst h; omega
   have := hr k m hk hm h;simp only [yK, Bool.or_eq_true, Bool.and_eq_true, decide_eq_true_eq] at this;omega
  obtain ⟨i, i1, i2, hi, i3, i4⟩ := zDd hmk hm e3;have hwi := hw i hi
  obtain rfl : i = m := by
   rcases Nat.lt_or_ge m i with h | h
   · have a1 := h3 i hi m h (by rw [e3, i4]);have a2 := h3 k hk i i2 i4;omega
   omega
  rw [← i3];have : l[i].stop ≠ 0 := by omega
  simp [ht, e4, e2];omega
 simp [ht]
end Go.Proofs.YtcjhihmaegagdaaGreatDoor
