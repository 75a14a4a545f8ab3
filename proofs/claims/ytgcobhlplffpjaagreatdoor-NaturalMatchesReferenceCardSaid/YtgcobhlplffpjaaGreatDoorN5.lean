/- Walks: Parse's closure. -/
import Derived.Test.YtgcobhlplffpjaaGreatDoorN4
import Derived.Shelf.Strings.SlTrimAscii
namespace Go.Proofs.YtgcobhlplffpjaaGreatDoor
open Go.RowKit Go.Deep

def isDig (x : UInt8) : Bool := decide (48 ≤ x.toNat ∧ x.toNat ≤ 57)
def digs : List UInt8 := [48, 49, 50, 51, 52, 53, 54, 55, 56, 57]
theorem digs_fin : ∀ n : Fin 256, digs.contains (UInt8.ofNat n.val) = isDig (UInt8.ofNat n.val) := by decide +kernel
theorem digs_dig (x : UInt8) : digs.contains x = isDig x := by
  have := digs_fin ⟨x.toNat, x.toNat_lt⟩
  rwa [UInt8.ofNat_toNat] at this
theorem ext_take (r : List UInt8) (k : Nat) : (⟨r.toArray⟩ : ByteArray).extract 0 k = ⟨(r.take k).toArray⟩ := by
  apply ByteArray.ext
  rw [ByteArray.data_extract]
  simp
theorem ext_drop (r : List UInt8) (k n : Nat) (hn : n = r.length) : (⟨r.toArray⟩ : ByteArray).extract k n = ⟨(r.drop k).toArray⟩ := by
  subst hn
  apply ByteArray.ext
  rw [ByteArray.data_extract]
  simp
  rw [List.take_of_length_le (by rw [List.length_drop]; exact Nat.le_refl _)]
theorem dropWhile_nil {α : Type} (p : α → Bool) : ∀ l : List α, l.dropWhile p = [] ↔ ∀ x ∈ l, p x = true
  | [] => by simp
  | a :: l => by
    rw [List.dropWhile_cons]
    cases h : p a with
    | true => simp [dropWhile_nil p l, h]
    | false => simp [h]
theorem trim_nil (l : List UInt8) : Lib.trimS l digs = [] ↔ ∀ x ∈ l, isDig x = true := by
  have hp : (fun x : UInt8 => digs.contains x) = isDig := funext digs_dig
  unfold Lib.trimS Lib.trimLeftS Lib.trimRightS
  rw [hp, dropWhile_nil]
  constructor
  · intro h
    by_cases h0 : l.reverse.dropWhile isDig = []
    · exact fun x hx => (dropWhile_nil _ _).1 h0 x (List.mem_reverse.2 hx)
    · exfalso
      obtain ⟨a, r, e⟩ := List.exists_cons_of_ne_nil h0
      have h1 := List.head?_dropWhile_not isDig l.reverse
      rw [e] at h1 h
      simp at h1
      have := h a (by simp)
      rw [this] at h1
      cases h1
  · intro h x hx
    have h0 : l.reverse.dropWhile isDig = [] := (dropWhile_nil _ _).2 fun x hx => h x (List.mem_reverse.1 hx)
    rw [h0] at hx
    cases hx
theorem trim_any (w : World) (l : List UInt8) (hl : l.length ≤ 9223372036854775807) :
    Calls Tryz.prog 50 #[str l, .string ⟨#[48, 49, 50, 51, 52, 53, 54, 55, 56, 57]⟩] w fun e w' => e = .returned (str (Lib.trimS l digs)) ∧ Below w.heap.size w w' :=
  Any.strings_Trim_laid Tryz.lays160 (by kernel_rfl) ⟨l.toArray⟩ ⟨#[48, 49, 50, 51, 52, 53, 54, 55, 56, 57]⟩ w (by simpa [ByteArray.size] using hl) (by decide) (ascii_of_all (by decide))

theorem num_from (a : Nat) (l : List UInt8) : num a l = a * 10 ^ l.length + num 0 l := by
  induction l generalizing a with
  | nil => simp [num]
  | cons x l ih =>
    have e1 : num a (x :: l) = num (10 * a + (x.toNat - 48)) l := rfl
    have e2 : num 0 (x :: l) = num (10 * 0 + (x.toNat - 48)) l := rfl
    rw [e1, e2, ih, ih (10 * 0 + (x.toNat - 48)), List.length_cons, Nat.pow_succ, Nat.add_mul, Nat.add_mul]
    rw [show 10 * a * 10 ^ l.length = a * (10 ^ l.length * 10) by rw [Nat.mul_comm 10 a, Nat.mul_assoc, Nat.mul_comm 10]]
    omega
theorem num_lt (l : List UInt8) (h : ∀ x ∈ l, isDig x = true) : num 0 l < 10 ^ l.length := by
  induction l with
  | nil => simp [num]
  | cons x l ih =>
    have e2 : num 0 (x :: l) = num (x.toNat - 48) l := by show num (10 * 0 + (x.toNat - 48)) l = _; rw [Nat.mul_zero, Nat.zero_add]
    have h1 := h x (by simp)
    have h2 := ih (fun y hy => h y (by simp [hy]))
    simp [isDig] at h1
    rw [e2, num_from, List.length_cons, Nat.pow_succ]
    have : (x.toNat - 48) * 10 ^ l.length ≤ 9 * 10 ^ l.length := Nat.mul_le_mul_right _ (by omega)
    omega

def PRel (w : World) (g : Nat) (s : List UInt8) (a : Value) (wx : World) : Prop :=
  ∃ (u r : List UInt8) (A : Option Addr), a = .slice A (limbs (num 0 u)).length (limbs (num 0 u)).length ∧ Only g w wx ∧ wx.cell? ⟨g, 0, none⟩ = some (str r) ∧ wx.frozen? ⟨g, 0, none⟩ = false ∧ Hid (s = u ++ r) ∧ Hid (RdW wx wx.heap.size A (limbs (num 0 u)) ∧ (limbs (num 0 u)).length ≤ 640) ∧ Hid (u = [] ∨ r.length % 9 = 0)
def strLen (w : World) (g : Nat) : Nat := match w.cell? ⟨g, 0, none⟩ with
  | some (.string s) => s.size
  | _ => 0

set_option maxRecDepth 100000 in
set_option maxHeartbeats 1000000 in
theorem parse_op (w : World) (g : Nat) (s : List UInt8) (hg : w.cell? ⟨g, 0, none⟩ = some (str s)) (hz : w.frozen? ⟨g, 0, none⟩ = false) (hs : ∀ x ∈ s, isDig x = true) (hl : s.length ≤ 9223372036854775807) :
    Calls Tryz.prog 51 #[.pointer (some ⟨g, 0, none⟩)] w (GivesP g w (cutO (num 0 s))) := by
  have HS := Lib.hid hs; clear hs
  go_enter Tryz.func51, Tryz.ntmps51
  go_wp2_with fail
  go_loopw [2] (fun a wx => PRel w g s a wx) (fun _ wx => strLen wx g)
  case atStart => exact ⟨[], s, none, rfl, Only.refl _ _, hg, hz, rfl, ⟨RdW.nil _ _ _, by decide⟩, .inl rfl⟩
  case round =>
    clear hg hz
    obtain ⟨u, r, A, rfl, hO, hc, hz, HE, HR, HU⟩ := hrel
    have hrl : r.length ≤ s.length := by rw [HE.out]; simp
    rcases Nat.eq_zero_or_pos r.length with h0 | h0
    · obtain rfl : r = [] := List.eq_nil_of_length_eq_zero h0
      clear h0
      have HF := Lib.hid (show num 0 s = num 0 u by rw [HE.out, List.append_nil])
      go_wp2_with fail
      go_ret
      rw [HF.out]
      unfold cutO
      rw [if_pos HR.out.2]
      exact ⟨hO, A, rfl, HR.out.1⟩
    · obtain ⟨k, hk⟩ : ∃ k, (r.length - 1) % 9 + 1 = k := ⟨_, rfl⟩
      have hkr : k ≤ r.length := by rw [← hk]; have := Nat.mod_le (r.length - 1) 9; omega
      have hk9 : k ≤ 9 := by omega
      have hk0 : 0 < k := by omega
      have hki : ((r.length : Int) - 1) % 9 + 1 = (k : Int) := by omega
      have HK := Lib.hid hk
      obtain ⟨c, hcc⟩ : ∃ c, r.take k = c := ⟨_, rfl⟩
      obtain ⟨r', hr'⟩ : ∃ r', r.drop k = r' := ⟨_, rfl⟩
      have HC := Lib.hid (And.intro hcc hr')
      have hcl : c.length = k := by rw [← hcc, List.length_take]; omega
      have hcd : ∀ x ∈ c, isDig x = true := fun x hx => HS.out x (by rw [HE.out]; rw [← hcc] at hx; exact List.mem_append.2 (.inr (List.mem_of_mem_take hx)))
      have hm9 : num 0 c < 1000000000 := by
        have h1 := num_lt c hcd
        have h2 : 10 ^ c.length ≤ 10 ^ 9 := Nat.pow_le_pow_right (by omega) (by omega)
        omega
      have HA := Lib.hid fun (w1 : World) => atoi_digits w1 c (by omega) (by omega) (fun x hx => by have := hcd x hx; simpa [isDig] using this)
      have hnum : num 0 (u ++ c) = num 0 u * 1000000000 + num 0 c := by
        rw [num_append, num_from]
        rcases HU.out with h | h
        · rw [h]; simp [num]
        · have : k = 9 := by omega
          rw [hcl, this]
      have HE2 := Lib.hid (show s = (u ++ c) ++ r' by rw [List.append_assoc, ← hcc, ← hr', List.take_append_drop]; exact HE.out)
      have HU2 : Hid (u ++ c = [] ∨ r'.length % 9 = 0) := .inr (by rw [← hr', List.length_drop]; omega)
      have HBIG : Hid (num 0 u * 1000000000 ≤ num 0 s ∧ num 0 u * 1000000000 + num 0 c ≤ num 0 s) := by
        have h1 : num 0 (u ++ c) ≤ num 0 s := by
          rw [HE2.out, num_append 0 (u ++ c), num_from (num 0 (u ++ c))]
          exact Nat.le_trans (Nat.le_mul_of_pos_right _ (Nat.pow_pos (by omega))) (Nat.le_add_right _ _)
        rw [hnum] at h1
        exact ⟨Nat.le_trans (Nat.le_add_right _ _) h1, h1⟩
      have HN := Lib.hid hnum
      clear hcc hr' hcl hcd hnum HE HU
      generalize num 0 c = m at *
      go_wp2_with fail
      rw [ext_take, HC.out.1]
      refine (HA.out _).mono ?_
      rintro e w1 ⟨rfl, hb1⟩
      have HB1 := Lib.hid hb1; clear hb1
      have hgl : g < wr.heap.size := World.block_lt_of_cell? _ ⟨g, 0, none⟩ hc
      have HM := Lib.hid fun (w2 : World) (hb : Below wr.heap.size wr w2) => make_any w2 m (by omega)
      have hml : (limbs m).length ≤ 640 := Nat.le_trans (limbs_len (k := 1) |>.2 (by rw [pw_succ, pw_zero]; omega)) (by omega)
      have HML := Lib.hid hml; clear hml
      obtain ⟨x, hx⟩ : ∃ x, num 0 u = x := ⟨_, rfl⟩
      rw [hx] at HR HN HBIG ⊢
      clear hx
      have HP := Lib.hid (product_any (w1.alloc (.cells #[.int .u32 (1000000000 : Nat)] 30)) A (some ⟨w1.heap.size, 0, none⟩) (limbs x).length 1 (limbs x) [1000000000] (((HR.out.1.below HB1.out (Nat.le_refl _)).mono HB1.out.size |>.below ((Below.refl _ _).alloc (Nat.le_refl _) _) (Nat.le_refl _)).mono (by simp)) ((arr_one w1 1000000000).rd (by simp)) (limbs_lim _) (Lim.nil.cons (by omega)) (Nat.le_trans HR.out.2 (by omega)) (by simp))
      have e1 : val [1000000000] = 1000000000 := rfl
      rw [limbs_val, e1] at HP
      clear e1
      generalize (limbs x).length = lx at *
      go_wp2_with fail
      refine HP.out.mono ?_
      by_cases f1 : (limbs (x * 1000000000)).length ≤ 640
      · have HF1 := Lib.hid f1; clear f1
        rintro e w2 ⟨hb2, he⟩
        rw [if_pos HF1.out] at he
        obtain ⟨A2, rfl, r2⟩ := he
        have B2 : Below wr.heap.size wr w2 := below_on HB1.out (((Below.refl _ _).alloc (Nat.le_refl _) _).trans (hb2.mono (by simp)))
        have HB2 := Lib.hid B2; have HR2 := Lib.hid r2
        clear B2 hb2 r2
        have HMm := Lib.hid (HM.out w2 HB2.out)
        go_wp2_with fail
        refine HMm.out.mono ?_
        rintro e w3 ⟨hb3, he⟩
        rw [if_pos HML.out] at he
        obtain ⟨A3, rfl, r3⟩ := he
        have HS4 := Lib.hid (sum_any w3 A2 A3 (limbs (x * 1000000000)).length (limbs m).length (limbs (x * 1000000000)) (limbs m) ((HR2.out.below hb3 (Nat.le_refl _)).mono hb3.size) r3 (limbs_lim _) (limbs_lim _) (Nat.le_trans HF1.out (by omega)) (Nat.le_trans HML.out (by omega)))
        rw [limbs_val, limbs_val] at HS4
        have HB3 := Lib.hid (below_on HB2.out hb3)
        clear hb3 r3
        generalize (limbs (x * 1000000000)).length = l1 at *
        generalize (limbs m).length = l2 at *
        go_wp2_with fail
        refine HS4.out.mono ?_
        by_cases f2 : (limbs (x * 1000000000 + m)).length ≤ 640
        · rintro e w4 ⟨hb4, he⟩
          rw [if_pos f2] at he
          obtain ⟨A4, rfl, r4⟩ := he
          have B4 := below_on HB3.out hb4
          have c4 := (B4.cell (p := ⟨g, 0, none⟩) hgl).trans hc
          have z4 := (B4.frozen (p := ⟨g, 0, none⟩) hgl).trans hz
          have HR4 := Lib.hid (And.intro B4 (And.intro r4 f2))
          clear B4 hb4 r4 f2
          go_wp2_with fail
          have e1 : (w4.setCell ⟨g, 0, none⟩ (.string ((⟨r.toArray⟩ : ByteArray).extract k r.length))).cell? ⟨g, 0, none⟩ = some (str r') := by
            rw [World.cell?_setCell_same _ _ _ c4, ext_drop r k _ rfl, HC.out.2]
          refine ⟨⟨u ++ c, r', A4, by rw [HN.out], (hO.trans (Only.of_below HR4.out.1)).setCell 0 _, e1, by rw [World.frozen?_setCell]; exact z4, HE2, ?_, HU2⟩, ?_⟩
          · rw [HN.out]
            refine ⟨(HR4.out.2.1.setOther (fun y h => ?_) _).mono (by simp), HR4.out.2.2⟩
            rw [c4] at h; cases h
          · unfold strLen
            rw [e1, hc]
            have := HC.out.2
            simp only [ByteArray.size, List.size_toArray]
            rw [← this, List.length_drop]
            omega
        · rintro e w4 ⟨hb4, he⟩
          rw [if_neg f2] at he
          subst he
          have HF2 := Lib.hid f2; clear f2
          unfold failed
          go_wp2_with fail
          refine ⟨rfl, ?_⟩
          unfold cutO
          rw [if_neg (fun h => HF2.out (Nat.le_trans (limbs_mono HBIG.out.2) h))]
          exact ⟨hO.trans (Only.of_below (below_on HB3.out hb4)), rfl⟩
      · have HF1 := Lib.hid f1; clear f1
        rintro e w2 ⟨hb2, he⟩
        rw [if_neg HF1.out] at he
        subst he
        unfold failed
        go_wp2_with fail
        refine ⟨rfl, ?_⟩
        unfold cutO
        rw [if_neg (fun h => HF1.out (Nat.le_trans (limbs_mono HBIG.out.1) h))]
        exact ⟨hO.trans (Only.of_below (below_on HB1.out (((Below.refl _ _).alloc (Nat.le_refl _) _).trans (hb2.mono (by simp))))), rfl⟩

end Go.Proofs.YtgcobhlplffpjaaGreatDoor
