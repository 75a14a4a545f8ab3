/- Walks: the reader of a body. -/
import Derived.Test.YtppcdppplbpklaaDoorWq
import Derived.Test.YtppcdppplbpklaaDoorRows
import Derived.Deep.QuietTactic
import Derived.BigQuiet
import Derived.Deep.RegionHeld3
namespace Go.Proofs.YtppcdppplbpklaaDoor
open Go.RowKit

def faultV (p : Int) (e : Int) : Value := .iface 78 (.agg #[.int .i64 p, .int .i64 e])
/-- The reader at block R stands at p in the bytes l (whose slice lies below block R). -/
structure Rdr (w : World) (B R : Nat) (A : Option Addr) (c : Nat) (l : List UInt8) (p : Nat) : Prop where
  blk : Blk w R 81 #[.slice A l.length c, .int .i64 p]
  rd : RdB w B A l
  hB : B ≤ R
  le : p ≤ l.length
  len : l.length ≤ 1000

theorem Rdr.grown {w w' : World} {B R : Nat} {A : Option Addr} {c : Nat} {l : List UInt8} {p : Nat} (h : Rdr w B R A c l p) (hb : Below (R + 1) w w') : Rdr w' B R A c l p :=
  ⟨h.blk.below hb (by omega), (h.rd.shows.below (hb.mono (by have := h.hB; omega))).bytes, h.hB, h.le, h.len⟩

set_option maxHeartbeats 1000000 in
theorem next_none (w : World) (B R : Nat) (A : Option Addr) (c : Nat) (l : List UInt8) (p : Nat) (h : Rdr w B R A c l p) (hp : ¬ p < l.length) :
    Calls Tryd.prog 41 #[.pointer (some ⟨R, 0, none⟩)] w fun e w' => e = .returned (.tuple #[.int .i64 0, faultV p 8]) ∧ Below w.heap.size w w' := by
  have c0 := h.blk.cell 0
  have c1 := h.blk.cell 1
  have hl := h.len
  have hp' : (l.length : Int) ≤ (p : Int) := by omega
  have H := Lib.hid h; clear h
  simp at c0 c1
  go_enter Tryd.func41, Tryd.ntmps41
  go_wp2
  go_quiet (fail)
  go_wp2
  go_quiet (fail)
  go_wp2
  go_ret2
  exact ⟨rfl, below_dN (below_dN (Below.refl _ _) _) _⟩

set_option maxHeartbeats 1000000 in
theorem next_some (w : World) (B R : Nat) (A : Option Addr) (c : Nat) (l : List UInt8) (p : Nat) (h : Rdr w B R A c l p) (hp : p < l.length) :
    Calls Tryd.prog 41 #[.pointer (some ⟨R, 0, none⟩)] w fun e w' => e = .returned (.tuple #[.int .i64 ((l.getD p 0).toNat : Int), .nilIface]) ∧ Rdr w' B R A c l (p + 1) ∧ w.grownBy w' (some R) := by
  have c0 := h.blk.cell 0
  have c1 := h.blk.cell 1
  have f1 := h.blk.frozen 1
  have hl := h.len
  obtain ⟨ad, rfl, hb, hc⟩ := h.rd (by omega)
  have hx := hc p hp
  clear hc
  simp at c0 c1
  have hset : ∀ a : Addr, a.block < B → (w.setCell ⟨R, 1, none⟩ (.int .i64 ((p : Int) + 1))).cell? a = w.cell? a := fun a ha => World.cell?_setCell_other w _ a _ (fun e => by subst e; have := h.hB; simp at ha; omega)
  have hx' := (hset (ad.add p) (by rw [add_block]; exact hb)).trans hx
  have hbs : Blk (w.setCell ⟨R, 1, none⟩ (.int .i64 ((p : Int) + 1))) R 81 #[.slice (some ad) l.length c, .int .i64 ((p + 1 : Nat) : Int)] := by simpa using h.blk.set_ 1 (.int .i64 ((p : Int) + 1))
  have HF : Hid (∀ m n, Rdr (((w.drewN m).setCell ⟨R, 1, none⟩ (.int .i64 ((p : Int) + 1))).drewN n) B R (some ad) c l (p + 1)) := fun m n =>
    ⟨hbs, (h.rd.shows.same hset).bytes, h.hB, by omega, h.len⟩
  have H := Lib.hid h; clear h hset hbs
  have hxb : (l.getD p 0).toNat < 256 := (l.getD p 0).toNat_lt
  generalize (l.getD p 0).toNat = x at *
  go_enter Tryd.func41, Tryd.ntmps41
  go_wp2
  go_quiet (fail)
  go_wp2
  have hxx : ((w.drewN nq).setCell ⟨R, 1, none⟩ (.int .i64 ((p : Int) + 1))).cell? (ad.add p) = some (.int .u8 (x : Int)) := hx'
  have e1 : IntKind.i64.wrap ((p : Int) + 1 - 1) = (p : Int) := by rw [IntWalk.i64_in _ (by omega)]; omega
  have e2 : (0 : Int) ≤ (p : Int) := by omega
  have e3 : (p : Int) < (l.length : Int) := by omega
  go_quiet (fail)
  go_wp2
  go_ret2
  exact ⟨rfl, HF.out _ _, grown_dN (grown_set (grown_dN (grown_refl w _) _) _ _) _⟩
/-- The number whose digits begin the list: its value and how many bytes it takes; at most f digits more, j are read. -/
def numG : Nat → Nat → Nat → List UInt8 → Option (Nat × Nat)
  | 0, _, _, _ => none
  | _ + 1, _, _, [] => none
  | f + 1, j, acc, x :: r =>
    if x.toNat < 128 then (if x.toNat = 0 ∧ 0 < j then none else some (acc + x.toNat % 128 * 2 ^ (7 * j), j + 1))
    else numG f (j + 1) (acc + x.toNat % 128 * 2 ^ (7 * j)) r

theorem drop_cons (l : List UInt8) (p : Nat) (h : p < l.length) : l.drop p = l.getD p 0 :: l.drop (p + 1) := by
  rw [List.drop_eq_getElem_cons h]; simp [List.getD_eq_getElem?_getD, List.getElem?_eq_getElem h]
theorem or_shift (k acc a : Nat) (hk : k ≤ 14) (hacc : acc < 2 ^ k) (ha : a < 128) : bits .or .i64 (acc : Int) ((a * 2 ^ k : Nat) : Int) = ((acc + a * 2 ^ k : Nat) : Int) := by
  have h1 : 2 ^ k ≤ 2 ^ 14 := Nat.pow_le_pow_right (by omega) hk
  have h2 : a * 2 ^ k ≤ 127 * 2 ^ 14 := Nat.mul_le_mul (by omega) h1
  have := i64_or_nat acc (a * 2 ^ k) (by omega) (by omega)
  rw [or_low k acc a hacc] at this
  exact this

/-- How the digits' reader ends: with the number, or with an error of the kind ErrForm. -/
def DigEnd (w : World) (B R : Nat) (A : Option Addr) (c : Nat) (l : List UInt8) (p : Nat) : Option (Nat × Nat) → Ending → World → Prop
  | some (n, j), e, w' => e = .returned (.tuple #[.int .i64 n, .nilIface]) ∧ Rdr w' B R A c l (p + j) ∧ w.grownBy w' (some R)
  | none, e, w' => (∃ q : Int, e = .returned (.tuple #[.int .i64 0, faultV q 8])) ∧ (∃ q, Rdr w' B R A c l q) ∧ w.grownBy w' (some R)

def DigInv (w : World) (B R : Nat) (A : Option Addr) (c : Nat) (l : List UInt8) (p : Nat) (tgt : Option (Nat × Nat)) (n k : Value) (wr : World) : Prop :=
  ∃ (j acc : Nat) (kk : Int), j ≤ 3 ∧ acc < 2 ^ (7 * j) ∧ n = .int .i64 acc ∧ k = .int .i64 kk ∧ Hid (kk = 7 * j) ∧ Rdr wr B R A c l (p + j) ∧ w.grownBy wr (some R) ∧ Hid (numG (3 - j) j acc (l.drop (p + j)) = tgt)

set_option maxRecDepth 100000 in
set_option maxHeartbeats 1000000 in
theorem rdigits_any (w : World) (B R : Nat) (A : Option Addr) (c : Nat) (l : List UInt8) (p : Nat) (h : Rdr w B R A c l p) :
    Calls Tryd.prog 40 #[.pointer (some ⟨R, 0, none⟩)] w fun e w' => DigEnd w B R A c l p (numG 3 0 0 (l.drop p)) e w' := by
  have H0 : Hid (DigInv w B R A c l p (numG 3 0 0 (l.drop p)) (.int .i64 0) (.int .i64 0) w) := ⟨0, 0, 0, by omega, by omega, rfl, rfl, rfl, h, grown_refl _ _, rfl⟩
  clear h
  generalize numG 3 0 0 (l.drop p) = tgt at *
  go_enter Tryd.func40, Tryd.ntmps40
  go_wp2
  go_loopw [4, 5] (fun n k wr => DigInv w B R A c l p tgt n k wr) (fun _ k _ => (21 - intOf k).toNat)
  case atStart => exact H0.out
  case round =>
    obtain ⟨j, acc, kk, hj, hacc, rfl, rfl, HK, hR, hg, HN⟩ := hrel
    by_cases hj3 : j = 3
    · subst hj3
      obtain rfl : kk = 21 := HK.out
      have HT : Hid (tgt = none) := HN.out.symm
      have c1 := hR.blk.cell 1
      simp at c1
      clear HK HN hacc
      have H := Lib.hid hR; clear hR
      go_wp2
      go_quiet (fail)
      go_wp2
      go_ret2
      rw [HT.out]
      exact ⟨⟨_, rfl⟩, ⟨_, ⟨H.out.blk, H.out.rd, H.out.hB, H.out.le, H.out.len⟩⟩, grown_dN hg _⟩
    · by_cases hp : p + j < l.length
      · have hxb : (l.getD (p + j) 0).toNat < 256 := (l.getD (p + j) 0).toNat_lt
        have hnext := next_some wr B R A c l (p + j) hR hp
        rw [drop_cons l (p + j) hp] at HN
        generalize l.getD (p + j) 0 = x8 at *
        have a1 : bits .and .i64 (x8.toNat : Int) 127 = ((x8.toNat % 128 : Nat) : Int) := by
          have := i64_and_nat x8.toNat 127 (by omega) (by omega); rw [show x8.toNat &&& 127 = x8.toNat % 128 from Nat.and_two_pow_sub_one_eq_mod _ 7] at this; exact this
        have ho := or_shift (7 * j) acc (x8.toNat % 128) (by omega) hacc (by omega)
        have hn' : acc + x8.toNat % 128 * 2 ^ (7 * j) < 2 ^ (7 * (j + 1)) := by
          rw [show 7 * (j + 1) = 7 + 7 * j from by omega, Nat.pow_add]
          have : x8.toNat % 128 * 2 ^ (7 * j) ≤ 127 * 2 ^ (7 * j) := Nat.mul_le_mul_right _ (by omega)
          omega
        have HNX := Lib.hid hnext; clear hnext hR
        obtain rfl | rfl | rfl : j = 0 ∨ j = 1 ∨ j = 2 := by omega
        · obtain rfl : kk = 0 := HK.out
          simp only [Nat.mul_zero, Nat.mul_one, Nat.reducePow, Nat.reduceAdd] at ho hn' hacc
          have ho' : bits .or .i64 (acc : Int) ((x8.toNat : Int) % 128) = ((acc + x8.toNat % 128 : Nat) : Int) := by exact_mod_cast ho
          obtain ⟨n2, hn2⟩ : ∃ n2, acc + x8.toNat % 128 = n2 := ⟨_, rfl⟩
          rw [hn2] at ho' hn'
          clear ho
          have Hn2 := Lib.hid hn2; clear hn2
          by_cases hlt : x8.toNat < 128
          · by_cases hx0 : x8.toNat = 0
            · have HT := Lib.hid (show tgt = some (n2, 1) by rw [← HN.out, ← Hn2.out]; simp [numG, hx0])
              have hx0' : ((x8.toNat : Int) == 0) = true := beq_iff_eq.2 (by omega)
              clear HN hx0
              go_wp2_with (go_at_call 41; refine HNX.out.mono ?_; rintro e w2 ⟨rfl, hR2, hg2⟩; have c1 := hR2.blk.cell 1; simp at c1; replace hR2 := Lib.hid hR2)
              go_ret2
              rw [HT.out]
              exact ⟨rfl, hR2.out, grown_step hg hg2 (.inl rfl)⟩
            · have HT := Lib.hid (show tgt = some (n2, 0 + 1) by rw [← HN.out, ← Hn2.out]; simp [numG, hlt, hx0])
              have hx0' : ((x8.toNat : Int) == 0) = false := beq_eq_false_iff_ne.2 (by omega)
              clear HN hx0
              go_wp2_with (go_at_call 41; refine HNX.out.mono ?_; rintro e w2 ⟨rfl, hR2, hg2⟩; replace hR2 := Lib.hid hR2)
              go_ret2
              rw [HT.out]
              exact ⟨rfl, hR2.out, grown_step hg hg2 (.inl rfl)⟩
          · have HN' := Lib.hid (show numG (3 - (0 + 1)) (0 + 1) n2 (List.drop (p + (0 + 1)) l) = tgt by rw [← HN.out, ← Hn2.out]; simp [numG, hlt])
            clear HN
            go_wp2_with (go_at_call 41; refine HNX.out.mono ?_; rintro e w2 ⟨rfl, hR2, hg2⟩; replace hR2 := Lib.hid hR2)
            go_roundw
            case rel => exact ⟨0 + 1, n2, 7, by omega, hn', by go_num, rfl, rfl, hR2.out, grown_step hg hg2 (.inl rfl), HN'⟩
            case measure => simp [intOf]
        · obtain rfl : kk = 7 := HK.out
          simp only [Nat.mul_one, Nat.reducePow, Nat.reduceMul, Nat.reduceAdd] at ho hn' hacc
          have ho' : bits .or .i64 (acc : Int) ((x8.toNat : Int) % 128 * 128) = ((acc + x8.toNat % 128 * 128 : Nat) : Int) := by exact_mod_cast ho
          obtain ⟨n2, hn2⟩ : ∃ n2, acc + x8.toNat % 128 * 128 = n2 := ⟨_, rfl⟩
          rw [hn2] at ho' hn'
          clear ho
          have Hn2 := Lib.hid hn2; clear hn2
          by_cases hlt : x8.toNat < 128
          · by_cases hx0 : x8.toNat = 0
            · have HT := Lib.hid (show tgt = none by rw [← HN.out]; simp [numG, hx0])
              have hx0' : ((x8.toNat : Int) == 0) = true := beq_iff_eq.2 (by omega)
              clear HN hx0
              go_wp2_with (go_at_call 41; refine HNX.out.mono ?_; rintro e w2 ⟨rfl, hR2, hg2⟩; have c1 := hR2.blk.cell 1; simp at c1; replace hR2 := Lib.hid hR2)
              go_quiet (fail)
              go_wp2
              go_ret2
              rw [HT.out]
              exact ⟨⟨_, rfl⟩, ⟨_, ⟨hR2.out.blk, hR2.out.rd, hR2.out.hB, hR2.out.le, hR2.out.len⟩⟩, grown_dN (grown_step hg hg2 (.inl rfl)) _⟩
            · have HT := Lib.hid (show tgt = some (n2, 1 + 1) by rw [← HN.out, ← Hn2.out]; simp [numG, hlt, hx0])
              have hx0' : ((x8.toNat : Int) == 0) = false := beq_eq_false_iff_ne.2 (by omega)
              clear HN hx0
              go_wp2_with (go_at_call 41; refine HNX.out.mono ?_; rintro e w2 ⟨rfl, hR2, hg2⟩; replace hR2 := Lib.hid hR2)
              go_ret2
              rw [HT.out]
              exact ⟨rfl, hR2.out, grown_step hg hg2 (.inl rfl)⟩
          · have HN' := Lib.hid (show numG (3 - (1 + 1)) (1 + 1) n2 (List.drop (p + (1 + 1)) l) = tgt by rw [← HN.out, ← Hn2.out]; simp [numG, hlt])
            clear HN
            go_wp2_with (go_at_call 41; refine HNX.out.mono ?_; rintro e w2 ⟨rfl, hR2, hg2⟩; replace hR2 := Lib.hid hR2)
            go_roundw
            case rel => exact ⟨1 + 1, n2, 14, by omega, hn', by go_num, rfl, rfl, hR2.out, grown_step hg hg2 (.inl rfl), HN'⟩
            case measure => simp [intOf]
        · obtain rfl : kk = 14 := HK.out
          simp only [Nat.reducePow, Nat.reduceMul, Nat.reduceAdd] at ho hn' hacc
          have ho' : bits .or .i64 (acc : Int) ((x8.toNat : Int) % 128 * 16384) = ((acc + x8.toNat % 128 * 16384 : Nat) : Int) := by exact_mod_cast ho
          obtain ⟨n2, hn2⟩ : ∃ n2, acc + x8.toNat % 128 * 16384 = n2 := ⟨_, rfl⟩
          rw [hn2] at ho' hn'
          clear ho
          have Hn2 := Lib.hid hn2; clear hn2
          by_cases hlt : x8.toNat < 128
          · by_cases hx0 : x8.toNat = 0
            · have HT := Lib.hid (show tgt = none by rw [← HN.out]; simp [numG, hx0])
              have hx0' : ((x8.toNat : Int) == 0) = true := beq_iff_eq.2 (by omega)
              clear HN hx0
              go_wp2_with (go_at_call 41; refine HNX.out.mono ?_; rintro e w2 ⟨rfl, hR2, hg2⟩; have c1 := hR2.blk.cell 1; simp at c1; replace hR2 := Lib.hid hR2)
              go_quiet (fail)
              go_wp2
              go_ret2
              rw [HT.out]
              exact ⟨⟨_, rfl⟩, ⟨_, ⟨hR2.out.blk, hR2.out.rd, hR2.out.hB, hR2.out.le, hR2.out.len⟩⟩, grown_dN (grown_step hg hg2 (.inl rfl)) _⟩
            · have HT := Lib.hid (show tgt = some (n2, 2 + 1) by rw [← HN.out, ← Hn2.out]; simp [numG, hlt, hx0])
              have hx0' : ((x8.toNat : Int) == 0) = false := beq_eq_false_iff_ne.2 (by omega)
              clear HN hx0
              go_wp2_with (go_at_call 41; refine HNX.out.mono ?_; rintro e w2 ⟨rfl, hR2, hg2⟩; replace hR2 := Lib.hid hR2)
              go_ret2
              rw [HT.out]
              exact ⟨rfl, hR2.out, grown_step hg hg2 (.inl rfl)⟩
          · have HN' := Lib.hid (show numG (3 - (2 + 1)) (2 + 1) n2 (List.drop (p + (2 + 1)) l) = tgt by rw [← HN.out, ← Hn2.out]; simp [numG, hlt])
            clear HN
            go_wp2_with (go_at_call 41; refine HNX.out.mono ?_; rintro e w2 ⟨rfl, hR2, hg2⟩; replace hR2 := Lib.hid hR2)
            go_roundw
            case rel => exact ⟨2 + 1, n2, 21, by omega, hn', by go_num, rfl, rfl, hR2.out, grown_step hg hg2 (.inl rfl), HN'⟩
            case measure => simp [intOf]
      · have HNX := Lib.hid (next_none wr B R A c l (p + j) hR hp)
        have HT := Lib.hid (show tgt = none by
          rw [← HN.out, List.drop_eq_nil_of_le (by omega)]
          obtain ⟨f, hf⟩ : ∃ f, 3 - j = f + 1 := ⟨2 - j, by omega⟩
          rw [hf]; rfl)
        have hkk : kk < 21 := by have := HK.out; omega
        have hsz := hR.blk.lt
        have H := Lib.hid hR; clear hR HN HK
        go_wp2_with (go_at_call 41; refine HNX.out.mono ?_; rintro e w2 ⟨rfl, hb2⟩; unfold faultV)
        go_ret2
        rw [HT.out]
        exact ⟨⟨_, rfl⟩, ⟨_, H.out.grown (hb2.mono (by omega))⟩, grown_step hg (grown_below hb2 _) (.inl rfl)⟩
end Go.Proofs.YtppcdppplbpklaaDoor
