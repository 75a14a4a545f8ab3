/- Walk: the law WireSums answers true. -/
import Derived.Test.YtppcdppplbpklaaDoorLa
import Derived.Test.YtppcdppplbpklaaDoorWn
import Derived.Test.YtppcdppplbpklaaDoorWo
namespace Go.Proofs.YtppcdppplbpklaaDoor
open Go.RowKit

theorem min4 (la lb lc n : Nat) (h : n = min (min (min la lb) lc) 10000) (ts : Array TypeId) (t : TypeId) (w : World) :
    (Builtin.min_ ts t #[.int .i64 (la : Int), .int .i64 (lb : Int), .int .i64 (lc : Int), .int .i64 10000]).run Tryd.prog w = .ok (.int .i64 (n : Int)) w := by
  have e : (if (10000 : Int) < (if (lc : Int) < (if (lb : Int) < (la : Int) then (lb : Int) else la) then (lc : Int) else (if (lb : Int) < (la : Int) then (lb : Int) else la)) then 10000 else (if (lc : Int) < (if (lb : Int) < (la : Int) then (lb : Int) else la) then (lc : Int) else (if (lb : Int) < (la : Int) then (lb : Int) else la))) = (n : Int) := by
    subst h
    repeat' split
    all_goals omega
  rw [← e]
  simp [Builtin.min_, Builtin.min2]

/-- The slice at A of n bytes has the checksum v. -/
def SumOf (w : World) (A : Option Addr) (n : Nat) (v : Nat) : Prop := ∃ l : List UInt8, l.length = n ∧ RdB w w.heap.size A l ∧ l.length ≤ maxLen ∧ crcSum l = v
theorem sum_of {w : World} {A : Option Addr} {n v : Nat} (h : SumOf w A n v) (hN : Nibs w) (k cap : Nat) :
    Calls Tryd.prog 16 #[.slice A n cap] (w.drewN k) fun e w' => e = .returned (.int .u32 (v : Int)) ∧ ∃ n', w' = (w.drewN k).drewN n' := by
  obtain ⟨l, rfl, hr, hl, rfl⟩ := h
  refine (sum_any (w.drewN k) _ A cap l hr hl hN).mono ?_
  rintro e w' ⟨rfl, rfl⟩
  exact ⟨rfl, 0, rfl⟩

def xor3 (a b c : List UInt8) : List UInt8 := (a.zip (b.zip c)).map fun x => x.1 ^^^ x.2.1 ^^^ x.2.2
theorem xor3_take (a b c : List UInt8) (k : Nat) (ha : k < a.length) (hb : k < b.length) (hc : k < c.length) :
    xor3 (a.take (k + 1)) (b.take (k + 1)) (c.take (k + 1)) = xor3 (a.take k) (b.take k) (c.take k) ++ [a.getD k 0 ^^^ b.getD k 0 ^^^ c.getD k 0] := by
  rw [take_snoc a k ha, take_snoc b k hb, take_snoc c k hc]
  unfold xor3
  rw [List.zip_append (by simp; omega), List.zip_append (by simp; omega), List.map_append]
  rfl
theorem xor3_len (a b c : List UInt8) (k : Nat) (ha : k ≤ a.length) (hb : k ≤ b.length) (hc : k ≤ c.length) : (xor3 (a.take k) (b.take k) (c.take k)).length = k := by
  unfold xor3
  simp only [List.length_map, List.length_zip, List.length_take]
  omega

def SuRel (w : World) (base : Nat) (a b c : List UInt8) (n : Nat) (d i : Value) (wx : World) : Prop :=
  ∃ k : Nat, k ≤ n ∧ i = .int .i64 k ∧ Below w.heap.size w wx ∧ base ≤ wx.heap.size ∧ OwnB wx base d (xor3 (a.take k) (b.take k) (c.take k))

set_option maxRecDepth 100000 in
set_option maxHeartbeats 4000000 in
theorem sums_any (a b c : List UInt8) (A B C : Option Addr) (ca cb cc : Nat) (w : World) (ra : RdB w w.heap.size A a) (rb : RdB w w.heap.size B b) (rc : RdB w w.heap.size C c)
    (la : a.length ≤ 140737488351232) (lb : b.length ≤ 140737488351232) (lc : c.length ≤ 140737488351232) (hca : a.length ≤ ca) (hcb : b.length ≤ cb) (hcc : c.length ≤ cc) (hN : Nibs w) (hE : ErrT w) :
    Calls Tryd.prog 7 #[.slice A a.length ca, .slice B b.length cb, .slice C c.length cc] w fun e w' => e = .returned (.bool true) ∧ Below w.heap.size w w' := by
  have HN := Lib.hid hN
  have HE := Lib.hid hE
  clear hN hE
  have hhd := head_any w HN.out HE.out
  obtain ⟨n, hn⟩ : ∃ n, n = min (min (min a.length b.length) c.length) 10000 := ⟨_, rfl⟩
  have hmin := min4 a.length b.length c.length n hn
  have na : n ≤ a.length := by omega
  have nb : n ≤ b.length := by omega
  have nc : n ≤ c.length := by omega
  have nk : n ≤ 10000 := by omega
  have HRA := Lib.hid ra
  have HRB := Lib.hid rb
  have HRC := Lib.hid rc
  clear ra rb rc hn
  go_enter Tryd.func7, Tryd.ntmps7
  go_wp2_with fail
  refine hhd.mono ?_
  clear hhd
  rintro e w1 ⟨rfl, b1⟩
  have HB1 := Lib.hid b1
  have hsz1 := b1.size
  clear b1
  go_wp2_with fail
  clear hmin
  go_loopw [9, 10] (fun d i wx => SuRel w w1.heap.size a b c n d i wx) (fun _ i _ => n - (intOf i).toNat)
  case atStart => exact ⟨0, Nat.zero_le _, rfl, HB1.out, Nat.le_refl _, ⟨rfl, Or.inl ⟨rfl, rfl⟩⟩⟩
  case round =>
    obtain ⟨k, hk, rfl, b0, hbs, od⟩ := hrel
    by_cases hlt : k < n
    · have hltI : (k : Int) < (n : Int) := by omega
      have hlA : (k : Int) < (a.length : Int) := by omega
      have hlB : (k : Int) < (b.length : Int) := by omega
      have hlC : (k : Int) < (c.length : Int) := by omega
      have hk0 : (0 : Int) ≤ (k : Int) := by omega
      obtain ⟨ad, rfl, had, hx⟩ := HRA.out (by omega)
      obtain ⟨bd, rfl, hbd, hy⟩ := HRB.out (by omega)
      obtain ⟨cd, rfl, hcd, hz⟩ := HRC.out (by omega)
      have kx := (b0.cell (p := ad.add k) (by rw [add_block]; exact had)).trans (hx k (by omega))
      have ky := (b0.cell (p := bd.add k) (by rw [add_block]; exact hbd)).trans (hy k (by omega))
      have kz := (b0.cell (p := cd.add k) (by rw [add_block]; exact hcd)).trans (hz k (by omega))
      have fa : (ad.add k).block < w.heap.size := by rw [add_block]; exact had
      have fb : (bd.add k).block < w.heap.size := by rw [add_block]; exact hbd
      have fc : (cd.add k).block < w.heap.size := by rw [add_block]; exact hcd
      have hX := Lib.hid (xor3_take a b c k (by omega) (by omega) (by omega))
      have hXl := xor3_len a b c k (by omega) (by omega) (by omega)
      have e1 := u8_xor_nat (a.getD k 0).toNat (b.getD k 0).toNat (UInt8.toNat_lt _) (UInt8.toNat_lt _)
      have e2 := u8_xor_nat (a.getD k 0 ^^^ b.getD k 0).toNat (c.getD k 0).toNat (UInt8.toNat_lt _) (UInt8.toNat_lt _)
      rw [← UInt8.toNat_xor] at e1 e2
      clear hx hy hz had hbd hcd
      generalize xor3 (a.take k) (b.take k) (c.take k) = X at *
      obtain ⟨x, hx⟩ : ∃ x, x = a.getD k 0 := ⟨_, rfl⟩
      obtain ⟨y, hy⟩ : ∃ y, y = b.getD k 0 := ⟨_, rfl⟩
      obtain ⟨z, hz⟩ : ∃ z, z = c.getD k 0 := ⟨_, rfl⟩
      rw [← hx, ← hy] at e1
      rw [← hx, ← hy, ← hz] at e2
      rw [← hx] at kx
      rw [← hy] at ky
      rw [← hz] at kz
      rw [← hx, ← hy, ← hz] at hX
      clear hx hy hz
      obtain ⟨xy, hxy⟩ : ∃ xy, xy = x ^^^ y := ⟨_, rfl⟩
      rw [← hxy] at e1 e2 hX
      obtain ⟨q, hq⟩ : ∃ q, q = xy ^^^ z := ⟨_, rfl⟩
      rw [← hq] at e2 hX
      clear hxy hq
      have hob := od.block
      have HXL := Lib.hid hXl
      have hXk : X.length ≤ 10000 := by omega
      clear hXl
      go_wp2
      go_region_held3 (fun w' => w'.cell? (ad.add k) = some (.int .u8 (x.toNat : Int)) ∧ w'.cell? (bd.add k) = some (.int .u8 (y.toNat : Int)) ∧ w'.cell? (cd.add k) = some (.int .u8 (z.toNat : Int)))
        (first
          | go_keep
          | (go_split_ands; refine ⟨?_, ?_, ?_⟩ <;> (rw [hg4.cell_far _ (by simp; omega) (fun e => by have := hob _ e.symm; omega)]; assumption)))
        ((refine step_appb _ (by rfl) _ _ (by rfl) w1.heap.size u9 X.length (bcells X) (by rfl) (World.ownsRow.alloc od _).drew (wr.heap.size + 1) (some ⟨wr.heap.size, 0, none⟩) 1 1 [.int .u8 (q.toNat : Int)] (by rfl) (shows_new wr #[.int .u8 (q.toNat : Int)] _ 1 1 rfl).drew (by simp [Value.oneCell']) (by omega) (by simp; omega) ?_; intro v4 w4 hown4 hg4 hat4))
      go_wp2
      go_roundw
      case rel =>
        refine ⟨k + 1, by omega, by go_num, ?_, ?_, ?_⟩
        · exact (b0.alloc b0.size _).drew.grown hg4 (b0.alloc b0.size _).drew.size (fun g hg => by have := hob g hg; omega)
        · have := hg4.size; simp at this; omega
        · rw [hX.out]; exact OwnB.snoc hown4 rfl rfl
      case measure => simp [intOf]; omega
    · obtain rfl : k = n := by omega
      obtain ⟨D, dn, dc, rfl⟩ : ∃ D dn dc, u9 = Value.slice D dn dc := by
        rcases od.2 with ⟨h, _⟩ | ⟨_, _, _, h, _⟩
        · exact ⟨_, _, _, h⟩
        · exact ⟨_, _, _, h⟩
      have hxl := xor3_len a b c k na nb nc
      have hsum := crcSum_xor (a.take k) (b.take k) (c.take k) (by rw [List.length_take, List.length_take]; omega) (by rw [List.length_take, List.length_take]; omega)
      have s0 : SumOf wr D dn _ := ⟨_, od.rd.2.symm, od.rd.1, by rw [hxl]; simp only [maxLen]; omega, rfl⟩
      have s1 : SumOf wr A k _ := ⟨a.take k, by rw [List.length_take]; omega, ((HRA.out.below b0).wider b0.size).take_ k, by rw [List.length_take]; simp only [maxLen]; omega, rfl⟩
      have s2 : SumOf wr B k _ := ⟨b.take k, by rw [List.length_take]; omega, ((HRB.out.below b0).wider b0.size).take_ k, by rw [List.length_take]; simp only [maxLen]; omega, rfl⟩
      have s3 : SumOf wr C k _ := ⟨c.take k, by rw [List.length_take]; omega, ((HRC.out.below b0).wider b0.size).take_ k, by rw [List.length_take]; simp only [maxLen]; omega, rfl⟩
      have l1 := crcSum_lt (a.take k)
      have l2 := crcSum_lt (b.take k)
      have l3 := crcSum_lt (c.take k)
      change crcSum (xor3 (a.take k) (b.take k) (c.take k)) = _ at hsum
      generalize crcSum (xor3 (a.take k) (b.take k) (c.take k)) = u0 at *
      generalize crcSum (a.take k) = u1 at *
      generalize crcSum (b.take k) = u2 at *
      generalize crcSum (c.take k) = u3 at *
      have e1 := u32_xor_nat u1 u2 l1 l2
      have e2 := u32_xor_nat (u1 ^^^ u2) u3 (Nat.xor_lt_two_pow (n := 32) l1 l2) l3
      rw [← hsum] at e2
      generalize u1 ^^^ u2 = u12 at *
      have HN2 := HN.out.below b0
      have S0 := Lib.hid (fun kk cap => sum_of s0 HN2 kk cap)
      have S1 := Lib.hid (fun kk cap => sum_of s1 HN2 kk cap)
      have S2 := Lib.hid (fun kk cap => sum_of s2 HN2 kk cap)
      have S3 := Lib.hid (fun kk cap => sum_of s3 HN2 kk cap)
      have HB0 := Lib.hid b0
      have kA : (k : Int) ≤ (ca : Int) := by omega
      have kB : (k : Int) ≤ (cb : Int) := by omega
      have kC : (k : Int) ≤ (cc : Int) := by omega
      clear hsum s0 s1 s2 s3 l1 l2 l3 HN2 b0 hxl od hlt
      go_wp2
      go_quiet (first | (with_reducible exact Calls.quiet_of (S0.out _ _)) | (with_reducible exact Calls.quiet_of (S1.out _ _)) | (with_reducible exact Calls.quiet_of (S2.out _ _)) | (with_reducible exact Calls.quiet_of (S3.out _ _)))
      go_wp2
      go_ret
      exact ⟨rfl, below_dN HB0.out _⟩
end Go.Proofs.YtppcdppplbpklaaDoor
