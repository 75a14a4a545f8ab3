/- Walks: the reference's frame, Encode and Number. -/
import Derived.Test.YtppcdppplbpklaaDoorYe

namespace Go.Proofs.YtppcdppplbpklaaDoor
open Go.RowKit

/-- The frame with a body. -/
def frameOf (b : List UInt8) : List UInt8 := withSum (UInt8.ofNat b.length :: b)

set_option maxRecDepth 100000 in
set_option maxHeartbeats 2000000 in
theorem rframe_any (w : World) (A : Option Addr) (c : Nat) (l : List UInt8) (h : RdB w w.heap.size A l) (hl : l.length ≤ 200) :
    Calls Tryd.prog 29 #[.slice A l.length c] w fun e w' => ∃ v, e = .returned v ∧ OwnB w' w.heap.size v (frameOf l) ∧ Below w.heap.size w w' := by
  have s0 := h.shows.alloc (Nat.le_refl _) (.cells #[.int .u8 (l.length : Int)] 5)
  have HX := Lib.hid (show bcells [UInt8.ofNat l.length] = [.int .u8 (l.length : Int)] by
    simp only [bcells, List.map_cons, List.map_nil]
    rw [← bcell_ofNat l.length (by omega)])
  have ol := own_lit w w.heap.size (Nat.le_refl _) #[.int .u8 (l.length : Int)] [UInt8.ofNat l.length] HX.out.symm (by simp)
  change OwnB _ _ (.slice (some ⟨w.heap.size, 0, none⟩) 1 1) _ at ol
  have HB := Lib.hid (alloc_below w (.cells #[.int .u8 (l.length : Int)] 5))
  clear h
  have HF := Lib.hid (show frameOf l = withSum (UInt8.ofNat l.length :: l) from rfl)
  generalize hz : [UInt8.ofNat l.length] = Z at *
  have hZ : Z.length = 1 := by rw [← hz]; rfl
  have hZl := Lib.hid (show Z ++ l = UInt8.ofNat l.length :: l by rw [← hz]; rfl)
  obtain ⟨n, hn⟩ : ∃ n, l.length = n := ⟨_, rfl⟩
  rw [hn] at s0 hl HB ol ⊢
  have HN := Lib.hid hn
  replace hZ := Lib.hid hZ
  clear hz hn
  go_enter Tryd.func29, Tryd.ntmps29
  go_wp2_with (at_builtin; refine wpList_appb _ rfl (.tmp 8) (.tmp 9) rfl w.heap.size _ _ _ rfl ol _ A _ c _ rfl s0 (bcells_one _) (by rw [hZ.out]; omega) (by simp) ?_; intro v4 w4 ho4 hg4 ha4; have o4 : OwnB w4 w.heap.size v4 (Z ++ l) := OwnB.snoc ho4 rfl HN.out.symm; have b4 : Below w.heap.size w w4 := HB.out.grown hg4 HB.out.size (fun g hg => ol.block g hg); rw [hZl.out] at o4; obtain ⟨A4, c4, rfl, hc4, r4⟩ := o4.sl_; clear ho4 hg4 ha4 ol s0 HB)
  have hsum := rsum_any w4 _ A4 c4 (UInt8.ofNat l.length :: l) r4 (by rw [List.length_cons, HN.out]; simp only [maxLen]; omega)
  have hlt : crcSum (UInt8.ofNat l.length :: l) < 4294967296 := crcSum_lt _
  have HFF := Lib.hid (show frameOf l = (UInt8.ofNat l.length :: l) ++ be32 (crcSum (UInt8.ofNat l.length :: l)) from rfl)
  have hLL : (UInt8.ofNat l.length :: l).length = n + 1 := by rw [List.length_cons, HN.out]
  clear HF
  generalize UInt8.ofNat l.length :: l = L at *
  generalize crcSum L = q at *
  rw [hLL] at hsum o4
  rw [HN.out]
  replace hLL := Lib.hid hLL
  have a1 : bits .and .u32 ((q : Int) / 65536) 255 = (q : Int) / 65536 % 256 := by
    have h := u32_and_nat (q / 65536) 255 (by omega) (by omega)
    rw [show (q / 65536) &&& 255 = q / 65536 % 256 from Nat.and_two_pow_sub_one_eq_mod _ 8, show ((q / 65536 : Nat) : Int) = (q : Int) / 65536 from by omega] at h
    rw [show (q : Int) / 65536 % 256 = ((q / 65536 % 256 : Nat) : Int) from by omega]
    exact h
  have a2 : bits .and .u32 ((q : Int) / 256) 255 = (q : Int) / 256 % 256 := by
    have h := u32_and_nat (q / 256) 255 (by omega) (by omega)
    rw [show (q / 256) &&& 255 = q / 256 % 256 from Nat.and_two_pow_sub_one_eq_mod _ 8, show ((q / 256 : Nat) : Int) = (q : Int) / 256 from by omega] at h
    rw [show (q : Int) / 256 % 256 = ((q / 256 % 256 : Nat) : Int) from by omega]
    exact h
  have a3 : bits .and .u32 (q : Int) 255 = (q : Int) % 256 := by
    have h := u32_and_nat q 255 (by omega) (by omega)
    rw [show q &&& 255 = q % 256 from Nat.and_two_pow_sub_one_eq_mod _ 8] at h
    rw [show (q : Int) % 256 = ((q % 256 : Nat) : Int) from by omega]
    exact h
  have HBE := Lib.hid (be32_cells q hlt)
  refine hsum.mono ?_
  rintro e w5 ⟨rfl, rfl⟩
  clear hsum
  have hsh := shows_new w4 #[.int .u8 ((q : Int) / 16777216), .int .u8 ((q : Int) / 65536 % 256), .int .u8 ((q : Int) / 256 % 256), .int .u8 ((q : Int) % 256)] 5 4 1 rfl
  have o5 := World.ownsRow.alloc o4 (.cells #[.int .u8 ((q : Int) / 16777216), .int .u8 ((q : Int) / 65536 % 256), .int .u8 ((q : Int) / 256 % 256), .int .u8 ((q : Int) % 256)] 5)
  go_wp2_with (at_builtin; go_must (refine wpList_appb _ rfl (.tmp 13) (.tmp 28) rfl w.heap.size _ _ _ rfl o5 _ _ 4 4 _ rfl hsh (by simp [Value.oneCell']) (by rw [hLL.out]; omega) (by have := b4.size; simp; omega) ?_); intro v6 w6 ho6 hg6 ha6)
  go_ret
  refine ⟨v6, rfl, ?_, (b4.alloc b4.size _).grown hg6 (b4.alloc b4.size _).size (fun g hg => o4.block g hg)⟩
  rw [HFF.out]
  exact OwnB.snoc ho6 HBE.out rfl
end Go.Proofs.YtppcdppplbpklaaDoor
