/- Walk: the law WireTruncated answers true. -/
import Derived.Test.YtppcdppplbpklaaDoorLa
import Derived.Test.YtppcdppplbpklaaDoorWn
namespace Go.Proofs.YtppcdppplbpklaaDoor
open Go.RowKit

def TrRel (w : World) (g : Nat) (n : Nat) (F : List UInt8) (i : Value) (wx : World) : Prop := ∃ k : Nat, k ≤ n ∧ i = .int .i64 k ∧ Below w.heap.size w wx ∧ RdB wx wx.heap.size (some ⟨g, 0, none⟩) F

set_option maxRecDepth 100000 in
set_option maxHeartbeats 2000000 in
theorem truncated_any (m : Msg) (w : World) (hN : Nibs w) (hE : ErrT w) :
    Calls Tryd.prog 5 #[.agg m.cells] w fun e w' => e = .returned (.bool true) ∧ Below w.heap.size w w' := by
  have HN := Lib.hid hN
  have HE := Lib.hid hE
  clear hN hE
  have B1 := Blk.new w 25 m.cells
  have b0 := alloc_below w (.cells m.cells 25)
  have hhd := head_any _ (HN.out.below b0) (HE.out.below b0)
  go_enter Tryd.func5, Tryd.ntmps5
  go_wp2_with fail
  refine hhd.mono ?_
  clear hhd
  rintro e w1 ⟨rfl, b1⟩
  replace B1 := B1.on b1
  replace b0 := below_on b0 b1
  clear b1
  by_cases hm : m.ok = true
  · have HS := Lib.hid (dec_short m hm)
    have HF := Lib.hid (frame_length m)
    have hle : m.frame.length ≤ 16 := by have := body_bounds m hm; rw [HF.out]; omega
    have he := encode_yes m
    generalize m.frame = F at *
    obtain ⟨n, hn⟩ : ∃ n, F.length = n := ⟨_, rfl⟩
    rw [hn] at hle he
    have HLn := Lib.hid hn
    clear hn
    go_wp2_with (refine wpList_get rfl 25 (.tmp 1) rfl _ rfl _ _ _ B1 Tryd.underlying25 rfl msg_size ?_)
    refine (he _ hm (HN.out.below b0)).mono ?_
    clear he
    rintro e w2 ⟨g, cap, rfl, hcap, r3, b1⟩
    replace b0 := below_on b0 b1
    clear b1 B1
    go_wp2_with fail
    go_loopw [6] (fun i wx => TrRel w g n F i wx) (fun i _ => n - (intOf i).toNat)
    case atStart => exact ⟨0, Nat.zero_le _, rfl, b0, r3⟩
    case round =>
      clear b0 r3
      obtain ⟨k, hk, rfl, b0, r3⟩ := hrel
      by_cases hlt : k < n
      · have hltI : (k : Int) < (n : Int) := by omega
        have hkc : k ≤ cap := by omega
        have hd := decode_no _ _ cap (F.take k) 12 (HS.out k (by rw [HLn.out]; omega)) (r3.take_ k) (by rw [List.length_take]; simp only [maxLen]; omega) (by rw [List.length_take]; omega) (HN.out.below b0) (HE.out.below b0)
        rw [List.length_take, HLn.out, Nat.min_eq_left hk] at hd
        have HD := Lib.hid hd
        clear hd
        go_wp2_with fail
        refine HD.out.mono ?_
        rintro e w6 ⟨rfl, b1⟩
        replace r3 := r3.on b1
        replace b0 := below_on b0 b1
        clear b1 HD
        go_wp2_with (first
          | (refine wpList_put rfl 25 (.tmp 7) (.tmp 35) rfl _ _ rfl rfl _ _ (Blk.new _ _ _) msg_size rfl (cells_one Msg.zero) ?_; intro w7 B10 q7 s7; replace s7 := Lib.hid s7))
        replace r3 := r3.on (put_below q7)
        replace b0 := below_on b0 (put_below q7)
        go_roundw
        case rel => exact ⟨k + 1, by omega, by go_num, b0, r3⟩
        case measure => simp [intOf]; omega
      · have hlt' : ¬ (k : Int) < (n : Int) := by omega
        go_wp2_with fail
        go_ret
        exact ⟨rfl, b0⟩
  · have hm' : m.ok = false := by simpa using hm
    go_wp2_with (refine wpList_get rfl 25 (.tmp 1) rfl _ rfl _ _ _ B1 Tryd.underlying25 rfl msg_size ?_)
    refine (encode_bad m _ hm').mono ?_
    rintro e w2 ⟨rfl, b1⟩
    replace b0 := below_on b0 b1
    clear b1 B1
    go_wp2_with fail
    go_ret
    exact ⟨rfl, b0⟩
end Go.Proofs.YtppcdppplbpklaaDoor
