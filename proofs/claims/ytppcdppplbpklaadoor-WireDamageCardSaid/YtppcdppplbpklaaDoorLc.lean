/- Walk: the law WireDamage answers true. -/
import Derived.Test.YtppcdppplbpklaaDoorLa
import Derived.Test.YtppcdppplbpklaaDoorWn
import Derived.Test.YtppcdppplbpklaaDoorWo
namespace Go.Proofs.YtppcdppplbpklaaDoor
open Go.RowKit

set_option maxRecDepth 100000 in
set_option maxHeartbeats 2000000 in
theorem damage_any (m : Msg) (a : Nat) (ch : UInt8) (ha : a < 18446744073709551616) (w : World) (hN : Nibs w) (hE : ErrT w) :
    Calls Tryd.prog 4 #[.agg m.cells, .int .u64 (a : Int), .int .u8 (ch.toNat : Int)] w fun e w' => e = .returned (.bool true) ∧ Below w.heap.size w w' := by
  have HN := Lib.hid hN
  have HE := Lib.hid hE
  clear hN hE
  have B1 := Blk.new w 25 m.cells
  have b0 := alloc_below w (.cells m.cells 25)
  have hhd := head_any _ (HN.out.below b0) (HE.out.below b0)
  go_enter Tryd.func4, Tryd.ntmps4
  go_wp2_with fail
  refine hhd.mono ?_
  clear hhd
  rintro e w1 ⟨rfl, b1⟩
  replace B1 := B1.on b1
  replace b0 := below_on b0 b1
  clear b1
  by_cases hm : m.ok = true
  · have HS := Lib.hid (dec_damaged m hm)
    have hle : 0 < m.frame.length ∧ m.frame.length ≤ 16 := by have := body_bounds m hm; rw [frame_length]; omega
    have he := encode_yes m
    generalize m.frame = F at *
    obtain ⟨n, hn⟩ : ∃ n, F.length = n := ⟨_, rfl⟩
    rw [hn] at hle he
    have HLn := Lib.hid hn
    clear hn
    obtain ⟨hpos, hle⟩ := hle
    go_wp2_with (refine wpList_get rfl 25 (.tmp 3) rfl _ rfl _ _ _ B1 Tryd.underlying25 rfl msg_size ?_)
    refine (he _ hm (HN.out.below b0)).mono ?_
    clear he
    rintro e w3 ⟨g, cap, rfl, hcap, r3, b1⟩
    replace b0 := below_on b0 b1
    clear b1 B1
    have q0 : ((n : Int) == 0) = false := beq_eq_false_iff_ne.2 (by omega)
    by_cases hc : ch = 0
    · subst hc
      go_wp2_with fail
      all_goals (go_ret; exact ⟨rfl, b0⟩)
    · have q1 : ((ch.toNat : Int) == 0) = false := beq_eq_false_iff_ne.2 (by
        intro e; apply hc; rw [← UInt8.toNat_inj]; show ch.toNat = 0; omega)
      have HC := Lib.hid hc
      have hcl : ch.toNat < 256 := ch.toNat_lt
      clear hc
      have s3 := (r3.below (alloc_below w3 (.cells #[] 5))).shows
      have hown := empty_own w3 (w3.heap.size) (Nat.le_refl _)
      have HLn' := Lib.hid (show F.length = n from HLn.out)
      rw [HLn.out] at s3
      have k0 : a % n < n := Nat.mod_lt _ hpos
      obtain ⟨k, hk⟩ : ∃ k, a % n = k := ⟨_, rfl⟩
      rw [hk] at k0
      have hx := (F.getD k 0).toNat_lt
      have HX := Lib.hid (show (F.getD k 0).toNat ^^^ ch.toNat = (F.getD k 0 ^^^ ch).toNat from (UInt8.toNat_xor _ _).symm)
      obtain ⟨x, hxx⟩ : ∃ x, (F.getD k 0).toNat = x := ⟨_, rfl⟩
      have HXX := Lib.hid hxx
      rw [hxx] at hx HX
      clear hxx
      obtain ⟨y, hy⟩ : ∃ y, F.getD k 0 ^^^ ch = y := ⟨_, rfl⟩
      have HY := Lib.hid hy
      have e1 := u8_xor_nat x ch.toNat hx hcl
      rw [HX.out, hy] at e1
      clear hy
      go_wp2_with (first
        | (at_builtin; refine wpList_appb _ rfl (.tmp 33) (.tmp 34) rfl w3.heap.size _ _ _ rfl hown _ _ _ _ _ rfl s3 (bcells_one _) (by simp; omega) (by simp) ?_; intro v4 w4 ho4 hg4 ha4; have o4 : OwnB w4 w3.heap.size v4 F := OwnB.snoc (l := []) (m := F) ho4 rfl HLn'.out.symm; have b4 : Below w3.heap.size w3 w4 := (alloc_below w3 _).grown hg4 (by simp) (fun k hk => hown.block k hk); clear ho4 hg4 ha4 s3 hown; obtain ⟨g5, c5, rfl, hg5, hlt5, hc5⟩ := o4.form_ (by rw [HLn'.out]; omega); rw [HLn'.out] at o4 hc5 ⊢; obtain ⟨p5, p6⟩ := o4.cell k (by rw [HLn'.out]; exact k0); rw [HXX.out] at p5))
      have o5 := o4.set k y
      have b5 := set_below b4 hg5 k (.int .u8 (y.toNat : Int))
      replace b0 := below_on b0 b5
      have hne : y ≠ F.getD k 0 := by
        intro e
        rw [← HY.out] at e
        apply HC.out
        have e2 := congrArg (fun z => F.getD k 0 ^^^ z) e
        simpa [← UInt8.xor_assoc] using e2
      obtain ⟨e0, he0⟩ : ∃ e0, decErr (F.set k y) = e0 := ⟨_, rfl⟩
      have he1 : e0 ≠ 0 := by rw [← he0]; exact decErr_ne _
      have hd := decode_no _ _ c5 (F.set k y) e0 ⟨HS.out k (by rw [HLn'.out]; exact k0) y hne, he0⟩ o5.rd.1 (by rw [List.length_set, HLn'.out]; simp only [maxLen]; omega) (by rw [List.length_set, HLn'.out]; exact hc5) (HN.out.below b0) (HE.out.below b0)
      rw [List.length_set, HLn'.out] at hd
      refine hd.mono ?_
      clear hd hne he0 o5 o4 b4 b5 p5 p6 e1
      rintro e w6 ⟨rfl, b1⟩
      replace b0 := below_on b0 b1
      have q2 : ((e0 : Int) != 0) = true := by rw [bne_iff_ne]; omega
      clear b1 he1
      go_wp2_with (first
        | (refine wpList_put rfl 25 (.tmp 12) (.tmp 54) rfl _ _ rfl rfl _ _ (Blk.new _ _ _) msg_size rfl (cells_one Msg.zero) ?_; intro w7 B10 q7 s7; replace s7 := Lib.hid s7))
      go_ret
      exact ⟨rfl, below_on b0 (put_below q7)⟩
  · have hm' : m.ok = false := by simpa using hm
    go_wp2_with (refine wpList_get rfl 25 (.tmp 3) rfl _ rfl _ _ _ B1 Tryd.underlying25 rfl msg_size ?_)
    refine (encode_bad m _ hm').mono ?_
    rintro e w2 ⟨rfl, b1⟩
    replace b0 := below_on b0 b1
    clear b1 B1
    go_wp2_with fail
    go_ret
    exact ⟨rfl, b0⟩
end Go.Proofs.YtppcdppplbpklaaDoor
