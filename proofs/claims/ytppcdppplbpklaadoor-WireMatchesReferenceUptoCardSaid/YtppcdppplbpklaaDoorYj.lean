/- Walks: the reference's Stream; equal messages. -/
import Derived.Test.YtppcdppplbpklaaDoorYi
import Derived.Test.YtppcdppplbpklaaDoorWs
namespace Go.Proofs.YtppcdppplbpklaaDoor
open Go.RowKit

set_option maxRecDepth 100000 in
set_option maxHeartbeats 4000000 in
theorem rstream_any (w : World) (A : Option Addr) (c : Nat) (l : List UInt8) (h : RdB w w.heap.size A l) (hlen : l.length ≤ 1000000000) (hc : l.length ≤ c) :
    Calls Tryd.prog 22 #[.slice A l.length c] w fun e w' => StreamEnd w l e w' := by
  have HR := Lib.hid h
  obtain ⟨n, hn'⟩ : ∃ n, l.length = n := ⟨_, rfl⟩
  rw [hn'] at hlen hc ⊢
  have HL := Lib.hid hn'
  clear h hn'
  go_enter Tryd.func22, Tryd.ntmps22
  go_wp2
  go_loopw [5, 6] (fun v i wx => ∃ (p : Nat) (ms : List Msg), i = .int .i64 p ∧ StAt l p ms ∧ Below w.heap.size w wx ∧ OwnM wx w.heap.size v ms) (fun _ i _ => n - (intOf i).toNat)
  case atStart => exact ⟨0, [], rfl, StAt.zero l, Below.refl _ _, OwnM.nil _ _⟩
  case round =>
    obtain ⟨p, ms, rfl, hst, b0, om⟩ := hrel
    have hp : p ≤ n := by rw [← HL.out]; exact hst.1
    have hms : ms.length ≤ p := hst.2.1
    have hdl : (l.drop p).length = n - p := by rw [List.length_drop, HL.out]
    have rp := ((HR.out.below b0).wider b0.size).drop_ (k := p) (cap := c) (by rw [HL.out]; exact hp) (by rw [HL.out]; exact hc)
    have HD := rdecode_any wr _ (c - p) (l.drop p) rp (by rw [hdl]; simp only [maxLen]; omega) (by rw [hdl]; omega)
    rw [hdl] at HD
    have hsl := slice_from A n c p hp
    generalize (if c = p then A else A.map (·.add p)) = AA at *
    have HDD := Lib.hid HD
    have hpc : (p : Int) ≤ (c : Int) := by omega
    have hpn : (p : Int) ≤ (n : Int) := by omega
    clear HD rp hdl
    go_wp2_with fail
    clear hsl
    rcases hd : dec (l.drop p) with _ | m
    · have HD' := Lib.hid hd
      have HEN := Lib.hid (hst.end_ hd)
      have hne := decErr_ne (l.drop p)
      refine HDD.out.mono ?_
      intro e w6 he
      rw [HD'.out] at he
      obtain ⟨rfl, b1⟩ := he
      have b2 := b0.trans (b1.mono b0.size)
      have om2 := om.below b1
      clear hd hst b0 b1 om
      by_cases he : decErr (l.drop p) = 12
      · have HEE := Lib.hid he
        have q1 : ((decErr (l.drop p) : Int) == 12) = true := beq_iff_eq.2 (by omega)
        generalize decErr (l.drop p) = er at *
        clear he hne
        go_wp2_with (refine wpList_put rfl 25 (.tmp 7) (.tmp 15) rfl _ _ rfl rfl _ _ (Blk.new _ _ _) msg_size rfl (cells_one Msg.zero) ?_; intro w7 B7 q7 s7; replace s7 := Lib.hid s7)
        go_ret3
        have b7 := below_on b2 (put_below q7)
        refine ⟨b7, fun _ => ⟨u5, by rw [HEN.out]; rfl, ?_⟩, fun h => absurd (by rw [HEN.out]; exact HEE.out) h⟩
        rw [HEN.out]
        exact om2.below (put_below q7)
      · have HEE := Lib.hid he
        have q1 : ((decErr (l.drop p) : Int) == 12) = false := beq_eq_false_iff_ne.2 (by omega)
        have q2 : ((decErr (l.drop p) : Int) != 0) = true := by rw [bne_iff_ne]; omega
        generalize decErr (l.drop p) = er at *
        clear he hne
        go_wp2_with (refine wpList_put rfl 25 (.tmp 7) (.tmp 15) rfl _ _ rfl rfl _ _ (Blk.new _ _ _) msg_size rfl (cells_one Msg.zero) ?_; intro w7 B7 q7 s7; replace s7 := Lib.hid s7)
        go_ret3
        have b7 := below_on b2 (put_below q7)
        exact ⟨b7, fun h => absurd (by rw [HEN.out] at h; exact h) HEE.out, fun _ => by rw [HEN.out]; rfl⟩
    · have HD' := Lib.hid hd
      obtain ⟨hst2, h9, h16, hpl, hbl⟩ := hst.step hd
      rw [HL.out] at hpl
      have HST := Lib.hid hst2
      refine HDD.out.mono ?_
      intro e w6 he
      rw [HD'.out] at he
      obtain ⟨rfl, b1⟩ := he
      rw [hbl]
      have b2 := b0.trans (b1.mono b0.size)
      have om2 := om.below b1
      have hbase : w.heap.size ≤ w6.heap.size := b2.size
      clear hd hst b0 b1 om hst2 hbl
      generalize hk : m.frame.length = k at *
      replace hk := Lib.hid hk
      have tok := trivial
      have hkn : (0 : Int) ≤ (k : Int) := by omega
      have hm10 : m.cells.size = 10 := rfl
      go_wp2_with (first
        | (refine wpList_put rfl 25 (.tmp 7) (.tmp 15) rfl _ _ rfl rfl _ _ (Blk.new _ _ _) msg_size rfl (cells_one m) ?_; intro w7 B7 q7 s7; have b7 := below_on b2 (put_below q7); have om7 := om2.below (put_below q7); have hbase7 : w.heap.size ≤ w7.heap.size := b7.size; clear q7 s7 b2 om2)
        | (have _t := tok; refine wpList_get rfl 25 (.tmp 7) rfl _ rfl _ _ _ B7 Tryd.underlying25 rfl msg_size ?_; clear tok)
        | (at_builtin; go_must (rw [fold_msg]); go_must (refine wpList_appm _ rfl (.tmp 25) (.tmp 27) rfl w.heap.size u5 ms rfl (om7.alloc _) _ _ 1 1 [m] rfl rfl (shows_msg m w7) (by omega) (by simp; omega) ?_); intro v9 w9 om9 hg9 ha9))
      refine ⟨⟨p + k, ms ++ [m], by go_num, HST.out, (b7.alloc b7.size _).grown hg9 (b7.alloc b7.size _).size (fun g hg => by have := om7.block g hg; omega), om9⟩, by simp [intOf]; omega⟩
end Go.Proofs.YtppcdppplbpklaaDoor
