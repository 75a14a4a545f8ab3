/- Walk: the law WireStreams answers true. -/
import Derived.Test.YtppcdppplbpklaaDoorLa
import Derived.Test.YtppcdppplbpklaaDoorWn
import Derived.Test.YtppcdppplbpklaaDoorWt
namespace Go.Proofs.YtppcdppplbpklaaDoor
open Go.RowKit

def valids (l : List Msg) : List Msg := l.filter fun m => m.ok
def frames (l : List Msg) : List UInt8 := l.flatMap Msg.frame
theorem frames_append (l m : List Msg) : frames (l ++ m) = frames l ++ frames m := by simp [frames]
theorem frames_len (l : List Msg) (h : ∀ m ∈ l, m.ok = true) : (frames l).length ≤ 16 * l.length := by
  induction l with
  | nil => simp [frames]
  | cons m l ih =>
    have h1 := frame_length m
    have h2 := body_bounds m (h m (by simp))
    have h3 := ih (fun x hx => h x (by simp [hx]))
    rw [frames, List.flatMap_cons, List.length_append, List.length_cons]
    change _ + (frames l).length ≤ _
    omega
theorem valids_ok (l : List Msg) : ∀ m ∈ valids l, m.ok = true := fun _ hm => (List.mem_filter.1 hm).2
theorem valids_len (l : List Msg) : (valids l).length ≤ l.length := List.length_filter_le _ _
theorem valids_yes (l : List Msg) (k : Nat) (m : Msg) (hk : l[k]? = some m) (h : m.ok = true) : valids (l.take (k + 1)) = valids (l.take k) ++ [m] := by
  rw [List.take_add_one, hk, valids, List.filter_append]
  simp [valids, h]
theorem valids_no (l : List Msg) (k : Nat) (m : Msg) (hk : l[k]? = some m) (h : m.ok = false) : valids (l.take (k + 1)) = valids (l.take k) := by
  rw [List.take_add_one, hk, valids, List.filter_append]
  simp [valids, h]
/-- A stream of frames, and behind it what is too short. -/
theorem strm_frames (l : List Msg) (h : ∀ m ∈ l, m.ok = true) (t : List UInt8) (ht : dec t = none ∧ decErr t = 12) : strm (frames l ++ t) = (l, (frames l).length, 12) := by
  induction l with
  | nil =>
    show strm t = _
    rw [strm_none ht.1, ht.2]
    rfl
  | cons m l ih =>
    have hd := (dec_frame m (frames l ++ t) (h m (by simp))).1
    have e : frames (m :: l) ++ t = m.frame ++ (frames l ++ t) := by simp [frames]
    rw [e, strm_some hd, List.drop_left, ih (fun x hx => h x (by simp [hx]))]
    simp [frames]
theorem short_nil : dec [] = none ∧ decErr [] = 12 := by decide +kernel

theorem wpList_ldmsg {ops : Array Oper} {rest : List Oper} {o : Oper} {a : Act} {w : World} {Q : Exit → Act → World → Prop} (hgd : o.guard = none) (x : Operand) (ho : o.op = .load 25 x) (ad : Addr) (m : Msg) (hx : a.eval x = .pointer (some ad))
    (hC : (Instr.loadAt 25 (.pointer (some ad))).run Tryd.prog w = .ok (.agg m.cells) w) (h : wpList Tryd.prog ops Q rest (a.put o.dst (.agg m.cells)) w) : wpList Tryd.prog ops Q (o :: rest) a w := by
  refine wpList_plain hgd fun _ hK => ?_
  unfold Oper.wp execOp
  simp only [ho, hx, Sem.run_bind, hC, Result.andThen_ok, Sem.run_pure]
  exact hK _ _ h

theorem OwnB.slice_ {w : World} {base : Nat} {v : Value} {l : List UInt8} (h : OwnB w base v l) : ∃ A c, v = .slice A l.length c ∧ l.length ≤ c ∧ RdB w w.heap.size A l := by
  rcases h.2 with ⟨rfl, h0⟩ | ⟨g, cap, cur, rfl, hb, hg, hcap, _⟩
  · have e : l = [] := List.eq_nil_of_length_eq_zero h0
    subst e
    exact ⟨none, 0, rfl, Nat.le_refl _, fun h => absurd h (Nat.lt_irrefl 0)⟩
  · exact ⟨_, cap, rfl, hcap, h.rd.1⟩
theorem OwnB.below {w w' : World} {base : Nat} {v : Value} {l : List UInt8} (h : OwnB w base v l) (hb : Below w.heap.size w w') : OwnB w' base v l :=
  OwnB.kept (r := some w.heap.size) h (grown_below hb _) (by
    rcases hv : v.ownBlock with _ | g
    · exact Or.inl rfl
    · right; intro e; injection e with e; have := (World.ownsRow.lt h g hv).2; omega)
/-- Two values own no block together. -/
def Apart (u v : Value) : Prop := u.ownBlock = none ∨ u.ownBlock ≠ v.ownBlock
theorem Apart.symm_ {u v : Value} (h : Apart u v) : Apart v u := by
  rcases h with h | h
  · rcases hv : v.ownBlock with _ | g
    · exact Or.inl hv
    · right; rw [h, hv]; simp
  · exact Or.inr (Ne.symm h)

theorem apart_step {u v v' : Value} {z : Nat} (h : Apart u v) (ha : v'.ownBlock = u.ownBlock ∨ v'.ownBlock = some z) (hz : ∀ g, v.ownBlock = some g → g < z) : Apart v' v := by
  rcases ha with ha | ha
  · unfold Apart; rw [ha]; exact h
  · right
    rw [ha]
    intro e
    have := hz z e.symm
    omega

def SsRel (w : World) (base : Nat) (ms : List Msg) (last : Msg) (n : Nat) (b want i : Value) (wx : World) : Prop :=
  ∃ k : Nat, k ≤ n ∧ k ≤ 200 ∧ i = .int .i64 k ∧ Below w.heap.size w wx ∧ OwnB wx base b (frames (valids (ms.take k))) ∧ OwnM wx base want (valids (ms.take k)) ∧ Apart b want ∧ Blk wx w.heap.size 25 last.cells ∧ base ≤ wx.heap.size

/-- What stands in memory ahead of Stream. -/
def StCut (w : World) (base : Nat) (V : List Msg) (L : List UInt8) (want v : Value) (wx : World) : Prop :=
  ∃ t, (dec t = none ∧ decErr t = 12) ∧ t.length ≤ 16 ∧ Below w.heap.size w wx ∧ OwnB wx base v (L ++ t) ∧ OwnM wx base want V

set_option maxRecDepth 100000 in
set_option maxHeartbeats 8000000 in
theorem streams_any (ms : List Msg) (A : Option Addr) (n c : Nat) (last : Msg) (cut : Nat) (w : World) (hsh : Shows w w.heap.size 10 A n (mcells ms)) (hms : ms.length = n) (hcut : cut < 18446744073709551616) (hN : Nibs w) (hE : ErrT w) :
    Calls Tryd.prog 10 #[.slice A n c, .agg last.cells, .int .u64 (cut : Int)] w fun e w' => e = .returned (.bool true) ∧ Below w.heap.size w w' := by
  have HN := Lib.hid hN
  have HE := Lib.hid hE
  have HS := Lib.hid hsh
  have HL := Lib.hid hms
  have B1 := Blk.new w 25 last.cells
  have b0 := alloc_below w (.cells last.cells 25)
  have hhd := head_any _ (HN.out.below b0) (HE.out.below b0)
  clear hN hE hsh hms
  go_enter Tryd.func10, Tryd.ntmps10
  go_wp2_with fail
  refine hhd.mono ?_
  clear hhd
  rintro e w1 ⟨rfl, b1⟩
  replace B1 := B1.on b1
  replace b0 := below_on b0 b1
  clear b1
  have HB1 := Lib.hid (And.intro B1 b0)
  clear B1 b0
  go_wp2_with fail
  go_loopw [8, 9, 10] (fun b want i wx => SsRel w w1.heap.size ms last n b want i wx) (fun _ _ i _ => 200 - (intOf i).toNat)
  case atStart => exact ⟨0, Nat.zero_le _, Nat.zero_le _, rfl, HB1.out.2, ⟨rfl, Or.inl ⟨rfl, rfl⟩⟩, OwnM.nil _ _, Or.inl rfl, HB1.out.1, Nat.le_refl _⟩
  case round =>
    obtain ⟨k, hk, hk2, rfl, b0, ob, om, hap, B4, hbase⟩ := hrel
    have hvl := valids_len (ms.take k)
    have hfl := frames_len _ (valids_ok (ms.take k))
    have htl : (ms.take k).length ≤ k := List.length_take_le _ _
    have hvk : (valids (ms.take k)).length ≤ k := by omega
    have hfk : (frames (valids (ms.take k))).length ≤ 3200 := by omega
    clear hvl hfl htl
    by_cases hlt : k < n ∧ k < 200
    · obtain ⟨hl1, hl2⟩ := hlt
      have hl1I : (k : Int) < (n : Int) := by omega
      have hl2I : (k : Int) < 200 := by omega
      have hk0 : (0 : Int) ≤ (k : Int) := by omega
      obtain ⟨ad, m, rfl, had, hm, hcm⟩ := HS.out.msg hl1
      have ldm : ∀ w', Below w.heap.size w w' → (Instr.loadAt 25 (.pointer (some (ad.add (k * 10))))).run Tryd.prog w' = .ok (.agg m.cells) w' := fun w' hb =>
        load_msg w' _ m (fun j v hv => by rw [hb.cell (by rw [add_block, add_block]; exact had)]; exact hcm j v hv)
      have LDM := Lib.hid ldm
      have HM := Lib.hid hm
      clear ldm hcm hm had
      by_cases hok : m.ok = true
      · have hv := Lib.hid (valids_yes ms k m HM.out hok)
        have henc := encode_yes m
        have hfl := frame_length m
        have hbb := body_bounds m hok
        obtain ⟨F, hF⟩ : ∃ F, m.frame = F := ⟨_, rfl⟩
        rw [hF] at hfl henc
        obtain ⟨q, hq⟩ : ∃ q, F.length = q := ⟨_, rfl⟩
        rw [hq] at hfl henc
        have HF := Lib.hid hF
        have HQ := Lib.hid hq
        have hq16 : q ≤ 16 := by omega
        clear hfl hbb hF hq
        generalize hV : valids (ms.take k) = V at *
        replace hV := Lib.hid hV
        generalize hFV : frames V = FV at *
        replace hFV := Lib.hid hFV
        go_wp2_with (refine wpList_ldmsg rfl (.tmp 33) rfl _ m rfl (LDM.out _ b0) ?_)
        refine (henc _ hok (HN.out.below b0)).mono ?_
        clear henc
        rintro e w3 ⟨g, cap, rfl, hcap, r1, b1⟩
        replace b0 := b0.trans (b1.mono b0.size)
        replace ob := ob.below b1
        replace om := om.below b1
        replace B4 := B4.on b1
        replace hbase : w1.heap.size ≤ w3.heap.size := Nat.le_trans hbase b1.size
        clear b1
        have s1 := r1.shows
        rw [HQ.out] at s1
        have hm10 : m.cells.size = 10 := rfl
        have hV9 : V.length ≤ 200 := by omega
        go_wp2_with (first
          | (at_builtin; refine wpList_appb _ rfl (.tmp 40) (.tmp 41) rfl w1.heap.size u8 _ _ rfl ob _ _ _ _ _ rfl s1 (bcells_one _) (by omega) hbase ?_; intro v4 w4 ho4 hg4 ha4; have o4 : OwnB w4 w1.heap.size v4 (FV ++ F) := OwnB.snoc (l := FV) (m := F) ho4 rfl HQ.out.symm; have hob := ob.block; have b4 : Below w.heap.size w w4 := b0.grown hg4 b0.size (fun k hk => Nat.le_trans HB1.out.2.size (hob k hk)); have om4 : OwnM w4 w1.heap.size u9 V := om.kept hg4 hap.symm_; have B5 : Blk w4 w.heap.size 25 last.cells := B4.grown hg4 (fun e => by have := hob _ e; have := HB1.out.2.size; have := HB1.out.1.lt; omega); have hbase4 : w1.heap.size ≤ w4.heap.size := Nat.le_trans hbase hg4.size; have hap4 : Apart v4 u9 := apart_step hap ha4 (fun g hg => (World.ownsRow.lt om g hg).2); clear ho4 hg4 ha4 s1 r1 hob ob om hap B4)
          | (refine wpList_ldmsg rfl (.tmp 46) rfl _ m rfl (LDM.out _ b4) ?_)
          | (at_builtin; go_must (rw [fold_msg]); go_must (refine wpList_appm _ rfl (.tmp 43) (.tmp 48) rfl w1.heap.size u9 V rfl (om4.alloc _) _ _ 1 1 [m] rfl rfl (shows_msg m w4) (by omega) (by simp; omega) ?_); intro v6 w6 om6 hg6 ha6))
        have hom := om4.block
        have hsz0 := HB1.out.2.size
        have hblt := HB1.out.1.lt
        refine ⟨⟨k + 1, by omega, by omega, by go_num, (b4.alloc b4.size _).grown hg6 (b4.alloc b4.size _).size (fun g hg => by have := hom g hg; omega), ?_, ?_, ?_, ?_, ?_⟩, by simp [intOf]; omega⟩
        · have e : frames (valids (ms.take (k + 1))) = FV ++ F := by
            rw [hv.out, frames_append, hFV.out, ← HF.out]
            simp [frames]
          rw [e]
          exact (o4.alloc _).kept hg6 hap4
        · rw [hv.out]; exact om6
        · exact (apart_step hap4.symm_ ha6 (fun g hg => by have := (World.ownsRow.lt o4 g hg).2; simp; omega)).symm_
        · exact (B5.alloc _).grown hg6 (fun e => by have := hom _ e; omega)
        · have := hg6.size; simp at this; omega
      · have hok' : m.ok = false := by simpa using hok
        have hv := Lib.hid (valids_no ms k m HM.out hok')
        generalize hV : valids (ms.take k) = V at *
        replace hV := Lib.hid hV
        go_wp2_with (refine wpList_ldmsg rfl (.tmp 33) rfl _ m rfl (LDM.out _ b0) ?_)
        refine (encode_bad m _ hok').mono ?_
        rintro e w3 ⟨rfl, b1⟩
        replace b0 := b0.trans (b1.mono b0.size)
        replace ob := ob.below b1
        replace om := om.below b1
        replace B4 := B4.on b1
        replace hbase : w1.heap.size ≤ w3.heap.size := Nat.le_trans hbase b1.size
        clear b1 hok hok'
        go_wp2_with fail
        refine ⟨⟨k + 1, by omega, by omega, by go_num, b0, ?_, ?_, hap, B4, hbase⟩, by simp [intOf]; omega⟩
        · rw [hv.out]; exact ob
        · rw [hv.out]; exact om
    · have hx : (¬ (k : Int) < (n : Int)) ∨ ((k : Int) < (n : Int) ∧ ¬ (k : Int) < 200) := by omega
      have hVok := Lib.hid (valids_ok (ms.take k))
      generalize valids (ms.take k) = V at *
      have hFF := Lib.hid (strm_frames V hVok.out)
      have hFL := Lib.hid (show (frames V).length = (frames V).length from rfl)
      generalize hFV : frames V = L at *
      replace hFV := Lib.hid hFV
      obtain ⟨D, dc, rfl, hdc, rd⟩ := ob.slice_
      clear hlt rd
      obtain ⟨q, hq⟩ : ∃ q, L.length = q := ⟨_, rfl⟩
      rw [hq] at hfk hdc ob hap
      rw [hq]
      have HQ := Lib.hid hq
      clear hq
      have hV9 : V.length ≤ 200 := by omega
      rcases hx with hx | ⟨hx1, hx2⟩
      all_goals
        go_wp2_with (refine wpList_get rfl 25 (.tmp 4) rfl _ rfl _ _ _ B4 Tryd.underlying25 rfl msg_size ?_)
        by_cases hok : last.ok = true
        · have henc := encode_yes last
          have hfl := frame_length last
          have hbb := body_bounds last hok
          have hds := dec_short last hok
          obtain ⟨F, hF⟩ : ∃ F, last.frame = F := ⟨_, rfl⟩
          rw [hF] at hfl henc hds
          obtain ⟨r, hr⟩ : ∃ r, F.length = r := ⟨_, rfl⟩
          rw [hr] at hfl henc
          have hr16 : r ≤ 16 := by omega
          have hr0 : (0 : Int) < (r : Int) := by omega
          have hj : cut % r < r := Nat.mod_lt _ (by omega)
          obtain ⟨j, hjj⟩ : ∃ j, cut % r = j := ⟨_, rfl⟩
          rw [hjj] at hj
          have hjI : (cut : Int) % (r : Int) = (j : Int) := by omega
          have hds' := Lib.hid (hds j (by omega))
          have hjl : (F.take j).length = j := by rw [List.length_take]; omega
          have HJL := Lib.hid hjl
          clear hfl hbb hds hF hr hjj hjl
          refine (henc _ hok (HN.out.below b0)).mono ?_
          clear henc
          rintro e w3 ⟨g, cap, rfl, hcap, r1, b1⟩
          replace b0 := b0.trans (b1.mono b0.size)
          replace ob := ob.below b1
          replace om := om.below b1
          replace hbase : w1.heap.size ≤ w3.heap.size := Nat.le_trans hbase b1.size
          clear b1 B4
          have s1 := (r1.take_ j).shows
          rw [HJL.out] at s1
          have hjc : (j : Int) ≤ (cap : Int) := by omega
          go_wp2_with (at_builtin; refine wpList_appb _ rfl (.tmp 64) (.tmp 72) rfl w1.heap.size _ _ _ rfl ob _ _ _ _ _ rfl s1 (bcells_one _) (by rw [HQ.out]; omega) hbase ?_; intro v5 w5 ho5 hg5 ha5)
          have o5 : OwnB w5 w1.heap.size v5 (L ++ F.take j) := OwnB.snoc (l := L) (m := F.take j) (by rw [HQ.out] at ho5 ⊢; exact ho5) rfl HJL.out.symm
          have b5 : Below w.heap.size w w5 := b0.grown hg5 b0.size (fun k hk => Nat.le_trans HB1.out.2.size (ob.block k hk))
          have om5 : OwnM w5 w1.heap.size u9 V := om.kept hg5 hap.symm_
          have HT := Lib.hid (And.intro hds'.out (show (F.take j).length ≤ 16 by rw [HJL.out]; omega))
          generalize F.take j = T at *
          clear ho5 hg5 ha5 s1 r1 ob om hap hds' HJL hjI hjc hcap hj hr0 hr16
          -- the stream is read
          have htl := HT.out.2
          obtain ⟨D5, c5, rfl, hc5, r5⟩ := o5.slice_
          have hle : (L ++ T).length ≤ 1000000000 := by rw [List.length_append, HQ.out]; omega
          have hst := stream_any w5 D5 c5 (L ++ T) r5 hle hc5 (HN.out.below b5) (HE.out.below b5)
          have hend := hFF.out T HT.out.1
          obtain ⟨z, hz⟩ : ∃ z, (L ++ T).length = z := ⟨_, rfl⟩
          rw [hz] at hst hle ⊢
          have HST := Lib.hid hst
          have HEND := Lib.hid hend
          have HO := Lib.hid om5
          have hb5s := b5.size
          clear hst hend om5 r5 hc5 hz htl hle
          go_wp2_with fail
          refine HST.out.mono ?_
          rintro e w6 ⟨b6, hyes, -⟩
          rw [HEND.out] at hyes
          obtain ⟨v6, rfl, om6⟩ := hyes rfl
          rw [HQ.out]
          have om7 := HO.out.below b6
          have b7 := below_on b5 b6
          obtain ⟨E1, d1, rfl, hd1, s6⟩ := om6.slice_
          obtain ⟨E2, d2, rfl, hd2, s7⟩ := om7.slice_
          have hsm := same_any w6 _ _ E1 E2 d1 d2 _ _ V V rfl rfl s6 s7 (by simp only [maxLen]; omega) (by simp only [maxLen]; omega)
          rw [decide_eq_true (show V = V from rfl)] at hsm
          have HSM := Lib.hid hsm
          clear hsm om6 om7 s6 s7 hyes
          go_wp2_with fail
          refine HSM.out.mono ?_
          rintro e w8 ⟨rfl, nn, rfl⟩
          go_wp2_with fail
          go_ret
          exact ⟨rfl, below_dN b7 _⟩
        · have hok' : last.ok = false := by simpa using hok
          refine (encode_bad last _ hok').mono ?_
          rintro e w5 ⟨rfl, b1⟩
          have b5 := b0.trans (b1.mono b0.size)
          have o5 := ob.below b1
          have om5 := om.below b1
          have HT := Lib.hid (And.intro short_nil (show ([] : List UInt8).length ≤ 16 by simp))
          rw [← List.append_nil L] at o5
          clear b1 B4 b0 ob om hap hok hok'
          generalize Value.slice D q dc = v5 at *
          generalize ([] : List UInt8) = T at *
          -- the stream is read
          have htl := HT.out.2
          obtain ⟨D5, c5, rfl, hc5, r5⟩ := o5.slice_
          have hle : (L ++ T).length ≤ 1000000000 := by rw [List.length_append, HQ.out]; omega
          have hst := stream_any w5 D5 c5 (L ++ T) r5 hle hc5 (HN.out.below b5) (HE.out.below b5)
          have hend := hFF.out T HT.out.1
          obtain ⟨z, hz⟩ : ∃ z, (L ++ T).length = z := ⟨_, rfl⟩
          rw [hz] at hst hle ⊢
          have HST := Lib.hid hst
          have HEND := Lib.hid hend
          have HO := Lib.hid om5
          have hb5s := b5.size
          clear hst hend om5 r5 hc5 hz htl hle
          go_wp2_with fail
          refine HST.out.mono ?_
          rintro e w6 ⟨b6, hyes, -⟩
          rw [HEND.out] at hyes
          obtain ⟨v6, rfl, om6⟩ := hyes rfl
          rw [HQ.out]
          have om7 := HO.out.below b6
          have b7 := below_on b5 b6
          obtain ⟨E1, d1, rfl, hd1, s6⟩ := om6.slice_
          obtain ⟨E2, d2, rfl, hd2, s7⟩ := om7.slice_
          have hsm := same_any w6 _ _ E1 E2 d1 d2 _ _ V V rfl rfl s6 s7 (by simp only [maxLen]; omega) (by simp only [maxLen]; omega)
          rw [decide_eq_true (show V = V from rfl)] at hsm
          have HSM := Lib.hid hsm
          clear hsm om6 om7 s6 s7 hyes
          go_wp2_with fail
          refine HSM.out.mono ?_
          rintro e w8 ⟨rfl, nn, rfl⟩
          go_wp2_with fail
          go_ret
          exact ⟨rfl, below_dN b7 _⟩
end Go.Proofs.YtppcdppplbpklaaDoor
