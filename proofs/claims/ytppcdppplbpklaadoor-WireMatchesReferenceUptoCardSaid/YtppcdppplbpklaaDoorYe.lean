/- Walks: the reference's digits, body, frame, Encode. -/
import Derived.Test.YtppcdppplbpklaaDoorYa
import Derived.Test.YtppcdppplbpklaaDoorYd
import Derived.Test.YtppcdppplbpklaaDoorWo
import Derived.Test.YtppcdppplbpklaaDoorWl
namespace Go.Proofs.YtppcdppplbpklaaDoor
open Go.RowKit

theorem grown_none {a b : World} (g : a.grownBy b none) : Below a.heap.size a b := ⟨g.os, g.tape, g.output, g.size, fun k hk => g.block k hk (by simp)⟩

set_option maxRecDepth 100000 in
set_option maxHeartbeats 1000000 in
theorem rdigs_any (n : Nat) (w : World) (hn : n < 2097152) :
    Calls Tryd.prog 36 #[.int .i64 n] w fun e w' => ∃ v' , e = .returned v' ∧ OwnB w' w.heap.size v' (digs 2 n) ∧ Below w.heap.size w w' := by
  have h0 : DigRel w.heap.size 2 (digs 2 n) w none (.slice none 0 0) (.int .i64 n) w :=
    ⟨2, [], n, rfl, by omega, by omega, rfl, rfl, ⟨rfl, Or.inl ⟨rfl, rfl⟩⟩, ⟨rfl, rfl, rfl, Nat.le_refl _, fun _ _ _ => rfl⟩, .inl rfl⟩
  have H0 := Lib.hid h0
  clear h0
  go_enter Tryd.func36, Tryd.ntmps36
  go_wp2
  go_loopw [0, 3] (fun i b wr => DigRel w.heap.size 2 (digs 2 n) w none b i wr) (fun i _ _ => (intOf i).toNat)
  case atStart => exact H0.out
  case round =>
    obtain ⟨k, l', m, rfl, hm, hk, HL, hlen, hown, hg, hr⟩ := hrel
    have hm2 : m < 2097152 := by
      match k, hm, hk with
      | 0, hm, _ => omega
      | 1, hm, _ => omega
      | 2, hm, _ => omega
    by_cases hlt : 127 < m
    · match k, hm, hk, HL, hlen with
      | 0, hm, _, _, _ => omega
      | k + 1, hm, hk, HL, hlen =>
        have hx : m % 128 + 128 < 256 := by omega
        have HX := Lib.hid (show Value.int .u8 ((m : Int) % 128 + 128) = .int .u8 ((UInt8.ofNat (m % 128 + 128)).toNat : Int) from by rw [← bcell_ofNat _ hx]; congr 1)
        have HL' := Lib.hid (show (l' ++ [UInt8.ofNat (m % 128 + 128)]) ++ digs k (m / 128) = digs 2 n by rw [← HL.out, digs, if_pos hlt]; simp)
        have hm' : m / 128 < 128 ^ (k + 1) := by rw [Nat.pow_succ] at hm; omega
        clear HL
        have hsh := shows_new wr #[.int .u8 ((m : Int) % 128 + 128)] 5 1 1 rfl
        have hsz := hg.size
        go_wp2_with (at_builtin; go_must (refine wpList_appb _ rfl (.tmp 6) (.tmp 11) rfl w.heap.size u3 _ _ rfl (World.ownsRow.alloc hown _) _ _ 1 1 _ rfl hsh (by simp [Value.oneCell']) (by omega) (by simp; omega) ?_); intro v1 w1 hown1 hg1 hat1)
        go_roundw
        case rel =>
          rw [HX.out] at hown1
          refine ⟨k, l' ++ [UInt8.ofNat (m % 128 + 128)], m / 128, by go_num, hm', by omega, HL', by simp; omega, ?_, ?_, ?_⟩
          · exact OwnB.snoc hown1 rfl rfl
          · exact grown_step hg ((World.grownBy_alloc _ _ _).trans hg1) hr
          · rcases hat1 with e | e
            · rw [e]; exact hr
            · right; intro g hgg; rw [e] at hgg; simp at hgg; omega
        case measure => simp [intOf]; omega
    · have HX := Lib.hid (show Value.int .u8 (m : Int) = .int .u8 ((UInt8.ofNat m).toNat : Int) from bcell_ofNat _ (by omega))
      have HL' : Hid (l' ++ [UInt8.ofNat m] = digs 2 n) := by
        show _ = _
        rw [← HL.out]
        cases k with
        | zero => rfl
        | succ k => rw [digs, if_neg hlt]
      clear HL
      have hsh := shows_new wr #[.int .u8 (m : Int)] 5 1 1 rfl
      have hsz := hg.size
      go_wp2_with (at_builtin; go_must (refine wpList_appb _ rfl (.tmp 15) (.tmp 18) rfl w.heap.size u3 _ _ rfl (World.ownsRow.alloc hown _) _ _ 1 1 _ rfl hsh (by simp [Value.oneCell']) (by omega) (by simp; omega) ?_); intro v1 w1 hown1 hg1 hat1)
      go_ret
      rw [HX.out] at hown1
      refine ⟨v1, rfl, ?_, grown_none (grown_step hg ((World.grownBy_alloc _ _ _).trans hg1) hr)⟩
      rw [← HL'.out]
      exact OwnB.snoc hown1 rfl rfl

theorem Blk.parts {w : World} {g : Nat} {t : TypeId} {c0 c1 c2 c3 c4 c5 c6 c7 c8 c9 : Value} (h : Blk w g t #[c0, c1, c2, c3, c4, c5, c6, c7, c8, c9]) :
    w.cell? ⟨g, 0, none⟩ = some c0 ∧ w.cell? ⟨g, 4, none⟩ = some c4 ∧ w.cell? ⟨g, 5, none⟩ = some c5 ∧ w.cell? ⟨g, 6, none⟩ = some c6 ∧ w.cell? ⟨g, 7, none⟩ = some c7 ∧ w.cell? ⟨g, 8, none⟩ = some c8 ∧ w.cell? ⟨g, 9, none⟩ = some c9 ∧ g < w.heap.size :=
  ⟨h.cell 0, h.cell 4, h.cell 5, h.cell 6, h.cell 7, h.cell 8, h.cell 9, h.lt⟩
/-- A literal of bytes is a row of the call's own. -/
theorem own_lit (w : World) (base : Nat) (hb : base ≤ w.heap.size) (cs : Array Value) (l : List UInt8) (hc : cs.toList = bcells l) (hl : l.length ≤ 1000) : OwnB (w.alloc (.cells cs 5)) base (.slice (some ⟨w.heap.size, 0, none⟩) cs.size cs.size) l := by
  have hs : cs.size = l.length := by rw [← bcells_length l, ← hc, Array.length_toList]
  rw [hs]
  refine ⟨by rw [bcells_length, Nat.mul_one], Or.inr ⟨w.heap.size, l.length, cs, rfl, hb, heap_alloc_new w _, Nat.le_refl _, by simp only [maxLen]; omega, by rw [hs, Nat.mul_one], ?_⟩⟩
  rw [hc, List.take_of_length_le (by rw [bcells_length]; omega)]

theorem OwnB.on_ {w w' : World} {base : Nat} {v : Value} {l : List UInt8} (h : OwnB w base v l) (hb : Below w.heap.size w w') : OwnB w' base v l :=
  OwnB.kept (r := some w.heap.size) h (grown_below hb _) (by
    rcases hv : v.ownBlock with _ | g
    · exact Or.inl rfl
    · right; intro e; injection e with e; have := (World.ownsRow.lt h g hv).2; omega)
theorem OwnB.sl_ {w : World} {base : Nat} {v : Value} {l : List UInt8} (h : OwnB w base v l) : ∃ A c, v = .slice A l.length c ∧ l.length ≤ c ∧ RdB w w.heap.size A l := by
  rcases h.2 with ⟨rfl, h0⟩ | ⟨g, cap, cur, rfl, hb, hg, hcap, _⟩
  · have e : l = [] := List.eq_nil_of_length_eq_zero h0
    subst e
    exact ⟨none, 0, rfl, Nat.le_refl _, fun h => absurd h (Nat.lt_irrefl 0)⟩
  · exact ⟨_, cap, rfl, hcap, h.rd.1⟩

set_option maxRecDepth 100000 in
set_option maxHeartbeats 4000000 in
theorem rbody_any (m : Msg) (w : World) (hm : m.ok = true) :
    Calls Tryd.prog 30 #[.agg m.cells] w fun e w' => ∃ v, e = .returned v ∧ OwnB w' w.heap.size v m.body ∧ Below w.heap.size w w' := by
  obtain ⟨k, f, t, s, b, v, ts, tc, tn, td⟩ := m
  have HM : validB k f t s b v ts tc tn td = true := hm
  clear hm
  obtain ⟨k1, k2, f1, f2, t1, t2, -, s1, s2, b1, b2, v1, v2, tc1, tc2, tn1, tn2, td1, td2, HV⟩ := valid_bounds HM
  obtain ⟨k, rfl⟩ := Int.eq_ofNat_of_zero_le (show 0 ≤ k by omega)
  obtain ⟨f, rfl⟩ := Int.eq_ofNat_of_zero_le f1
  obtain ⟨t, rfl⟩ := Int.eq_ofNat_of_zero_le t1
  obtain ⟨s, rfl⟩ := Int.eq_ofNat_of_zero_le (show 0 ≤ s by omega)
  obtain ⟨b, rfl⟩ := Int.eq_ofNat_of_zero_le (show 0 ≤ b by omega)
  obtain ⟨v, rfl⟩ := Int.eq_ofNat_of_zero_le v1
  obtain ⟨tc, rfl⟩ := Int.eq_ofNat_of_zero_le tc1
  obtain ⟨td, rfl⟩ := Int.eq_ofNat_of_zero_le td1
  replace HV := Lib.hid HV
  have HH := Lib.hid (show bcells [UInt8.ofNat k, UInt8.ofNat (8 * f + t), UInt8.ofNat s] = [.int .u8 (k : Int), .int .u8 (8 * (f : Int) + (t : Int)), .int .u8 (s : Int)] by
    simp only [bcells, List.map_cons, List.map_nil]
    rw [← bcell_ofNat k (by omega), ← bcell_ofNat (8 * f + t) (by omega), ← bcell_ofNat s (by omega)]
    simp)
  have HHd := Lib.hid (show [UInt8.ofNat k, UInt8.ofNat (8 * f + t), UInt8.ofNat s] ++ digs 2 b = (Msg.mk k f t s b v ts tc tn td).head by
    simp only [Msg.head, Int.toNat_natCast]; rw [show ((8 : Int) * (f : Int) + (t : Int)).toNat = 8 * f + t from by omega])
  have B0 := Blk.new w 25 (Msg.mk k f t s b v ts tc tn td).cells
  have hol := own_lit (w.alloc (.cells (Msg.mk k f t s b v ts tc tn td).cells 25)) (w.heap.size + 1) (by simp) #[.int .u8 (k : Int), .int .u8 (8 * (f : Int) + (t : Int)), .int .u8 (s : Int)] [UInt8.ofNat k, UInt8.ofNat (8 * f + t), UInt8.ofNat s] HH.out.symm (by simp)
  have b0 := (alloc_below w (.cells (Msg.mk k f t s b v ts tc tn td).cells 25)).alloc (by simp) (.cells #[.int .u8 (k : Int), .int .u8 (8 * (f : Int) + (t : Int)), .int .u8 (s : Int)] 5)
  have B1 := B0.alloc (.cells #[.int .u8 (k : Int), .int .u8 (8 * (f : Int) + (t : Int)), .int .u8 (s : Int)] 5)
  dsimp only [Msg.cells] at hol b0 B1 ⊢
  simp only [World.size_alloc] at hol
  have HOL := Lib.hid (And.intro hol (And.intro b0 B1))
  clear hol b0 B0 B1
  have hbl := (digs_length 2 b).1
  have hbl2 := (digs_length 2 v).1
  go_enter Tryd.func30, Tryd.ntmps30
  go_wp2_with fail
  obtain ⟨ol, b0, B1⟩ := HOL.out
  generalize hW : World.alloc _ _ = w2 at *
  clear hW
  have HB1 := Lib.hid B1
  clear B1
  refine (rdigs_any b _ (by omega)).mono ?_
  rintro e w3 ⟨v3, rfl, o3, b3⟩
  have ol3 := ol.on_ b3
  have HB3 := Lib.hid (HB1.out.below b3 HB1.out.lt)
  have b3' := b0.trans (b3.mono b0.size)
  have hsz3 : w.heap.size + 1 ≤ w3.heap.size := by have := ol.block _ rfl; have := HB1.out.lt; have := b3.size; omega
  obtain ⟨A3, c3, rfl, -, r3⟩ := o3.sl_
  have s3 := r3.shows
  clear ol b0 b3 o3 r3 HOL HB1
  generalize hP : [UInt8.ofNat k, UInt8.ofNat (8 * f + t), UInt8.ofNat s] = P at *
  have hPl : P.length = 3 := by rw [← hP]; rfl
  change OwnB w3 (w.heap.size + 1) (.slice (some ⟨w.heap.size + 1, 0, none⟩) 3 3) P at ol3
  replace hP := Lib.hid hP
  have hPl' : P.length ≤ 3 := by omega
  clear hPl
  have HX := Lib.hid (show [Value.int .u8 (3 * (tc : Int) + tn + 1), .int .u8 (td : Int)] = bcells [UInt8.ofNat (3 * (tc : Int) + tn + 1).toNat, UInt8.ofNat td] by
    simp only [bcells, List.map_cons, List.map_nil]
    rw [← bcell_ofNat td (by omega), ← bcell_ofNat (3 * (tc : Int) + tn + 1).toNat (by omega), show (((3 * (tc : Int) + tn + 1).toNat : Nat) : Int) = 3 * (tc : Int) + tn + 1 from by omega])
  have hx1 : 0 ≤ 3 * (tc : Int) + tn + 1 := by omega
  have hcase : (ts = 0 ∧ tc = 0 ∧ tn = 0 ∧ td = 0) ∨ ¬ ts = 0 := by rcases HV.out with h | h | h | h <;> omega
  by_cases hk2 : (k : Int) = 2
  · have q : ((k : Int) == 2) = true := beq_iff_eq.2 hk2
    have hmid : (Msg.mk k f t s b v ts tc tn td).mid = digs 2 v := by simp only [Msg.mid, hk2, if_true, Int.toNat_natCast]
    rcases hcase with ⟨h6, h7, h8, h9⟩ | h6
    · have q6 : (ts == 0) = true := beq_iff_eq.2 h6
      have q7 : ((tc : Int) == 0) = true := beq_iff_eq.2 (by omega)
      have q8 : (tn == 0) = true := beq_iff_eq.2 h8
      have q9 : ((td : Int) == 0) = true := beq_iff_eq.2 (by omega)
      have HBd := Lib.hid (show (Msg.mk k f t s b v ts tc tn td).body = P ++ digs 2 b ++ digs 2 v by
        have h : (Msg.mk k f t s b v ts tc tn td).none_ = true := by simp [Msg.none_, h6, h7, h8, h9]
        rw [Msg.body, ← HHd.out, hmid, Msg.tail, if_pos h, List.append_nil])
      clear h6 h7 h8 h9 hk2 hmid HV
      go_wp2_with (first
        | (at_builtin; refine wpList_appb _ rfl (.tmp 18) (.tmp 21) rfl (w.heap.size + 1) _ _ _ rfl ol3 _ A3 _ c3 _ rfl s3 (bcells_one _) (by omega) hsz3 ?_; intro v4 w4 ho4 hg4 ha4; have o4 : OwnB w4 (w.heap.size + 1) v4 (P ++ digs 2 b) := OwnB.snoc ho4 rfl rfl; have B4 := Lib.hid (HB3.out.grown hg4 (fun e => by have := ol3.block _ e; omega)); have b4 : Below w.heap.size w w4 := b3'.grown hg4 b3'.size (fun g hg => by have := ol3.block g hg; omega); have hsz4 : w.heap.size + 1 ≤ w4.heap.size := Nat.le_trans hsz3 hg4.size; obtain ⟨d0, d4, d5, d6, d7, d8, d9, d10⟩ := B4.out.parts; clear ho4 hg4 ha4 ol3 s3 HB3 b3')
        | (go_at_call 36; refine (rdigs_any v _ (by omega)).mono ?_; rintro e w5 ⟨v5, rfl, o5, b5⟩; have ol5 := o4.on_ b5; have B5 := Lib.hid (B4.out.below b5 B4.out.lt); have b5' := b4.trans (b5.mono b4.size); have hsz5 : w.heap.size + 1 ≤ w5.heap.size := Nat.le_trans hsz4 b5.size; obtain ⟨A5, c5, rfl, -, r5⟩ := o5.sl_; have s5 := r5.shows; clear o4 B4 b4 b5 o5 r5 d0 d4 d5 d6 d7 d8 d9 d10 hsz4)
        | (at_builtin; refine wpList_appb _ rfl (.tmp 26) (.tmp 29) rfl (w.heap.size + 1) _ _ _ rfl ol5 _ A5 _ c5 _ rfl s5 (bcells_one _) (by rw [List.length_append]; omega) hsz5 ?_; intro v6 w6 ho6 hg6 ha6; have o6 : OwnB w6 (w.heap.size + 1) v6 (P ++ digs 2 b ++ digs 2 v) := OwnB.snoc ho6 rfl rfl; have B6 := Lib.hid (B5.out.grown hg6 (fun e => by have := ol5.block _ e; omega)); have b6 : Below w.heap.size w w6 := b5'.grown hg6 b5'.size (fun g hg => by have := ol5.block g hg; omega); have hsz6 : w.heap.size + 1 ≤ w6.heap.size := Nat.le_trans hsz5 hg6.size; obtain ⟨d0, d4, d5, d6, d7, d8, d9, d10⟩ := B6.out.parts; clear ho6 hg6 ha6 ol5 s5 B5 b5'))
      go_ret
      exact ⟨v6, rfl, by rw [HBd.out]; exact o6.lower (by omega), b6⟩
    · have q6 : (ts == 0) = false := beq_eq_false_iff_ne.2 h6
      have HBd := Lib.hid (show (Msg.mk k f t s b v ts tc tn td).body = P ++ digs 2 b ++ digs 2 v ++ [UInt8.ofNat (3 * (tc : Int) + tn + 1).toNat, UInt8.ofNat td] by
        have h : ¬ (Msg.mk k f t s b v ts tc tn td).none_ = true := by simp [Msg.none_, h6]
        rw [Msg.body, ← HHd.out, hmid, Msg.tail, if_neg h, Int.toNat_natCast])
      clear h6 hk2 hmid HV
      go_wp2_with (first
        | (at_builtin; refine wpList_appb _ rfl (.tmp 18) (.tmp 21) rfl (w.heap.size + 1) _ _ _ rfl ol3 _ A3 _ c3 _ rfl s3 (bcells_one _) (by omega) hsz3 ?_; intro v4 w4 ho4 hg4 ha4; have o4 : OwnB w4 (w.heap.size + 1) v4 (P ++ digs 2 b) := OwnB.snoc ho4 rfl rfl; have B4 := Lib.hid (HB3.out.grown hg4 (fun e => by have := ol3.block _ e; omega)); have b4 : Below w.heap.size w w4 := b3'.grown hg4 b3'.size (fun g hg => by have := ol3.block g hg; omega); have hsz4 : w.heap.size + 1 ≤ w4.heap.size := Nat.le_trans hsz3 hg4.size; obtain ⟨d0, d4, d5, d6, d7, d8, d9, d10⟩ := B4.out.parts; clear ho4 hg4 ha4 ol3 s3 HB3 b3')
        | (go_at_call 36; refine (rdigs_any v _ (by omega)).mono ?_; rintro e w5 ⟨v5, rfl, o5, b5⟩; have ol5 := o4.on_ b5; have B5 := Lib.hid (B4.out.below b5 B4.out.lt); have b5' := b4.trans (b5.mono b4.size); have hsz5 : w.heap.size + 1 ≤ w5.heap.size := Nat.le_trans hsz4 b5.size; obtain ⟨A5, c5, rfl, -, r5⟩ := o5.sl_; have s5 := r5.shows; clear o4 B4 b4 b5 o5 r5 d0 d4 d5 d6 d7 d8 d9 d10 hsz4)
        | (at_builtin; refine wpList_appb _ rfl (.tmp 26) (.tmp 29) rfl (w.heap.size + 1) _ _ _ rfl ol5 _ A5 _ c5 _ rfl s5 (bcells_one _) (by rw [List.length_append]; omega) hsz5 ?_; intro v6 w6 ho6 hg6 ha6; have o6 : OwnB w6 (w.heap.size + 1) v6 (P ++ digs 2 b ++ digs 2 v) := OwnB.snoc ho6 rfl rfl; have B6 := Lib.hid (B5.out.grown hg6 (fun e => by have := ol5.block _ e; omega)); have b6 : Below w.heap.size w w6 := b5'.grown hg6 b5'.size (fun g hg => by have := ol5.block g hg; omega); have hsz6 : w.heap.size + 1 ≤ w6.heap.size := Nat.le_trans hsz5 hg6.size; obtain ⟨d0, d4, d5, d6, d7, d8, d9, d10⟩ := B6.out.parts; clear ho6 hg6 ha6 ol5 s5 B5 b5')
        | (at_builtin; go_must (refine wpList_appb _ rfl (.tmp 35) (.tmp 50) rfl (w.heap.size + 1) _ _ _ rfl (World.ownsRow.alloc o6 _) _ _ 2 2 _ rfl (shows_new w6 #[.int .u8 (3 * (tc : Int) + tn + 1), .int .u8 (td : Int)] 5 2 1 rfl) (by simp [Value.oneCell']) (by rw [List.length_append, List.length_append]; omega) (by simp; omega) ?_); intro v8 w8 ho8 hg8 ha8; have o8 : OwnB w8 (w.heap.size + 1) v8 (P ++ digs 2 b ++ digs 2 v ++ [UInt8.ofNat (3 * (tc : Int) + tn + 1).toNat, UInt8.ofNat td]) := OwnB.snoc ho8 HX.out rfl; have b8 : Below w.heap.size w w8 := (b6.alloc b6.size _).grown hg8 (b6.alloc b6.size _).size (fun g hg => by have := o6.block g hg; omega)))
      go_ret
      exact ⟨v8, rfl, by rw [HBd.out]; exact o8.lower (by omega), b8⟩
  · have q : ((k : Int) == 2) = false := beq_eq_false_iff_ne.2 hk2
    have hmid : (Msg.mk k f t s b v ts tc tn td).mid = [] := by simp only [Msg.mid, hk2, if_false]
    rcases hcase with ⟨h6, h7, h8, h9⟩ | h6
    · have q6 : (ts == 0) = true := beq_iff_eq.2 h6
      have q7 : ((tc : Int) == 0) = true := beq_iff_eq.2 (by omega)
      have q8 : (tn == 0) = true := beq_iff_eq.2 h8
      have q9 : ((td : Int) == 0) = true := beq_iff_eq.2 (by omega)
      have HBd := Lib.hid (show (Msg.mk k f t s b v ts tc tn td).body = P ++ digs 2 b by
        have h : (Msg.mk k f t s b v ts tc tn td).none_ = true := by simp [Msg.none_, h6, h7, h8, h9]
        rw [Msg.body, ← HHd.out, hmid, Msg.tail, if_pos h, List.append_nil, List.append_nil])
      clear h6 h7 h8 h9 hk2 hmid HV
      go_wp2_with (first
        | (at_builtin; refine wpList_appb _ rfl (.tmp 18) (.tmp 21) rfl (w.heap.size + 1) _ _ _ rfl ol3 _ A3 _ c3 _ rfl s3 (bcells_one _) (by omega) hsz3 ?_; intro v4 w4 ho4 hg4 ha4; have o4 : OwnB w4 (w.heap.size + 1) v4 (P ++ digs 2 b) := OwnB.snoc ho4 rfl rfl; have B4 := Lib.hid (HB3.out.grown hg4 (fun e => by have := ol3.block _ e; omega)); have b4 : Below w.heap.size w w4 := b3'.grown hg4 b3'.size (fun g hg => by have := ol3.block g hg; omega); have hsz4 : w.heap.size + 1 ≤ w4.heap.size := Nat.le_trans hsz3 hg4.size; obtain ⟨d0, d4, d5, d6, d7, d8, d9, d10⟩ := B4.out.parts; clear ho4 hg4 ha4 ol3 s3 HB3 b3'))
      go_ret
      exact ⟨v4, rfl, by rw [HBd.out]; exact o4.lower (by omega), b4⟩
    · have q6 : (ts == 0) = false := beq_eq_false_iff_ne.2 h6
      have HBd := Lib.hid (show (Msg.mk k f t s b v ts tc tn td).body = P ++ digs 2 b ++ [UInt8.ofNat (3 * (tc : Int) + tn + 1).toNat, UInt8.ofNat td] by
        have h : ¬ (Msg.mk k f t s b v ts tc tn td).none_ = true := by simp [Msg.none_, h6]
        rw [Msg.body, ← HHd.out, hmid, Msg.tail, if_neg h, List.append_nil, Int.toNat_natCast])
      clear h6 hk2 hmid HV
      go_wp2_with (first
        | (at_builtin; refine wpList_appb _ rfl (.tmp 18) (.tmp 21) rfl (w.heap.size + 1) _ _ _ rfl ol3 _ A3 _ c3 _ rfl s3 (bcells_one _) (by omega) hsz3 ?_; intro v4 w4 ho4 hg4 ha4; have o4 : OwnB w4 (w.heap.size + 1) v4 (P ++ digs 2 b) := OwnB.snoc ho4 rfl rfl; have B4 := Lib.hid (HB3.out.grown hg4 (fun e => by have := ol3.block _ e; omega)); have b4 : Below w.heap.size w w4 := b3'.grown hg4 b3'.size (fun g hg => by have := ol3.block g hg; omega); have hsz4 : w.heap.size + 1 ≤ w4.heap.size := Nat.le_trans hsz3 hg4.size; obtain ⟨d0, d4, d5, d6, d7, d8, d9, d10⟩ := B4.out.parts; clear ho4 hg4 ha4 ol3 s3 HB3 b3')
        | (at_builtin; go_must (refine wpList_appb _ rfl (.tmp 35) (.tmp 50) rfl (w.heap.size + 1) _ _ _ rfl (World.ownsRow.alloc o4 _) _ _ 2 2 _ rfl (shows_new w4 #[.int .u8 (3 * (tc : Int) + tn + 1), .int .u8 (td : Int)] 5 2 1 rfl) (by simp [Value.oneCell']) (by rw [List.length_append]; omega) (by simp; omega) ?_); intro v8 w8 ho8 hg8 ha8; have o8 : OwnB w8 (w.heap.size + 1) v8 (P ++ digs 2 b ++ [UInt8.ofNat (3 * (tc : Int) + tn + 1).toNat, UInt8.ofNat td]) := OwnB.snoc ho8 HX.out rfl; have b8 : Below w.heap.size w w8 := (b4.alloc b4.size _).grown hg8 (b4.alloc b4.size _).size (fun g hg => by have := o4.block g hg; omega)))
      go_ret
      exact ⟨v8, rfl, by rw [HBd.out]; exact o8.lower (by omega), b8⟩
end Go.Proofs.YtppcdppplbpklaaDoor
