/- Walk: the law WireBursts answers true. -/
import Derived.Test.YtppcdppplbpklaaDoorLa
import Derived.Test.YtppcdppplbpklaaDoorWn
import Derived.Test.YtppcdppplbpklaaDoorWo
namespace Go.Proofs.YtppcdppplbpklaaDoor
open Go.RowKit

theorem four_cell (y0 y1 y2 y3 : UInt8) (j : Nat) (hj : j < 4) : ∃ y : UInt8, (#[.int .u8 (y0.toNat : Int), .int .u8 (y1.toNat : Int), .int .u8 (y2.toNat : Int), .int .u8 (y3.toNat : Int)] : Array Value)[j]? = some (.int .u8 (y.toNat : Int)) := by
  match j, hj with
  | 0, _ => exact ⟨y0, rfl⟩
  | 1, _ => exact ⟨y1, rfl⟩
  | 2, _ => exact ⟨y2, rfl⟩
  | 3, _ => exact ⟨y3, rfl⟩

/-- One more byte of the window is changed. -/
theorem window_set (l m : List UInt8) (k j : Nat) (hm : m.length = j) (h : k + j < l.length) (z : UInt8) : (l.take k ++ m ++ l.drop (k + j)).set (k + j) z = l.take k ++ (m ++ [z]) ++ l.drop (k + (j + 1)) := by
  have e : l.drop (k + j) = l[k + j] :: l.drop (k + (j + 1)) := by rw [List.drop_eq_getElem_cons h, Nat.add_assoc]
  have hl : (l.take k ++ m).length = k + j := by rw [List.length_append, List.length_take]; omega
  rw [List.set_append_right _ _ (by omega), hl, Nat.sub_self, e, List.set_cons_zero]
  simp
theorem window_len (l m : List UInt8) (k j : Nat) (hm : m.length = j) (h : k + j ≤ l.length) : (l.take k ++ m ++ l.drop (k + j)).length = l.length := by
  rw [List.length_append, List.length_append, List.length_take, List.length_drop]; omega
/-- A window of up to four bytes, changed: the checksum tells. -/
theorem window_sum (l m : List UInt8) (k j : Nat) (hm : m.length = j) (hj : j ≤ 4) (h : k + j ≤ l.length) : eqB l (l.take k ++ m ++ l.drop (k + j)) = true ∨ crcSum l ≠ crcSum (l.take k ++ m ++ l.drop (k + j)) := by
  by_cases he : crcSum l = crcSum (l.take k ++ m ++ l.drop (k + j))
  · left
    have e : l = l.take k ++ (l.drop k).take j ++ l.drop (k + j) := by
      rw [List.append_assoc, ← List.drop_drop, List.take_append_drop, List.take_append_drop]
    have hl : ((l.drop k).take j).length = j := by rw [List.length_take, List.length_drop]; omega
    have := crcSum_burst (l.take k) ((l.drop k).take j) m (l.drop (k + j)) (by omega) (by omega) (by rw [← e]; exact he)
    rw [← this, ← e]
    simp [eqB]
  · exact Or.inr he

def BuRel (w : World) (base g n c : Nat) (l : List UInt8) (k B5 : Nat) (C5 : Array Value) (i : Value) (wx : World) : Prop :=
  ∃ (j : Nat) (m : List UInt8), j ≤ 4 ∧ k + j ≤ n ∧ i = .int .i64 j ∧ m.length = j ∧ Below w.heap.size w wx ∧ OwnB wx base (.slice (some ⟨g, 0, none⟩) n c) (l.take k ++ m ++ l.drop (k + j)) ∧ Blk wx B5 38 C5

set_option maxRecDepth 100000 in
set_option maxHeartbeats 4000000 in
theorem bursts_any (l : List UInt8) (A : Option Addr) (cA a : Nat) (y0 y1 y2 y3 : UInt8) (w : World) (h1 : RdB w w.heap.size A l) (hlen : l.length ≤ 140737488351232) (hcA : l.length ≤ cA) (ha : a < 18446744073709551616) (hN : Nibs w) (hE : ErrT w) :
    Calls Tryd.prog 6 #[.slice A l.length cA, .int .u64 (a : Int), .agg #[.int .u8 (y0.toNat : Int), .int .u8 (y1.toNat : Int), .int .u8 (y2.toNat : Int), .int .u8 (y3.toNat : Int)]] w fun e w' => e = .returned (.bool true) ∧ Below w.heap.size w w' := by
  have HN := Lib.hid hN
  have HE := Lib.hid hE
  clear hN hE
  have hfc := four_cell y0 y1 y2 y3
  obtain ⟨C5, hC5⟩ : ∃ C5 : Array Value, (#[.int .u8 (y0.toNat : Int), .int .u8 (y1.toNat : Int), .int .u8 (y2.toNat : Int), .int .u8 (y3.toNat : Int)] : Array Value) = C5 := ⟨_, rfl⟩
  have HC5 := Lib.hid hC5
  obtain ⟨n, hn⟩ : ∃ n, l.length = n := ⟨_, rfl⟩
  have HLn := Lib.hid hn
  have B1 := Blk.new w 38 #[.int .u8 (y0.toNat : Int), .int .u8 (y1.toNat : Int), .int .u8 (y2.toNat : Int), .int .u8 (y3.toNat : Int)]
  have b0 := alloc_below w (.cells #[.int .u8 (y0.toNat : Int), .int .u8 (y1.toNat : Int), .int .u8 (y2.toNat : Int), .int .u8 (y3.toNat : Int)] 38)
  have r1 := h1.on b0
  have hhd := head_any _ (HN.out.below b0) (HE.out.below b0)
  rw [hC5] at hfc
  rw [hn] at hlen hcA ⊢
  have HFC := Lib.hid hfc
  have H1 := Lib.hid h1
  clear hC5 hn h1 hfc
  go_enter Tryd.func6, Tryd.ntmps6
  go_wp2_with fail
  refine hhd.mono ?_
  clear hhd
  rintro e w1 ⟨rfl, b1⟩
  replace B1 := B1.on b1
  replace b0 := below_on b0 b1
  replace r1 := r1.on b1
  rw [HC5.out] at B1
  clear b1
  by_cases hz : n = 0
  · subst hz
    go_wp2_with fail
    go_ret
    exact ⟨rfl, b0⟩
  have q0 : ((n : Int) == 0) = false := beq_eq_false_iff_ne.2 (by omega)
  by_cases hbig : 10000 < n
  · have q1 : (10000 : Int) < (n : Int) := by omega
    go_wp2_with fail
    go_ret
    exact ⟨rfl, b0⟩
  have q1 : ¬ (10000 : Int) < (n : Int) := by omega
  have k0 : a % n < n := Nat.mod_lt _ (by omega)
  obtain ⟨k, hk⟩ : ∃ k, a % n = k := ⟨_, rfl⟩
  rw [hk] at k0
  have hkI : (a : Int) % (n : Int) = (k : Int) := by omega
  have HK := Lib.hid hk
  clear hk
  have s1 := (r1.below (alloc_below w1 (.cells #[] 5))).shows
  rw [HLn.out] at s1
  have hown := empty_own w1 (w1.heap.size) (Nat.le_refl _)
  go_wp2_with (first
    | (at_builtin; refine wpList_appb _ rfl (.tmp 21) (.tmp 22) rfl w1.heap.size _ _ _ rfl hown _ _ _ _ _ rfl s1 (bcells_one _) (by simp; omega) (by simp) ?_; intro v4 w4 ho4 hg4 ha4; have o4 : OwnB w4 w1.heap.size v4 l := OwnB.snoc (l := []) (m := l) ho4 rfl HLn.out.symm; have b4 : Below w1.heap.size w1 w4 := (alloc_below w1 _).grown hg4 (by simp) (fun k hk => hown.block k hk); clear ho4 hg4 ha4 s1 hown; obtain ⟨g5, c5, rfl, hg5, hlt5, hc5⟩ := o4.form_ (by rw [HLn.out]; omega); rw [HLn.out] at o4 hc5 ⊢))
  have hst : BuRel w w1.heap.size g5 n c5 l k w.heap.size C5 (.int .i64 0) w4 :=
    ⟨0, [], by omega, by omega, rfl, rfl, below_on b0 b4, by simpa using o4, B1.below b4 B1.lt⟩
  have HST := Lib.hid hst
  have HSZ := Lib.hid (And.intro b0.size (And.intro B1.lt hg5))
  clear hst o4 b4 B1 r1 b0 k0
  go_loopw [10] (fun i wx => BuRel w w1.heap.size g5 n c5 l k w.heap.size C5 i wx) (fun i _ => 4 - (intOf i).toNat)
  case atStart => exact HST.out
  case round =>
    clear HST
    obtain ⟨j, m, hj, hkj, rfl, hm, b0, o4, B5⟩ := hrel
    by_cases hgo : j < 4 ∧ k + j < n
    · have hj4I : (j : Int) < 4 := by omega
      obtain ⟨p, hp⟩ : ∃ p, k + j = p := ⟨_, rfl⟩
      have hpI : (k : Int) + (j : Int) = (p : Int) := by omega
      have hltI : (p : Int) < (n : Int) := by omega
      have hln := window_len l m k j hm (by rw [HLn.out]; omega)
      obtain ⟨p5, p6⟩ := o4.cell p (by rw [hln, HLn.out]; omega)
      obtain ⟨y, hy⟩ := HFC.out j hgo.1
      have q5 := B5.cell j
      rw [hy] at q5
      generalize hx0 : (l.take k ++ m ++ l.drop (k + j)).getD p 0 = x at *
      clear hx0
      obtain ⟨z, hz⟩ : ∃ z, x ^^^ y = z := ⟨_, rfl⟩
      have e1 := u8_xor_nat x.toNat y.toNat x.toNat_lt y.toNat_lt
      rw [← UInt8.toNat_xor, hz] at e1
      have HO := Lib.hid (o4.set p z)
      have HB := Lib.hid (And.intro b0 B5)
      have HP := Lib.hid (And.intro hm hp)
      clear hz hy hm hp hkj hj hln o4 b0 B5
      go_wp2_with fail
      go_region
      go_wp2
      go_roundw
      case rel =>
        obtain ⟨hm, hp⟩ := HP.out
        obtain ⟨b0, B5⟩ := HB.out
        obtain ⟨z1, z2, z3⟩ := HSZ.out
        have ho := HO.out
        rw [← hp, window_set l m k j hm (by rw [HLn.out, hp]; omega), hp] at ho
        exact ⟨j + 1, m ++ [z], by omega, by omega, by go_num, by rw [List.length_append, hm]; rfl, (b0.setCell (p := ⟨g5, p, none⟩) (by show w.heap.size ≤ g5; omega) _).drew, ho.drew, (B5.far (p := ⟨g5, p, none⟩) (by show ¬ w.heap.size = g5; omega) _).drew⟩
      case measure => simp [intOf]; omega
    · have hw := window_sum l m k j hm hj (by rw [HLn.out]; exact hkj)
      have hcl := window_len l m k j hm (by rw [HLn.out]; exact hkj)
      generalize l.take k ++ m ++ l.drop (k + j) = C at *
      rw [HLn.out] at hcl
      have r1 := H1.out.below b0
      have rc := o4.rd.1
      have hby := bytes_any wr _ _ A _ cA c5 l C r1 rc (by rw [HLn.out]; simp only [maxLen]; omega) (by rw [hcl]; simp only [maxLen]; omega)
      have hs1 := fun kk => sum_any (wr.drewN kk) _ A cA l r1 (by rw [HLn.out]; simp only [maxLen]; omega) (HN.out.below (below_dN b0 _))
      have hs2 := fun kk => sum_any (wr.drewN kk) _ _ c5 C rc (by rw [hcl]; simp only [maxLen]; omega) (HN.out.below (below_dN b0 _))
      rw [HLn.out, hcl] at hby
      rw [HLn.out] at hs1
      rw [hcl] at hs2
      have HS1 := Lib.hid hs1
      have HS2 := Lib.hid hs2
      have HB0 := Lib.hid b0
      clear hs1 hs2 r1 rc o4 B5 hcl hm b0
      by_cases hq : eqB l C = true
      · rw [hq] at hby
        have HBY := Lib.hid hby
        clear hby hw hq
        have hx : (¬ (j : Int) < 4) ∨ ((j : Int) < 4 ∧ ¬ (k : Int) + (j : Int) < (n : Int)) := by omega
        clear hgo
        rcases hx with hx | ⟨hx1, hx2⟩
        all_goals
          go_wp2_with fail
          refine HBY.out.mono ?_
          rintro e w5 ⟨rfl, nn, rfl⟩
          go_wp2_with fail
          go_ret
          exact ⟨rfl, below_dN HB0.out _⟩
      · have hq' : eqB l C = false := by simpa using hq
        rw [hq'] at hby
        have HBY := Lib.hid hby
        have hne : (((crcSum l : Nat) : Int) != ((crcSum C : Nat) : Int)) = true := by
          rw [bne_iff_ne]
          rcases hw with h | h
          · exact absurd h hq
          · omega
        generalize crcSum l = u1 at *
        generalize crcSum C = u2 at *
        have hx : (¬ (j : Int) < 4) ∨ ((j : Int) < 4 ∧ ¬ (k : Int) + (j : Int) < (n : Int)) := by omega
        clear hgo hby hw hq hq'
        rcases hx with hx | ⟨hx1, hx2⟩
        all_goals
          go_wp2_with fail
          refine HBY.out.mono ?_
          rintro e w5 ⟨rfl, nn, rfl⟩
          go_wp2_with fail
          refine (HS1.out _).mono ?_
          rintro e w6 ⟨rfl, rfl⟩
          go_wp2_with fail
          refine (HS2.out _).mono ?_
          rintro e w6 ⟨rfl, rfl⟩
          go_wp2_with fail
          go_ret
          exact ⟨rfl, below_dN HB0.out _⟩
end Go.Proofs.YtppcdppplbpklaaDoor
