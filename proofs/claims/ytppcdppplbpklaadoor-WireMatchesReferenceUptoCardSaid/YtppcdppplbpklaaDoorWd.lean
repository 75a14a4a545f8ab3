/- Walks: Encode. -/
import Derived.Test.YtppcdppplbpklaaDoorWa
import Derived.Test.YtppcdppplbpklaaDoorWb
import Derived.Test.YtppcdppplbpklaaDoorWc
import Derived.Deep.RegionHeld3
namespace Go.Proofs.YtppcdppplbpklaaDoor
open Go.RowKit

/-- A message's ten cells. -/
structure Msg where
  (k f t s b v ts tc tn td : Int)
def Msg.cells (m : Msg) : Array Value := #[.int .i64 m.k, .int .i64 m.f, .int .i64 m.t, .int .i64 m.s, .int .i64 m.b, .int .i64 m.v, .int .i64 m.ts, .int .i64 m.tc, .int .i64 m.tn, .int .i64 m.td]
def Msg.ok (m : Msg) : Bool := validB m.k m.f m.t m.s m.b m.v m.ts m.tc m.tn m.td
def Msg.none_ (m : Msg) : Bool := decide (m.ts = 0 ∧ m.tc = 0 ∧ m.tn = 0 ∧ m.td = 0)
def Msg.head (m : Msg) : List UInt8 := [UInt8.ofNat m.k.toNat, UInt8.ofNat (8 * m.f + m.t).toNat, UInt8.ofNat m.s.toNat] ++ digs 2 m.b.toNat
def Msg.mid (m : Msg) : List UInt8 := if m.k = 2 then digs 2 m.v.toNat else []
def Msg.tail (m : Msg) : List UInt8 := if m.none_ then [] else [UInt8.ofNat (3 * m.tc + m.tn + 1).toNat, UInt8.ofNat m.td.toNat]
def Msg.body (m : Msg) : List UInt8 := m.head ++ m.mid ++ m.tail
def be32 (c : Nat) : List UInt8 := [UInt8.ofNat (c / 16777216), UInt8.ofNat (c / 65536), UInt8.ofNat (c / 256), UInt8.ofNat c]
def withSum (l : List UInt8) : List UInt8 := l ++ be32 (crcSum l)
def Msg.frame (m : Msg) : List UInt8 := withSum (UInt8.ofNat m.body.length :: m.body)

theorem be32_cells (c : Nat) (h : c < 4294967296) :
    [Value.int .u8 ((c : Int) / 16777216), .int .u8 ((c : Int) / 65536 % 256), .int .u8 ((c : Int) / 256 % 256), .int .u8 ((c : Int) % 256)] = bcells (be32 c) := by
  simp only [be32, bcells, List.map_cons, List.map_nil, UInt8.toNat_ofNat']
  rw [show ((c / 16777216 % 2 ^ 8 : Nat) : Int) = (c : Int) / 16777216 from by omega, show ((c / 65536 % 2 ^ 8 : Nat) : Int) = (c : Int) / 65536 % 256 from by omega,
    show ((c / 256 % 2 ^ 8 : Nat) : Int) = (c : Int) / 256 % 256 from by omega, show ((c % 2 ^ 8 : Nat) : Int) = (c : Int) % 256 from by omega]

set_option maxHeartbeats 1000000 in
theorem encode_bad (m : Msg) (w : World) (hm : m.ok = false) :
    Calls Tryd.prog 12 #[.agg m.cells] w fun e w' => e = .returned (.tuple #[.slice none 0 0, .int .i64 1]) ∧ Below w.heap.size w w' := by
  obtain ⟨k, f, t, s, b, v, ts, tc, tn, td⟩ := m
  have HM : validB k f t s b v ts tc tn td = false := hm
  clear hm
  dsimp only [Msg.cells]
  go_enter Tryd.func12, Tryd.ntmps12
  go_wp2_with (go_at_call 13; refine (valid_any _ _ _ _ _ _ _ _ _ _ _).mono ?_; rintro e w' ⟨rfl, hb⟩)
  go_ret2
  exact ⟨rfl, ((Below.refl _ _).alloc (Nat.le_refl _) _).trans (hb.mono (by simp))⟩

theorem bcell {W w1 : World} (hb : Below W.heap.size W w1) : (∀ b o, b < W.heap.size → w1.cell? ⟨b, o, none⟩ = W.cell? ⟨b, o, none⟩) ∧ (∀ b o, b < W.heap.size → w1.frozen? ⟨b, o, none⟩ = W.frozen? ⟨b, o, none⟩) :=
  ⟨fun _ _ h => hb.cell h, fun _ _ h => hb.frozen h⟩

noncomputable def z16 : Array Value := madeCells #[.int .u8 0] 16
theorem make16 (w : World) : (Instr.makeSlice 26 (.int .i64 0) (.int .i64 16)).run Tryd.prog w = .ok (.slice (some ⟨w.heap.size, 0, none⟩) 0 16) (w.alloc (.cells z16 5)) := by
  obtain ⟨i0, hi, hz0, hz1, hz2⟩ := info_parts u8_info
  have h := run_make (P := Tryd.prog) w 26 5 i0 _ Tryd.underlying26 hi hz0 .i64 .i64 0 16 (by omega) (by omega) (by rw [hz2]; omega) (by omega)
  rw [hz1] at h
  exact h
theorem own16 (w : World) (base : Nat) (h : base ≤ w.heap.size) : OwnB (w.alloc (.cells z16 5)) base (.slice (some ⟨w.heap.size, 0, none⟩) 0 16) [] :=
  World.ownsRow_made (e := 5) (size := 1) w z16 16 h (by simp [maxLen]) (by simp [z16, size_madeCells])

set_option maxRecDepth 100000 in
set_option maxHeartbeats 1000000 in
theorem encode_ok (m : Msg) (w : World) (hm : m.ok = true) (hn : Nibs w) :
    Calls Tryd.prog 12 #[.agg m.cells] w fun e w' => ∃ v', e = .returned (.tuple #[v', .int .i64 0]) ∧ OwnB w' w.heap.size v' m.frame ∧ Below w.heap.size w w' := by
  obtain ⟨k, f, t, s, b, v, ts, tc, tn, td⟩ := m
  have HM : validB k f t s b v ts tc tn td = true := hm
  clear hm
  obtain ⟨k1, k2, f1, f2, t1, t2, -, s1, s2, b1, b2, v1, v2, tc1, tc2, tn1, tn2, td1, td2, HV⟩ := valid_bounds HM
  obtain ⟨k, rfl⟩ := Int.eq_ofNat_of_zero_le (show 0 ≤ k by omega)
  obtain ⟨f, rfl⟩ := Int.eq_ofNat_of_zero_le f1
  obtain ⟨t, rfl⟩ := Int.eq_ofNat_of_zero_le t1
  obtain ⟨s, rfl⟩ := Int.eq_ofNat_of_zero_le (show 0 ≤ s by omega)
  obtain ⟨b, rfl⟩ := Int.eq_ofNat_of_zero_le (show 0 ≤ b by omega)
  obtain ⟨v, rfl⟩ := Int.eq_ofNat_of_zero_le v1
  obtain ⟨tc, rfl⟩ := Int.eq_ofNat_of_zero_le tc1
  obtain ⟨td, rfl⟩ := Int.eq_ofNat_of_zero_le td1
  replace HV := Lib.hid HV
  have hor : bits .or .i64 ((f : Int) * 8) (t : Int) = ((8 * f + t : Nat) : Int) := by
    have := i64_or_nat (f * 8) t (by omega) (by omega)
    rw [Nat.or_comm, or_low 3 t f (by omega)] at this
    rw [show 8 * f + t = t + f * 2 ^ 3 from by omega, ← this]; norm_cast
  dsimp only [Msg.cells]
  have hmk := make16
  go_enter Tryd.func12, Tryd.ntmps12
  go_upto_region 4 with (go_at_call 13; refine (valid_any _ _ _ _ _ _ _ _ _ _ _).mono ?_; rintro e w1 ⟨rfl, hb1⟩)
  clear hmk
  have hbox : Blk (w1.alloc (.cells z16 5)) w.heap.size 25 #[.int .i64 k, .int .i64 f, .int .i64 t, .int .i64 s, .int .i64 b, .int .i64 v, .int .i64 ts, .int .i64 tc, .int .i64 tn, .int .i64 td] :=
    ((Blk.new _ _ _).below hb1 (by simp)).alloc _
  have hown0 := own16 w1 (w.heap.size + 1) (by simpa using hb1.size)
  have hbel : Below w.heap.size w (w1.alloc (.cells z16 5)) := (((Below.refl _ _).alloc (Nat.le_refl _) _).trans (hb1.mono (by simp))).alloc (by have := hb1.size; simp at this; omega) _
  have hsz0 : w.heap.size + 1 ≤ w1.heap.size := by simpa using hb1.size
  clear hb1
  generalize hw2 : w1.alloc (.cells z16 5) = w2 at *
  have hsz2 : w1.heap.size + 1 = w2.heap.size := by rw [← hw2]; simp
  clear hw2
  have c0 := hbox.cell 0
  have c1 := hbox.cell 1
  have c2 := hbox.cell 2
  have c3 := hbox.cell 3
  have c4 := hbox.cell 4
  simp at c0 c1 c2 c3 c4
  go_cut [4] (fun s4 wx => OwnB wx (w.heap.size + 1) s4 (0 :: (Msg.mk k f t s b v ts tc tn td).head) ∧ Blk wx w.heap.size 25 (Msg.mk k f t s b v ts tc tn td).cells ∧ Below w.heap.size w wx)
  case first =>
    have hlt2 : w.heap.size + 1 < w2.heap.size := by omega
    have H2 := Lib.hid hsz2; clear hsz2
    have e1 : IntKind.u8.wrap (k : Int) = (k : Int) := IntWalk.u8_in _ (by omega)
    have e2 : IntKind.i64.wrap ((f : Int) * 8) = (f : Int) * 8 := IntWalk.i64_in _ (by omega)
    have e3 : IntKind.u8.wrap ((8 * f + t : Nat) : Int) = ((8 * f + t : Nat) : Int) := IntWalk.u8_in _ (by omega)
    have e4 : IntKind.u8.wrap (s : Int) = (s : Int) := IntWalk.u8_in _ (by omega)
    have hft := bcell_ofNat (8 * f + t) (by omega)
    replace hft := Lib.hid hft
    have HH := Lib.hid (show [0, UInt8.ofNat k, UInt8.ofNat (8 * f + t), UInt8.ofNat s] ++ digs 2 b = 0 :: (Msg.mk k f t s b v ts tc tn td).head by
      simp only [Msg.head, Int.toNat_natCast]; rw [show ((8 : Int) * (f : Int) + (t : Int)).toNat = 8 * f + t from by omega]; rfl)
    generalize 8 * f + t = ft at *
    have hconv : ∀ (W : World) (V : Value), W.ownsRow (w.heap.size + 1) 5 1 V (0 + 4) ([] ++ [.int .u8 0, .int .u8 k, .int .u8 ft, .int .u8 s]) → OwnB W (w.heap.size + 1) V [0, UInt8.ofNat k, UInt8.ofNat ft, UInt8.ofNat s] := by
      intro W V h
      rw [bcell_ofNat k (by omega), hft.out, bcell_ofNat s (by omega)] at h
      exact h
    go_region_held3 (fun w' => w'.cell? ⟨w.heap.size, 0, none⟩ = some (.int .i64 k) ∧ w'.cell? ⟨w.heap.size, 1, none⟩ = some (.int .i64 f) ∧ w'.cell? ⟨w.heap.size, 2, none⟩ = some (.int .i64 t) ∧ w'.cell? ⟨w.heap.size, 3, none⟩ = some (.int .i64 s) ∧ w'.cell? ⟨w.heap.size, 4, none⟩ = some (.int .i64 b))
      (first
        | go_keep
        | (go_split_ands; refine ⟨?_, ?_, ?_, ?_, ?_⟩ <;> (rw [hg3.cell_far _ (by simp; omega) (by simp [Value.ownBlock]; omega)]; assumption))
        | (go_split_ands; refine ⟨?_, ?_, ?_, ?_, ?_⟩ <;> (rw [hg4.cell_far _ (by simp; omega) (fun e => Nat.not_succ_le_self _ (ho3 _ e.symm))]; assumption)))
      (first | (go_at_call 24; refine (digits_any (w.heap.size + 1) v3 [0, UInt8.ofNat k, UInt8.ofNat ft, UInt8.ofNat s] b _ hown3' (by omega) (by omega) (by simp)).mono ?_; rintro e w4 ⟨v4, rfl, hown4, hg4⟩) | (refine step_appb _ (by rfl) _ _ (by rfl) (w.heap.size + 1) (.slice (some ⟨w1.heap.size, 0, none⟩) 0 16) 0 [] (by rfl) (hown0.alloc _).drew (w2.heap.size + 1) (some ⟨w2.heap.size, 0, none⟩) 4 4 [.int .u8 0, .int .u8 k, .int .u8 ft, .int .u8 s] (by rfl) (shows_new w2 #[.int .u8 0, .int .u8 k, .int .u8 ft, .int .u8 s] _ 4 1 rfl).drew (by simp [Value.oneCell']) (by omega) (by simp; have := H2.out; omega) ?_; intro v3 w3 hown3 hg3 hat3; have hown3' : OwnB w3 (w.heap.size + 1) v3 [0, UInt8.ofNat k, UInt8.ofNat ft, UInt8.ofNat s] := hconv _ _ hown3; have ho3 := hown3'.block; have hsz3 : w2.heap.size + 1 ≤ w3.heap.size := (by simpa using hg3.size)))
    go_wp2_with fail
    go_meet
    case rel =>
      have hb4 := (((hbox.alloc _).drew).grown hg3 (by simp [Value.ownBlock]; omega)).grown hg4 (fun e => Nat.not_succ_le_self _ (ho3 _ e))
      refine ⟨by rw [← HH.out]; exact hown4, hb4, ?_⟩
      exact ((hbel.alloc (by omega) _).drew.grown hg3 (by simp; omega) (by simp [Value.ownBlock]; omega)).grown hg4 (by omega) (fun g hg => by have := ho3 g hg; omega)
  case rest =>
    clear hown0 hbel hbox hor c0 c1 c2 c3 c4 hsz0 hsz2
    obtain ⟨hown, hbox, hbel⟩ := hcut
    have c0 := hbox.cell 0
    have c5 := hbox.cell 5
    simp [Msg.cells] at c0 c5
    go_upto_if 32 with fail
    go_cut [4] (fun s4 wx => OwnB wx (w.heap.size + 1) s4 (0 :: ((Msg.mk k f t s b v ts tc tn td).head ++ (Msg.mk k f t s b v ts tc tn td).mid)) ∧ Blk wx w.heap.size 25 (Msg.mk k f t s b v ts tc tn td).cells ∧ Below w.heap.size w wx)
    case first =>
      by_cases hk2 : (k : Int) = 2
      · have q : ((k : Int) == 2) = true := beq_iff_eq.2 hk2
        have HM2 := Lib.hid (show 0 :: ((Msg.mk k f t s b v ts tc tn td).head ++ (Msg.mk k f t s b v ts tc tn td).mid) = (0 :: (Msg.mk k f t s b v ts tc tn td).head) ++ digs 2 v by
          simp only [Msg.mid, hk2, if_true, Int.toNat_natCast, List.cons_append])
        have hl : (0 :: (Msg.mk k f t s b v ts tc tn td).head).length ≤ 1000 := by
          have := (digs_length 2 b).1; simp only [Msg.head, List.length_cons, List.length_append, List.length_nil, Int.toNat_natCast]; omega
        have hb4 := hown.block
        clear hk2
        generalize 0 :: (Msg.mk k f t s b v ts tc tn td).head = hd at *
        have hsz := hbel.size
        have hsz' := hbox.lt
        go_wp2_with (go_at_call 24; go_must (refine (digits_any (w.heap.size + 1) u4 hd v _ hown (by omega) (by omega) hl).mono ?_); rintro e w4 ⟨v4, rfl, hown4, hg4⟩)
        go_meet
        case rel => exact ⟨by rw [HM2.out]; exact hown4, hbox.grown hg4 (fun e => Nat.not_succ_le_self _ (hb4 _ e)), hbel.grown hg4 hsz (fun g hg => by have := hb4 g hg; omega)⟩
      · have q : ((k : Int) == 2) = false := beq_eq_false_iff_ne.2 hk2
        have HM2 := Lib.hid (show 0 :: ((Msg.mk k f t s b v ts tc tn td).head ++ (Msg.mk k f t s b v ts tc tn td).mid) = 0 :: (Msg.mk k f t s b v ts tc tn td).head by
          simp only [Msg.mid, hk2, if_false, List.append_nil])
        clear hk2
        go_wp2_with fail
        go_meet
        case rel => exact ⟨by rw [HM2.out]; exact hown, hbox, hbel⟩
    case rest =>
      clear hown hbox hbel c0 c5
      obtain ⟨hown, hbox, hbel⟩ := hcut
      have c6 := hbox.cell 6
      have c7 := hbox.cell 7
      have c8 := hbox.cell 8
      have c9 := hbox.cell 9
      simp [Msg.cells] at c6 c7 c8 c9
      go_upto_region 8 with fail
      obtain ⟨wd, rfl⟩ : ∃ wd, wd = wc := ⟨_, rfl⟩
      go_cut [41] (fun s41 wx => ∃ q : Bool, s41 = .bool q ∧ Hid (q = !(Msg.mk k f t s b v ts tc tn td).none_) ∧ wx = wd.alloc (.cells #[.int .i64 ts, .int .i64 tc, .int .i64 tn, .int .i64 td] 23))
      case first =>
        have hcase : (ts = 0 ∧ tc = 0 ∧ tn = 0 ∧ td = 0) ∨ ¬ ts = 0 := by rcases HV.out with h | h | h | h <;> omega
        rcases hcase with ⟨h6, h7, h8, h9⟩ | h6
        · have q6 : (ts == 0) = true := beq_iff_eq.2 h6
          have q7 : ((tc : Int) == 0) = true := beq_iff_eq.2 (by omega)
          have q8 : (tn == 0) = true := beq_iff_eq.2 h8
          have q9 : ((td : Int) == 0) = true := beq_iff_eq.2 (by omega)
          have HQ := Lib.hid (show false = !(Msg.mk k f t s b v ts tc tn td).none_ by simp [Msg.none_, h6, h7, h8, h9])
          clear h6 h7 h8 h9
          go_wp2_with fail
          go_meet
          case rel => exact ⟨_, rfl, HQ, rfl⟩
        · have q6 : (ts == 0) = false := beq_eq_false_iff_ne.2 h6
          have HQ := Lib.hid (show true = !(Msg.mk k f t s b v ts tc tn td).none_ by simp [Msg.none_, h6])
          clear h6
          go_wp2_with fail
          go_meet
          case rel => exact ⟨_, rfl, HQ, rfl⟩
      case rest =>
        obtain ⟨q, rfl, Hq, rfl⟩ := hcut
        go_upto_if 41 with fail
        have hvb : Blk (wd.alloc (.cells #[.int .i64 ts, .int .i64 tc, .int .i64 tn, .int .i64 td] 23)) wd.heap.size 23 #[.int .i64 ts, .int .i64 tc, .int .i64 tn, .int .i64 td] := Blk.new _ _ _
        have hszd := hbel.size
        have hbel' := hbel.alloc hbel.size (.cells #[.int .i64 ts, .int .i64 tc, .int .i64 tn, .int .i64 td] 23)
        have hown' := hown.alloc (.cells #[.int .i64 ts, .int .i64 tc, .int .i64 tn, .int .i64 td] 23)
        clear hown hbel
        go_cut [4] (fun s4 wx => OwnB wx (w.heap.size + 1) s4 (0 :: (Msg.mk k f t s b v ts tc tn td).body) ∧ Below w.heap.size w wx)
        case first =>
          cases q
          · have HB := Lib.hid (show 0 :: (Msg.mk k f t s b v ts tc tn td).body = 0 :: ((Msg.mk k f t s b v ts tc tn td).head ++ (Msg.mk k f t s b v ts tc tn td).mid) by
              have h : (Msg.mk k f t s b v ts tc tn td).none_ = true := by have := Hq.out; simpa using this.symm
              simp only [Msg.body, Msg.tail, h, if_true, List.append_nil])
            go_wp2_with fail
            go_meet
            case rel => exact ⟨by rw [HB.out]; exact hown', hbel'⟩
          · have HB := Lib.hid (show 0 :: (Msg.mk k f t s b v ts tc tn td).body = (0 :: ((Msg.mk k f t s b v ts tc tn td).head ++ (Msg.mk k f t s b v ts tc tn td).mid)) ++ [UInt8.ofNat (3 * (tc : Int) + tn + 1).toNat, UInt8.ofNat td] by
              have h : (Msg.mk k f t s b v ts tc tn td).none_ = false := by have := Hq.out; simpa using this.symm
              simp only [Msg.body, Msg.tail, h, Bool.false_eq_true, if_false, List.cons_append, Int.toNat_natCast])
            have hl : (0 :: ((Msg.mk k f t s b v ts tc tn td).head ++ (Msg.mk k f t s b v ts tc tn td).mid)).length ≤ 1000 := by
              have h1 := (digs_length 2 b).1
              have h2 := (digs_length 2 v).1
              have h3 : (if (k : Int) = 2 then digs 2 v else []).length ≤ 3 := by split <;> first | omega | simp
              simp only [Msg.head, Msg.mid, List.length_cons, List.length_append, List.length_nil, Int.toNat_natCast]; omega
            have hb4 := hown'.block
            generalize 0 :: ((Msg.mk k f t s b v ts tc tn td).head ++ (Msg.mk k f t s b v ts tc tn td).mid) = hd at *
            have hx : ∃ x : Nat, (3 * (tc : Int) + tn + 1) = x ∧ x < 256 := ⟨(3 * (tc : Int) + tn + 1).toNat, by omega, by omega⟩
            obtain ⟨x, hx1, hx2⟩ := hx
            have HB' := Lib.hid (show 0 :: (Msg.mk k f t s b v ts tc tn td).body = hd ++ [UInt8.ofNat x, UInt8.ofNat td] by rw [HB.out, hx1]; rfl)
            clear HB Hq
            have hsh := shows_new (wd.alloc (.cells #[.int .i64 ts, .int .i64 tc, .int .i64 tn, .int .i64 td] 23)) #[.int .u8 (x : Int), .int .u8 (td : Int)] 5 2 1 rfl
            simp only [World.size_alloc] at hsh
            go_wp2_with (at_builtin; go_must (refine wpList_appb _ rfl (.tmp 42) (.tmp 54) rfl (w.heap.size + 1) u4 _ _ rfl (World.ownsRow.alloc hown' _) _ _ 2 2 _ rfl hsh (by simp [Value.oneCell']) (by omega) (by simp; omega) ?_); intro v4 w4 hown4 hg4 hat4)
            go_meet
            case rel => exact ⟨by rw [HB'.out]; exact OwnB.snoc hown4 (by rw [bcell_ofNat x hx2, bcell_ofNat td (by omega)]; rfl) rfl, (hbel'.alloc hbel'.size _).grown hg4 (hbel'.alloc hbel'.size _).size (fun g hg => by have := hb4 g hg; omega)⟩
        case rest =>
          obtain ⟨hown, hbel⟩ := hcut
          have hbl : (Msg.mk k f t s b v ts tc tn td).body.length ≤ 11 := by
            have h1 := (digs_length 2 b).1
            have h2 := (digs_length 2 v).1
            have h3 : (if (k : Int) = 2 then digs 2 v else []).length ≤ 3 := by split <;> first | omega | simp
            have h4 : (Msg.tail (Msg.mk k f t s b v ts tc tn td)).length ≤ 2 := by unfold Msg.tail; split <;> simp
            simp only [Msg.body, Msg.head, Msg.mid, List.length_cons, List.length_append, List.length_nil, Int.toNat_natCast]; omega
          have HF := Lib.hid (show withSum (UInt8.ofNat (Msg.mk k f t s b v ts tc tn td).body.length :: (Msg.mk k f t s b v ts tc tn td).body) = (Msg.mk k f t s b v ts tc tn td).frame from rfl)
          generalize (Msg.mk k f t s b v ts tc tn td).body = bd at *
          clear hown' hbel' hvb hszd hbox c6 c7 c8 c9 HV HM
          obtain ⟨g, cap, rfl, hgb, hgl⟩ := World.ownsRow.form hown (show 0 < (0 :: bd).length from Nat.succ_pos _)
          have hce := World.ownsRow.cellAt hown 0 (show 0 < (0 :: bd).length * 1 by simp)
          have hfr := World.ownsRow.frozenAt hown 0
          have hst := World.ownsRow.stored hown 0 (.int .u8 (bd.length : Int))
          simp [bcells] at hce
          have hstO : OwnB (wc.setCell ⟨g, 0, none⟩ (.int .u8 (bd.length : Int))) (w.heap.size + 1) (.slice (some ⟨g, 0, none⟩) (UInt8.ofNat bd.length :: bd).length cap) (UInt8.ofNat bd.length :: bd) := by
            have h := hst.1
            rw [bcell_ofNat bd.length (by omega)] at h ⊢
            exact h
          have hbl2 := hbel.setCell (p := ⟨g, 0, none⟩) (show w.heap.size ≤ g by omega) (.int .u8 (bd.length : Int))
          have hn2 := hn.below hbl2
          have hrd := (Shows.of_own hstO).bytes
          clear hst hown hbel
          have hsh : ∀ cs : Array Value, cs.size = 4 → Shows ((wc.setCell ⟨g, 0, none⟩ (.int .u8 (bd.length : Int))).alloc (.cells cs 5)) (wc.heap.size + 1) 1 (some ⟨wc.heap.size, 0, none⟩) 4 cs.toList := by
            intro cs hcs
            have h := shows_new (wc.setCell ⟨g, 0, none⟩ (.int .u8 (bd.length : Int))) cs 5 4 1 (by rw [hcs])
            simpa using h
          have hcl := crcFrom_lt (c := 4294967295) (by omega) (UInt8.ofNat bd.length :: bd)
          have hc32 : crcSum (UInt8.ofNat bd.length :: bd) < 4294967296 := Nat.xor_lt_two_pow (n := 32) (by omega) hcl
          go_wp2_with (first
            | (go_at_call 16; go_must (refine (sum_any _ _ (some ⟨g, 0, none⟩) cap (UInt8.ofNat bd.length :: bd) hrd (by simp only [List.length_cons, maxLen]; omega) hn2).mono ?_); rintro e w4 ⟨rfl, rfl⟩)
            | (at_builtin; go_must (refine wpList_appb _ rfl (.tmp 64) (.tmp 76) rfl (w.heap.size + 1) _ _ _ rfl (World.ownsRow.alloc hstO _) _ _ 4 4 _ rfl (hsh _ rfl) (by simp [Value.oneCell']) (by simp only [List.length_cons]; omega) (by simp; omega) ?_); intro v5 w5 hown5 hg5 hat5))
          go_ret2
          refine ⟨v5, rfl, ?_, ?_⟩
          · rw [← HF.out]
            exact (OwnB.snoc hown5 (be32_cells _ hc32) rfl).lower (by omega)
          · exact (hbl2.alloc hbl2.size _).grown hg5 (hbl2.alloc hbl2.size _).size (fun k hk => by have := hstO.block k hk; omega)
end Go.Proofs.YtppcdppplbpklaaDoor
