/- Walk: the law WireLengths answers true. -/
import Derived.Test.YtppcdppplbpklaaDoorLa
import Derived.Test.YtppcdppplbpklaaDoorWn
namespace Go.Proofs.YtppcdppplbpklaaDoor
open Go.RowKit

/-- Two messages are equal, or there is a first field in which they differ. -/
theorem msg_cases (m n : Msg) : m = n ∨
    (m ≠ n ∧ (m.k == n.k) = false) ∨
    (m ≠ n ∧ (m.k == n.k) = true ∧ (m.f == n.f) = false) ∨
    (m ≠ n ∧ (m.k == n.k) = true ∧ (m.f == n.f) = true ∧ (m.t == n.t) = false) ∨
    (m ≠ n ∧ (m.k == n.k) = true ∧ (m.f == n.f) = true ∧ (m.t == n.t) = true ∧ (m.s == n.s) = false) ∨
    (m ≠ n ∧ (m.k == n.k) = true ∧ (m.f == n.f) = true ∧ (m.t == n.t) = true ∧ (m.s == n.s) = true ∧ (m.b == n.b) = false) ∨
    (m ≠ n ∧ (m.k == n.k) = true ∧ (m.f == n.f) = true ∧ (m.t == n.t) = true ∧ (m.s == n.s) = true ∧ (m.b == n.b) = true ∧ (m.v == n.v) = false) ∨
    (m ≠ n ∧ (m.k == n.k) = true ∧ (m.f == n.f) = true ∧ (m.t == n.t) = true ∧ (m.s == n.s) = true ∧ (m.b == n.b) = true ∧ (m.v == n.v) = true ∧ (m.ts == n.ts) = false) ∨
    (m ≠ n ∧ (m.k == n.k) = true ∧ (m.f == n.f) = true ∧ (m.t == n.t) = true ∧ (m.s == n.s) = true ∧ (m.b == n.b) = true ∧ (m.v == n.v) = true ∧ (m.ts == n.ts) = true ∧ (m.tc == n.tc) = false) ∨
    (m ≠ n ∧ (m.k == n.k) = true ∧ (m.f == n.f) = true ∧ (m.t == n.t) = true ∧ (m.s == n.s) = true ∧ (m.b == n.b) = true ∧ (m.v == n.v) = true ∧ (m.ts == n.ts) = true ∧ (m.tc == n.tc) = true ∧ (m.tn == n.tn) = false) ∨
    (m ≠ n ∧ (m.k == n.k) = true ∧ (m.f == n.f) = true ∧ (m.t == n.t) = true ∧ (m.s == n.s) = true ∧ (m.b == n.b) = true ∧ (m.v == n.v) = true ∧ (m.ts == n.ts) = true ∧ (m.tc == n.tc) = true ∧ (m.tn == n.tn) = true ∧ (m.td == n.td) = false) := by
  by_cases h0 : m.k = n.k
  case neg => exact Or.inr (Or.inl ⟨fun e => h0 (by rw [e]), by simpa using h0⟩)
  by_cases h1 : m.f = n.f
  case neg => exact Or.inr (Or.inr (Or.inl ⟨fun e => h1 (by rw [e]), by simp [h0], by simpa using h1⟩))
  by_cases h2 : m.t = n.t
  case neg => exact Or.inr (Or.inr (Or.inr (Or.inl ⟨fun e => h2 (by rw [e]), by simp [h0], by simp [h1], by simpa using h2⟩)))
  by_cases h3 : m.s = n.s
  case neg => exact Or.inr (Or.inr (Or.inr (Or.inr (Or.inl ⟨fun e => h3 (by rw [e]), by simp [h0], by simp [h1], by simp [h2], by simpa using h3⟩))))
  by_cases h4 : m.b = n.b
  case neg => exact Or.inr (Or.inr (Or.inr (Or.inr (Or.inr (Or.inl ⟨fun e => h4 (by rw [e]), by simp [h0], by simp [h1], by simp [h2], by simp [h3], by simpa using h4⟩)))))
  by_cases h5 : m.v = n.v
  case neg => exact Or.inr (Or.inr (Or.inr (Or.inr (Or.inr (Or.inr (Or.inl ⟨fun e => h5 (by rw [e]), by simp [h0], by simp [h1], by simp [h2], by simp [h3], by simp [h4], by simpa using h5⟩))))))
  by_cases h6 : m.ts = n.ts
  case neg => exact Or.inr (Or.inr (Or.inr (Or.inr (Or.inr (Or.inr (Or.inr (Or.inl ⟨fun e => h6 (by rw [e]), by simp [h0], by simp [h1], by simp [h2], by simp [h3], by simp [h4], by simp [h5], by simpa using h6⟩)))))))
  by_cases h7 : m.tc = n.tc
  case neg => exact Or.inr (Or.inr (Or.inr (Or.inr (Or.inr (Or.inr (Or.inr (Or.inr (Or.inl ⟨fun e => h7 (by rw [e]), by simp [h0], by simp [h1], by simp [h2], by simp [h3], by simp [h4], by simp [h5], by simp [h6], by simpa using h7⟩))))))))
  by_cases h8 : m.tn = n.tn
  case neg => exact Or.inr (Or.inr (Or.inr (Or.inr (Or.inr (Or.inr (Or.inr (Or.inr (Or.inr (Or.inl ⟨fun e => h8 (by rw [e]), by simp [h0], by simp [h1], by simp [h2], by simp [h3], by simp [h4], by simp [h5], by simp [h6], by simp [h7], by simpa using h8⟩)))))))))
  by_cases h9 : m.td = n.td
  case neg => exact Or.inr (Or.inr (Or.inr (Or.inr (Or.inr (Or.inr (Or.inr (Or.inr (Or.inr (Or.inr (⟨fun e => h9 (by rw [e]), by simp [h0], by simp [h1], by simp [h2], by simp [h3], by simp [h4], by simp [h5], by simp [h6], by simp [h7], by simp [h8], by simpa using h9⟩))))))))))
  exact Or.inl (by cases m; cases n; simp_all)

set_option maxRecDepth 100000 in
set_option maxHeartbeats 8000000 in
theorem lengths_any (m n : Msg) (w : World) (hN : Nibs w) (hE : ErrT w) :
    Calls Tryd.prog 8 #[.agg m.cells, .agg n.cells] w fun e w' => e = .returned (.bool true) ∧ Below w.heap.size w w' := by
  have HN := Lib.hid hN
  have HE := Lib.hid hE
  clear hN hE
  have B1 := (Blk.new w 25 m.cells).alloc (.cells n.cells 25)
  have B2 := Blk.new (w.alloc (.cells m.cells 25)) 25 n.cells
  rw [World.size_alloc] at B2
  have b0 := below_on (alloc_below w (.cells m.cells 25)) (alloc_below (w.alloc (.cells m.cells 25)) (.cells n.cells 25))
  have hhd := head_any _ (HN.out.below b0) (HE.out.below b0)
  go_enter Tryd.func8, Tryd.ntmps8
  go_wp2_with fail
  refine hhd.mono ?_
  clear hhd
  rintro e w1 ⟨rfl, b1⟩
  replace B1 := B1.on b1
  replace B2 := B2.on b1
  replace b0 := below_on b0 b1
  clear b1
  by_cases hm : m.ok = true
  · have hF := frame_length m
    have hbb := body_bounds m hm
    have hfst := frame_first m hm
    obtain ⟨F, hFF⟩ : ∃ F, m.frame = F := ⟨_, rfl⟩
    have henc := encode_yes m
    rw [hFF] at hF hfst henc
    obtain ⟨n1, hn1⟩ : ∃ n1, F.length = n1 := ⟨_, rfl⟩
    rw [hn1] at henc hF
    have HLn := Lib.hid hn1
    have HFF := Lib.hid hFF
    clear hn1 hFF
    obtain ⟨L, hL⟩ : ∃ L, m.body.length = L := ⟨_, rfl⟩
    rw [hL] at hF hbb hfst
    have hn1 : 9 ≤ n1 ∧ n1 ≤ 16 := by omega
    have kL : (L : Int) < 12 := by omega
    have k1 : ¬ (n1 : Int) < 9 := by omega
    have k2 : ¬ (16 : Int) < (n1 : Int) := by omega
    have k3 : ((L : Int) != (n1 : Int) - 5) = false := by simp; omega
    clear hF hbb hL
    go_wp2_with (refine wpList_get rfl 25 (.tmp 2) rfl _ rfl _ _ _ B1 Tryd.underlying25 rfl msg_size ?_)
    refine (henc _ hm (HN.out.below b0)).mono ?_
    clear henc
    rintro e w3 ⟨g, cap, rfl, hcap, r1, b1⟩
    replace b0 := below_on b0 b1
    replace B1 := B1.on b1
    replace B2 := B2.on b1
    clear b1
    by_cases hn : n.ok = true
    · go_wp2_with (refine wpList_get rfl 25 (.tmp 3) rfl _ rfl _ _ _ B2 Tryd.underlying25 rfl msg_size ?_)
      refine (encode_yes n _ hn (HN.out.below b0)).mono ?_
      rintro e w4 ⟨g2, cap2, rfl, hcap2, r2, b1⟩
      replace b0 := below_on b0 b1
      replace r1 := r1.on b1
      replace B1 := B1.on b1
      replace B2 := B2.on b1
      clear b1
      obtain ⟨ad, e1, -, hc⟩ := r1 (by rw [HLn.out]; omega)
      obtain rfl := Option.some.inj e1
      have hc0 := hc 0 (by rw [HLn.out]; omega)
      rw [hfst, show (⟨g, 0, none⟩ : Addr).add 0 = ⟨g, 0, none⟩ from rfl] at hc0
      have hby := fun k => bytes_any (w4.drewN k) _ _ _ _ cap cap2 F n.frame r1 r2 (by rw [HLn.out]; simp only [maxLen]; omega) (by have := body_bounds n hn; rw [frame_length]; simp only [maxLen]; omega)
      rw [HLn.out] at hby
      have HB := Lib.hid hby
      obtain ⟨x0, x1, x2, x3, x4, x5, x6, x7, x8, x9⟩ := msg_cells B1
      obtain ⟨y0, y1, y2, y3, y4, y5, y6, y7, y8, y9⟩ := msg_cells B2
      have HB1 := Lib.hid B1
      have HB2 := Lib.hid B2
      have HOK := Lib.hid (And.intro hm hn)
      clear hc hby B1 B2 r1 r2 hfst hm hn
      go_wp2_with fail
      rcases msg_cases m n with rfl | ⟨hne, q0⟩ | ⟨hne, q0, q1⟩ | ⟨hne, q0, q1, q2⟩ | ⟨hne, q0, q1, q2, q3⟩ | ⟨hne, q0, q1, q2, q3, q4⟩ | ⟨hne, q0, q1, q2, q3, q4, q5⟩ | ⟨hne, q0, q1, q2, q3, q4, q5, q6⟩ | ⟨hne, q0, q1, q2, q3, q4, q5, q6, q7⟩ | ⟨hne, q0, q1, q2, q3, q4, q5, q6, q7, q8⟩ | ⟨hne, q0, q1, q2, q3, q4, q5, q6, q7, q8, q9⟩
      case inl =>
        have hq := Lib.hid (show eqB F m.frame = true by rw [HFF.out]; simp [eqB])
        rw [hq.out] at HB
        go_quiet (exact Calls.quiet_of (HB.out _))
        go_wp2
        go_ret
        exact ⟨rfl, below_dN b0 _⟩
      all_goals
        have hq := Lib.hid (show eqB F n.frame = false by
          rw [← HFF.out]; simp only [eqB, decide_eq_false_iff_not]; exact fun e => hne (frame_inj m n HOK.out.1 HOK.out.2 e))
        rw [hq.out] at HB
        clear hne
        go_quiet (exact Calls.quiet_of (HB.out _))
        go_wp2
        go_ret
        exact ⟨rfl, below_dN b0 _⟩
    · have hn' : n.ok = false := by simpa using hn
      go_wp2_with (refine wpList_get rfl 25 (.tmp 3) rfl _ rfl _ _ _ B2 Tryd.underlying25 rfl msg_size ?_)
      refine (encode_bad n _ hn').mono ?_
      rintro e w4 ⟨rfl, b1⟩
      replace b0 := below_on b0 b1
      replace r1 := r1.on b1
      clear b1 B1 B2 hm hn hn'
      obtain ⟨ad, e1, -, hc⟩ := r1 (by rw [HLn.out]; omega)
      obtain rfl := Option.some.inj e1
      have hc0 := hc 0 (by rw [HLn.out]; omega)
      rw [hfst, show (⟨g, 0, none⟩ : Addr).add 0 = ⟨g, 0, none⟩ from rfl] at hc0
      clear hc r1 hfst
      go_wp2_with fail
      go_quiet (fail)
      go_wp2
      go_ret
      exact ⟨rfl, below_dN b0 _⟩
  · have hm' : m.ok = false := by simpa using hm
    go_wp2_with (refine wpList_get rfl 25 (.tmp 2) rfl _ rfl _ _ _ B1 Tryd.underlying25 rfl msg_size ?_)
    refine (encode_bad m _ hm').mono ?_
    rintro e w2 ⟨rfl, b1⟩
    replace B2 := B2.on b1
    replace b0 := below_on b0 b1
    clear b1 B1
    by_cases hn : n.ok = true
    · go_wp2_with (refine wpList_get rfl 25 (.tmp 3) rfl _ rfl _ _ _ B2 Tryd.underlying25 rfl msg_size ?_)
      refine (encode_yes n _ hn (HN.out.below b0)).mono ?_
      rintro e w4 ⟨g2, cap2, rfl, hcap2, r2, b1⟩
      replace b0 := below_on b0 b1
      clear b1 B2
      go_wp2_with fail
      go_ret
      exact ⟨rfl, b0⟩
    · have hn' : n.ok = false := by simpa using hn
      go_wp2_with (refine wpList_get rfl 25 (.tmp 3) rfl _ rfl _ _ _ B2 Tryd.underlying25 rfl msg_size ?_)
      refine (encode_bad n _ hn').mono ?_
      rintro e w2 ⟨rfl, b1⟩
      replace b0 := below_on b0 b1
      clear b1 B2
      go_wp2_with fail
      go_ret
      exact ⟨rfl, b0⟩
end Go.Proofs.YtppcdppplbpklaaDoor
