/- Walks: the law's plus and minus. -/
import Derived.Test.YtipaapplingbnaaGreatDoorPe
import Derived.Deep.RegionHeld3
namespace Go.Proofs.YtipaapplingbnaaGreatDoor
open Go.RowKit Go.Deep

theorem Shows.drew {w : World} {B size n : Nat} {A : Option Addr} {xs : List Value} (h : Shows w B size A n xs) : Shows w.drew B size A n xs := h
/-- A row of integers of the call's own. -/
def OwnZ (w : World) (base : Nat) (v : Value) (l : List Int) : Prop := w.ownsRow base 3 1 v l.length (icells l)
theorem OwnZ.start (w : World) (base : Nat) : OwnZ w base (.slice none 0 0) [] := ⟨rfl, Or.inl ⟨rfl, rfl⟩⟩
theorem OwnZ.form {w : World} {base : Nat} {v : Value} {l : List Int} (h : OwnZ w base v l) : ∃ A c, v = .slice A l.length c ∧ l.length ≤ c ∧ RdI w w.heap.size A l := by
  have h' := h
  rcases h'.2 with ⟨rfl, h0⟩ | ⟨g, cap, cur, rfl, -, -, hc, -⟩
  · obtain rfl : l = [] := List.eq_nil_of_length_eq_zero h0
    exact ⟨none, 0, rfl, Nat.le_refl _, RdI.nil _ _ _⟩
  · exact ⟨_, cap, rfl, hc, Shows.of_own h⟩
theorem OwnZ.block {w : World} {base : Nat} {v : Value} {l : List Int} (h : OwnZ w base v l) : ∀ g, v.ownBlock = some g → base ≤ g := fun g hg => (World.ownsRow.lt h g hg).1
theorem OwnZ.snoc {w : World} {base : Nat} {v : Value} {l m : List Int} (h : w.ownsRow base 3 1 v (l.length + m.length) (icells l ++ icells m)) : OwnZ w base v (l ++ m) := by
  unfold OwnZ
  rw [List.length_append, icells_append]
  exact h
theorem OwnZ.alloc {w : World} {base : Nat} {v : Value} {l : List Int} (h : OwnZ w base v l) (o : Obj) : OwnZ (w.alloc o) base v l := World.ownsRow.alloc h o
theorem OwnZ.drew {w : World} {base : Nat} {v : Value} {l : List Int} (h : OwnZ w base v l) : OwnZ w.drew base v l := h

set_option maxRecDepth 100000 in
set_option maxHeartbeats 2000000 in
theorem plus_any (w : World) (A B : Option Addr) (c d : Nat) (a b : List Int) (hl : a.length = b.length) (h6 : a.length ≤ 6) (ra : RdI w w.heap.size A a) (rb : RdI w w.heap.size B b) (sa : ∀ k, k < a.length → -1000 ≤ a.getD k 0 ∧ a.getD k 0 ≤ 1000) (sb : ∀ k, k < b.length → -1000 ≤ b.getD k 0 ∧ b.getD k 0 ≤ 1000) :
    Calls Tryz.prog 22 #[.slice A a.length c, .slice B b.length d] w fun e w' => Below w.heap.size w w' ∧ ∃ A' c', e = .returned (.slice A' a.length c') ∧ RdI w' w'.heap.size A' (plusC a b) := by
  have RA := Lib.hid ra
  have RB := Lib.hid rb
  have SA := Lib.hid sa
  have SB := Lib.hid sb
  rw [← hl]
  have HP := Lib.hid fun k hk => plusC_at a b hl k hk
  have HL : Hid ((plusC a b).length = a.length) := by show _ = _; rw [plusC_len]; omega
  have HLL := Lib.hid hl
  clear ra rb sa sb hl
  go_enter Tryz.func22, Tryz.ntmps22
  go_wp2_with fail
  go_loopw [5, 6] (fun v i wx => ∃ k : Nat, k ≤ a.length ∧ i = .int .i64 k ∧ Hid (Below w.heap.size w wx) ∧ Hid (OwnZ wx w.heap.size v ((plusC a b).take k))) (fun _ i _ => a.length - (intOf i).toNat)
  case atStart => exact ⟨0, Nat.zero_le _, rfl, Below.refl _ _, OwnZ.start _ _⟩
  case round =>
    obtain ⟨k, hk, rfl, HB, HO⟩ := hrel
    by_cases hlt : k < a.length
    · obtain ⟨pa, rfl, ha, qa0⟩ := RA.out.at hlt
      obtain ⟨pb, rfl, hb, qb0⟩ := RB.out.at (i := k) (by have := HLL.out; omega)
      obtain ⟨x1, x2⟩ := SA.out k hlt
      obtain ⟨y1, y2⟩ := SB.out k (by have := HLL.out; omega)
      have HN := Lib.hid (HP.out k hlt)
      have HKL : Hid (((plusC a b).take k).length = k) := by show _ = _; rw [List.length_take, HL.out]; omega
      have fa : (pa.add k).block < w.heap.size := by rw [add_block]; exact ha
      have fb : (pb.add k).block < w.heap.size := by rw [add_block]; exact hb
      have qa := (HB.out.cell fa).trans qa0
      have qb := (HB.out.cell fb).trans qb0
      clear qa0 qb0
      obtain ⟨l, hlq⟩ : ∃ l, l = (plusC a b).take k := ⟨_, rfl⟩
      rw [← hlq] at HN HO HKL
      clear hlq ha hb
      generalize a.getD k 0 = x at *
      generalize b.getD k 0 = y at *
      obtain ⟨z, hz⟩ : ∃ z, z = x + y := ⟨_, rfl⟩
      have hwz : IntKind.i64.wrap (x + y) = z := by rw [IntWalk.i64_in _ (by omega), hz]
      have HZ := Lib.hid hz
      clear hz
      have hob := HO.out.block
      have hw := HB.out.size
      have hll := HKL.out
      have hlk : l.length ≤ 6 := by omega
      clear hll
      go_wp2_with fail
      go_region_held3 (fun w' => w'.cell? (pa.add k) = some (.int .i64 x) ∧ w'.cell? (pb.add k) = some (.int .i64 y))
        (first
          | go_keep
          | (go_split_ands; refine ⟨?_, ?_⟩ <;> (rw [hg4.cell_far _ (by simp; omega) (fun e => by have := hob _ e.symm; omega)]; assumption)))
        ((refine step_app _ (by rfl) _ _ 23 3 (.int .i64 0) 1 8 (by rfl) Tryz.underlying23 int_info rfl (by decide) w.heap.size _ _ _ (by rfl) (HO.out.alloc _).drew (wr.heap.size + 1) (some ⟨wr.heap.size, 0, none⟩) 1 1 [.int .i64 z] (by rfl) (shows_new wr #[.int .i64 z] _ 1 1 rfl).drew (by simp [Value.oneCell']) (by simp only [maxLen]; omega) (by omega) (by simp; omega) ?_; intro v4 w4 hown4 hg4 hat4))
      replace hown4 := Lib.hid hown4
      replace hg4 := Lib.hid hg4
      go_wp2_with fail
      go_roundw
      case rel =>
        refine ⟨k + 1, by omega, by go_num, ?_, ?_⟩
        · exact (HB.out.alloc HB.out.size _).drew.grown hg4.out (HB.out.alloc HB.out.size _).drew.size (fun g hg => hob g hg)
        · show OwnZ _ _ _ _
          rw [HN.out, ← HZ.out]
          exact OwnZ.snoc (m := [z]) hown4.out
      case measure => simp [intOf]; omega
    · obtain rfl : k = a.length := by omega
      obtain ⟨A', c', hv, hc, hr⟩ := HO.out.form
      rw [← HL.out, List.take_length] at hv hr
      rw [HL.out] at hv
      subst hv
      have HR := Lib.hid hr
      clear hr hc HO
      go_wp2_with fail
      go_ret
      exact ⟨HB.out, A', c', rfl, HR.out⟩

set_option maxRecDepth 100000 in
set_option maxHeartbeats 2000000 in
theorem minus_any (w : World) (A : Option Addr) (c : Nat) (a : List Int) (h6 : a.length ≤ 6) (ra : RdI w w.heap.size A a) (sa : ∀ k, k < a.length → -1000 ≤ a.getD k 0 ∧ a.getD k 0 ≤ 1000) :
    Calls Tryz.prog 23 #[.slice A a.length c] w fun e w' => Below w.heap.size w w' ∧ ∃ A' c', e = .returned (.slice A' a.length c') ∧ RdI w' w'.heap.size A' (minusC a) := by
  have RA := Lib.hid ra
  have SA := Lib.hid sa
  have HP := Lib.hid fun k hk => minusC_at a k hk
  have HL : Hid ((minusC a).length = a.length) := by show _ = _; rw [minusC, List.length_map]
  clear ra sa
  go_enter Tryz.func23, Tryz.ntmps23
  go_wp2_with fail
  go_loopw [3, 4] (fun v i wx => ∃ k : Nat, k ≤ a.length ∧ i = .int .i64 k ∧ Hid (Below w.heap.size w wx) ∧ Hid (OwnZ wx w.heap.size v ((minusC a).take k))) (fun _ i _ => a.length - (intOf i).toNat)
  case atStart => exact ⟨0, Nat.zero_le _, rfl, Below.refl _ _, OwnZ.start _ _⟩
  case round =>
    obtain ⟨k, hk, rfl, HB, HO⟩ := hrel
    by_cases hlt : k < a.length
    · obtain ⟨pa, rfl, ha, qa⟩ := (RA.out.up HB.out).at hlt
      obtain ⟨x1, x2⟩ := SA.out k hlt
      have HN := Lib.hid (HP.out k hlt)
      have HKL : Hid (((minusC a).take k).length = k) := by show _ = _; rw [List.length_take, HL.out]; omega
      obtain ⟨l, hlq⟩ : ∃ l, l = (minusC a).take k := ⟨_, rfl⟩
      rw [← hlq] at HN HO HKL
      clear hlq
      generalize a.getD k 0 = x at *
      have hob := HO.out.block
      have hw := HB.out.size
      have hll := HKL.out
      have hlk : l.length ≤ 6 := by omega
      clear hll
      go_wp2_with (at_builtin; go_must (refine wpList_app _ rfl (.tmp 11) (.tmp 17) 23 3 (.int .i64 0) 1 8 rfl Tryz.underlying23 int_info rfl (by decide) w.heap.size _ _ _ rfl (HO.out.alloc (.cells #[.int .i64 (-x)] 3)) (wr.heap.size + 1) (some ⟨wr.heap.size, 0, none⟩) 1 1 (icells [-x]) rfl (shows_new wr #[.int .i64 (-x)] 3 1 1 rfl) (icells_one [-x]) (by simp only [maxLen]; omega) (by omega) (by simp; omega) ?_); intro v4 w4 ho4 hg4 _; replace ho4 := Lib.hid ho4; replace hg4 := Lib.hid hg4)
      go_roundw
      case rel =>
        refine ⟨k + 1, by omega, by go_num, ?_, ?_⟩
        · exact (HB.out.alloc HB.out.size _).grown hg4.out (HB.out.alloc HB.out.size _).size (fun g hg => hob g hg)
        · show OwnZ _ _ _ _
          rw [HN.out]
          exact OwnZ.snoc (m := [-x]) ho4.out
      case measure => simp [intOf]; omega
    · obtain rfl : k = a.length := by omega
      obtain ⟨A', c', hv, hc, hr⟩ := HO.out.form
      rw [← HL.out, List.take_length] at hv hr
      rw [HL.out] at hv
      subst hv
      have HR := Lib.hid hr
      clear hr hc HO
      go_wp2_with fail
      go_ret
      exact ⟨HB.out, A', c', rfl, HR.out⟩

end Go.Proofs.YtipaapplingbnaaGreatDoor
