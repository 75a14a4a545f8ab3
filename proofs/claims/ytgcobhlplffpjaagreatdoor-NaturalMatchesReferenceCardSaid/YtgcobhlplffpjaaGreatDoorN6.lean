/- Walks: Parse. -/
import Derived.Test.YtgcobhlplffpjaaGreatDoorN5
namespace Go.Proofs.YtgcobhlplffpjaaGreatDoor
open Go.RowKit Go.Deep

def isDecB (s : List UInt8) : Bool := decide (s ≠ []) && !(decide (s.head? = some 48) && decide (1 < s.length)) && s.all isDig
def parseO (s : List UInt8) : Out := if isDecB s then cutO (num 0 s) else .err 8

theorem byte_ne {x : UInt8} (h : x ≠ 48) : ((x.toNat : Int) == 48) = false := by
  rw [beq_eq_false_iff_ne]
  intro e
  refine h (UInt8.toNat_inj.1 ?_)
  have : (48 : UInt8).toNat = 48 := rfl
  omega
theorem only_box {w : World} {o : Obj} {w' : World} (h : Only w.heap.size (w.alloc o) w') : Below w.heap.size w w' :=
  ⟨h.os, h.tape, h.output, by have := h.size; simp at this; omega, fun i hi => (h.block i (by omega) (by simp; omega)).trans (((Below.refl w.heap.size w).alloc (Nat.le_refl _) o).block i hi)⟩
theorem parse_box (w w2 : World) (s : List UInt8) (hb : Below (w.alloc (.cells #[str s] 9)).heap.size (w.alloc (.cells #[str s] 9)) w2) (hd : ∀ y ∈ s, isDig y = true) (hl : s.length ≤ 9223372036854775807) :
    Calls Tryz.prog 35 #[.func (.func 51) #[] #[.pointer (some ⟨w.heap.size, 0, none⟩)], .slice none 0 0] w2 (EndsO w (cutO (num 0 s))) := by
  have hz := hb.size
  have hz' : w.heap.size + 1 ≤ w2.heap.size := by simpa using hz
  have c0 : w2.cell? ⟨w.heap.size, 0, none⟩ = some (str s) := by rw [hb.cell (p := ⟨w.heap.size, 0, none⟩) (by simp)]; simp [go_sem]
  have z0 : w2.frozen? ⟨w.heap.size, 0, none⟩ = false := by rw [hb.frozen (p := ⟨w.heap.size, 0, none⟩) (by simp)]; simp [go_sem]
  refine (guarded_box w2 _ _ w.heap.size (by omega) (cutO (num 0 s)) (fun w1 => by go_simp) (fun w1 b1 => parse_op w1 w.heap.size s ((b1.cell (p := ⟨w.heap.size, 0, none⟩) (show w.heap.size < _ by omega)).trans c0) ((b1.frozen (p := ⟨w.heap.size, 0, none⟩) (show w.heap.size < _ by omega)).trans z0) hd hl)).mono ?_
  rintro e w3 ⟨hO, h⟩
  exact ⟨only_box ((Only.of_below hb).trans hO), h⟩

set_option maxRecDepth 100000 in
set_option maxHeartbeats 1000000 in
theorem parse_api (w : World) (s : List UInt8) (hl : s.length ≤ 9223372036854775807) :
    Calls Tryz.prog 22 #[str s] w (EndsO w (parseO s)) := by
  have hmf : ∀ (fn : Fn) (first cap : Array Value) (w : World), (Instr.makeFunc fn first cap).run Tryz.prog w = .ok (.func fn first cap) w := fun _ _ _ _ => rfl
  rcases s with _ | ⟨x, r⟩
  · have e : parseO [] = .err 8 := rfl
    rw [e]
    go_enter Tryz.func22, Tryz.ntmps22
    go_wp2_with fail
    go_ret2
    exact ⟨(Below.refl _ _).alloc (Nat.le_refl _) _, none, rfl, RdW.nil _ _ _⟩
  · have h0 : (⟨(x :: r).toArray⟩ : ByteArray)[0]'(by simp [ByteArray.size]) = x := rfl
    by_cases h1 : x = 48 ∧ 0 < r.length
    · obtain ⟨rfl, hr⟩ := h1
      have e : parseO (48 :: r) = .err 8 := by
        unfold parseO isDecB
        simp [hr]
      rw [e]
      clear e
      go_enter Tryz.func22, Tryz.ntmps22
      go_wp2_with fail
      go_ret2
      exact ⟨(Below.refl _ _).alloc (Nat.le_refl _) _, none, rfl, RdW.nil _ _ _⟩
    · have HT := trim_any (w.alloc (.cells #[str (x :: r)] 9)) (x :: r) hl
      have b0 : Below w.heap.size w (w.alloc (.cells #[str (x :: r)] 9)) := (Below.refl _ _).alloc (Nat.le_refl _) _
      by_cases hd : ∀ y ∈ x :: r, isDig y = true
      · rw [(trim_nil _).2 hd] at HT
        have e : parseO (x :: r) = cutO (num 0 (x :: r)) := by
          unfold parseO
          rw [if_pos]
          unfold isDecB
          rw [List.all_eq_true.2 hd, Bool.and_true]
          by_cases hx : x = 48
          · have : r.length = 0 := by
              rcases Nat.eq_zero_or_pos r.length with h | h
              · exact h
              · exact absurd ⟨hx, h⟩ h1
            simp [this]
          · simp [hx]
        rw [e]
        have HG := Lib.hid fun (w2 : World) (hb : Below (w.alloc (.cells #[str (x :: r)] 9)).heap.size (w.alloc (.cells #[str (x :: r)] 9)) w2) => parse_box w w2 (x :: r) hb hd hl
        have HT' := Lib.hid HT
        clear HT e hd
        by_cases hx : x = 48
        · have hr : r = [] := by
            rcases Nat.eq_zero_or_pos r.length with h | h
            · exact List.eq_nil_of_length_eq_zero h
            · exact absurd ⟨hx, h⟩ h1
          subst hx hr
          go_enter Tryz.func22, Tryz.ntmps22
          go_wp2_with (first
            | (go_at_call 50; refine HT'.out.mono ?_; rintro e w2 ⟨rfl, hb2⟩; replace hb2 := Lib.hid hb2)
            | (go_at_call 35; refine (HG.out _ hb2.out).mono ?_; rintro e w3 ⟨hB, A', rfl, hr⟩))
          go_ret2
          exact ⟨hB, A', rfl, hr⟩
        · have hx0 : ((x.toNat : Int) == 48) = false := byte_ne hx
          go_enter Tryz.func22, Tryz.ntmps22
          go_wp2_with (first
            | (go_at_call 50; refine HT'.out.mono ?_; rintro e w2 ⟨rfl, hb2⟩; replace hb2 := Lib.hid hb2)
            | (go_at_call 35; refine (HG.out _ hb2.out).mono ?_; rintro e w3 ⟨hB, A', rfl, hr⟩))
          go_ret2
          exact ⟨hB, A', rfl, hr⟩
      · have e : parseO (x :: r) = .err 8 := by
          unfold parseO
          rw [if_neg]
          unfold isDecB
          have : (x :: r).all isDig = false := by
            rw [← Bool.not_eq_true, List.all_eq_true]; exact hd
          rw [this, Bool.and_false]
          simp
        rw [e]
        obtain ⟨t, ht⟩ : ∃ t, Lib.trimS (x :: r) digs = t := ⟨_, rfl⟩
        have ht0 : t ≠ [] := fun h => hd ((trim_nil _).1 (ht.trans h))
        rw [ht] at HT
        have HT' := Lib.hid HT
        clear HT e hd ht
        rcases t with _ | ⟨t0, t1⟩
        · exact absurd rfl ht0
        clear ht0
        by_cases hx : x = 48
        · have hr : r = [] := by
            rcases Nat.eq_zero_or_pos r.length with h | h
            · exact List.eq_nil_of_length_eq_zero h
            · exact absurd ⟨hx, h⟩ h1
          subst hx hr
          go_enter Tryz.func22, Tryz.ntmps22
          go_wp2_with (first
            | (go_at_call 50; refine HT'.out.mono ?_; rintro e w2 ⟨rfl, hb2⟩; replace hb2 := Lib.hid hb2))
          go_ret2
          exact ⟨below_on b0 hb2.out, none, rfl, RdW.nil _ _ _⟩
        · have hx0 : ((x.toNat : Int) == 48) = false := byte_ne hx
          go_enter Tryz.func22, Tryz.ntmps22
          go_wp2_with (first
            | (go_at_call 50; refine HT'.out.mono ?_; rintro e w2 ⟨rfl, hb2⟩; replace hb2 := Lib.hid hb2))
          go_ret2
          exact ⟨below_on b0 hb2.out, none, rfl, RdW.nil _ _ _⟩

end Go.Proofs.YtgcobhlplffpjaaGreatDoor
