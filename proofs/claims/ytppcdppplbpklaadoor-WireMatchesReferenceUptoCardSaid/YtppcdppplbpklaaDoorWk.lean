/- Walks: the reference's Bytes. -/
import Derived.Test.YtppcdppplbpklaaDoorWq
import Derived.Test.YtppcdppplbpklaaDoorRows
import Derived.Deep.QuietTactic
import Derived.BigQuiet
namespace Go.Proofs.YtppcdppplbpklaaDoor
open Go.RowKit

def eqB (l m : List UInt8) : Bool := decide (l = m)

theorem eqB_len {l m : List UInt8} (h : l.length ≠ m.length) : eqB l m = false := by
  simp only [eqB, decide_eq_false_iff_not]; intro e; subst e; exact h rfl
theorem getD_ext {l m : List UInt8} (h : l.length = m.length) (he : ∀ j, j < l.length → (l.getD j 0).toNat = (m.getD j 0).toNat) : l = m := by
  apply List.ext_getElem h
  intro i h1 h2
  have := he i h1
  rw [List.getD_eq_getElem?_getD, List.getD_eq_getElem?_getD, List.getElem?_eq_getElem h1, List.getElem?_eq_getElem h2] at this
  exact UInt8.toNat_inj.1 this

set_option maxRecDepth 100000 in
set_option maxHeartbeats 1000000 in
theorem bytes_any (w : World) (B C : Nat) (A D : Option Addr) (c d : Nat) (l m : List UInt8) (hl : RdB w B A l) (hm : RdB w C D m) (h1 : l.length ≤ maxLen) (h2 : m.length ≤ maxLen) :
    Calls Tryd.prog 15 #[.slice A l.length c, .slice D m.length d] w fun e w' => e = .returned (.bool (eqB l m)) ∧ ∃ n, w' = w.drewN n := by
  unfold maxLen at h1 h2
  by_cases hlen : l.length = m.length
  · have hq : ((l.length : Int) != (m.length : Int)) = false := by simp [hlen]
    have HLen := Lib.hid hlen
    have HL := Lib.hid hl
    have HM := Lib.hid hm
    have hle1 : l.length ≤ m.length := by omega
    clear hl hm hlen
    obtain ⟨tgt, ht⟩ : ∃ t, eqB l m = t := ⟨_, rfl⟩
    rw [ht]
    have HT := Lib.hid ht
    clear ht
    go_enter Tryd.func15, Tryd.ntmps15
    go_wp2
    go_loopw [5] (fun i wr => ∃ k n : Nat, k ≤ l.length ∧ i = .int .i64 k ∧ wr = w.drewN n ∧ Hid (∀ j, j < k → (l.getD j 0).toNat = (m.getD j 0).toNat)) (fun i _ => l.length - (intOf i).toNat)
    case atStart => exact ⟨0, 0, Nat.zero_le _, rfl, rfl, fun j hj => by omega⟩
    case round =>
      obtain ⟨k, n, hk, rfl, rfl, HE⟩ := hrel
      by_cases hlt : k < l.length
      · have hltm : k < m.length := by omega
        have hltI : (k : Int) < (l.length : Int) := by omega
        have hltJ : (k : Int) < (m.length : Int) := by omega
        have hk0 : (0 : Int) ≤ (k : Int) := by omega
        obtain ⟨ad, rfl, -, hc⟩ := HL.out (by omega)
        obtain ⟨ae, rfl, -, hd⟩ := HM.out (by omega)
        have hx := hc k hlt
        have hy := hd k hltm
        clear hc hd
        by_cases hxy : (l.getD k 0).toNat = (m.getD k 0).toNat
        · have HE' := Lib.hid (show ∀ j, j < k + 1 → (l.getD j 0).toNat = (m.getD j 0).toNat by
            intro j hj
            rcases Nat.lt_or_ge j k with h | h
            · exact HE.out j h
            · obtain rfl : j = k := by omega
              exact hxy)
          rw [← hxy] at hy
          clear hxy
          generalize (l.getD k 0).toNat = x at *
          have hne : ((x : Int) != (x : Int)) = false := by simp
          go_wp2
          go_quiet (fail)
          go_wp2
          go_roundw
          case rel => exact ⟨k + 1, _, by omega, by go_num, rfl, HE'⟩
          case measure => simp [intOf]; omega
        · have HTF := Lib.hid (show tgt = false by
            rw [← HT.out, eqB, decide_eq_false_iff_not]
            intro e
            rw [e] at hxy
            exact hxy rfl)
          have hne : (((l.getD k 0).toNat : Int) != ((m.getD k 0).toNat : Int)) = true := by rw [bne_iff_ne]; omega
          clear hxy
          generalize (l.getD k 0).toNat = x at *
          generalize (m.getD k 0).toNat = y at *
          go_wp2
          go_quiet (fail)
          go_wp2
          go_ret
          exact ⟨by rw [HTF.out]; rfl, _, World.drewN_drewN _ _ _⟩
      · have hlt' : ¬ (k : Int) < (l.length : Int) := by omega
        have HTT := Lib.hid (show tgt = true by
          rw [← HT.out, eqB, decide_eq_true_eq]
          exact getD_ext HLen.out (fun j hj => HE.out j (by omega)))
        go_wp2
        go_ret
        exact ⟨by rw [HTT.out]; rfl, n, rfl⟩
  · have hq : ((l.length : Int) != (m.length : Int)) = true := by simp; omega
    have HT := Lib.hid (eqB_len hlen)
    clear hlen
    go_enter Tryd.func15, Tryd.ntmps15
    go_wp2
    go_ret
    exact ⟨by rw [HT.out]; rfl, 0, rfl⟩
end Go.Proofs.YtppcdppplbpklaaDoor
