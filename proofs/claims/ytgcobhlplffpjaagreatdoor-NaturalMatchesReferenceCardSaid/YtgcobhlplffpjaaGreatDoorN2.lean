/- Words of Go's library on strings, in the forms that the walks use. -/
import Derived.Test.YtgcobhlplffpjaaGreatDoorN1
import Derived.Test.YtgcobhlplffpjaaGreatDoorNt
import Derived.Sort.OwnSorted
import Derived.Lib.AppendIntMem
import Derived.Lib.Join
namespace Go.Proofs.YtgcobhlplffpjaaGreatDoor
open Go.RowKit Go.Deep

def Tab (w : World) : Prop := Lib.TabIs Tryz.prog w "internal/strconv.uint64pow10" .u64 Lib.pow10Tab
theorem Tab.below {w w' : World} (h : Tab w) (hb : Below w.heap.size w w') : Tab w' := Lib.tabBelow_of_tabIs h w' hb
theorem below_regrow (w : World) (q : Nat) (os : Array Obj) : Below w.heap.size w (Go.Sort.grow (w.drewN q) os) :=
  ⟨rfl, rfl, rfl, by simp [Go.Sort.grow], fun i hi => by
    show ((w.drewN q).heap ++ os)[i]? = _
    rw [Array.getElem?_append_left (by show i < w.heap.size; omega)]
    rfl⟩
abbrev str (l : List UInt8) : Value := .string ⟨l.toArray⟩
theorem itoa_nat (w : World) (n : Nat) (hn : n < 9223372036854775808) (hT : Tab w) :
    Calls Tryz.prog 46 #[.int .i64 n] w fun e w' => e = .returned (str (Lib.decDigits n)) ∧ Below w.heap.size w w' :=
  (Tryz.strconv_Itoa (n : Int) (by omega) (by omega) w hT).mono fun e w' ⟨he, k, os, hw⟩ => ⟨by rw [he, Lib.itoa, if_neg (by omega), Int.toNat_natCast], by subst hw; exact below_regrow w k os⟩

theorem below_bytes (w : World) (e : TypeId) (s : ByteArray) : Below w.heap.size w (Lib.bytesWorld w e s) := by
  have h1 := ((Below.refl w.heap.size w).drew.alloc (Nat.le_refl _) (.cells (Lib.bytesCells w e s) e))
  refine ⟨rfl, rfl, rfl, ?_, fun i hi => ?_⟩
  · simp [Lib.bytesWorld, World.freeze]
  · have := h1.block i hi
    simp only [Lib.bytesWorld, World.freeze]
    rw [if_neg (by decide)]
    simp only
    rw [Array.getElem?_modify, if_neg (by show ¬ w.heap.size = i; omega)]
    exact this
theorem digitVal_of (x : UInt8) (h0 : 48 ≤ x.toNat) (h1 : x.toNat ≤ 57) : Lib.digitVal x = some (x.toNat - 48) := by
  rw [Lib.digitVal, if_pos ⟨h0, h1⟩]
theorem decFrom_num : ∀ (l : List UInt8) (acc : Nat), (∀ x ∈ l, 48 ≤ x.toNat ∧ x.toNat ≤ 57) → Lib.decFrom acc l = some (num acc l)
  | [], acc, _ => rfl
  | x :: l, acc, h => by
    obtain ⟨h0, h1⟩ := h x (by simp)
    rw [Lib.decFrom, digitVal_of x h0 h1]
    simp only
    rw [decFrom_num l _ (fun y hy => h y (by simp [hy])), num, num, List.foldl_cons]
    rw [Nat.mul_comm]
theorem atoi_digits (w : World) (l : List UInt8) (h0 : 0 < l.length) (h9 : l.length ≤ 18) (hd : ∀ x ∈ l, 48 ≤ x.toNat ∧ x.toNat ≤ 57) :
    Calls Tryz.prog 52 #[str l] w fun e w' => e = .returned (.tuple #[.int .i64 (num 0 l : Nat), .nilIface]) ∧ Below w.heap.size w w' := by
  refine (Tryz.strconv_Atoi ⟨l.toArray⟩ (num 0 l : Nat) (by simpa [ByteArray.size] using h9) ?_ w).mono fun e w' ⟨he, t, hw⟩ => ⟨he, by subst hw; exact below_bytes w _ _⟩
  match l, h0 with
  | x :: r, _ =>
    obtain ⟨a0, a1⟩ := hd x (by simp)
    have e1 : (x == 45) = false := by rw [beq_eq_false_iff_ne]; rintro rfl; simp at a0
    have e2 : (x == 43) = false := by rw [beq_eq_false_iff_ne]; rintro rfl; simp at a0
    simp only [Lib.atoi, e1, e2, Bool.false_eq_true, if_false]
    rw [Lib.decNat]
    simp only [List.isEmpty_cons, Bool.false_eq_true, if_false]
    rw [decFrom_num _ _ hd]
    rfl

theorem repeatL_zero (c : Nat) : Lib.repeatL [48] c = List.replicate c 48 := by
  induction c with
  | zero => rfl
  | succ c ih => rw [Lib.repeatL, ih, List.replicate_succ]; rfl
theorem repeat_zero (w : World) (c : Nat) (hc : c ≤ 9) :
    Calls Tryz.prog 47 #[.string ⟨#[48]⟩, .int .i64 c] w fun e w' => e = .returned (str (List.replicate c 48)) ∧ Below w.heap.size w w' :=
  (Tryz.strings_Repeat ⟨#[48]⟩ c w (by omega) (by show 1 * c ≤ _; omega)).mono fun e w' ⟨he, hb⟩ => ⟨by rw [he, ← repeatL_zero], hb⟩

/-- A row of strings of the call's own. -/
def OwnS (w : World) (base : Nat) (v : Value) (ss : List (List UInt8)) : Prop := w.ownsRow base 9 1 v ss.length (ss.map str)
theorem OwnS.start (w : World) (base : Nat) : OwnS w base (.slice none 0 0) [] := World.ownsRow_nil w base _ 1
theorem OwnS.snoc {w : World} {base : Nat} {v : Value} {ss : List (List UInt8)} {x : List UInt8} (h : w.ownsRow base 9 1 v (ss.length + 1) (ss.map str ++ [str x])) : OwnS w base v (ss ++ [x]) := by
  unfold OwnS
  rw [List.length_append, List.map_append]
  exact h
theorem info_str : (Tryz.prog.info? 9).map (fun i => (i.zero, i.size, i.bytes)) = some (some (.string ⟨#[]⟩), 1, 16) := by kernel_rfl
theorem reverse_any (w : World) (base g cap : Nat) (ss : List (List UInt8)) (h : OwnS w base (.slice (some ⟨g, 0, none⟩) ss.length cap) ss) (hl : ss.length ≤ 1000000) :
    Calls Tryz.prog 48 #[.slice (some ⟨g, 0, none⟩) ss.length cap] w fun e w' => e = .returned (.tuple #[]) ∧ OwnS w' base (.slice (some ⟨g, 0, none⟩) ss.length cap) ss.reverse ∧ w.grownBy w' (some g) := by
  rcases h.2 with ⟨h0, _⟩ | ⟨g', cap', cur, hv, hbase, hb, h1, h2, h3, h4⟩
  · cases h0
  cases hv
  refine (Tryz.slices_Reverse_string g 0 cap ss w (holds_of_block hb (by simpa using h4)) (by omega)).mono fun e w' ⟨he, n, hw⟩ => ⟨he, ?_, ?_⟩
  · have := ownsRow_sorted (os := #[]) (n := n) (ts := ss.reverse) (by simp) hbase hb h1 h2 h3
    rw [Go.Sort.grow_empty] at this
    rw [hw]
    unfold OwnS
    rw [List.length_reverse]
    exact this
  · have := grownBy_sorted (w := w) (g := g) (n := n) (os := #[]) ss.reverse.toArray
    rw [Go.Sort.grow_empty] at this
    rw [hw]
    exact this
theorem join_flat (ss : List (List UInt8)) : Lib.join ss [] = ss.flatten := by
  cases ss with
  | nil => rfl
  | cons x r =>
    rw [Lib.join_cons, Lib.joinTail]
    simp
theorem join_any (w : World) (base g cap : Nat) (ss : List (List UInt8)) (n : Nat) (hn : ss.length = n) (h : OwnS w base (.slice (some ⟨g, 0, none⟩) n cap) ss) (hl : n ≤ 1000000) (hf : ss.flatten.length ≤ 1000000000000) :
    Calls Tryz.prog 49 #[.slice (some ⟨g, 0, none⟩) n cap, .string ⟨#[]⟩] w fun e w' => e = .returned (str ss.flatten) ∧ Below w.heap.size w w' := by
  subst hn
  rcases h.2 with ⟨h0, _⟩ | ⟨g', cap', cur, hv, hbase, hb, h1, h2, h3, h4⟩
  · cases h0
  cases hv
  have e1 : (ss.map fun l => (⟨l.toArray⟩ : ByteArray)).map (·.data.toList) = ss := by
    rw [List.map_map]
    exact (List.map_congr_left (fun _ _ => rfl)).trans (List.map_id ss)
  have hj := Tryz.strings_Join g 0 cap (ss.map fun l => (⟨l.toArray⟩ : ByteArray)) ⟨#[]⟩ w (fun j x hx => by
    rw [List.getElem?_map] at hx
    obtain ⟨l, hl', rfl⟩ := Option.map_eq_some_iff.1 hx
    have hjl := (List.getElem?_eq_some_iff.1 hl').1
    rw [Nat.zero_add, World.ownsRow.cellAt h j (by omega)]
    simp [(List.getElem?_eq_some_iff.1 hl').2, hjl, str]) (Array.getElem?_eq_some_iff.1 hb).1 (by simp; omega) (by simpa using h1) (by rw [e1]; show (Lib.join ss []).length ≤ _; rw [join_flat]; omega)
  rw [e1] at hj
  simp only [List.length_map] at hj
  refine hj.mono fun e w' ⟨he, hb⟩ => ⟨?_, hb⟩
  rw [he]
  show Ending.returned (.string ⟨(Lib.join ss []).toArray⟩) = _
  rw [join_flat]

theorem OwnS.on {w w' : World} {base : Nat} {v : Value} {ss : List (List UInt8)} (h : OwnS w base v ss) (hb : Below w.heap.size w w') : OwnS w' base v ss := by
  refine World.ownsRow.kept (row := none) h ⟨hb.os, hb.tape, hb.output, hb.size, fun k hk _ => hb.block k hk⟩ ?_
  rcases hv : v.ownBlock with _ | g
  · exact .inl rfl
  · exact .inr (by simp)
theorem OwnS.alloc {w : World} {base : Nat} {v : Value} {ss : List (List UInt8)} (h : OwnS w base v ss) (o : Obj) : OwnS (w.alloc o) base v ss := World.ownsRow.alloc h o
theorem OwnS.form {w : World} {base : Nat} {v : Value} {ss : List (List UInt8)} (h : OwnS w base v ss) (hn : 0 < ss.length) : ∃ g cap, v = .slice (some ⟨g, 0, none⟩) ss.length cap ∧ base ≤ g ∧ g < w.heap.size := World.ownsRow.form h hn
theorem dec_len (u : Nat) : (Lib.decDigits u).length ≤ u + 1 := by
  induction u using Nat.strongRecOn with
  | ind u ih =>
    by_cases h : u < 10
    · rw [decDigits_small h]; simp
    · rw [decDigits_big (by omega), List.length_append]
      have := ih (u / 10) (by omega)
      simp
      omega

end Go.Proofs.YtgcobhlplffpjaaGreatDoor
