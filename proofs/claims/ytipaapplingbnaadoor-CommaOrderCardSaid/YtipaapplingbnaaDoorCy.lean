/- Words of Go's library on strings; plain steps of Text. -/
import Derived.Test.YtipaapplingbnaaDoorCp
import Derived.Test.YtipaapplingbnaaDoorSh
import Derived.Lib.AppendIntMem
import Derived.Lib.Join
namespace Go.Proofs.YtipaapplingbnaaDoor
open Go.RowKit Go.Deep

def Tab (w : World) : Prop := Lib.TabIs Tryd.prog w "internal/strconv.uint64pow10" .u64 Lib.pow10Tab
theorem Tab.below {w w' : World} (h : Tab w) (hb : Below w.heap.size w w') : Tab w' := Lib.tabBelow_of_tabIs h w' hb
theorem below_regrow (w : World) (q : Nat) (os : Array Obj) : Below w.heap.size w (Go.Sort.grow (w.drewN q) os) :=
  ⟨rfl, rfl, rfl, by simp [Go.Sort.grow], fun i hi => by
    show ((w.drewN q).heap ++ os)[i]? = _
    rw [Array.getElem?_append_left (by show i < w.heap.size; omega)]
    rfl⟩
theorem itoa_any (w : World) (n : Int) (h0 : -9223372036854775808 ≤ n) (h1 : n ≤ 9223372036854775807) (hT : Tab w) :
    Calls Tryd.prog 27 #[.int .i64 n] w fun e w' => e = .returned (str (Lib.itoa n)) ∧ Below w.heap.size w w' :=
  (Tryd.strconv_Itoa n h0 h1 w hT).mono fun e w' ⟨he, k, os, hw⟩ => ⟨he, by subst hw; exact below_regrow w k os⟩
/-- A row of strings of the call's own. -/
def OwnS (w : World) (base : Nat) (v : Value) (ss : List (List UInt8)) : Prop := w.ownsRow base 9 1 v ss.length (ss.map str)
theorem OwnS.start (w : World) (base : Nat) : OwnS w base (.slice none 0 0) [] := World.ownsRow_nil w base _ 1
theorem OwnS.snoc {w : World} {base : Nat} {v : Value} {ss : List (List UInt8)} {x : List UInt8} (h : w.ownsRow base 9 1 v (ss.length + 1) (ss.map str ++ [str x])) : OwnS w base v (ss ++ [x]) := by
  unfold OwnS
  rw [List.length_append, List.map_append]
  exact h
theorem info_str : (Tryd.prog.info? 9).map (fun i => (i.zero, i.size, i.bytes)) = some (some (.string ⟨#[]⟩), 1, 16) := by kernel_rfl
theorem OwnS.on {w w' : World} {base : Nat} {v : Value} {ss : List (List UInt8)} (h : OwnS w base v ss) (hb : Below w.heap.size w w') : OwnS w' base v ss := by
  refine World.ownsRow.kept (row := none) h ⟨hb.os, hb.tape, hb.output, hb.size, fun k hk _ => hb.block k hk⟩ ?_
  rcases hv : v.ownBlock with _ | g
  · exact .inl rfl
  · exact .inr (by simp)
theorem OwnS.alloc {w : World} {base : Nat} {v : Value} {ss : List (List UInt8)} (h : OwnS w base v ss) (o : Obj) : OwnS (w.alloc o) base v ss := World.ownsRow.alloc h o
theorem OwnS.form {w : World} {base : Nat} {v : Value} {ss : List (List UInt8)} (h : OwnS w base v ss) (hn : 0 < ss.length) : ∃ g cap, v = .slice (some ⟨g, 0, none⟩) ss.length cap ∧ base ≤ g ∧ g < w.heap.size := World.ownsRow.form h hn
theorem str_one (d : List UInt8) : ∀ u ∈ [str d], u.oneCell' = true := fun u hu => by
  rw [List.mem_singleton.1 hu]; rfl
theorem join_words (w : World) (base g cap : Nat) (ss : List (List UInt8)) (n : Nat) (hn : ss.length = n) (h : OwnS w base (.slice (some ⟨g, 0, none⟩) n cap) ss) (hl : n ≤ 1000000) (hf : (Lib.join ss [32]).length ≤ 1000000000000) :
    Calls Tryd.prog 28 #[.slice (some ⟨g, 0, none⟩) n cap, .string ⟨#[32]⟩] w fun e w' => e = .returned (str (Lib.join ss [32])) ∧ Below w.heap.size w w' := by
  subst hn
  rcases h.2 with ⟨h0, _⟩ | ⟨g', cap', cur, hv, hbase, hb, h1, h2, h3, h4⟩
  · cases h0
  cases hv
  have e1 : (ss.map fun l => (⟨l.toArray⟩ : ByteArray)).map (·.data.toList) = ss := by
    rw [List.map_map]
    exact (List.map_congr_left (fun _ _ => rfl)).trans (List.map_id ss)
  have hj := Tryd.strings_Join g 0 cap (ss.map fun l => (⟨l.toArray⟩ : ByteArray)) ⟨#[32]⟩ w (fun j x hx => by
    rw [List.getElem?_map] at hx
    obtain ⟨l, hl', rfl⟩ := Option.map_eq_some_iff.1 hx
    have hjl := (List.getElem?_eq_some_iff.1 hl').1
    rw [Nat.zero_add, World.ownsRow.cellAt h j (by omega)]
    simp [(List.getElem?_eq_some_iff.1 hl').2, hjl, str]) (Array.getElem?_eq_some_iff.1 hb).1 (by simp; omega) (by simpa using h1) (by rw [e1]; show (Lib.join ss [32]).length ≤ _; omega)
  rw [e1] at hj
  simp only [List.length_map] at hj
  exact hj.mono fun e w' ⟨he, hb⟩ => ⟨he, hb⟩

theorem entries_step (ns : List (List UInt8)) (cs : List Int) (k : Nat) (h1 : k < ns.length) (h2 : k < cs.length) :
    entries (ns.take (k + 1)) (cs.take (k + 1)) = entries (ns.take k) (cs.take k) ++ (if cs[k] = 0 then [] else [entry ns[k] cs[k]]) := by
  induction ns generalizing cs k with
  | nil => simp at h1
  | cons nm ns ih =>
    cases cs with
    | nil => simp at h2
    | cons n cs =>
      cases k with
      | zero =>
        simp only [List.take_succ_cons, List.take_zero, List.getElem_cons_zero, entries]
        split <;> simp
      | succ k =>
        have := ih cs k (by simpa using h1) (by simpa using h2)
        simp only [List.take_succ_cons, List.getElem_cons_succ, entries, this]
        split <;> simp
theorem entries_length (ns : List (List UInt8)) (cs : List Int) : (entries ns cs).length ≤ cs.length := by
  induction ns generalizing cs with
  | nil => simp [entries]
  | cons nm ns ih =>
    cases cs with
    | nil => simp [entries]
    | cons n cs =>
      have := ih cs
      unfold entries
      split <;> simp <;> omega
theorem entries_small (ns : List (List UInt8)) (cs : List Int) (hn : ∀ x ∈ ns, isName x = true) (hc : ∀ n ∈ cs, n.natAbs ≤ 1000) : ∀ x ∈ entries ns cs, x.length ≤ 22 := by
  induction ns generalizing cs with
  | nil => intro x hx; simp [entries] at hx
  | cons nm ns ih =>
    cases cs with
    | nil => intro x hx; simp [entries] at hx
    | cons n cs =>
      have h1 := ih cs (fun x hx => hn x (by simp [hx])) (fun x hx => hc x (by simp [hx]))
      intro x hx
      unfold entries at hx
      split at hx
      · exact h1 x hx
      · rcases List.mem_cons.1 hx with rfl | hx
        · have h2 := (itoa_len n (hc n (by simp))).1
          have h3 := hn nm (by simp)
          unfold isName at h3
          rw [Bool.and_eq_true] at h3
          have h4 := (of_decide_eq_true h3.1).2
          unfold entry
          simp
          omega
        · exact h1 x hx
theorem joinTail_small (B : Nat) (ss : List (List UInt8)) (h : ∀ x ∈ ss, x.length ≤ B) : (Lib.joinTail [32] ss).length ≤ (B + 1) * ss.length := by
  induction ss with
  | nil => simp [Lib.joinTail]
  | cons x ss ih =>
    have h1 := ih (fun y hy => h y (by simp [hy]))
    have h2 := h x (by simp)
    have e : (Lib.joinTail [32] (x :: ss)).length = 1 + x.length + (Lib.joinTail [32] ss).length := by
      simp [Lib.joinTail]; omega
    rw [e, List.length_cons, Nat.mul_add]
    omega
theorem join_small (B : Nat) (ss : List (List UInt8)) (h : ∀ x ∈ ss, x.length ≤ B) : (Lib.join ss [32]).length ≤ (B + 1) * ss.length := by
  cases ss with
  | nil => simp [Lib.join]
  | cons x ss =>
    rw [Lib.join_cons, List.length_append]
    have h1 := joinTail_small B ss (fun y hy => h y (by simp [hy]))
    have h2 := h x (by simp)
    rw [List.length_cons, Nat.mul_add]
    omega
noncomputable def textV (l : List Cm) (cs : List Int) : List UInt8 := if accB l cs then textC (nms l) cs else []
noncomputable def textE (l : List Cm) (cs : List Int) : Int := if accB l cs then 0 else 1

end Go.Proofs.YtipaapplingbnaaDoor
