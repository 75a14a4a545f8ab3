/- Plain laws: the text of an account, and back. -/
import Derived.Test.YtipaapplingbnaaDoorNt
import Derived.Lib.Join
import Derived.Lib.AtoiTie
namespace Go.Proofs.YtipaapplingbnaaDoor
open Go.Lib

theorem decFrom_num (l : List UInt8) (acc : Nat) (h : ∀ x ∈ l, 48 ≤ x.toNat ∧ x.toNat ≤ 57) : decFrom acc l = some (num acc l) := by
  induction l generalizing acc with
  | nil => rfl
  | cons x l ih =>
    have hx := h x (List.mem_cons_self ..)
    have : digitVal x = some (x.toNat - 48) := if_pos hx
    simp only [decFrom, this]
    rw [ih _ (fun y hy => h y (List.mem_cons_of_mem _ hy)), Nat.mul_comm]
    rfl
theorem decNat_dec (u : Nat) : decNat (decDigits u) = some u := by
  have h0 := decDigits_pos u
  unfold decNat
  rw [if_neg (by cases h : decDigits u with
    | nil => rw [h] at h0; simp at h0
    | cons => simp), decFrom_num _ _ (decDigits_range u), num_dec]
theorem itoa_cases (n : Int) : (0 ≤ n ∧ itoa n = decDigits n.natAbs) ∨ (n < 0 ∧ itoa n = 45 :: decDigits n.natAbs) := by
  unfold itoa
  by_cases h : n < 0
  · exact .inr ⟨h, if_pos h⟩
  · refine .inl ⟨by omega, ?_⟩
    rw [if_neg h, show n.toNat = n.natAbs by omega]
theorem atoi_itoa (n : Int) : atoi (itoa n) = some n := by
  rcases itoa_cases n with ⟨h, e⟩ | ⟨h, e⟩
  · rw [e]
    have hd := decNat_dec n.natAbs
    have h0 := decDigits_pos n.natAbs
    have hr := decDigits_range n.natAbs
    cases hl : decDigits n.natAbs with
    | nil => rw [hl] at h0; simp at h0
    | cons b r =>
      rw [hl] at hd hr
      have hb := hr b (List.mem_cons_self ..)
      have n1 : (b == 45) = false := by rw [beq_eq_false_iff_ne]; rintro rfl; exact absurd hb.1 (by decide)
      have n2 : (b == 43) = false := by rw [beq_eq_false_iff_ne]; rintro rfl; exact absurd hb.1 (by decide)
      simp only [atoi, n1, n2, hd, Bool.false_eq_true, if_false, Option.map_some]
      congr 1
      omega
  · rw [e]
    simp only [atoi, decNat_dec, beq_self_eq_true, if_true, Option.map_some]
    congr 1
    omega
theorem dec_len_le (u k : Nat) (h : u < 10 ^ k) (hk : 0 < k) : (decDigits u).length ≤ k := by
  obtain ⟨j, rfl⟩ : ∃ j, k = j + 1 := ⟨k - 1, by omega⟩
  have := padk_eq j u h
  have h2 := congrArg List.length this
  rw [padk_length, List.length_append, List.length_replicate] at h2
  omega
theorem itoa_len (n : Int) (h : n.natAbs ≤ 1000) : (itoa n).length ≤ 5 ∧ 1 ≤ (itoa n).length := by
  have := dec_len_le n.natAbs 4 (by omega) (by omega)
  have := decDigits_pos n.natAbs
  rcases itoa_cases n with ⟨_, e⟩ | ⟨_, e⟩
  · rw [e]; omega
  · rw [e, List.length_cons]; omega
theorem atoiAll_itoa (n : Int) (h : n.natAbs ≤ 1000) : atoiAll (itoa n) = .ok n := by
  rw [atoiAll_short _ (by have := itoa_len n h; omega), atoi_itoa]
  rfl
theorem itoa_bytes (n : Int) : ∀ x ∈ itoa n, x = 45 ∨ (48 ≤ x.toNat ∧ x.toNat ≤ 57) := by
  intro x hx
  rcases itoa_cases n with ⟨_, e⟩ | ⟨_, e⟩
  · rw [e] at hx; exact .inr (decDigits_range _ x hx)
  · rw [e] at hx
    rcases List.mem_cons.1 hx with rfl | hx
    · exact .inl rfl
    · exact .inr (decDigits_range _ x hx)

/-- A byte of a name. -/
def letter (x : UInt8) : Bool := decide (97 ≤ x.toNat ∧ x.toNat ≤ 122)
/-- A valid name. -/
def isName (s : List UInt8) : Bool := decide (1 ≤ s.length ∧ s.length ≤ 16) && s.all letter
/-- One entry of an account. -/
def entry (nm : List UInt8) (n : Int) : List UInt8 := nm ++ 42 :: itoa n
/-- The entries that are not 0. -/
def entries : List (List UInt8) → List Int → List (List UInt8)
  | nm :: ns, n :: cs => if n = 0 then entries ns cs else entry nm n :: entries ns cs
  | _, _ => []
def textC (ns : List (List UInt8)) (cs : List Int) : List UInt8 := if entries ns cs = [] then [49] else join (entries ns cs) [32]
/-- The words between the blanks. -/
def splitSp : List UInt8 → List (List UInt8)
  | [] => [[]]
  | c :: r => if c = 32 then [] :: splitSp r else match splitSp r with
    | [] => [[c]]
    | w :: ws => (c :: w) :: ws
theorem splitSp_ne (s : List UInt8) : splitSp s ≠ [] := by
  cases s with
  | nil => simp [splitSp]
  | cons c r =>
    unfold splitSp
    split
    · simp
    · split <;> simp
/-- What stands before and behind the first star. -/
def cutStar : List UInt8 → Option (List UInt8 × List UInt8)
  | [] => none
  | c :: r => if c = 42 then some ([], r) else (cutStar r).map fun p => (c :: p.1, p.2)
def idxOf (ns : List (List UInt8)) (nm : List UInt8) : Option Nat := ns.findIdx? (fun s => decide (s = nm))
def stepC (ns : List (List UInt8)) (out : List Int) (w : List UInt8) : Option (List Int) :=
  match cutStar w with
  | none => none
  | some (nm, ds) => match idxOf ns nm with
    | none => none
    | some i => match atoiAll ds with
      | .ok n => some (out.set i n)
      | _ => none
def loopC (ns : List (List UInt8)) : List Int → List (List UInt8) → Option (List Int)
  | out, [] => some out
  | out, w :: ws => match stepC ns out w with
    | none => none
    | some out' => loopC ns out' ws
def inRange (cs : List Int) : Bool := cs.all fun n => decide (-1000 ≤ n ∧ n ≤ 1000)
def zeroC (ns : List (List UInt8)) : List Int := List.replicate ns.length 0
/-- What Parse reads before it compares. -/
def rawC (ns : List (List UInt8)) (s : List UInt8) : Option (List Int) := if s = [49] then some (zeroC ns) else loopC ns (zeroC ns) (splitSp s)
def parseC (ns : List (List UInt8)) (s : List UInt8) : Option (List Int) :=
  match rawC ns s with
  | none => none
  | some out => if inRange out = true ∧ textC ns out = s then some out else none

theorem splitSp_cons {w : List UInt8} (h : ∀ x ∈ w, x ≠ 32) (r : List UInt8) : splitSp (w ++ 32 :: r) = w :: splitSp r := by
  induction w with
  | nil => simp [splitSp]
  | cons c w ih =>
    have := ih (fun x hx => h x (List.mem_cons_of_mem _ hx))
    show splitSp (c :: (w ++ 32 :: r)) = _
    rw [splitSp, if_neg (h c (List.mem_cons_self ..)), this]
theorem splitSp_one {w : List UInt8} (h : ∀ x ∈ w, x ≠ 32) : splitSp w = [w] := by
  induction w with
  | nil => rfl
  | cons c w ih =>
    rw [splitSp, if_neg (h c (List.mem_cons_self ..)), ih (fun x hx => h x (List.mem_cons_of_mem _ hx))]
theorem splitSp_join (ws : List (List UInt8)) (hne : ws ≠ []) (h : ∀ w ∈ ws, ∀ x ∈ w, x ≠ 32) : splitSp (join ws [32]) = ws := by
  cases ws with
  | nil => exact absurd rfl hne
  | cons w ws =>
    rw [join_cons]
    clear hne
    induction ws generalizing w with
    | nil => simp only [joinTail, List.map_nil, List.flatten_nil, List.append_nil]; exact splitSp_one (h w (List.mem_cons_self ..))
    | cons v ws ih =>
      have e : joinTail [32] (v :: ws) = 32 :: (v ++ joinTail [32] ws) := by simp [joinTail]
      rw [e, splitSp_cons (h w (List.mem_cons_self ..)), ih v (fun u hu => h u (List.mem_cons_of_mem _ hu))]
theorem cutStar_entry {nm : List UInt8} (h : ∀ x ∈ nm, x ≠ 42) (r : List UInt8) : cutStar (nm ++ 42 :: r) = some (nm, r) := by
  induction nm with
  | nil => simp [cutStar]
  | cons c nm ih =>
    show cutStar (c :: (nm ++ 42 :: r)) = _
    rw [cutStar, if_neg (h c (List.mem_cons_self ..)), ih (fun x hx => h x (List.mem_cons_of_mem _ hx))]
    rfl
theorem letter_ne {x : UInt8} (h : letter x = true) : x ≠ 32 ∧ x ≠ 42 := by
  have := of_decide_eq_true h
  constructor <;> (rintro rfl; exact absurd this.1 (by decide))
theorem name_bytes {s : List UInt8} (h : isName s = true) : ∀ x ∈ s, x ≠ 32 ∧ x ≠ 42 := fun x hx => by
  unfold isName at h
  rw [Bool.and_eq_true] at h
  exact letter_ne (List.all_eq_true.1 h.2 x hx)
theorem entry_bytes {nm : List UInt8} (h : isName nm = true) (n : Int) : ∀ x ∈ entry nm n, x ≠ 32 := fun x hx => by
  unfold entry at hx
  rcases List.mem_append.1 hx with hx | hx
  · exact (name_bytes h x hx).1
  · rcases List.mem_cons.1 hx with rfl | hx
    · decide
    · rcases itoa_bytes n x hx with rfl | ⟨h1, _⟩
      · decide
      · rintro rfl; exact absurd h1 (by decide)
theorem entries_bytes (ns : List (List UInt8)) (cs : List Int) (h : ∀ nm ∈ ns, isName nm = true) : ∀ w ∈ entries ns cs, ∀ x ∈ w, x ≠ 32 := by
  induction ns generalizing cs with
  | nil => intro w hw; simp [entries] at hw
  | cons nm ns ih =>
    cases cs with
    | nil => intro w hw; simp [entries] at hw
    | cons n cs =>
      intro w hw
      unfold entries at hw
      split at hw
      · exact ih cs (fun m hm => h m (List.mem_cons_of_mem _ hm)) w hw
      · rcases List.mem_cons.1 hw with rfl | hw
        · exact entry_bytes (h nm (List.mem_cons_self ..)) n
        · exact ih cs (fun m hm => h m (List.mem_cons_of_mem _ hm)) w hw
theorem idxOf_at (pre post : List (List UInt8)) (nm : List UInt8) (h : (pre ++ nm :: post).Nodup) : idxOf (pre ++ nm :: post) nm = some pre.length := by
  unfold idxOf
  induction pre with
  | nil => simp [List.findIdx?_cons]
  | cons p pre ih =>
    rw [List.cons_append, List.nodup_cons] at h
    have hne : p ≠ nm := fun e => h.1 (by rw [e]; simp)
    rw [List.cons_append, List.findIdx?_cons, ih h.2]
    simp [hne]
theorem loopC_entries (pre ns : List (List UInt8)) (hn : (pre ++ ns).Nodup) (hnm : ∀ nm ∈ ns, isName nm = true) (done cs : List Int) (hd : done.length = pre.length) (hc : cs.length = ns.length) (hr : ∀ n ∈ cs, n.natAbs ≤ 1000) :
    loopC (pre ++ ns) (done ++ List.replicate ns.length 0) (entries ns cs) = some (done ++ cs) := by
  induction ns generalizing pre done cs with
  | nil =>
    obtain rfl := List.eq_nil_of_length_eq_zero hc
    simp [entries, loopC]
  | cons nm ns ih =>
    cases cs with
    | nil => cases hc
    | cons n cs =>
      have e1 : pre ++ nm :: ns = (pre ++ [nm]) ++ ns := by simp
      have hrec := ih (pre ++ [nm]) (by rw [← e1]; exact hn) (fun m hm => hnm m (List.mem_cons_of_mem _ hm)) (done ++ [n]) cs (by simp [hd]) (by simpa using hc) (fun m hm => hr m (List.mem_cons_of_mem _ hm))
      have e2 : done ++ n :: cs = (done ++ [n]) ++ cs := by simp
      by_cases h0 : n = 0
      · subst h0
        rw [entries, if_pos rfl, e1, e2]
        have e3 : done ++ List.replicate (nm :: ns).length 0 = (done ++ [0]) ++ List.replicate ns.length 0 := by simp [List.replicate_succ]
        rw [e3]
        exact hrec
      · rw [entries, if_neg h0, loopC]
        have hstep : stepC (pre ++ nm :: ns) (done ++ List.replicate (nm :: ns).length 0) (entry nm n) = some ((done ++ [n]) ++ List.replicate ns.length 0) := by
          unfold stepC entry
          rw [cutStar_entry (fun x hx => (name_bytes (hnm nm (List.mem_cons_self ..)) x hx).2)]
          simp only []
          rw [idxOf_at pre ns nm hn]
          simp only []
          rw [atoiAll_itoa n (hr n (List.mem_cons_self ..))]
          simp only []
          congr 1
          rw [← hd, List.length_cons, List.replicate_succ, List.set_append_right _ _ (Nat.le_refl _), Nat.sub_self]
          simp
        rw [hstep, e1, e2]
        exact hrec
theorem inRange_abs {cs : List Int} (h : inRange cs = true) : ∀ n ∈ cs, n.natAbs ≤ 1000 := fun n hn => by
  have := of_decide_eq_true (List.all_eq_true.1 h n hn)
  omega
theorem entries_zero (ns : List (List UInt8)) (cs : List Int) (hc : cs.length = ns.length) (h : entries ns cs = []) : cs = zeroC ns := by
  induction ns generalizing cs with
  | nil => exact List.eq_nil_of_length_eq_zero hc
  | cons nm ns ih =>
    cases cs with
    | nil => cases hc
    | cons n cs =>
      unfold entries at h
      split at h
      · rename_i h0
        rw [ih cs (by simpa using hc) h, h0]
        rfl
      · cases h
/-- Parse takes back the text of an account. -/
theorem parse_text (ns : List (List UInt8)) (hn : ns.Nodup) (hnm : ∀ nm ∈ ns, isName nm = true) (cs : List Int) (hc : cs.length = ns.length) (hr : inRange cs = true) : parseC ns (textC ns cs) = some cs := by
  have hraw : rawC ns (textC ns cs) = some cs := by
    unfold rawC
    by_cases h : entries ns cs = []
    · have : textC ns cs = [49] := if_pos h
      rw [if_pos this, entries_zero ns cs hc h]
    · have e : textC ns cs = join (entries ns cs) [32] := if_neg h
      have hne : textC ns cs ≠ [49] := by
        intro e2
        have h2 := splitSp_join (entries ns cs) h (entries_bytes ns cs hnm)
        rw [← e, e2] at h2
        have h3 : entries ns cs = [[49]] := by rw [← h2]; decide
        have : ∀ (ns : List (List UInt8)) (cs : List Int), ∀ w ∈ entries ns cs, (42 : UInt8) ∈ w := by
          intro ns
          induction ns with
          | nil => intro cs w hw; simp [entries] at hw
          | cons nm ns ih =>
            intro cs w hw
            cases cs with
            | nil => simp [entries] at hw
            | cons n cs =>
              unfold entries at hw
              split at hw
              · exact ih cs w hw
              · rcases List.mem_cons.1 hw with rfl | hw
                · simp [entry]
                · exact ih cs w hw
        have := this ns cs [49] (by rw [h3]; simp)
        exact absurd this (by decide)
      rw [if_neg hne, e, splitSp_join _ h (entries_bytes ns cs hnm)]
      have := loopC_entries [] ns hn hnm [] cs rfl hc (inRange_abs hr)
      simpa [zeroC] using this
  unfold parseC
  rw [hraw]
  simp [hr]
theorem parse_back {ns : List (List UInt8)} {s : List UInt8} {cs : List Int} (h : parseC ns s = some cs) : inRange cs = true ∧ textC ns cs = s := by
  unfold parseC at h
  split at h
  · cases h
  · split at h
    · rename_i h2
      injection h with h
      subst h
      exact h2
    · cases h

end Go.Proofs.YtipaapplingbnaaDoor
