/- Walks: named, names. -/
import Derived.Test.YtipaapplingbnaaDoorCb
import Derived.Test.YtipaapplingbnaaDoorCc
import Derived.Test.YtipaapplingbnaaDoorSh
import Derived.Shelf.Strings.SlTrimAscii
import Derived.Maps.OwnSet
import Derived.Maps.OwnOps
import Derived.Maps.Views
namespace Go.Proofs.YtipaapplingbnaaDoor
open Go.RowKit Go.Maps Go.WideMaps

def lets : List UInt8 := [97, 98, 99, 100, 101, 102, 103, 104, 105, 106, 107, 108, 109, 110, 111, 112, 113, 114, 115, 116, 117, 118, 119, 120, 121, 122]
theorem lets_fin : ∀ n : Fin 256, lets.contains (UInt8.ofNat n.val) = letter (UInt8.ofNat n.val) := by decide +kernel
theorem lets_letter (x : UInt8) : lets.contains x = letter x := by
  have := lets_fin ⟨x.toNat, x.toNat_lt⟩
  rwa [UInt8.ofNat_toNat] at this
theorem dropWhile_nil {α : Type} (p : α → Bool) : ∀ l : List α, l.dropWhile p = [] ↔ ∀ x ∈ l, p x = true
  | [] => by simp
  | a :: l => by
    rw [List.dropWhile_cons]
    cases h : p a with
    | true => simp [dropWhile_nil p l, h]
    | false => simp [h]
theorem trim_lets (l : List UInt8) : Lib.trimS l lets = [] ↔ l.all letter = true := by
  have hp : (fun x : UInt8 => lets.contains x) = letter := funext lets_letter
  rw [List.all_eq_true]
  unfold Lib.trimS Lib.trimLeftS Lib.trimRightS
  rw [hp, dropWhile_nil]
  constructor
  · intro h
    by_cases h0 : l.reverse.dropWhile letter = []
    · exact fun x hx => (dropWhile_nil _ _).1 h0 x (List.mem_reverse.2 hx)
    · exfalso
      obtain ⟨a, r, e⟩ := List.exists_cons_of_ne_nil h0
      have h1 := List.head?_dropWhile_not letter l.reverse
      rw [e] at h1 h
      simp at h1
      have := h a (by simp)
      rw [this] at h1
      cases h1
  · intro h x hx
    have h0 : l.reverse.dropWhile letter = [] := (dropWhile_nil _ _).2 fun x hx => h x (List.mem_reverse.1 hx)
    rw [h0] at hx
    cases hx
theorem trim_any (w : World) (l : List UInt8) (hl : l.length ≤ 9223372036854775807) :
    Calls Tryd.prog 34 #[str l, .string ⟨#[97, 98, 99, 100, 101, 102, 103, 104, 105, 106, 107, 108, 109, 110, 111, 112, 113, 114, 115, 116, 117, 118, 119, 120, 121, 122]⟩] w fun e w' => e = .returned (str (Lib.trimS l lets)) ∧ Below w.heap.size w w' :=
  Any.strings_Trim_laid Tryd.lays160 (by kernel_rfl) ⟨l.toArray⟩ ⟨#[97, 98, 99, 100, 101, 102, 103, 104, 105, 106, 107, 108, 109, 110, 111, 112, 113, 114, 115, 116, 117, 118, 119, 120, 121, 122]⟩ w (by simpa [ByteArray.size] using hl) (by decide) (ascii_of_all (by decide))

set_option maxRecDepth 100000 in
set_option maxHeartbeats 1000000 in
theorem named_any (w : World) (s : List UInt8) (hs : s.length ≤ 9223372036854775807) :
    Calls Tryd.prog 24 #[str s] w fun e w' => e = .returned (.bool (isName s)) ∧ Below w.heap.size w w' := by
  by_cases h1 : 1 ≤ s.length
  · by_cases h2 : s.length ≤ 16
    · have HT := Lib.hid (trim_any w s hs)
      have HN := Lib.hid (trim_lets s)
      have hq : isName s = s.all letter := by unfold isName; rw [decide_eq_true ⟨h1, h2⟩, Bool.true_and]
      rw [hq]
      rcases ha : s.all letter with _ | _
      · have ht : Lib.trimS s lets ≠ [] := fun e => by rw [HN.out.1 e] at ha; cases ha
        obtain ⟨x, t, hxt⟩ := List.exists_cons_of_ne_nil ht
        rw [hxt] at HT
        clear ht hxt ha hq HN
        go_enter Tryd.func24, Tryd.ntmps24
        go_wp2_with (go_at_call 34; refine HT.out.mono ?_; rintro e w' ⟨rfl, hb⟩)
        go_ret
        exact ⟨rfl, hb⟩
      · rw [HN.out.2 ha] at HT
        clear ha hq HN
        go_enter Tryd.func24, Tryd.ntmps24
        go_wp2_with (go_at_call 34; refine HT.out.mono ?_; rintro e w' ⟨rfl, hb⟩)
        go_ret
        exact ⟨rfl, hb⟩
    · have hq : isName s = false := by unfold isName; rw [decide_eq_false (fun h => h2 h.2), Bool.false_and]
      rw [hq]
      go_enter Tryd.func24, Tryd.ntmps24
      go_wp2
      go_ret
      exact ⟨rfl, Below.refl _ _⟩
  · have hq : isName s = false := by unfold isName; rw [decide_eq_false (fun h => h1 h.1), Bool.false_and]
    rw [hq]
    go_enter Tryd.func24, Tryd.ntmps24
    go_wp2
    go_ret
    exact ⟨rfl, Below.refl _ _⟩

end Go.Proofs.YtipaapplingbnaaDoor
