/- More kinds of arguments opened once: four bytes by value. -/
import Derived.Test.YtppcdppplbpklaaDoorR1
import Derived.OpenShut
namespace Go.Proofs.YtppcdppplbpklaaDoor
open Go.ChangeShapes Go.WideShapes Go.ChangeAt Go.RowKit
set_option maxRecDepth 100000
section
variable {H : Type} {enc : TypeId × Value → H} {w : World} {base : Nat} {sp : Nat → Bool} {held : Bool}

theorem open_four {r : Reach} {b0 : Nat} {v : Value} {d : DataW H} {ps : List MemPlace} (hval : Value.okWide Tryd.prog w r b0 38 v) (hd : DataW.Trod enc Tryd.prog w base sp held 38 v d ps) :
    ∃ y0 y1 y2 y3 : UInt8, v = .agg #[.int .u8 (y0.toNat : Int), .int .u8 (y1.toNat : Int), .int .u8 (y2.toNat : Int), .int .u8 (y3.toNat : Int)] ∧ ps = [] := by
  have hc4 : Tryd.prog.cellsOf 38 = 4 := by kernel_rfl
  have hc1 : Tryd.prog.cellsOf 5 = 1 := by kernel_rfl
  obtain ⟨cs, rfl, hsz, _⟩ : ∃ cs, v = .agg cs ∧ cs.size = Tryd.prog.cellsOf 38 ∧ Row.okWide Tryd.prog w r b0 38 cs := by
    simpa [Value.okWide, Tryd.underlying38] using hval
  rw [hc4] at hsz
  obtain ⟨l⟩ := cs
  match l, hsz with
  | [c0, c1, c2, c3], _ =>
  obtain ⟨fuel, hf⟩ := hd
  obtain ⟨xs, m, _, hx, _, hl, hel⟩ := DataW.trod_array Tryd.underlying38 hf
  match xs, hl with
  | [x0, x1, x2, x3], _ =>
  have h0 := hel 0 (by omega)
  have h1 := hel 1 (by omega)
  have h2 := hel 2 (by omega)
  have h3 := hel 3 (by omega)
  simp [hc1, Value.cells] at h0 h1 h2 h3
  obtain ⟨a0, e0, rfl, w0⟩ := DataW.trod_int Tryd.underlying5 h0
  obtain ⟨a1, e1, rfl, w1⟩ := DataW.trod_int Tryd.underlying5 h1
  obtain ⟨a2, e2, rfl, w2⟩ := DataW.trod_int Tryd.underlying5 h2
  obtain ⟨a3, e3, rfl, w3⟩ := DataW.trod_int Tryd.underlying5 h3
  simp at e0 e1 e2 e3
  subst e0 e1 e2 e3
  obtain ⟨y0, rfl⟩ := u8_wf w0
  obtain ⟨y1, rfl⟩ := u8_wf w1
  obtain ⟨y2, rfl⟩ := u8_wf w2
  obtain ⟨y3, rfl⟩ := u8_wf w3
  simp only [Prod.mk.injEq] at hx
  exact ⟨y0, y1, y2, y3, rfl, by rw [hx.2]; rfl⟩
end
end Go.Proofs.YtppcdppplbpklaaDoor
