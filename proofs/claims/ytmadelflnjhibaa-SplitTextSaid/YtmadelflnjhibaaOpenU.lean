import Derived.Test.YtmadelflnjhibaaOpenS
namespace Go.Proofs.Ytmadelflnjhibaa
set_option maxRecDepth 100000
open Go.RowKit Go.ChangeShapes Go.WideShapes Go.ChangeAt Go.Deep

section
variable {H : Type} {enc : TypeId × Value → H} {w : World} {base : Nat} {spare : Nat → Bool} {held : Bool}

/-- Two texts in a row. -/
theorem open_arr2t {r : Reach} {b0 : Nat} {v : Value} {d : DataW H} {ps : List MemPlace} (hv : Value.okWide Try.prog w r b0 61 v) (h : DataW.Trod enc Try.prog w base spare held 61 v d ps) :
    ∃ a b : ByteArray, v = .agg #[.string a, .string b] ∧ d = .agg [.lit (.string a.data.toList), .lit (.string b.data.toList)] := by
  obtain ⟨fuel, hf⟩ := h
  unfold Value.okWide at hv
  simp only [Try.underlying61] at hv
  obtain ⟨cs, rfl, hsz, _⟩ := hv
  have hc : Try.prog.cellsOf 61 = 2 := by kernel_rfl
  have hc1 : Try.prog.cellsOf 9 = 1 := by kernel_rfl
  rw [hc] at hsz
  obtain ⟨c0, c1, rfl⟩ : ∃ c0 c1, cs = #[c0, c1] := by
    obtain ⟨l⟩ := cs
    match l, hsz with
    | [c0, c1], _ => exact ⟨c0, c1, rfl⟩
  obtain ⟨xs, m, _, hx, _, hl, hall⟩ := DataW.trod_array Try.underlying61 hf
  rw [hc1] at hall
  have g0 := hall 0 (by decide)
  have g1 := hall 1 (by decide)
  obtain ⟨y0, e0⟩ : ∃ y, xs[0]? = some y := ⟨_, List.getElem?_eq_getElem (by omega)⟩
  obtain ⟨y1, e1⟩ : ∃ y, xs[1]? = some y := ⟨_, List.getElem?_eq_getElem (by omega)⟩
  rw [e0] at g0
  rw [e1] at g1
  obtain ⟨a, k0, ha, _⟩ := DataW.trod_string Try.underlying9 g0
  obtain ⟨b, k1, hb, _⟩ := DataW.trod_string Try.underlying9 g1
  simp [Value.cells] at k0 k1
  refine ⟨a, b, by rw [k0, k1], ?_⟩
  subst ha hb
  have hxs : xs = [(.lit (.string a.data.toList), []), (.lit (.string b.data.toList), [])] := by
    match xs, hl, e0, e1 with
    | [x0, x1], _, e0, e1 =>
      injection e0 with e0
      injection e1 with e1
      rw [e0, e1]
  rw [hxs] at hx
  injection hx
end
end Go.Proofs.Ytmadelflnjhibaa
