import Derived.Test.YtmadelflnjhibaaOpen
namespace Go.Proofs.Ytmadelflnjhibaa
set_option maxRecDepth 100000
open Go.RowKit Go.ChangeShapes Go.WideShapes Go.ChangeAt Go.Deep

section
variable {H : Type} {enc : TypeId × Value → H} {w : World} {base : Nat} {spare : Nat → Bool} {held : Bool}

/-- A size and the least number of places. -/
theorem open_ask {r : Reach} {b0 : Nat} {v : Value} {d : DataW H} {ps : List MemPlace} (hv : Value.okWide Try.prog w r b0 58 v) (h : DataW.Trod enc Try.prog w base spare held 58 v d ps) :
    ∃ a b : Int, v = .agg #[.int .i64 a, .int .i64 b] ∧ -9223372036854775808 ≤ b ∧ b ≤ 9223372036854775807 := by
  obtain ⟨v0, v1, y0, y1, m, rfl, _, _, h0, h1⟩ := Joins.open_agg2 Try.underlying58 (by kernel_rfl) (by kernel_rfl) hv h
  obtain ⟨a, ha, _, _⟩ := DataW.trod_int Try.underlying3 h0
  obtain ⟨b, hb, _, wb⟩ := DataW.trod_int Try.underlying3 h1
  injection ha with ha
  injection hb with hb
  subst ha hb
  refine ⟨a, b, rfl, ?_⟩
  simp [Lit.wf, IntKind.min, IntKind.max, IntKind.signed, IntKind.bits] at wb
  omega

/-- Two texts in a row. -/
theorem open_arr2s {r : Reach} {b0 : Nat} {v : Value} {d : DataW H} {ps : List MemPlace} (hv : Value.okWide Try.prog w r b0 61 v) (h : DataW.Trod enc Try.prog w base spare held 61 v d ps) :
    ∃ a b : ByteArray, v = .agg #[.string a, .string b] := by
  obtain ⟨fuel, hf⟩ := h
  unfold Value.okWide at hv
  simp only [Try.underlying61] at hv
  obtain ⟨cs, rfl, hsz, _⟩ := hv
  have hc : Try.prog.cellsOf 61 = 2 := by kernel_rfl
  have hc1 : Try.prog.cellsOf 9 = 1 := by kernel_rfl
  rw [hc] at hsz
  obtain ⟨c0, c1, rfl⟩ : ∃ c0 c1, cs = #[c0, c1] := by
    obtain ⟨l⟩ := cs
    match l, hsz with
    | [c0, c1], _ => exact ⟨c0, c1, rfl⟩
  obtain ⟨xs, m, _, _, _, hl, hall⟩ := DataW.trod_array Try.underlying61 hf
  rw [hc1] at hall
  have g0 := hall 0 (by decide)
  have g1 := hall 1 (by decide)
  obtain ⟨y0, e0⟩ : ∃ y, xs[0]? = some y := ⟨_, List.getElem?_eq_getElem (by omega)⟩
  obtain ⟨y1, e1⟩ : ∃ y, xs[1]? = some y := ⟨_, List.getElem?_eq_getElem (by omega)⟩
  rw [e0] at g0
  rw [e1] at g1
  obtain ⟨a, k0, _, _⟩ := DataW.trod_string Try.underlying9 g0
  obtain ⟨b, k1, _, _⟩ := DataW.trod_string Try.underlying9 g1
  simp [Value.cells] at k0 k1
  exact ⟨a, b, by rw [k0, k1]⟩
end
end Go.Proofs.Ytmadelflnjhibaa
