import Derived.Test.YtmadelflnjhibaaOpen
namespace Go.Proofs.Ytmadelflnjhibaa
set_option maxRecDepth 100000
open Go.RowKit Go.ChangeShapes Go.WideShapes Go.ChangeAt Go.Deep

section
variable {H : Type} {enc : TypeId × Value → H} {w : World} {base : Nat} {spare : Nat → Bool} {held : Bool}

/-- A row of sets as an argument. -/
theorem open_clss {r : Reach} {b0 : Nat} {v : Value} {d : DataW H} {ps : List MemPlace} (hv : Value.okWide Try.prog w r b0 22 v) (h : DataW.Trod enc Try.prog w base spare held 22 v d ps) :
    ∃ (p : Option Addr) (n cap : Nat) (f : Nat → Cls), v = .slice p n cap ∧ n ≤ cap ∧ (∀ j, (f j).ok) ∧ RdC w p n f := by
  obtain ⟨fuel, hf⟩ := h
  unfold Value.okWide at hv
  simp only [Try.underlying22] at hv
  have hc : v.cells.toList = [v] := by
    cases v <;> first | rfl | (exfalso; unfold Cell.okWide Cell.ok at hv; simp [Try.underlying22] at hv)
  rw [hc] at hf
  exact open_cls_slice hf
end
end Go.Proofs.Ytmadelflnjhibaa
