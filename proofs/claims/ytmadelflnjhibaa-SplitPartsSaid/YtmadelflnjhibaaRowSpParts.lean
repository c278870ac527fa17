/- The law SplitParts holds of every input: the two parts of a leaf's kinds are what the document's reference says. No condition. -/
import Derived.Test.YtmadelflnjhibaaRows
import Derived.Test.YtmadelflnjhibaaLawH
import Derived.Test.YtmadelflnjhibaaOpenS
namespace Go.Proofs.Ytmadelflnjhibaa
open Go.ChangeShapes Go.WideShapes Go.ChangeAt Go.ChangeMaps Go.RowKit

theorem Try.own : ownKnob Try.prog.godebug = none := by kernel_rfl

set_option maxRecDepth 100000 in
theorem row_lifted (os : Os) (started : os.Started) (H : Type) (enc : TypeId × Value → H) :
    ReturnsInHanded {} Try.checked os 9 .any (Rows.splitPartsSpec.pre6 enc Try.prog Try.f9 Rows.splitPartsRow.domain false) (Rows.splitPartsSpec.post enc Try.prog Try.f9 false true false false) := by
  refine returnsInHanded_of_change (C := Try.checked) Try.own started (by kernel_rfl) Try.func9
    (ChangeSpec.witness6 (enc := enc) (C := Try.checked) false ⟨#[], #[leafVal none 0 0 0, .int .i64 0], []⟩ 8 (by kernel_rfl) (by kernel_rfl) (by kernel_rfl) (by kernel_rfl)) ?_
  intro W base args ds gs before hval0 hW _ _
  have hval : ∀ (j : Nat) t v, Try.f9.params[j]? = some t → args[j]? = some v → Value.okWide Try.prog W .any base t v := hval0
  have hW' := hW
  obtain ⟨p, q, hA0, hV, rfl, _, _⟩ := hW
  have hA : DataW.TrodAll enc Try.prog W 0 (fun _ => true) true Try.f9.params.toList args.toList ds p := hA0
  rw [Try.params9] at hA hval
  obtain ⟨v0, v1, d0, d1, p0, p1, rfl, rfl, rfl, h0, h1⟩ := trodAll_two hA
  obtain ⟨rfl, rfl⟩ := trodVars_none hV
  obtain ⟨pa0, n0, cap0, K0, f0, rfl, hcap0, hcls0, hr0⟩ := open_leaf (hval 0 24 v0 rfl rfl) h0
  obtain ⟨a1, rfl, _, _, _⟩ := open_int Try.underlying3 (hval 1 3 v1 rfl rfl) h1
  refine (lawSpParts pa0 n0 cap0 K0 f0 hcap0 hcls0 a1 W hr0).mono fun e W' ⟨he, hE⟩ => ?_
  exact ⟨_, he, law_post hW' rfl (by kernel_rfl) rfl rfl rfl (by kernel_rfl) hE⟩

theorem splitParts_holds : Rows.SplitPartsSaid :=
  OpenClaim.holds_of_wide 9 Try.f9 rfl rfl rfl rfl rfl rfl rfl ⟨rfl, rfl, rfl, rfl, rfl⟩ rfl rfl rfl rfl rfl (by kernel_rfl) Try.func9 (by kernel_rfl)
    (of_decide_eq_true (by kernel_rfl)) (by unfold Func.isWrapper; first | (rw [if_pos (by decide +kernel)]; kernel_rfl) | (rw [if_neg (by decide +kernel)]; exact ⟨rfl, rfl⟩))
    (fun os started H enc _ => row_lifted os started H enc)
end Go.Proofs.Ytmadelflnjhibaa
