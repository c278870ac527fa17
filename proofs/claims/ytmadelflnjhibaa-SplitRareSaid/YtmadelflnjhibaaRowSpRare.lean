/- The law SplitRare holds of every input: the hits of some kinds one by one are what the document's reference says. No condition. -/
import Derived.Test.YtmadelflnjhibaaRows
import Derived.Test.YtmadelflnjhibaaLawI
import Derived.Test.YtmadelflnjhibaaOpenT
namespace Go.Proofs.Ytmadelflnjhibaa
open Go.ChangeShapes Go.WideShapes Go.ChangeAt Go.ChangeMaps Go.RowKit

theorem Try.own : ownKnob Try.prog.godebug = none := by kernel_rfl

set_option maxRecDepth 100000 in
theorem row_lifted (os : Os) (started : os.Started) (H : Type) (enc : TypeId × Value → H) :
    ReturnsInHanded {} Try.checked os 10 .any (Rows.splitRareSpec.pre6 enc Try.prog Try.f10 Rows.splitRareRow.domain false) (Rows.splitRareSpec.post enc Try.prog Try.f10 false true false false) := by
  refine returnsInHanded_of_change (C := Try.checked) Try.own started (by kernel_rfl) Try.func10
    (ChangeSpec.witness6 (enc := enc) (C := Try.checked) false ⟨#[], #[leafVal none 0 0 0, .string ⟨#[]⟩, .slice none 0 0], []⟩ 8 (by kernel_rfl) (by kernel_rfl) (by kernel_rfl) (by kernel_rfl)) ?_
  intro W base args ds gs before hval0 hW _ _
  have hval : ∀ (j : Nat) t v, Try.f10.params[j]? = some t → args[j]? = some v → Value.okWide Try.prog W .any base t v := hval0
  have hW' := hW
  obtain ⟨p, q, hA0, hV, rfl, _, _⟩ := hW
  have hA : DataW.TrodAll enc Try.prog W 0 (fun _ => true) true Try.f10.params.toList args.toList ds p := hA0
  rw [Try.params10] at hA hval
  obtain ⟨v0, v1, v2, d0, d1, d2, p0, p1, p2, rfl, rfl, rfl, h0, h1, h2⟩ := trodAll_three hA
  obtain ⟨rfl, rfl⟩ := trodVars_none hV
  obtain ⟨pa0, n0, cap0, K0, f0, rfl, hcap0, hcls0, hr0⟩ := open_leaf (hval 0 24 v0 rfl rfl) h0
  obtain ⟨s1, rfl, _, _, _⟩ := open_string Try.underlying9 (hval 1 9 v1 rfl rfl) h1
  obtain ⟨pb2, m2, ck2, g2, rfl, hck2, hok2, hrk2⟩ := open_clss (hval 2 22 v2 rfl rfl) h2
  refine (lawSpRare pa0 n0 cap0 K0 f0 hcap0 hcls0 s1 pb2 m2 ck2 g2 hck2 hok2 W hr0 hrk2).mono fun e W' ⟨he, hE⟩ => ?_
  exact ⟨_, he, law_post hW' rfl (by kernel_rfl) rfl rfl rfl (by kernel_rfl) hE⟩

theorem splitRare_holds : Rows.SplitRareSaid :=
  OpenClaim.holds_of_wide 10 Try.f10 rfl rfl rfl rfl rfl rfl rfl ⟨rfl, rfl, rfl, rfl, rfl⟩ rfl rfl rfl rfl rfl (by kernel_rfl) Try.func10 (by kernel_rfl)
    (of_decide_eq_true (by kernel_rfl)) (by unfold Func.isWrapper; first | (rw [if_pos (by decide +kernel)]; kernel_rfl) | (rw [if_neg (by decide +kernel)]; exact ⟨rfl, rfl⟩))
    (fun os started H enc _ => row_lifted os started H enc)
end Go.Proofs.Ytmadelflnjhibaa
