/- The law SplitText holds of every input: a text in two pieces. No condition. -/
import Derived.Test.YtmadelflnjhibaaRows
import Derived.Test.YtmadelflnjhibaaLawK
import Derived.Test.YtmadelflnjhibaaOpenU
import Derived.HandedShaped
namespace Go.Proofs.Ytmadelflnjhibaa
open Go.ChangeShapes Go.WideShapes Go.ChangeAt Go.ChangeMaps Go.RowKit

theorem Try.own : ownKnob Try.prog.godebug = none := by kernel_rfl

set_option maxRecDepth 100000 in
theorem row_lifted (os : Os) (started : os.Started) (H : Type) (enc : TypeId × Value → H) :
    ReturnsInHanded {} Try.checked os 14 .any (Rows.splitTextSpec.pre6 enc Try.prog Try.f14 Rows.splitTextRow.domain false) (Rows.splitTextSpec.post enc Try.prog Try.f14 false true false false) := by
  refine returnsInHanded_of_change_shaped (C := Try.checked) Try.own started (by kernel_rfl) Try.func14
    (ChangeSpec.witness6 (enc := enc) (C := Try.checked) false ⟨#[], #[leafVal none 0 0 0, .agg #[.string ⟨#[]⟩, .string ⟨#[]⟩], .agg #[.int .i64 0, .int .i64 0]], []⟩ 8 (by kernel_rfl) (by kernel_rfl) (by kernel_rfl) (by kernel_rfl)) ?_
  intro W base args ds gs before hval0 hW _ hw0 _ _
  have hval : ∀ (j : Nat) t v, Try.f14.params[j]? = some t → args[j]? = some v → Value.okWide Try.prog W .any base t v := hval0
  have hW' := hW
  obtain ⟨p, q, hA0, hV, rfl, _, _⟩ := hW
  have hA : DataW.TrodAll enc Try.prog W 0 (fun _ => true) true Try.f14.params.toList args.toList ds p := hA0
  rw [Try.params14] at hA hval
  obtain ⟨v0, v1, v2, d0, d1, d2, p0, p1, p2, rfl, rfl, rfl, h0, h1, h2⟩ := trodAll_three hA
  obtain ⟨rfl, rfl⟩ := trodVars_none hV
  obtain ⟨pa0, n0, cap0, K0, f0, rfl, hcap0, hcls0, hr0⟩ := open_leaf (hval 0 24 v0 rfl rfl) h0
  obtain ⟨a1, b1, rfl, rfl⟩ := open_arr2t (hval 1 61 v1 rfl rfl) h1
  obtain ⟨a2, b2, rfl, hb2⟩ := open_ask (hval 2 58 v2 rfl rfl) h2
  have hwl : ∀ l : List UInt8, l.length ∈ DataW.weightsEach Try.prog (Try.f14.params.toList ++ []) [d0, .agg [.lit (.string a1.data.toList), .lit (.string b1.data.toList)], d2] → l.length ≤ 140737488351232 := fun l h => of_decide_eq_true (List.all_eq_true.1 hw0 _ h)
  refine (lawSpText pa0 n0 cap0 K0 f0 hcap0 hcls0 a1 b1 (hwl _ (by simp [DataW.weightsEach, DataW.weights, DataW.weightsAll, Try.underlying61, Try.params14])) (hwl _ (by simp [DataW.weightsEach, DataW.weights, DataW.weightsAll, Try.underlying61, Try.params14])) a2 b2 hb2 W hr0).mono fun e W' ⟨he, hE⟩ => ?_
  exact ⟨_, he, law_post hW' rfl (by kernel_rfl) rfl rfl rfl (by kernel_rfl) hE⟩

theorem splitText_holds : Rows.SplitTextSaid :=
  OpenClaim.holds_of_wide 14 Try.f14 rfl rfl rfl rfl rfl rfl rfl ⟨rfl, rfl, rfl, rfl, rfl⟩ rfl rfl rfl rfl rfl (by kernel_rfl) Try.func14 (by kernel_rfl)
    (of_decide_eq_true (by kernel_rfl)) (by unfold Func.isWrapper; first | (rw [if_pos (by decide +kernel)]; kernel_rfl) | (rw [if_neg (by decide +kernel)]; exact ⟨rfl, rfl⟩))
    (fun os started H enc _ => row_lifted os started H enc)
end Go.Proofs.Ytmadelflnjhibaa
