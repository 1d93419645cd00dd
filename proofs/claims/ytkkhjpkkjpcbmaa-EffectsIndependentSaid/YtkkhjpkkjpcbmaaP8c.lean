/- For every two trees that are handed to it the law EffectsIndependent answers true, and they read behind the call as they did before. Conditions: none. -/
import Derived.Test.YtkkhjpkkjpcbmaaRead
import Derived.Test.YtkkhjpkkjpcbmaaQ8c
import Derived.Test.YtkkhjpkkjpcbmaaAgs
namespace Go.Proofs.Ytkkhjpkkjpcbmaa
open Go.ChangeShapes Go.WideShapes Go.ChangeAt Go.RowKit

set_option maxRecDepth 100000 in
theorem effectsIndependent_lifted (os : Os) (started : os.Started) (H : Type) (enc : TypeId × Value → H) :
  ReturnsInHanded {} Try.checked os 5 .any (Rows.effectsIndependentSpec.pre6 enc Try.prog Try.f5 Rows.effectsIndependentRow.domain false) (Rows.effectsIndependentSpec.post enc Try.prog Try.f5 false true false false) := by
 refine returnsInHanded_of_change (C := Try.checked) prog_own started (by kernel_rfl) Try.func5
  (ChangeSpec.witness6 (enc := enc) (C := Try.checked) false ⟨#[], #[.agg #[.int .u8 0, .int .i64 0, .string ⟨#[]⟩, .slice none 0 0], .agg #[.int .u8 0, .int .i64 0, .string ⟨#[]⟩, .slice none 0 0]], []⟩ 8 (by kernel_rfl) (by kernel_rfl) (by kernel_rfl) (by kernel_rfl)) ?_
 intro W base args ds gs before hval0 hW _ _
 have hval : ∀ (j : Nat) t v, Try.f5.params[j]? = some t → args[j]? = some v → Value.okWide Try.prog W .any base t v := hval0
 have hW' : DataW.Whole enc Try.prog Try.f5.params.toList Rows.effectsIndependentSpec.vars false W args.toList ds gs before := hW
 obtain ⟨p, q, hA0, hV, rfl, _, _⟩ := hW
 have hA : DataW.TrodAll enc Try.prog W 0 (fun _ => true) true Try.f5.params.toList args.toList ds p := hA0
 rw [Try.params5] at hA hval
 obtain ⟨v0, v1, d0, d1, p0, p1, rfl, rfl, rfl, h0, h1⟩ := trodAll_two hA
 obtain ⟨g0, hg0⟩ := arg_agg Try.underlying24 (hval 0 24 v0 rfl rfl) h0 (fun x => dN_isAgg x) (fun fuel => arg_node fuel)
 obtain ⟨g1, hg1⟩ := arg_agg Try.underlying24 (hval 1 24 v1 rfl rfl) h1 (fun x => dN_isAgg x) (fun fuel => arg_node fuel)
 refine (law_calls EVe_ok (lawEffectsIndependent_fn g0 g1) (vals2 hg0 hg1)).mono fun e W' ⟨he, hb⟩ => ?_
 subst he
 exact ⟨_, rfl, law_post hW' rfl rfl (by rw [Try.params5]; intro t ht; simp at ht; rcases ht with rfl | rfl <;> exact ⟨by kernel_rfl, of_decide_eq_true (by kernel_rfl)⟩) rfl hb⟩

theorem effectsIndependent_holds : Rows.EffectsIndependentSaid :=
 OpenClaim.holds_of_wide 5 Try.f5 rfl rfl rfl rfl rfl rfl rfl ⟨rfl, rfl, rfl, rfl, rfl⟩ rfl rfl rfl rfl rfl (by kernel_rfl) Try.func5 (by kernel_rfl)
  (of_decide_eq_true (by kernel_rfl)) (by unfold Func.isWrapper; first | (rw [if_pos (by decide +kernel)]; kernel_rfl) | (rw [if_neg (by decide +kernel)]; exact ⟨rfl, rfl⟩))
  (fun os started H enc _ => effectsIndependent_lifted os started H enc)

end Go.Proofs.Ytkkhjpkkjpcbmaa
