import Derived.Test.YtkkhjpkkjpcbmaaRead
import Derived.Test.YtkkhjpkkjpcbmaaQ8d
import Derived.Test.YtkkhjpkkjpcbmaaBK
/- For every tree that is handed to it the law EffectsSorted answers true, and the tree reads behind the call as it did before. Conditions: none. -/
namespace Go.Proofs.Ytkkhjpkkjpcbmaa
open Go.ChangeShapes Go.WideShapes Go.ChangeAt Go.RowKit

theorem vals1 {w : World} {g : Gh} {d : D} {v : Value} (h : val w g d v) : vals w g [d] [v] := ⟨rfl, fun j h1 h2 => by
 have : j = 0 := by simp at h1; omega
 subst this; exact h⟩
set_option maxRecDepth 100000 in
theorem effectsSorted_lifted (os : Os) (started : os.Started) (H : Type) (enc : TypeId × Value → H) :
  ReturnsInHanded {} Try.checked os 8 .any (Rows.effectsSortedSpec.pre6 enc Try.prog Try.f8 Rows.effectsSortedRow.domain false) (Rows.effectsSortedSpec.post enc Try.prog Try.f8 false true false false) := by
 refine returnsInHanded_of_change (C := Try.checked) prog_own started (by kernel_rfl) Try.func8
  (ChangeSpec.witness6 (enc := enc) (C := Try.checked) false ⟨#[], #[.agg #[.int .u8 0, .int .i64 0, .string ⟨#[]⟩, .slice none 0 0]], []⟩ 8 (by kernel_rfl) (by kernel_rfl) (by kernel_rfl) (by kernel_rfl)) ?_
 intro W base args ds gs before hval0 hW _ _
 have hval : ∀ (j : Nat) t v, Try.f8.params[j]? = some t → args[j]? = some v → Value.okWide Try.prog W .any base t v := hval0
 have hW' : DataW.Whole enc Try.prog Try.f8.params.toList Rows.effectsSortedSpec.vars false W args.toList ds gs before := hW
 obtain ⟨p, q, hA0, hV, rfl, _, _⟩ := hW
 have hA : DataW.TrodAll enc Try.prog W 0 (fun _ => true) true Try.f8.params.toList args.toList ds p := hA0
 rw [Try.params8] at hA hval
 obtain ⟨v0, d0, rfl, rfl, h0⟩ := trodAll_one hA
 obtain ⟨g0, hg0⟩ := arg_agg Try.underlying24 (hval 0 24 v0 rfl rfl) h0 (fun x => dN_isAgg x) (fun fuel => arg_node fuel)
 refine (law_calls EVe_ok (lawEffectsSorted_fn g0) (vals1 hg0)).mono fun e W' ⟨he, hb⟩ => ?_
 subst he
 exact ⟨_, rfl, law_post hW' rfl rfl (by rw [Try.params8]; intro t ht; simp at ht; subst ht; exact ⟨by kernel_rfl, of_decide_eq_true (by kernel_rfl)⟩) rfl hb⟩

theorem effectsSorted_holds : Rows.EffectsSortedSaid :=
 OpenClaim.holds_of_wide 8 Try.f8 rfl rfl rfl rfl rfl rfl rfl ⟨rfl, rfl, rfl, rfl, rfl⟩ rfl rfl rfl rfl rfl (by kernel_rfl) Try.func8 (by kernel_rfl)
  (of_decide_eq_true (by kernel_rfl)) (by unfold Func.isWrapper; first | (rw [if_pos (by decide +kernel)]; kernel_rfl) | (rw [if_neg (by decide +kernel)]; exact ⟨rfl, rfl⟩))
  (fun os started H enc _ => effectsSorted_lifted os started H enc)

end Go.Proofs.Ytkkhjpkkjpcbmaa
