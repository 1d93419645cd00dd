/- For all declarations, numbers and switches the law LayoutErrors answers true, and the arguments read behind the call as they did before. Conditions: none. -/
import Derived.Test.YthgdibdapjaljaaRead
import Derived.Test.YthgdibdapjaljaaQ26b
import Derived.Test.YthgdibdapjaljaaLag
namespace Go.Proofs.Ythgdibdapjaljaa
open Go.ChangeShapes Go.WideShapes Go.ChangeAt Go.RowKit

set_option maxRecDepth 100000 in
theorem layoutErrors_lifted (os : Os) (started : os.Started) (H : Type) (enc : TypeId × Value → H) :
    ReturnsInHanded {} Try.checked os 4 .any (Rows.layoutErrorsSpec.pre6 enc Try.prog Try.f4 Rows.layoutErrorsRow.domain false) (Rows.layoutErrorsSpec.post enc Try.prog Try.f4 false true false false) := by
  refine returnsInHanded_of_change (C := Try.checked) prog_own started (by kernel_rfl) Try.func4
    (ChangeSpec.witness6 (enc := enc) (C := Try.checked) false ⟨#[], #[.slice none 0 0, .int .u8 0, .bool false], []⟩ 8 (by kernel_rfl) (by kernel_rfl) (by kernel_rfl) (by kernel_rfl)) ?_
  intro W base args ds gs before hval0 hW _ _
  have hval : ∀ (j : Nat) t v, Try.f4.params[j]? = some t → args[j]? = some v → Value.okWide Try.prog W .any base t v := hval0
  have hW' : DataW.Whole enc Try.prog Try.f4.params.toList Rows.layoutErrorsSpec.vars false W args.toList ds gs before := hW
  obtain ⟨p, q, hA0, hV, rfl, _, _⟩ := hW
  have hA : DataW.TrodAll enc Try.prog W 0 (fun _ => true) true Try.f4.params.toList args.toList ds p := hA0
  rw [Try.params4] at hA hval
  obtain ⟨v0, v1, v2, d0, d1, d2, p0, p1, p2, rfl, rfl, rfl, h0, h1, h2⟩ := trodAll_three hA
  obtain ⟨g0, hg0⟩ := arg_decls1 (hval 0 38 v0 rfl rfl) h0
  obtain ⟨g1, hg1, lo1, hi1⟩ := arg_u81 (hval 1 5 v1 rfl rfl) h1
  obtain ⟨g2, hg2⟩ := arg_bool1 (hval 2 4 v2 rfl rfl) h2
  refine (law_calls EV_ok (law4_fn g0 g1 g2 lo1 hi1) (vals3 hg0 hg1 hg2)).mono fun e W' ⟨he, hb⟩ => ?_
  subst he
  exact ⟨_, rfl, law_post hW' rfl rfl (by rw [Try.params4]; intro t ht; simp at ht; rcases ht with rfl | rfl | rfl <;> exact ⟨by kernel_rfl, of_decide_eq_true (by kernel_rfl)⟩) rfl hb⟩

theorem layoutErrors_holds : Rows.LayoutErrorsSaid :=
  OpenClaim.holds_of_wide 4 Try.f4 rfl rfl rfl rfl rfl rfl rfl ⟨rfl, rfl, rfl, rfl, rfl⟩ rfl rfl rfl rfl rfl (by kernel_rfl) Try.func4 (by kernel_rfl)
    (of_decide_eq_true (by kernel_rfl)) (by unfold Func.isWrapper; first | (rw [if_pos (by decide +kernel)]; kernel_rfl) | (rw [if_neg (by decide +kernel)]; exact ⟨rfl, rfl⟩))
    (fun os started H enc _ => layoutErrors_lifted os started H enc)

end Go.Proofs.Ythgdibdapjaljaa
