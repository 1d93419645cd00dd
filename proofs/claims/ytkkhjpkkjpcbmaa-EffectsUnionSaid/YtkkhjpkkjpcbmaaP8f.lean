/- For every list of trees and every number the law EffectsUnion answers true, and they read behind the call as they did before. Conditions: none. -/
import Derived.Test.YtkkhjpkkjpcbmaaRead
import Derived.Test.YtkkhjpkkjpcbmaaQ8f
import Derived.Test.YtkkhjpkkjpcbmaaAgs
namespace Go.Proofs.Ytkkhjpkkjpcbmaa
open Go.ChangeShapes Go.WideShapes Go.ChangeAt Go.RowKit

section
variable {H : Type} {enc : TypeId × Value → H} {W : World} {base : Nat} {spare : Nat → Bool} {held : Bool} {r : Reach} {b0 : Nat} {v : Value} {d : DataW H} {p : List MemPlace}
set_option maxRecDepth 100000 in
theorem arg_nodes1 (hv : Value.okWide Try.prog W r b0 22 v) (h : DataW.Trod enc Try.prog W base spare held 22 v d p) : ∃ l : List Tr, val W (gW W) (sl 4 (l.map dN)) v := by
 obtain ⟨a, len, cap, rfl⟩ := okWide_slice und_api_Node hv
 exact arg_one (_r := r) (_b0 := b0) (f := fun l : List Tr => sl 4 (l.map dN)) rfl h (fun _ => rfl) (fun hq => arg_slice (f := dN) nT und_api_Node siz_api_Node (fun m _ {cs y} hy => arg_node m hy) dN_cellsL (by omega) hq)
end
set_option maxRecDepth 100000 in
theorem effectsUnion_lifted (os : Os) (started : os.Started) (H : Type) (enc : TypeId × Value → H) :
  ReturnsInHanded {} Try.checked os 6 .any (Rows.effectsUnionSpec.pre6 enc Try.prog Try.f6 Rows.effectsUnionRow.domain false) (Rows.effectsUnionSpec.post enc Try.prog Try.f6 false true false false) := by
 refine returnsInHanded_of_change (C := Try.checked) prog_own started (by kernel_rfl) Try.func6
  (ChangeSpec.witness6 (enc := enc) (C := Try.checked) false ⟨#[], #[.slice none 0 0, .int .u8 0], []⟩ 8 (by kernel_rfl) (by kernel_rfl) (by kernel_rfl) (by kernel_rfl)) ?_
 intro W base args ds gs before hval0 hW _ _
 have hval : ∀ (j : Nat) t v, Try.f6.params[j]? = some t → args[j]? = some v → Value.okWide Try.prog W .any base t v := hval0
 have hW' : DataW.Whole enc Try.prog Try.f6.params.toList Rows.effectsUnionSpec.vars false W args.toList ds gs before := hW
 obtain ⟨p, q, hA0, hV, rfl, _, _⟩ := hW
 have hA : DataW.TrodAll enc Try.prog W 0 (fun _ => true) true Try.f6.params.toList args.toList ds p := hA0
 rw [Try.params6] at hA hval
 obtain ⟨v0, v1, d0, d1, p0, p1, rfl, rfl, rfl, h0, h1⟩ := trodAll_two hA
 obtain ⟨g0, hg0⟩ := arg_nodes1 (hval 0 22 v0 rfl rfl) h0
 obtain ⟨g1, hg1, lo1, hi1⟩ := arg_u81 (hval 1 5 v1 rfl rfl) h1
 refine (law_calls EVe_ok (lawEffectsUnion_fn g0 g1 lo1 hi1) (vals2 hg0 hg1)).mono fun e W' ⟨he, hb⟩ => ?_
 subst he
 exact ⟨_, rfl, law_post hW' rfl rfl (by rw [Try.params6]; intro t ht; simp at ht; rcases ht with rfl | rfl <;> exact ⟨by kernel_rfl, of_decide_eq_true (by kernel_rfl)⟩) rfl hb⟩

theorem effectsUnion_holds : Rows.EffectsUnionSaid :=
 OpenClaim.holds_of_wide 6 Try.f6 rfl rfl rfl rfl rfl rfl rfl ⟨rfl, rfl, rfl, rfl, rfl⟩ rfl rfl rfl rfl rfl (by kernel_rfl) Try.func6 (by kernel_rfl)
  (of_decide_eq_true (by kernel_rfl)) (by unfold Func.isWrapper; first | (rw [if_pos (by decide +kernel)]; kernel_rfl) | (rw [if_neg (by decide +kernel)]; exact ⟨rfl, rfl⟩))
  (fun os started H enc _ => effectsUnion_lifted os started H enc)

end Go.Proofs.Ytkkhjpkkjpcbmaa
