/- For every three trees and every name the law EffectsLocal answers true, and they read behind the call as they did before. Conditions: none. -/
import Derived.Test.YtkkhjpkkjpcbmaaRead
import Derived.Test.YtkkhjpkkjpcbmaaQ8e
import Derived.Test.YtkkhjpkkjpcbmaaAgs
namespace Go.Proofs.Ytkkhjpkkjpcbmaa
open Go.ChangeShapes Go.WideShapes Go.ChangeAt Go.RowKit

theorem vals4 {w : World} {g : Gh} {d d' d'' d3 : D} {v v' v'' v3 : Value} (h : val w g d v) (h' : val w g d' v') (h'' : val w g d'' v'') (h3 : val w g d3 v3) : vals w g [d, d', d'', d3] [v, v', v'', v3] := ⟨rfl, fun j h1 h2 => by
 match j, h1, h2 with
 | 0, _, _ => exact h
 | 1, _, _ => exact h'
 | 2, _, _ => exact h''
 | 3, _, _ => exact h3
 | j + 4, h1, _ => simp at h1; omega⟩
section
variable {H : Type} {enc : TypeId × Value → H} {W : World} {base : Nat} {spare : Nat → Bool} {held : Bool} {r : Reach} {b0 : Nat} {v : Value} {d : DataW H} {p : List MemPlace}
set_option maxRecDepth 100000 in
theorem arg_str1 (hv : Value.okWide Try.prog W r b0 9 v) (h : DataW.Trod enc Try.prog W base spare held 9 v d p) : ∃ s : ByteArray, val W (gW W) (.str s) v := by
 obtain ⟨s, rfl⟩ := okWide_string Try.underlying9 hv
 exact arg_one (_r := r) (_b0 := b0) (f := dS) rfl h (fun _ => rfl) (fun hq => arg_str hq)
end
set_option maxRecDepth 100000 in
theorem effectsLocal_lifted (os : Os) (started : os.Started) (H : Type) (enc : TypeId × Value → H) :
  ReturnsInHanded {} Try.checked os 7 .any (Rows.effectsLocalSpec.pre6 enc Try.prog Try.f7 Rows.effectsLocalRow.domain false) (Rows.effectsLocalSpec.post enc Try.prog Try.f7 false true false false) := by
 refine returnsInHanded_of_change (C := Try.checked) prog_own started (by kernel_rfl) Try.func7
  (ChangeSpec.witness6 (enc := enc) (C := Try.checked) false ⟨#[], #[.agg #[.int .u8 0, .int .i64 0, .string ⟨#[]⟩, .slice none 0 0], .agg #[.int .u8 0, .int .i64 0, .string ⟨#[]⟩, .slice none 0 0], .agg #[.int .u8 0, .int .i64 0, .string ⟨#[]⟩, .slice none 0 0], .string ⟨#[]⟩], []⟩ 8 (by kernel_rfl) (by kernel_rfl) (by kernel_rfl) (by kernel_rfl)) ?_
 intro W base args ds gs before hval0 hW _ _
 have hval : ∀ (j : Nat) t v, Try.f7.params[j]? = some t → args[j]? = some v → Value.okWide Try.prog W .any base t v := hval0
 have hW' : DataW.Whole enc Try.prog Try.f7.params.toList Rows.effectsLocalSpec.vars false W args.toList ds gs before := hW
 obtain ⟨p, q, hA0, hV, rfl, _, _⟩ := hW
 have hA : DataW.TrodAll enc Try.prog W 0 (fun _ => true) true Try.f7.params.toList args.toList ds p := hA0
 rw [Try.params7] at hA hval
 obtain ⟨v0, v1, v2, v3, d0, d1, d2, d3, p0, p1, p2, p3, rfl, rfl, rfl, h0, h1, h2, h3⟩ := trodAll_four hA
 obtain ⟨g0, hg0⟩ := arg_agg Try.underlying24 (hval 0 24 v0 rfl rfl) h0 (fun x => dN_isAgg x) (fun fuel => arg_node fuel)
 obtain ⟨g1, hg1⟩ := arg_agg Try.underlying24 (hval 1 24 v1 rfl rfl) h1 (fun x => dN_isAgg x) (fun fuel => arg_node fuel)
 obtain ⟨g2, hg2⟩ := arg_agg Try.underlying24 (hval 2 24 v2 rfl rfl) h2 (fun x => dN_isAgg x) (fun fuel => arg_node fuel)
 obtain ⟨g3, hg3⟩ := arg_str1 (hval 3 9 v3 rfl rfl) h3
 refine (law_calls EVe_ok (lawEffectsLocal_fn g0 g1 g2 g3) (vals4 hg0 hg1 hg2 hg3)).mono fun e W' ⟨he, hb⟩ => ?_
 subst he
 exact ⟨_, rfl, law_post hW' rfl rfl (by rw [Try.params7]; intro t ht; simp at ht; rcases ht with rfl | rfl | rfl | rfl <;> exact ⟨by kernel_rfl, of_decide_eq_true (by kernel_rfl)⟩) rfl hb⟩

theorem effectsLocal_holds : Rows.EffectsLocalSaid :=
 OpenClaim.holds_of_wide 7 Try.f7 rfl rfl rfl rfl rfl rfl rfl ⟨rfl, rfl, rfl, rfl, rfl⟩ rfl rfl rfl rfl rfl (by kernel_rfl) Try.func7 (by kernel_rfl)
  (of_decide_eq_true (by kernel_rfl)) (by unfold Func.isWrapper; first | (rw [if_pos (by decide +kernel)]; kernel_rfl) | (rw [if_neg (by decide +kernel)]; exact ⟨rfl, rfl⟩))
  (fun os started H enc _ => effectsLocal_lifted os started H enc)

end Go.Proofs.Ytkkhjpkkjpcbmaa
