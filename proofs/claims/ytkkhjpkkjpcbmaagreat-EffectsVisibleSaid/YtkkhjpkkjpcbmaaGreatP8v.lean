/- For all programs and numbers the law EffectsVisible answers true, and they read behind the call as they did before. Conditions: none. -/
import Derived.Test.YtkkhjpkkjpcbmaaGreatRead
import Derived.Test.YtkkhjpkkjpcbmaaGreatQ8v
import Derived.Test.YtkkhjpkkjpcbmaaGreatAgs
namespace Go.Proofs.YtkkhjpkkjpcbmaaGreat
open Go.ChangeShapes Go.WideShapes Go.ChangeAt Go.RowKit

set_option maxRecDepth 100000 in
theorem arg_int {H : Type} {enc : TypeId × Value → H} {W : World} {base : Nat} {spare : Nat → Bool} {held : Bool} {r : Reach} {b0 : Nat} {v : Value} {d : DataW H} {p : List MemPlace} (hv : Value.okWide Tryz.prog W r b0 3 v) (h : DataW.Trod enc Tryz.prog W base spare held 3 v d p) : ∃ n : Int, val W (gW W) (.int .i64 n) v ∧ -9223372036854775808 ≤ n ∧ n ≤ 9223372036854775807 := by
 obtain ⟨n, rfl, _, _, w0⟩ := open_int Tryz.underlying3 hv h
 have := wf_i64 w0
 refine ⟨n, val_of_R (.int _ _ ?_) rfl, this.1, this.2⟩
 simp only [inr, IntKind.min, IntKind.max, IntKind.bits, IntKind.signed]; simp; omega
set_option maxRecDepth 100000 in
theorem effectsVisible_lifted (os : Os) (started : os.Started) (H : Type) (enc : TypeId × Value → H) :
  ReturnsInHanded {} Tryz.checked os 3 .any (Rows.effectsVisibleSpec.pre6 enc Tryz.prog Tryz.f3 Rows.effectsVisibleRow.domain false) (Rows.effectsVisibleSpec.post enc Tryz.prog Tryz.f3 false true false false) := by
 refine returnsInHanded_of_change (C := Tryz.checked) prog_own started (by kernel_rfl) Tryz.func3
  (ChangeSpec.witness6 (enc := enc) (C := Tryz.checked) false ⟨#[], #[.agg #[.slice none 0 0, .slice none 0 0, .int .u8 0, .int .i64 0, .string ⟨#[]⟩, .slice none 0 0], .int .i64 0], []⟩ 8 (by kernel_rfl) (by kernel_rfl) (by kernel_rfl) (by kernel_rfl)) ?_
 intro W base args ds gs before hval0 hW _ _
 have hval : ∀ (j : Nat) t v, Tryz.f3.params[j]? = some t → args[j]? = some v → Value.okWide Tryz.prog W .any base t v := hval0
 have hW' : DataW.Whole enc Tryz.prog Tryz.f3.params.toList Rows.effectsVisibleSpec.vars false W args.toList ds gs before := hW
 obtain ⟨p, q, hA0, hV, rfl, _, _⟩ := hW
 have hA : DataW.TrodAll enc Tryz.prog W 0 (fun _ => true) true Tryz.f3.params.toList args.toList ds p := hA0
 rw [Tryz.params3] at hA hval
 obtain ⟨v0, v1, d0, d1, p0, p1, rfl, rfl, rfl, h0, h1⟩ := trodAll_two hA
 obtain ⟨g0, hg0⟩ := arg_agg Tryz.underlying28 (hval 0 28 v0 rfl rfl) h0 (fun x => rfl) (fun fuel => arg_prog fuel)
 obtain ⟨g1, hg1, lo1, hi1⟩ := arg_int (hval 1 3 v1 rfl rfl) h1
 refine (law_calls EVg_ok (lawV_fn g0 g1 lo1 hi1) (vals2 hg0 hg1)).mono fun e W' ⟨he, hb⟩ => ?_
 subst he
 exact ⟨_, rfl, law_post hW' rfl rfl (by rw [Tryz.params3]; intro t ht; simp at ht; rcases ht with rfl | rfl <;> exact ⟨by kernel_rfl, of_decide_eq_true (by kernel_rfl)⟩) rfl hb⟩

theorem effectsVisible_holds : Rows.EffectsVisibleSaid :=
 OpenClaim.holds_of_wide 3 Tryz.f3 rfl rfl rfl rfl rfl rfl rfl ⟨rfl, rfl, rfl, rfl, rfl⟩ rfl rfl rfl rfl rfl (by kernel_rfl) Tryz.func3 (by kernel_rfl)
  (of_decide_eq_true (by kernel_rfl)) (by unfold Func.isWrapper; first | (rw [if_pos (by decide +kernel)]; kernel_rfl) | (rw [if_neg (by decide +kernel)]; exact ⟨rfl, rfl⟩))
  (fun os started H enc _ => effectsVisible_lifted os started H enc)

end Go.Proofs.YtkkhjpkkjpcbmaaGreat
