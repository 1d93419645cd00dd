/- For all programs and numbers the law CheckerUpdates answers true, and they read behind the call as they did before. Conditions: none. -/
import Derived.Test.YtmglacjcefajlaaRead
import Derived.Test.YtmglacjcefajlaaQ9u
import Derived.Test.YtmglacjcefajlaaAgs
namespace Go.Proofs.Ytmglacjcefajlaa
open Go.ChangeShapes Go.WideShapes Go.ChangeAt Go.RowKit

theorem law_callsP {P : Program} {k : Nat} {ds : List D} (h : PContract P k ds (.bool true)) {W : World} {vs : List Value} (hv : vals W (gW W) ds vs) : Calls P k vs.toArray W fun e w' => e = .returned (.bool true) ∧ Below W.heap.size W w' := by
 refine (h (gW W) vs W ⟨fun b o q => q, fun b q => q, fun _ _ q => q.elim⟩ hv).mono ?_
 rintro e w' ⟨v, g', rfl, hb, _, hd⟩
 rw [val_bool hd]
 exact ⟨rfl, hb⟩
set_option maxRecDepth 100000 in
theorem checkerUpdates_lifted (os : Os) (started : os.Started) (H : Type) (enc : TypeId × Value → H) :
  ReturnsInHanded {} Try.checked os 6 .any (Rows.checkerUpdatesSpec.pre6 enc Try.prog Try.f6 Rows.checkerUpdatesRow.domain false) (Rows.checkerUpdatesSpec.post enc Try.prog Try.f6 false true false false) := by
 refine returnsInHanded_of_change (C := Try.checked) prog_own started (by kernel_rfl) Try.func6
  (ChangeSpec.witness6 (enc := enc) (C := Try.checked) false ⟨#[], #[.agg #[.slice none 0 0, .slice none 0 0, .int .u8 0, .int .i64 0, .string ⟨#[]⟩, .slice none 0 0], .int .u8 0], []⟩ 8 (by kernel_rfl) (by kernel_rfl) (by kernel_rfl) (by kernel_rfl)) ?_
 intro W base args ds gs before hval0 hW _ _
 have hval : ∀ (j : Nat) t v, Try.f6.params[j]? = some t → args[j]? = some v → Value.okWide Try.prog W .any base t v := hval0
 have hW' : DataW.Whole enc Try.prog Try.f6.params.toList Rows.checkerUpdatesSpec.vars false W args.toList ds gs before := hW
 obtain ⟨p, q, hA0, hV, rfl, _, _⟩ := hW
 have hA : DataW.TrodAll enc Try.prog W 0 (fun _ => true) true Try.f6.params.toList args.toList ds p := hA0
 rw [Try.params6] at hA hval
 obtain ⟨v0, v1, d0, d1, p0, p1, rfl, rfl, rfl, h0, h1⟩ := trodAll_two hA
 obtain ⟨g0, hg0⟩ := arg_agg Try.underlying28 (hval 0 28 v0 rfl rfl) h0 (fun x => rfl) (fun fuel => arg_prog fuel)
 obtain ⟨g1, hg1, lo1, hi1⟩ := arg_u81 (hval 1 5 v1 rfl rfl) h1
 refine (law_callsP (law_any g0 g1 lo1 hi1) (vals2 hg0 hg1)).mono fun e W' ⟨he, hb⟩ => ?_
 subst he
 exact ⟨_, rfl, law_post hW' rfl rfl (by rw [Try.params6]; intro t ht; simp at ht; rcases ht with rfl | rfl <;> exact ⟨by kernel_rfl, of_decide_eq_true (by kernel_rfl)⟩) rfl hb⟩

theorem checkerUpdates_holds : Rows.CheckerUpdatesSaid :=
 OpenClaim.holds_of_wide 6 Try.f6 rfl rfl rfl rfl rfl rfl rfl ⟨rfl, rfl, rfl, rfl, rfl⟩ rfl rfl rfl rfl rfl (by kernel_rfl) Try.func6 (by kernel_rfl)
  (of_decide_eq_true (by kernel_rfl)) (by unfold Func.isWrapper; first | (rw [if_pos (by decide +kernel)]; kernel_rfl) | (rw [if_neg (by decide +kernel)]; exact ⟨rfl, rfl⟩))
  (fun os started H enc _ => checkerUpdates_lifted os started H enc)

end Go.Proofs.Ytmglacjcefajlaa
