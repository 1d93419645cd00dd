import Derived.Test.YtlpgapmbajblmaaRead
import Derived.Test.YtlpgapmbajblmaaQ11g
import Derived.Test.YtlpgapmbajblmaaBK
/- For every program that is handed to it the law ConstfoldSmaller answers true, and it reads behind the call as it did before. Conditions: none. -/
namespace Go.Proofs.Ytlpgapmbajblmaa
open Go.ChangeShapes Go.WideShapes Go.ChangeAt Go.RowKit

theorem vals1 {w : World} {g : Gh} {d : D} {v : Value} (h : val w g d v) : vals w g [d] [v] := ⟨rfl, fun j h1 h2 => by
 have : j = 0 := by simp at h1; omega
 subst this; exact h⟩
theorem law_callsP {P : Program} {k : Nat} {ds : List D} (h : PContract P k ds (.bool true)) {W : World} {vs : List Value} (hv : vals W (gW W) ds vs) : Calls P k vs.toArray W fun e w' => e = .returned (.bool true) ∧ Below W.heap.size W w' := by
 refine (h (gW W) vs W ⟨fun b o q => q, fun b q => q, fun _ _ q => q.elim⟩ hv).mono ?_
 rintro e w' ⟨v, g', rfl, hb, _, hd⟩
 rw [val_bool hd]
 exact ⟨rfl, hb⟩
theorem law11_any (p : Pg) (hh : hiG p) : PContract Try.prog 9 [dG p] (.bool true) := by
 cases h : bigP p with
 | true => exact law11_big p h
 | false =>
 cases hv : validB p with
 | false => exact law11_inv p h hv
 | true => exact law11_main p h hv hh
set_option maxRecDepth 100000 in
theorem constfoldSmaller_lifted (os : Os) (started : os.Started) (H : Type) (enc : TypeId × Value → H) :
  ReturnsInHanded {} Try.checked os 9 .any (Rows.constfoldSmallerSpec.pre6 enc Try.prog Try.f9 Rows.constfoldSmallerRow.domain false) (Rows.constfoldSmallerSpec.post enc Try.prog Try.f9 false true false false) := by
 refine returnsInHanded_of_change (C := Try.checked) prog_own started (by kernel_rfl) Try.func9
  (ChangeSpec.witness6 (enc := enc) (C := Try.checked) false ⟨#[], #[.agg #[.slice none 0 0, .slice none 0 0, .int .u8 0, .int .i64 0, .string ⟨#[]⟩, .slice none 0 0]], []⟩ 8 (by kernel_rfl) (by kernel_rfl) (by kernel_rfl) (by kernel_rfl)) ?_
 intro W base args ds gs before hval0 hW _ _
 have hval : ∀ (j : Nat) t v, Try.f9.params[j]? = some t → args[j]? = some v → Value.okWide Try.prog W .any base t v := hval0
 have hW' : DataW.Whole enc Try.prog Try.f9.params.toList Rows.constfoldSmallerSpec.vars false W args.toList ds gs before := hW
 obtain ⟨p, q, hA0, hV, rfl, _, _⟩ := hW
 have hA : DataW.TrodAll enc Try.prog W 0 (fun _ => true) true Try.f9.params.toList args.toList ds p := hA0
 rw [Try.params9] at hA hval
 obtain ⟨v0, d0, rfl, rfl, h0⟩ := trodAll_one hA
 obtain ⟨g0, hg0⟩ := arg_agg Try.underlying48 (hval 0 48 v0 rfl rfl) h0 (fun x => rfl) (fun fuel => arg_prog fuel)
 refine (law_callsP (law11_any g0 (hi_valG hg0)) (vals1 hg0)).mono fun e W' ⟨he, hb⟩ => ?_
 subst he
 exact ⟨_, rfl, law_post hW' rfl rfl (by rw [Try.params9]; intro t ht; simp at ht; subst ht; exact ⟨by kernel_rfl, of_decide_eq_true (by kernel_rfl)⟩) rfl hb⟩

theorem constfoldSmaller_holds : Rows.ConstfoldSmallerSaid :=
 OpenClaim.holds_of_wide 9 Try.f9 rfl rfl rfl rfl rfl rfl rfl ⟨rfl, rfl, rfl, rfl, rfl⟩ rfl rfl rfl rfl rfl (by kernel_rfl) Try.func9 (by kernel_rfl)
  (of_decide_eq_true (by kernel_rfl)) (by unfold Func.isWrapper; first | (rw [if_pos (by decide +kernel)]; kernel_rfl) | (rw [if_neg (by decide +kernel)]; exact ⟨rfl, rfl⟩))
  (fun os started H enc _ => constfoldSmaller_lifted os started H enc)

end Go.Proofs.Ytlpgapmbajblmaa
