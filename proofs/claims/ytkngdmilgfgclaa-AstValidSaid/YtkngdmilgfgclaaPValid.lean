/- For every program that is handed to it the law AstValid answers true, and the program reads behind the call as it did before. Conditions: none. -/
import Derived.Test.YtkngdmilgfgclaaRead
import Derived.Test.YtkngdmilgfgclaaValid5
namespace Go.Proofs.Ytkngdmilgfgclaa
open Go.ChangeShapes Go.WideShapes Go.ChangeAt Go.RowKit

theorem vals1 {w : World} {g : Gh} {d : D} {v : Value} (h : val w g d v) : vals w g [d] [v] := ⟨rfl, fun j h1 h2 => by
  have : j = 0 := by simp at h1; omega
  subst this; exact h⟩
theorem E3_ok : E3.Ok where
  mixed := by show Try.prog.follows .mixedOrders = true; kernel_rfl
  chk := fnOk_chk (P := Try.prog) (l := fsL) (by kernel_rfl)
  orc := look_fit (P := Try.prog) orcT_fit

set_option maxRecDepth 100000 in
theorem astValid_lifted (os : Os) (started : os.Started) (H : Type) (enc : TypeId × Value → H) :
    ReturnsInHanded {} Try.checked os 11 .any (Rows.astValidSpec.pre6 enc Try.prog Try.f11 Rows.astValidRow.domain false) (Rows.astValidSpec.post enc Try.prog Try.f11 false true false false) := by
  refine returnsInHanded_of_change (C := Try.checked) prog_own started (by kernel_rfl) Try.func11
    (ChangeSpec.witness6 (enc := enc) (C := Try.checked) false ⟨#[], #[.agg #[.slice none 0 0, .slice none 0 0, .int .u8 0, .int .i64 0, .string ⟨#[]⟩, .slice none 0 0]], []⟩ 8 (by kernel_rfl) (by kernel_rfl) (by kernel_rfl) (by kernel_rfl)) ?_
  intro W base args ds gs before hval0 hW _ _
  have hval : ∀ (j : Nat) t v, Try.f11.params[j]? = some t → args[j]? = some v → Value.okWide Try.prog W .any base t v := hval0
  have hW' : DataW.Whole enc Try.prog Try.f11.params.toList Rows.astValidSpec.vars false W args.toList ds gs before := hW
  obtain ⟨p, q, hA0, hV, rfl, _, _⟩ := hW
  have hA : DataW.TrodAll enc Try.prog W 0 (fun _ => true) true Try.f11.params.toList args.toList ds p := hA0
  rw [Try.params11] at hA hval
  obtain ⟨v0, d0, rfl, rfl, h0⟩ := trodAll_one hA
  obtain ⟨g, hg⟩ := arg_agg Try.underlying52 (hval 0 52 v0 rfl rfl) h0 (fun _ => rfl) (fun fuel => arg_prog fuel)
  refine (law_calls E3_ok (law_fn g) (vals1 hg)).mono fun e W' ⟨he, hb⟩ => ?_
  subst he
  exact ⟨_, rfl, law_post hW' rfl rfl (by rw [Try.params11]; intro t ht; simp at ht; subst ht; exact ⟨by kernel_rfl, of_decide_eq_true (by kernel_rfl)⟩) rfl hb⟩

theorem astValid_holds : Rows.AstValidSaid :=
  OpenClaim.holds_of_wide 11 Try.f11 rfl rfl rfl rfl rfl rfl rfl ⟨rfl, rfl, rfl, rfl, rfl⟩ rfl rfl rfl rfl rfl (by kernel_rfl) Try.func11 (by kernel_rfl)
    (of_decide_eq_true (by kernel_rfl)) (by unfold Func.isWrapper; first | (rw [if_pos (by decide +kernel)]; kernel_rfl) | (rw [if_neg (by decide +kernel)]; exact ⟨rfl, rfl⟩))
    (fun os started H enc _ => astValid_lifted os started H enc)

end Go.Proofs.Ytkngdmilgfgclaa
