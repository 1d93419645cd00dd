/- For any tree and number the law AstWalk answers true, and they read behind the call as they did before. Conditions: none. -/
import Derived.Test.YtkngdmilgfgclaaRead
import Derived.Test.YtkngdmilgfgclaaQ14
import Derived.Test.YtkngdmilgfgclaaAgs
namespace Go.Proofs.Ytkngdmilgfgclaa
open Go.ChangeShapes Go.WideShapes Go.ChangeAt Go.RowKit

section
variable {H : Type} {enc : TypeId × Value → H} {W : World} {base : Nat} {spare : Nat → Bool} {held : Bool} {r : Reach} {b0 : Nat} {v : Value} {d : DataW H} {p : List MemPlace}
set_option maxRecDepth 100000 in
theorem arg_u161 (hv : Value.okWide Try.prog W r b0 27 v) (h : DataW.Trod enc Try.prog W base spare held 27 v d p) : ∃ n : Int, val W (gW W) (.int .u16 n) v ∧ 0 ≤ n ∧ n ≤ 65535 := by
  obtain ⟨n, rfl⟩ := okWide_int Try.underlying27 hv
  obtain ⟨m, hm⟩ := arg_one (_r := r) (_b0 := b0) (f := fun n : Int => D.int .u16 n) rfl h (fun _ => rfl) (fun {fuel c x} hq => by
    obtain ⟨k, e0, _, w0⟩ := DataW.trod_int Try.underlying27 hq
    simp only [List.cons.injEq, and_true] at e0
    subst e0
    refine ⟨k, .int _ _ ?_⟩
    have h9 : (Lit.int .u16 k).wf = true := w0
    simp only [Lit.wf, Bool.and_eq_true, decide_eq_true_eq] at h9
    exact h9)
  refine ⟨m, hm, ?_⟩
  obtain ⟨cs, hr, _⟩ := hm
  cases hr with
  | int k n h => exact h
end
set_option maxRecDepth 100000 in
theorem astWalk_lifted (os : Os) (started : os.Started) (H : Type) (enc : TypeId × Value → H) :
    ReturnsInHanded {} Try.checked os 4 .any (Rows.astWalkSpec.pre6 enc Try.prog Try.f4 Rows.astWalkRow.domain false) (Rows.astWalkSpec.post enc Try.prog Try.f4 false true false false) := by
  refine returnsInHanded_of_change (C := Try.checked) prog_own started (by kernel_rfl) Try.func4
    (ChangeSpec.witness6 (enc := enc) (C := Try.checked) false ⟨#[], #[.agg #[.int .u8 0, .int .i64 0, .string ⟨#[]⟩, .slice none 0 0], .int .u16 0], []⟩ 8 (by kernel_rfl) (by kernel_rfl) (by kernel_rfl) (by kernel_rfl)) ?_
  intro W base args ds gs before hval0 hW _ _
  have hval : ∀ (j : Nat) t v, Try.f4.params[j]? = some t → args[j]? = some v → Value.okWide Try.prog W .any base t v := hval0
  have hW' : DataW.Whole enc Try.prog Try.f4.params.toList Rows.astWalkSpec.vars false W args.toList ds gs before := hW
  obtain ⟨p, q, hA0, hV, rfl, _, _⟩ := hW
  have hA : DataW.TrodAll enc Try.prog W 0 (fun _ => true) true Try.f4.params.toList args.toList ds p := hA0
  rw [Try.params4] at hA hval
  obtain ⟨v0, v1, d0, d1, p0, p1, rfl, rfl, rfl, h0, h1⟩ := trodAll_two hA
  obtain ⟨g0, hg0⟩ := arg_agg Try.underlying24 (hval 0 24 v0 rfl rfl) h0 (fun x => dN_isAgg x) (fun fuel => arg_node fuel)
  obtain ⟨g1, hg1, lo1, hi1⟩ := arg_u161 (hval 1 27 v1 rfl rfl) h1
  refine (law_calls EV_ok (law4_fn g0 g1 lo1 hi1) (vals2 hg0 hg1)).mono fun e W' ⟨he, hb⟩ => ?_
  subst he
  exact ⟨_, rfl, law_post hW' rfl rfl (by rw [Try.params4]; intro t ht; simp at ht; rcases ht with rfl | rfl <;> exact ⟨by kernel_rfl, of_decide_eq_true (by kernel_rfl)⟩) rfl hb⟩

theorem astWalk_holds : Rows.AstWalkSaid :=
  OpenClaim.holds_of_wide 4 Try.f4 rfl rfl rfl rfl rfl rfl rfl ⟨rfl, rfl, rfl, rfl, rfl⟩ rfl rfl rfl rfl rfl (by kernel_rfl) Try.func4 (by kernel_rfl)
    (of_decide_eq_true (by kernel_rfl)) (by unfold Func.isWrapper; first | (rw [if_pos (by decide +kernel)]; kernel_rfl) | (rw [if_neg (by decide +kernel)]; exact ⟨rfl, rfl⟩))
    (fun os started H enc _ => astWalk_lifted os started H enc)

end Go.Proofs.Ytkngdmilgfgclaa
