/- For any two trees and path the law AstAt answers true, and they read behind the call as they did before. Conditions: none. -/
import Derived.Test.YtkngdmilgfgclaaRead
import Derived.Test.YtkngdmilgfgclaaQ8
import Derived.Test.YtkngdmilgfgclaaAgs
namespace Go.Proofs.Ytkngdmilgfgclaa
open Go.ChangeShapes Go.WideShapes Go.ChangeAt Go.RowKit

section
variable {H : Type} {enc : TypeId × Value → H} {W : World} {base : Nat} {spare : Nat → Bool} {held : Bool} {r : Reach} {b0 : Nat} {v : Value} {d : DataW H} {p : List MemPlace}
set_option maxRecDepth 100000 in
theorem arg_ints1 (hv : Value.okWide Try.prog W r b0 33 v) (h : DataW.Trod enc Try.prog W base spare held 33 v d p) : ∃ l : List Int, val W (gW W) (sl 1 (l.map dI)) v := by
  obtain ⟨a, len, cap, rfl⟩ := okWide_slice und_int hv
  have hlen : ∀ {m : Nat} {cs : List Value} {y : DataW H × List MemPlace}, DataW.trod enc Try.prog W base spare held m 3 cs = some y → ∃ a, R W (gW W) (dI a) cs := fun {m cs y} hy => by
    obtain ⟨k, e0, _, w0⟩ := DataW.trod_int Try.underlying3 hy
    subst e0
    refine ⟨k, .int _ _ ?_⟩
    have h9 : (Lit.int .i64 k).wf = true := w0
    simp only [Lit.wf, Bool.and_eq_true, decide_eq_true_eq] at h9
    exact h9
  exact arg_one (_r := r) (_b0 := b0) (f := fun l : List Int => sl 1 (l.map dI)) rfl h (fun _ => rfl) (fun hq => arg_slice (f := dI) 0 und_int siz_int (fun m _ {cs y} hy => hlen hy) (fun _ => rfl) (by omega) hq)
end
set_option maxRecDepth 100000 in
theorem astAt_lifted (os : Os) (started : os.Started) (H : Type) (enc : TypeId × Value → H) :
    ReturnsInHanded {} Try.checked os 8 .any (Rows.astAtSpec.pre6 enc Try.prog Try.f8 Rows.astAtRow.domain false) (Rows.astAtSpec.post enc Try.prog Try.f8 false true false false) := by
  refine returnsInHanded_of_change (C := Try.checked) prog_own started (by kernel_rfl) Try.func8
    (ChangeSpec.witness6 (enc := enc) (C := Try.checked) false ⟨#[], #[.agg #[.int .u8 0, .int .i64 0, .string ⟨#[]⟩, .slice none 0 0], .agg #[.int .u8 0, .int .i64 0, .string ⟨#[]⟩, .slice none 0 0], .slice none 0 0], []⟩ 8 (by kernel_rfl) (by kernel_rfl) (by kernel_rfl) (by kernel_rfl)) ?_
  intro W base args ds gs before hval0 hW _ _
  have hval : ∀ (j : Nat) t v, Try.f8.params[j]? = some t → args[j]? = some v → Value.okWide Try.prog W .any base t v := hval0
  have hW' : DataW.Whole enc Try.prog Try.f8.params.toList Rows.astAtSpec.vars false W args.toList ds gs before := hW
  obtain ⟨p, q, hA0, hV, rfl, _, _⟩ := hW
  have hA : DataW.TrodAll enc Try.prog W 0 (fun _ => true) true Try.f8.params.toList args.toList ds p := hA0
  rw [Try.params8] at hA hval
  obtain ⟨v0, v1, v2, d0, d1, d2, p0, p1, p2, rfl, rfl, rfl, h0, h1, h2⟩ := trodAll_three hA
  obtain ⟨g0, hg0⟩ := arg_agg Try.underlying24 (hval 0 24 v0 rfl rfl) h0 (fun x => dN_isAgg x) (fun fuel => arg_node fuel)
  obtain ⟨g1, hg1⟩ := arg_agg Try.underlying24 (hval 1 24 v1 rfl rfl) h1 (fun x => dN_isAgg x) (fun fuel => arg_node fuel)
  obtain ⟨g2, hg2⟩ := arg_ints1 (hval 2 33 v2 rfl rfl) h2
  refine (law_calls EVa_ok (law8_fn g0 g1 g2) (vals3 hg0 hg1 hg2)).mono fun e W' ⟨he, hb⟩ => ?_
  subst he
  exact ⟨_, rfl, law_post hW' rfl rfl (by rw [Try.params8]; intro t ht; simp at ht; rcases ht with rfl | rfl | rfl <;> exact ⟨by kernel_rfl, of_decide_eq_true (by kernel_rfl)⟩) rfl hb⟩

theorem astAt_holds : Rows.AstAtSaid :=
  OpenClaim.holds_of_wide 8 Try.f8 rfl rfl rfl rfl rfl rfl rfl ⟨rfl, rfl, rfl, rfl, rfl⟩ rfl rfl rfl rfl rfl (by kernel_rfl) Try.func8 (by kernel_rfl)
    (of_decide_eq_true (by kernel_rfl)) (by unfold Func.isWrapper; first | (rw [if_pos (by decide +kernel)]; kernel_rfl) | (rw [if_neg (by decide +kernel)]; exact ⟨rfl, rfl⟩))
    (fun os started H enc _ => astAt_lifted os started H enc)

end Go.Proofs.Ytkngdmilgfgclaa
