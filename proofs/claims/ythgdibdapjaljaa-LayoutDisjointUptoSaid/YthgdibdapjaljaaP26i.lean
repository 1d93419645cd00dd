/- For all declarations and trees whose readings are together of bulk at most 1048576 the law LayoutDisjoint answers true, and the arguments read behind the call as they did before. Conditions: that bound, which the statement itself names. -/
import Derived.Test.YthgdibdapjaljaaRead
import Derived.Test.YthgdibdapjaljaaQ26i
import Derived.Test.YthgdibdapjaljaaLag
import Derived.Test.YthgdibdapjaljaaUp
namespace Go.Proofs.Ythgdibdapjaljaa
open Go.ChangeShapes Go.WideShapes Go.ChangeAt Go.RowKit

theorem vals2 {w : World} {g : Gh} {d d' : D} {v v' : Value} (h : val w g d v) (h' : val w g d' v') : vals w g [d, d'] [v, v'] := ⟨rfl, fun j h1 h2 => by
 match j, h1, h2 with
 | 0, _, _ => exact h
 | 1, _, _ => exact h'
 | j + 2, h1, _ => simp at h1; omega⟩
set_option maxRecDepth 100000 in
theorem layoutDisjoint_lifted (os : Os) (started : os.Started) (H : Type) (enc : TypeId × Value → H) (F : Stop.Interp) :
  ReturnsInHanded {} Try.checked os 9 .any ((Rows.OpenSpec.upto Rows.layoutDisjointSpec).pre6 enc Try.prog Try.f9 Rows.layoutDisjointUptoRow.domain false) (((Rows.OpenSpec.upto Rows.layoutDisjointSpec).at F).post enc Try.prog Try.f9 false true false false) := by
 refine returnsInHanded_of_cond (C := Try.checked) (s := Rows.OpenSpec.upto Rows.layoutDisjointSpec) (k := Rows.uptoSmall) rfl prog_own started (by kernel_rfl) Try.func9
  (OpenSpec.witness (enc := enc) (C := Try.checked) (s := Rows.OpenSpec.upto Rows.layoutDisjointSpec) (k := Rows.uptoSmall) rfl false ⟨#[], #[.slice none 0 0, .agg #[.int .u8 0, .int .i64 0, .string ⟨#[]⟩, .slice none 0 0]], []⟩ 8 (by kernel_rfl) (by kernel_rfl) (by kernel_rfl)
   (x := ([.nil, .agg [.lit (.int .u8 0), .lit (.int .i64 0), .lit (.string []), .nil]], [], [])) (by kernel_rfl) rfl (by kernel_rfl)) ?_
 intro W base args ds gs before hval0 hW _ hk _
 have hval : ∀ (j : Nat) t v, Try.f9.params[j]? = some t → args[j]? = some v → Value.okWide Try.prog W .any base t v := hval0
 have hW' : DataW.Whole enc Try.prog Try.f9.params.toList Rows.layoutDisjointSpec.vars false W args.toList ds gs before := hW
 obtain ⟨p, q, hA0, hV, rfl, _, _⟩ := hW
 have hA : DataW.TrodAll enc Try.prog W 0 (fun _ => true) true Try.f9.params.toList args.toList ds p := hA0
 rw [Try.params9] at hA hval
 obtain ⟨v0, v1, d0, d1, p0, p1, rfl, rfl, rfl, h0, h1⟩ := trodAll_two hA
 obtain ⟨g0, hg0⟩ := arg_decls1 (hval 0 38 v0 rfl rfl) h0
 obtain ⟨g1, hg1⟩ := arg_agg Try.underlying44 (hval 1 44 v1 rfl rfl) h1 (fun x => dN_isAgg x) (fun fuel => arg_node fuel)
 have hk9 : Rows.uptoBulkAll ([d0, d1] ++ gs) ≤ 1048576 := of_decide_eq_true hk
 have hk8 := node_bulk h1 hg1
 simp only [zca, zna, Rows.uptoBulkAll] at hk9
 refine (law_pc (law9_pc g0 g1 (by omega)) (vals2 hg0 hg1)).mono fun e W' ⟨he, hb⟩ => ?_
 subst he
 exact ⟨_, rfl, law_post hW' rfl rfl (by rw [Try.params9]; intro t ht; simp at ht; rcases ht with rfl | rfl <;> exact ⟨by kernel_rfl, of_decide_eq_true (by kernel_rfl)⟩) rfl hb⟩

theorem layoutDisjoint_holds : Rows.LayoutDisjointUptoSaid :=
 OpenClaim.holds_of_cond 9 Try.f9 rfl rfl rfl rfl rfl rfl rfl ⟨rfl, rfl, rfl, rfl, rfl⟩ rfl rfl rfl rfl rfl (by kernel_rfl) Try.func9 (by kernel_rfl)
  (of_decide_eq_true (by kernel_rfl)) (by unfold Func.isWrapper; first | (rw [if_pos (by decide +kernel)]; kernel_rfl) | (rw [if_neg (by decide +kernel)]; exact ⟨rfl, rfl⟩))
  (fun os started H enc _ F => layoutDisjoint_lifted os started H enc F)

end Go.Proofs.Ythgdibdapjaljaa
