/- For all declarations, names and a name the law ScopeFinds answers true, and they read behind the call as they did before. Conditions: none. -/
import Derived.Test.YtjikokmhknnnoaaRead
import Derived.Test.YtjikokmhknnnoaaQ63
import Derived.Test.YtjikokmhknnnoaaArg2
namespace Go.Proofs.Ytjikokmhknnnoaa
open Go.ChangeShapes Go.WideShapes Go.ChangeAt Go.RowKit

theorem vals3 {w : World} {g : Gh} {d d' d'' : D} {v v' v'' : Value} (h : val w g d v) (h' : val w g d' v') (h'' : val w g d'' v'') : vals w g [d, d', d''] [v, v', v''] := ⟨rfl, fun j h1 h2 => by
  match j, h1, h2 with
  | 0, _, _ => exact h
  | 1, _, _ => exact h'
  | 2, _, _ => exact h''
  | j + 3, h1, _ => simp at h1; omega⟩
section
variable {H : Type} {enc : TypeId × Value → H} {W : World} {base : Nat} {spare : Nat → Bool} {held : Bool} {r : Reach} {b0 : Nat} {v : Value} {d : DataW H} {p : List MemPlace}
set_option maxRecDepth 100000 in
theorem arg_decls1 (hv : Value.okWide Try.prog W r b0 22 v) (h : DataW.Trod enc Try.prog W base spare held 22 v d p) : ∃ l : List Vd, val W (gW W) (sl 3 (l.map dV)) v := by
  obtain ⟨a, len, cap, rfl⟩ := okWide_slice und_api_VarDecl hv
  exact arg_one (_r := r) (_b0 := b0) (f := fun l : List Vd => sl 3 (l.map dV)) rfl h (fun _ => rfl) (fun hq => arg_decls hq)
set_option maxRecDepth 100000 in
theorem arg_strs1 (hv : Value.okWide Try.prog W r b0 23 v) (h : DataW.Trod enc Try.prog W base spare held 23 v d p) : ∃ l : List ByteArray, val W (gW W) (sl 1 (l.map dS)) v := by
  obtain ⟨a, len, cap, rfl⟩ := okWide_slice und_string hv
  refine arg_one (_r := r) (_b0 := b0) (f := fun l : List ByteArray => sl 1 (l.map dS)) rfl h (fun _ => rfl) (fun hq => arg_slice (f := dS) ⟨#[]⟩ und_string siz_string (fun m _ {cs y} hy => ?_) (fun _ => rfl) (by omega) hq)
  match cs, hy with
  | [c], hy => exact arg_str hy
  | [], hy => exact absurd (DataW.trod_string Try.underlying9 hy).choose_spec.1 (by simp)
  | _ :: _ :: _, hy => exact absurd (DataW.trod_string Try.underlying9 hy).choose_spec.1 (by simp)
set_option maxRecDepth 100000 in
theorem arg_str1 (hv : Value.okWide Try.prog W r b0 9 v) (h : DataW.Trod enc Try.prog W base spare held 9 v d p) : ∃ s : ByteArray, val W (gW W) (dS s) v := by
  obtain ⟨s, rfl⟩ := okWide_string Try.underlying9 hv
  exact arg_one (_r := r) (_b0 := b0) (f := dS) rfl h (fun _ => rfl) (fun hq => arg_str hq)
end
set_option maxRecDepth 100000 in
theorem scopeFinds_lifted (os : Os) (started : os.Started) (H : Type) (enc : TypeId × Value → H) :
    ReturnsInHanded {} Try.checked os 3 .any (Rows.scopeFindsSpec.pre6 enc Try.prog Try.f3 Rows.scopeFindsRow.domain false) (Rows.scopeFindsSpec.post enc Try.prog Try.f3 false true false false) := by
  refine returnsInHanded_of_change (C := Try.checked) prog_own started (by kernel_rfl) Try.func3
    (ChangeSpec.witness6 (enc := enc) (C := Try.checked) false ⟨#[], #[.slice none 0 0, .slice none 0 0, .string ⟨#[]⟩], []⟩ 8 (by kernel_rfl) (by kernel_rfl) (by kernel_rfl) (by kernel_rfl)) ?_
  intro W base args ds gs before hval0 hW _ _
  have hval : ∀ (j : Nat) t v, Try.f3.params[j]? = some t → args[j]? = some v → Value.okWide Try.prog W .any base t v := hval0
  have hW' : DataW.Whole enc Try.prog Try.f3.params.toList Rows.scopeFindsSpec.vars false W args.toList ds gs before := hW
  obtain ⟨p, q, hA0, hV, rfl, _, _⟩ := hW
  have hA : DataW.TrodAll enc Try.prog W 0 (fun _ => true) true Try.f3.params.toList args.toList ds p := hA0
  rw [Try.params3] at hA hval
  obtain ⟨v0, v1, v2, d0, d1, d2, p0, p1, p2, rfl, rfl, rfl, h0, h1, h2⟩ := trodAll_three hA
  obtain ⟨g0, hg0⟩ := arg_decls1 (hval 0 22 v0 rfl rfl) h0
  obtain ⟨g1, hg1⟩ := arg_strs1 (hval 1 23 v1 rfl rfl) h1
  obtain ⟨g2, hg2⟩ := arg_str1 (hval 2 9 v2 rfl rfl) h2
  refine (law_calls EV_ok (law3_fn g0 g1 g2) (vals3 hg0 hg1 hg2)).mono fun e W' ⟨he, hb⟩ => ?_
  subst he
  exact ⟨_, rfl, law_post hW' rfl rfl (by rw [Try.params3]; intro t ht; simp at ht; rcases ht with rfl | rfl | rfl <;> exact ⟨by kernel_rfl, of_decide_eq_true (by kernel_rfl)⟩) rfl hb⟩

theorem scopeFinds_holds : Rows.ScopeFindsSaid :=
  OpenClaim.holds_of_wide 3 Try.f3 rfl rfl rfl rfl rfl rfl rfl ⟨rfl, rfl, rfl, rfl, rfl⟩ rfl rfl rfl rfl rfl (by kernel_rfl) Try.func3 (by kernel_rfl)
    (of_decide_eq_true (by kernel_rfl)) (by unfold Func.isWrapper; first | (rw [if_pos (by decide +kernel)]; kernel_rfl) | (rw [if_neg (by decide +kernel)]; exact ⟨rfl, rfl⟩))
    (fun os started H enc _ => scopeFinds_lifted os started H enc)

end Go.Proofs.Ytjikokmhknnnoaa
