/- For all programs, numbers and paths the law ScopeVisible answers true, and they read behind the call as they did before. Conditions: none. -/
import Derived.Test.YtjikokmhknnnoaaRead
import Derived.Test.YtjikokmhknnnoaaQ65
import Derived.Test.YtjikokmhknnnoaaAgs
namespace Go.Proofs.Ytjikokmhknnnoaa
open Go.ChangeShapes Go.WideShapes Go.ChangeAt Go.RowKit

set_option maxRecDepth 100000 in
theorem arg_int {H : Type} {enc : TypeId × Value → H} {W : World} {base : Nat} {spare : Nat → Bool} {held : Bool} {r : Reach} {b0 : Nat} {v : Value} {d : DataW H} {p : List MemPlace} (hv : Value.okWide Try.prog W r b0 3 v) (h : DataW.Trod enc Try.prog W base spare held 3 v d p) : ∃ n : Int, val W (gW W) (.int .i64 n) v ∧ -9223372036854775808 ≤ n ∧ n ≤ 9223372036854775807 := by
 obtain ⟨n, rfl, _, _, w0⟩ := open_int Try.underlying3 hv h
 have := wf_i64 w0
 refine ⟨n, val_of_R (.int _ _ ?_) rfl, this.1, this.2⟩
 simp only [inr, IntKind.min, IntKind.max, IntKind.bits, IntKind.signed]; simp; omega
section
variable {H : Type} {enc : TypeId × Value → H} {W : World} {base : Nat} {spare : Nat → Bool} {held : Bool} {r : Reach} {b0 : Nat} {v : Value} {d : DataW H} {p : List MemPlace}
set_option maxRecDepth 100000 in
theorem arg_ints1 (hv : Value.okWide Try.prog W r b0 48 v) (h : DataW.Trod enc Try.prog W base spare held 48 v d p) : ∃ l : List Int, val W (gW W) (sl 1 (l.map dI)) v := by
 obtain ⟨a, len, cap, rfl⟩ := okWide_slice und_int hv
 have hlen : ∀ {m : Nat} {cs : List Value} {y : DataW H × List MemPlace}, DataW.trod enc Try.prog W base spare held m 3 cs = some y → ∃ a, R W (gW W) (dI a) cs := fun {m cs y} hy => by
  obtain ⟨k, e0, _, w0⟩ := DataW.trod_int Try.underlying3 hy
  subst e0
  refine ⟨k, .int _ _ ?_⟩
  have h9 : (Lit.int .i64 k).wf = true := w0
  simp only [Lit.wf, zat, decide_eq_true_eq] at h9
  exact h9
 exact arg_one (_r := r) (_b0 := b0) (f := fun l : List Int => sl 1 (l.map dI)) rfl h (fun _ => rfl) (fun hq => arg_slice (f := dI) 0 und_int siz_int (fun m _ {cs y} hy => hlen hy) (fun _ => rfl) (by omega) hq)
end
set_option maxRecDepth 100000 in
theorem scopeVisible_lifted (os : Os) (started : os.Started) (H : Type) (enc : TypeId × Value → H) :
  ReturnsInHanded {} Try.checked os 10 .any (Rows.scopeVisibleSpec.pre6 enc Try.prog Try.f10 Rows.scopeVisibleRow.domain false) (Rows.scopeVisibleSpec.post enc Try.prog Try.f10 false true false false) := by
 refine returnsInHanded_of_change (C := Try.checked) prog_own started (by kernel_rfl) Try.func10
  (ChangeSpec.witness6 (enc := enc) (C := Try.checked) false ⟨#[], #[.agg #[.slice none 0 0, .slice none 0 0, .int .u8 0, .int .i64 0, .string ⟨#[]⟩, .slice none 0 0], .int .i64 0, .slice none 0 0], []⟩ 8 (by kernel_rfl) (by kernel_rfl) (by kernel_rfl) (by kernel_rfl)) ?_
 intro W base args ds gs before hval0 hW _ _
 have hval : ∀ (j : Nat) t v, Try.f10.params[j]? = some t → args[j]? = some v → Value.okWide Try.prog W .any base t v := hval0
 have hW' : DataW.Whole enc Try.prog Try.f10.params.toList Rows.scopeVisibleSpec.vars false W args.toList ds gs before := hW
 obtain ⟨p, q, hA0, hV, rfl, _, _⟩ := hW
 have hA : DataW.TrodAll enc Try.prog W 0 (fun _ => true) true Try.f10.params.toList args.toList ds p := hA0
 rw [Try.params10] at hA hval
 obtain ⟨v0, v1, v2, d0, d1, d2, p0, p1, p2, rfl, rfl, rfl, h0, h1, h2⟩ := trodAll_three hA
 obtain ⟨g0, hg0⟩ := arg_agg Try.underlying30 (hval 0 30 v0 rfl rfl) h0 (fun x => rfl) (fun fuel => arg_prog fuel)
 obtain ⟨g1, hg1, lo1, hi1⟩ := arg_int (hval 1 3 v1 rfl rfl) h1
 obtain ⟨g2, hg2⟩ := arg_ints1 (hval 2 48 v2 rfl rfl) h2
 refine (law_calls EVv_ok (law5_fn g0 g1 g2 lo1 hi1) (vals3 hg0 hg1 hg2)).mono fun e W' ⟨he, hb⟩ => ?_
 subst he
 exact ⟨_, rfl, law_post hW' rfl rfl (by rw [Try.params10]; intro t ht; simp at ht; rcases ht with rfl | rfl | rfl <;> exact ⟨by kernel_rfl, of_decide_eq_true (by kernel_rfl)⟩) rfl hb⟩

theorem scopeVisible_holds : Rows.ScopeVisibleSaid :=
 OpenClaim.holds_of_wide 10 Try.f10 rfl rfl rfl rfl rfl rfl rfl ⟨rfl, rfl, rfl, rfl, rfl⟩ rfl rfl rfl rfl rfl (by kernel_rfl) Try.func10 (by kernel_rfl)
  (of_decide_eq_true (by kernel_rfl)) (by unfold Func.isWrapper; first | (rw [if_pos (by decide +kernel)]; kernel_rfl) | (rw [if_neg (by decide +kernel)]; exact ⟨rfl, rfl⟩))
  (fun os started H enc _ => scopeVisible_lifted os started H enc)

end Go.Proofs.Ytjikokmhknnnoaa
