/- Arguments of plain kinds. -/
import Derived.Test.YtjikokmhknnnoaaRead
import Derived.Test.YtjikokmhknnnoaaBK
import Derived.Test.YtjikokmhknnnoaaL6
import Derived.Test.YtjikokmhknnnoaaL7
namespace Go.Proofs.Ytjikokmhknnnoaa
open Go.ChangeShapes Go.WideShapes Go.ChangeAt Go.RowKit
section
variable {H : Type} {enc : TypeId × Value → H} {W : World} {base : Nat} {spare : Nat → Bool} {held : Bool} {r : Reach} {b0 : Nat} {v : Value} {d : DataW H} {p : List MemPlace}
set_option maxRecDepth 100000 in
theorem arg_u81 (hv : Value.okWide Try.prog W r b0 5 v) (h : DataW.Trod enc Try.prog W base spare held 5 v d p) : ∃ n : Int, val W (gW W) (.int .u8 n) v ∧ 0 ≤ n ∧ n ≤ 255 := by
 obtain ⟨n, rfl⟩ := okWide_int Try.underlying5 hv
 obtain ⟨m, hm⟩ := arg_one (_r := r) (_b0 := b0) (f := fun n : Int => D.int .u8 n) rfl h (fun _ => rfl) (fun hq => arg_u8 hq)
 refine ⟨m, hm, ?_⟩
 obtain ⟨cs, hr, _⟩ := hm
 cases hr with
 | int k n h => simp only [inr_u8] at h; exact h
theorem vals2 {w : World} {g : Gh} {d d' : D} {v v' : Value} (h : val w g d v) (h' : val w g d' v') : vals w g [d, d'] [v, v'] := ⟨rfl, fun j h1 h2 => by
 match j, h1, h2 with
 | 0, _, _ => exact h
 | 1, _, _ => exact h'
 | j + 2, h1, _ => simp at h1; omega⟩
end

end Go.Proofs.Ytjikokmhknnnoaa

/- For all programs and numbers the law ScopeLocal answers true, and they read behind the call as they did before. Conditions: none. -/
namespace Go.Proofs.Ytjikokmhknnnoaa
open Go.ChangeShapes Go.WideShapes Go.ChangeAt Go.RowKit

theorem law_callsP {P : Program} {k : Nat} {ds : List D} (h : PContract P k ds (.bool true)) {W : World} {vs : List Value} (hv : vals W (gW W) ds vs) : Calls P k vs.toArray W fun e w' => e = .returned (.bool true) ∧ Below W.heap.size W w' := by
  refine (h (gW W) vs W ⟨fun b o q => q, fun b q => q, fun _ _ q => q.elim⟩ hv).mono ?_
  rintro e w' ⟨v, g', rfl, hb, _, hd⟩
  rw [val_bool hd]
  exact ⟨rfl, hb⟩
theorem lawL_any (p : Pg) (k : Int) (hk0 : 0 ≤ k) (hk1 : k ≤ 255) : PContract Try.prog 11 [dG p, .int .u8 k] (.bool true) := by
  by_cases h1 : smallB p = true
  · by_cases h2 : 78 < p.main.depth
    · exact fn_sound EV EV_ok (lawL_d p k h1 h2)
    · have h2' : p.main.depth ≤ 78 := by omega
      cases h3 : mentB un7 p.main with
      | true => exact fn_sound EV EV_ok (lawL_m p k h1 h2' h3)
      | false =>
        cases h5 : hasV p.vars un7 with
        | true => exact fn_sound EV EV_ok (lawL_f p k h1 h2' h3 h5)
        | false =>
          by_cases h6 : checkF p = []
          · exact lawL_z p k hk0 hk1 h1 h2' h3 h5 h6
          · exact lawL_y p k hk0 hk1 h1 h2' h3 h5 h6
  · exact fn_sound EV EV_ok (lawL_s p k (by simpa using h1))
set_option maxRecDepth 100000 in
theorem scopeLocal_lifted (os : Os) (started : os.Started) (H : Type) (enc : TypeId × Value → H) :
    ReturnsInHanded {} Try.checked os 11 .any (Rows.scopeLocalSpec.pre6 enc Try.prog Try.f11 Rows.scopeLocalRow.domain false) (Rows.scopeLocalSpec.post enc Try.prog Try.f11 false true false false) := by
  refine returnsInHanded_of_change (C := Try.checked) prog_own started (by kernel_rfl) Try.func11
    (ChangeSpec.witness6 (enc := enc) (C := Try.checked) false ⟨#[], #[.agg #[.slice none 0 0, .slice none 0 0, .int .u8 0, .int .i64 0, .string ⟨#[]⟩, .slice none 0 0], .int .u8 0], []⟩ 8 (by kernel_rfl) (by kernel_rfl) (by kernel_rfl) (by kernel_rfl)) ?_
  intro W base args ds gs before hval0 hW _ _
  have hval : ∀ (j : Nat) t v, Try.f11.params[j]? = some t → args[j]? = some v → Value.okWide Try.prog W .any base t v := hval0
  have hW' : DataW.Whole enc Try.prog Try.f11.params.toList Rows.scopeLocalSpec.vars false W args.toList ds gs before := hW
  obtain ⟨p, q, hA0, hV, rfl, _, _⟩ := hW
  have hA : DataW.TrodAll enc Try.prog W 0 (fun _ => true) true Try.f11.params.toList args.toList ds p := hA0
  rw [Try.params11] at hA hval
  obtain ⟨v0, v1, d0, d1, p0, p1, rfl, rfl, rfl, h0, h1⟩ := trodAll_two hA
  obtain ⟨g0, hg0⟩ := arg_agg Try.underlying30 (hval 0 30 v0 rfl rfl) h0 (fun x => rfl) (fun fuel => arg_prog fuel)
  obtain ⟨g1, hg1, lo1, hi1⟩ := arg_u81 (hval 1 5 v1 rfl rfl) h1
  refine (law_callsP (lawL_any g0 g1 lo1 hi1) (vals2 hg0 hg1)).mono fun e W' ⟨he, hb⟩ => ?_
  subst he
  exact ⟨_, rfl, law_post hW' rfl rfl (by rw [Try.params11]; intro t ht; simp at ht; rcases ht with rfl | rfl <;> exact ⟨by kernel_rfl, of_decide_eq_true (by kernel_rfl)⟩) rfl hb⟩

theorem scopeLocal_holds : Rows.ScopeLocalSaid :=
  OpenClaim.holds_of_wide 11 Try.f11 rfl rfl rfl rfl rfl rfl rfl ⟨rfl, rfl, rfl, rfl, rfl⟩ rfl rfl rfl rfl rfl (by kernel_rfl) Try.func11 (by kernel_rfl)
    (of_decide_eq_true (by kernel_rfl)) (by unfold Func.isWrapper; first | (rw [if_pos (by decide +kernel)]; kernel_rfl) | (rw [if_neg (by decide +kernel)]; exact ⟨rfl, rfl⟩))
    (fun os started H enc _ => scopeLocal_lifted os started H enc)

end Go.Proofs.Ytjikokmhknnnoaa
