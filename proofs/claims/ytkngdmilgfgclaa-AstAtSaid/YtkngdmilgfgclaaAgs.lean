import Derived.Test.YtkngdmilgfgclaaRead
import Derived.Test.YtkngdmilgfgclaaBK
/- Arguments of plain kinds. -/
namespace Go.Proofs.Ytkngdmilgfgclaa
open Go.ChangeShapes Go.WideShapes Go.ChangeAt Go.RowKit

theorem vals1 {w : World} {g : Gh} {d : D} {v : Value} (h : val w g d v) : vals w g [d] [v] := ⟨rfl, fun j h1 h2 => by
  have : j = 0 := by simp at h1; omega
  subst this; exact h⟩
section
variable {H : Type} {enc : TypeId × Value → H} {W : World} {base : Nat} {spare : Nat → Bool} {held : Bool} {r : Reach} {b0 : Nat} {v : Value} {d : DataW H} {p : List MemPlace}
set_option maxRecDepth 100000 in
theorem arg_u81 (hv : Value.okWide Try.prog W r b0 5 v) (h : DataW.Trod enc Try.prog W base spare held 5 v d p) : ∃ n : Int, val W (gW W) (.int .u8 n) v ∧ 0 ≤ n ∧ n ≤ 255 := by
  obtain ⟨n, rfl⟩ := okWide_int Try.underlying5 hv
  obtain ⟨m, hm⟩ := arg_one (_r := r) (_b0 := b0) (f := fun n : Int => D.int .u8 n) rfl h (fun _ => rfl) (fun hq => arg_u8 hq)
  refine ⟨m, hm, ?_⟩
  obtain ⟨cs, hr, _⟩ := hm
  cases hr with
  | int k n h => simp only [inr_u8] at h; exact h
set_option maxRecDepth 100000 in
theorem arg_bool1 (hv : Value.okWide Try.prog W r b0 4 v) (h : DataW.Trod enc Try.prog W base spare held 4 v d p) : ∃ b : Bool, val W (gW W) (.bool b) v := by
  obtain ⟨b, rfl⟩ := okWide_bool Try.underlying4 hv
  refine arg_one (_r := r) (_b0 := b0) (f := fun b : Bool => D.bool b) rfl h (fun _ => rfl) (fun {fuel c x} hq => ?_)
  obtain ⟨b', e, _⟩ := DataW.trod_bool Try.underlying4 hq
  simp only [List.cons.injEq, and_true] at e
  subst e
  exact ⟨b', .bool _⟩
theorem vals2 {w : World} {g : Gh} {d d' : D} {v v' : Value} (h : val w g d v) (h' : val w g d' v') : vals w g [d, d'] [v, v'] := ⟨rfl, fun j h1 h2 => by
  match j, h1, h2 with
  | 0, _, _ => exact h
  | 1, _, _ => exact h'
  | j + 2, h1, _ => simp at h1; omega⟩
theorem vals3 {w : World} {g : Gh} {d d' d'' : D} {v v' v'' : Value} (h : val w g d v) (h' : val w g d' v') (h'' : val w g d'' v'') : vals w g [d, d', d''] [v, v', v''] := ⟨rfl, fun j h1 h2 => by
  match j, h1, h2 with
  | 0, _, _ => exact h
  | 1, _, _ => exact h'
  | 2, _, _ => exact h''
  | j + 3, h1, _ => simp at h1; omega⟩
end

end Go.Proofs.Ytkngdmilgfgclaa
