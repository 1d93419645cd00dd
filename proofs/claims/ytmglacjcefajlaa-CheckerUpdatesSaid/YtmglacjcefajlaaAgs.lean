import Derived.Test.YtmglacjcefajlaaRead
import Derived.Test.YtmglacjcefajlaaBK
/- Arguments of plain kinds. -/
namespace Go.Proofs.Ytmglacjcefajlaa
open Go.ChangeShapes Go.WideShapes Go.ChangeAt Go.RowKit
section
variable {H : Type} {enc : TypeId × Value → H} {W : World} {base : Nat} {spare : Nat → Bool} {held : Bool} {r : Reach} {b0 : Nat} {v : Value} {d : DataW H} {p : List MemPlace}
set_option maxRecDepth 100000 in
theorem arg_u81 (hv : Value.okWide Try.prog W r b0 5 v) (h : DataW.Trod enc Try.prog W base spare held 5 v d p) : ∃ n : Int, val W (gW W) (.int .u8 n) v ∧ 0 ≤ n ∧ n ≤ 255 := by
 obtain ⟨n, rfl⟩ := okWide_int Try.underlying5 hv
 obtain ⟨m, hm⟩ := arg_one (_r := r) (_b0 := b0) (f := fun n : Int => D.int .u8 n) rfl h (fun _ => rfl) (fun hq => arg_u8 hq)
 refine ⟨m, hm, ?_⟩
 obtain ⟨cs, hr, _⟩ := hm
 cases hr with
 | int k n h => simp only [inr_u8] at h; exact h
theorem vals2 {w : World} {g : Gh} {d d' : D} {v v' : Value} (h : val w g d v) (h' : val w g d' v') : vals w g [d, d'] [v, v'] := ⟨rfl, fun j h1 h2 => by
 match j, h1, h2 with
 | 0, _, _ => exact h
 | 1, _, _ => exact h'
 | j + 2, h1, _ => simp at h1; omega⟩
end

end Go.Proofs.Ytmglacjcefajlaa
