/- Arguments of the rows about layouts. -/
import Derived.Test.YthgdibdapjaljaaAgs
import Derived.Test.YthgdibdapjaljaaLa1
namespace Go.Proofs.Ythgdibdapjaljaa
open Go.ChangeShapes Go.WideShapes Go.ChangeAt Go.RowKit

section
variable {H : Type} {enc : TypeId × Value → H} {W : World} {base : Nat} {spare : Nat → Bool} {held : Bool}
set_option maxRecDepth 100000 in
theorem arg_one {_r : Reach} {_b0 : Nat} {t : TypeId} {v : Value} {d : DataW H} {p : List MemPlace} (h1 : v.cells.toList = [v]) (h : DataW.Trod enc Try.prog W base spare held t v d p) {α : Type} {f : α → D}
  (hf : ∀ a, (f a).isAgg = false) (hr : ∀ {fuel : Nat} {c : Value} {x : DataW H × List MemPlace}, DataW.trod enc Try.prog W base spare held fuel t [c] = some x → ∃ a, R W (gW W) (f a) [c]) : ∃ a, val W (gW W) (f a) v := by
 obtain ⟨fuel, hfu⟩ := h
 rw [h1] at hfu
 obtain ⟨a, ha⟩ := hr hfu
 exact ⟨a, val_of_R ha (hf a)⟩
end
section
variable {H : Type} {enc : TypeId × Value → H} {W : World} {base : Nat} {spare : Nat → Bool} {held : Bool} {r : Reach} {b0 : Nat} {v : Value} {d : DataW H} {p : List MemPlace}
set_option maxRecDepth 100000 in
theorem arg_decls1 (hv : Value.okWide Try.prog W r b0 38 v) (h : DataW.Trod enc Try.prog W base spare held 38 v d p) : ∃ l : List Vd, val W (gW W) (sl 3 (l.map dV)) v := by
 obtain ⟨a, len, cap, rfl⟩ := okWide_slice und_api_VarDecl hv
 exact arg_one (_r := r) (_b0 := b0) (f := fun l : List Vd => sl 3 (l.map dV)) rfl h (fun _ => rfl) (fun hq => arg_decls hq)
end

end Go.Proofs.Ythgdibdapjaljaa
