import Derived.Test.YtlpgapmbajblmaaDat
/- Arguments as data of the machine. -/
namespace Go.Proofs.Ytlpgapmbajblmaa
open Go.ChangeShapes Go.WideShapes Go.ChangeAt Go.RowKit

structure Vd where
 name : ByteArray
 kind : Int
 len : Int
structure Pr where
 name : ByteArray
 params : List Vd
 body : Tr
structure Pg where
 vars : List Vd
 procs : List Pr
 main : Tr
def dI (n : Int) : D := .int .i64 n
def dV (v : Vd) : D := .agg [.str v.name, .int .u8 v.kind, .int .i64 v.len]
def dP (p : Pr) : D := .agg [.str p.name, sl 3 (p.params.map dV), .int .u8 p.body.kind, .int .i64 p.body.num, .str p.body.name, sl 4 (p.body.kids.map dN)]
theorem map_strip {α : Type} {f : α → D} (h : ∀ x, (f x).strip = f x) (l : List α) : ∀ d ∈ l.map f, d.strip = d := fun d hd => by
 obtain ⟨x, _, rfl⟩ := List.mem_map.1 hd; exact h x
theorem map_under {α : Type} {f : α → D} {m : Nat} (h : ∀ x, (f x).under m = true) (l : List α) : ∀ d ∈ l.map f, d.under m = true := fun d hd => by
 obtain ⟨x, _, rfl⟩ := List.mem_map.1 hd; exact h x
section
variable {H : Type} {enc : TypeId × Value → H} {W : World} {base : Nat} {spare : Nat → Bool} {held : Bool} {fuel : Nat}
end

end Go.Proofs.Ytlpgapmbajblmaa

/- Arguments as data of the machine: structs. -/
namespace Go.Proofs.Ytlpgapmbajblmaa
open Go.ChangeShapes Go.WideShapes Go.ChangeAt Go.RowKit

section
variable {H : Type} {enc : TypeId × Value → H} {W : World} {base : Nat} {spare : Nat → Bool} {held : Bool}
end

end Go.Proofs.Ytlpgapmbajblmaa
