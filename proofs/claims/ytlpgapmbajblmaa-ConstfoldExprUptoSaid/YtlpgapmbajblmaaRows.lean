/-
  NARROWER THAN 'FOR EVERY INPUT', by the rows' own cells (each row's printed sentence says how): ConstfoldConst: loops · ConstfoldExpr: loops · ConstfoldValue: loops, maps · ConstfoldParts: loops · ConstfoldProgram: loops · ConstfoldSmaller: loops · ConstfoldTwice: loops.
  DERIVED. THE GIVEN ROWS OF THIS SEAT. 8 by the template 'for every input the law returns true; each argument reads behind the call as it read before'; 0 by the template 'total and deterministic' (their statements: YtlpgapmbajblmaaTotals.lean).
  GIVEN WITH THE SEED: the statements are not yours to turn. If you find one false, say at which input.
  Laid BY PROGRAM, IN A SANDBOX (cutbox-rows.mjs): the forced cells as the released guide's own fill.sh prints them over the translation 0dd7e2d7f72adf79… (all of the seat's roots in one cut). By AI agents, Wed Nov 11 2026. No macro, syntax, notation, axiom, sorry.
-/
import Derived.Test.YtlpgapmbajblmaaChecked
import GoSem.Claim
import GoSem.ClaimJoined
import GoSem.ClaimMapViews
import Derived.JoinedTies
import Derived.KernelRfl
namespace Go.Proofs.Ytlpgapmbajblmaa
/- THE CELL 'sum', in the pinned program and in every row, IS THE sha256 OF THE DUMP (.gsa) THAT YtlpgapmbajblmaaProg.lean LOADS. Nothing in Lean hashes anything: it is a label: what it is worth is what the hold of that sum in a sandbox is worth. -/
noncomputable def Try.pinned : Pinned := { name := "ytlpgapmbajblmaa", sum := "0dd7e2d7f72adf794a79b0212a9ca57e629297763db27f8d22645ef3879a78be", checked := Try.checked }
namespace Rows
def none {H : Type} : Left H := { results := [], args := [] }

/-- 'backsteplaw07.ConstfoldConst': WHATEVER THE INPUT: true; the input reads as it did. -/
def constfoldConstSpec : ChangeSpec := { name := "constfoldConst", fn := fun _ => fun
  | [d] => { results := [.lit (.bool true)], args := [d] }
  | _ => none }
def constfoldConstRow : OpenClaim := { program := "ytlpgapmbajblmaa", sum := "0dd7e2d7f72adf794a79b0212a9ca57e629297763db27f8d22645ef3879a78be", func := "backstep/backsteplaw07.ConstfoldConst", spec := "constfoldConst", inPlace := ["internal/bytealg.IndexByteString"], unfollowed := true, recurses := true, loops := true, apart := false }
def ConstfoldConstSaid : Prop := constfoldConstRow.holds Try.pinned (OpenSpec.ofChange constfoldConstSpec)

/-- ITS FALSE NEIGHBOUR: 'it returns false'. Refute it at one input. -/
def constfoldConstWrong : ChangeSpec := { name := "constfoldConst", fn := fun _ => fun
  | [d] => { results := [.lit (.bool false)], args := [d] }
  | _ => none }
def ConstfoldConstWrongFalsely : Prop := constfoldConstRow.holds Try.pinned (OpenSpec.ofChange constfoldConstWrong)

/-- 'backsteplaw07.ConstfoldExpr': WHATEVER THE INPUT: true; the input reads as it did. -/
def constfoldExprSpec : ChangeSpec := { name := "constfoldExpr", fn := fun _ => fun
  | [d] => { results := [.lit (.bool true)], args := [d] }
  | _ => none }
def constfoldExprRow : OpenClaim := { program := "ytlpgapmbajblmaa", sum := "0dd7e2d7f72adf794a79b0212a9ca57e629297763db27f8d22645ef3879a78be", func := "backstep/backsteplaw07.ConstfoldExpr", spec := "constfoldExpr", inPlace := ["internal/bytealg.IndexByteString"], unfollowed := true, recurses := true, loops := true, apart := false }
def ConstfoldExprSaid : Prop := constfoldExprRow.holds Try.pinned (OpenSpec.ofChange constfoldExprSpec)

/-- ITS FALSE NEIGHBOUR: 'it returns false'. Refute it at one input. -/
def constfoldExprWrong : ChangeSpec := { name := "constfoldExpr", fn := fun _ => fun
  | [d] => { results := [.lit (.bool false)], args := [d] }
  | _ => none }
def ConstfoldExprWrongFalsely : Prop := constfoldExprRow.holds Try.pinned (OpenSpec.ofChange constfoldExprWrong)

/-- 'backsteplaw07.ConstfoldValue': WHATEVER THE INPUT: true; the input reads as it did. -/
def constfoldValueSpec : ChangeSpec := { name := "constfoldValue", fn := fun _ => fun
  | [d1, d2] => { results := [.lit (.bool true)], args := [d1, d2] }
  | _ => none }
def constfoldValueRow : OpenClaim := { program := "ytlpgapmbajblmaa", sum := "0dd7e2d7f72adf794a79b0212a9ca57e629297763db27f8d22645ef3879a78be", func := "backstep/backsteplaw07.ConstfoldValue", spec := "constfoldValue", inPlace := ["internal/bytealg.IndexByteString"], unfollowed := true, recurses := true, maps := true, loops := true, apart := false }
def ConstfoldValueSaid : Prop := constfoldValueRow.holds Try.pinned (OpenSpec.ofChange constfoldValueSpec)

/-- ITS FALSE NEIGHBOUR: 'it returns false'. Refute it at one input. -/
def constfoldValueWrong : ChangeSpec := { name := "constfoldValue", fn := fun _ => fun
  | [d1, d2] => { results := [.lit (.bool false)], args := [d1, d2] }
  | _ => none }
def ConstfoldValueWrongFalsely : Prop := constfoldValueRow.holds Try.pinned (OpenSpec.ofChange constfoldValueWrong)

/-- 'backsteplaw07.ConstfoldLiteral': WHATEVER THE INPUT: true; the input reads as it did. -/
def constfoldLiteralSpec : ChangeSpec := { name := "constfoldLiteral", fn := fun _ => fun
  | [d1, d2] => { results := [.lit (.bool true)], args := [d1, d2] }
  | _ => none }
def constfoldLiteralRow : OpenClaim := { program := "ytlpgapmbajblmaa", sum := "0dd7e2d7f72adf794a79b0212a9ca57e629297763db27f8d22645ef3879a78be", func := "backstep/backsteplaw07.ConstfoldLiteral", spec := "constfoldLiteral", inPlace := ["internal/bytealg.IndexByteString"], unfollowed := true, recurses := true, apart := false }
def ConstfoldLiteralSaid : Prop := constfoldLiteralRow.holds Try.pinned (OpenSpec.ofChange constfoldLiteralSpec)

/-- ITS FALSE NEIGHBOUR: 'it returns false'. Refute it at one input. -/
def constfoldLiteralWrong : ChangeSpec := { name := "constfoldLiteral", fn := fun _ => fun
  | [d1, d2] => { results := [.lit (.bool false)], args := [d1, d2] }
  | _ => none }
def ConstfoldLiteralWrongFalsely : Prop := constfoldLiteralRow.holds Try.pinned (OpenSpec.ofChange constfoldLiteralWrong)

/-- 'backsteplaw07.ConstfoldParts': WHATEVER THE INPUT: true; the input reads as it did. -/
def constfoldPartsSpec : ChangeSpec := { name := "constfoldParts", fn := fun _ => fun
  | [d] => { results := [.lit (.bool true)], args := [d] }
  | _ => none }
def constfoldPartsRow : OpenClaim := { program := "ytlpgapmbajblmaa", sum := "0dd7e2d7f72adf794a79b0212a9ca57e629297763db27f8d22645ef3879a78be", func := "backstep/backsteplaw07.ConstfoldParts", spec := "constfoldParts", inPlace := ["internal/bytealg.IndexByteString"], unfollowed := true, recurses := true, loops := true, apart := false }
def ConstfoldPartsSaid : Prop := constfoldPartsRow.holds Try.pinned (OpenSpec.ofChange constfoldPartsSpec)

/-- ITS FALSE NEIGHBOUR: 'it returns false'. Refute it at one input. -/
def constfoldPartsWrong : ChangeSpec := { name := "constfoldParts", fn := fun _ => fun
  | [d] => { results := [.lit (.bool false)], args := [d] }
  | _ => none }
def ConstfoldPartsWrongFalsely : Prop := constfoldPartsRow.holds Try.pinned (OpenSpec.ofChange constfoldPartsWrong)

/-- 'backsteplaw07.ConstfoldProgram': WHATEVER THE INPUT: true; the input reads as it did. -/
def constfoldProgramSpec : ChangeSpec := { name := "constfoldProgram", fn := fun _ => fun
  | [d] => { results := [.lit (.bool true)], args := [d] }
  | _ => none }
def constfoldProgramRow : OpenClaim := { program := "ytlpgapmbajblmaa", sum := "0dd7e2d7f72adf794a79b0212a9ca57e629297763db27f8d22645ef3879a78be", func := "backstep/backsteplaw07.ConstfoldProgram", spec := "constfoldProgram", inPlace := ["internal/bytealg.IndexByteString"], unfollowed := true, recurses := true, loops := true, apart := false }
def ConstfoldProgramSaid : Prop := constfoldProgramRow.holds Try.pinned (OpenSpec.ofChange constfoldProgramSpec)

/-- ITS FALSE NEIGHBOUR: 'it returns false'. Refute it at one input. -/
def constfoldProgramWrong : ChangeSpec := { name := "constfoldProgram", fn := fun _ => fun
  | [d] => { results := [.lit (.bool false)], args := [d] }
  | _ => none }
def ConstfoldProgramWrongFalsely : Prop := constfoldProgramRow.holds Try.pinned (OpenSpec.ofChange constfoldProgramWrong)

/-- 'backsteplaw07.ConstfoldSmaller': WHATEVER THE INPUT: true; the input reads as it did. -/
def constfoldSmallerSpec : ChangeSpec := { name := "constfoldSmaller", fn := fun _ => fun
  | [d] => { results := [.lit (.bool true)], args := [d] }
  | _ => none }
def constfoldSmallerRow : OpenClaim := { program := "ytlpgapmbajblmaa", sum := "0dd7e2d7f72adf794a79b0212a9ca57e629297763db27f8d22645ef3879a78be", func := "backstep/backsteplaw07.ConstfoldSmaller", spec := "constfoldSmaller", inPlace := ["internal/bytealg.IndexByteString"], unfollowed := true, recurses := true, loops := true, apart := false }
def ConstfoldSmallerSaid : Prop := constfoldSmallerRow.holds Try.pinned (OpenSpec.ofChange constfoldSmallerSpec)

/-- ITS FALSE NEIGHBOUR: 'it returns false'. Refute it at one input. -/
def constfoldSmallerWrong : ChangeSpec := { name := "constfoldSmaller", fn := fun _ => fun
  | [d] => { results := [.lit (.bool false)], args := [d] }
  | _ => none }
def ConstfoldSmallerWrongFalsely : Prop := constfoldSmallerRow.holds Try.pinned (OpenSpec.ofChange constfoldSmallerWrong)

/-- 'backsteplaw07.ConstfoldTwice': WHATEVER THE INPUT: true; the input reads as it did. -/
def constfoldTwiceSpec : ChangeSpec := { name := "constfoldTwice", fn := fun _ => fun
  | [d1, d2] => { results := [.lit (.bool true)], args := [d1, d2] }
  | _ => none }
def constfoldTwiceRow : OpenClaim := { program := "ytlpgapmbajblmaa", sum := "0dd7e2d7f72adf794a79b0212a9ca57e629297763db27f8d22645ef3879a78be", func := "backstep/backsteplaw07.ConstfoldTwice", spec := "constfoldTwice", inPlace := ["internal/bytealg.IndexByteString"], unfollowed := true, recurses := true, loops := true, apart := false }
def ConstfoldTwiceSaid : Prop := constfoldTwiceRow.holds Try.pinned (OpenSpec.ofChange constfoldTwiceSpec)

/-- ITS FALSE NEIGHBOUR: 'it returns false'. Refute it at one input. -/
def constfoldTwiceWrong : ChangeSpec := { name := "constfoldTwice", fn := fun _ => fun
  | [d1, d2] => { results := [.lit (.bool false)], args := [d1, d2] }
  | _ => none }
def ConstfoldTwiceWrongFalsely : Prop := constfoldTwiceRow.holds Try.pinned (OpenSpec.ofChange constfoldTwiceWrong)

/- THE SECOND FORM. 'bulk': how many values and letters a reading holds, each counted each time it is reached (what is shared counts as often as it is met; a slice's spare places count too). A statement '..UptoSaid' is the law's where the arguments, and the package variables that the reading takes, are together of bulk at most 1048576: NARROWER than '..Said'. Prove '..Said' where nothing that the law and all that it calls make is longer than what came in: it says more and counts as full. Else prove '..UptoSaid'. A law counts once. -/
mutual
def uptoBulk {H : Type} : DataW H → Nat
  | .lit (.string bytes) => bytes.length + 1
  | .lit _ => 1
  | .nil => 1
  | .ptr d => uptoBulk d + 1
  | .slice elems spare => uptoBulkAll elems + uptoBulkAll spare + 1
  | .agg parts => uptoBulkAll parts + 1
  | .iface _ d => uptoBulk d + 1
  | .map entries => uptoBulkEntries entries + 1
  | .held _ => 1
def uptoBulkAll {H : Type} : List (DataW H) → Nat
  | [] => 0
  | d :: r => uptoBulk d + uptoBulkAll r
def uptoBulkEntries {H : Type} : List (Lit × DataW H) → Nat
  | [] => 0
  | x :: r => uptoBulkEntry x + uptoBulkEntries r
def uptoBulkEntry {H : Type} : Lit × DataW H → Nat
  | (.string bytes, d) => bytes.length + uptoBulk d + 1
  | (_, d) => uptoBulk d + 1
 end
def uptoSmall : (H : Type) → List (DataW H) → Bool := fun _ ds => decide (uptoBulkAll ds ≤ 1048576)
def OpenSpec.upto (s : _root_.Go.ChangeSpec) : _root_.Go.OpenSpec := { _root_.Go.OpenSpec.ofChange s with cond := some uptoSmall }

/-- 'backsteplaw07.ConstfoldConst', WHERE WHAT IT READS IS OF BULK AT MOST 1048576: true; the input reads as it did. -/
def constfoldConstUptoRow : OpenClaim := { program := "ytlpgapmbajblmaa", sum := "0dd7e2d7f72adf794a79b0212a9ca57e629297763db27f8d22645ef3879a78be", func := "backstep/backsteplaw07.ConstfoldConst", spec := "constfoldConst", inPlace := ["internal/bytealg.IndexByteString"], unfollowed := true, recurses := true, loops := true, apart := false, narrowed := true }
def ConstfoldConstUptoSaid : Prop := constfoldConstUptoRow.holds Try.pinned (OpenSpec.upto constfoldConstSpec)

/-- 'backsteplaw07.ConstfoldExpr', WHERE WHAT IT READS IS OF BULK AT MOST 1048576: true; the input reads as it did. -/
def constfoldExprUptoRow : OpenClaim := { program := "ytlpgapmbajblmaa", sum := "0dd7e2d7f72adf794a79b0212a9ca57e629297763db27f8d22645ef3879a78be", func := "backstep/backsteplaw07.ConstfoldExpr", spec := "constfoldExpr", inPlace := ["internal/bytealg.IndexByteString"], unfollowed := true, recurses := true, loops := true, apart := false, narrowed := true }
def ConstfoldExprUptoSaid : Prop := constfoldExprUptoRow.holds Try.pinned (OpenSpec.upto constfoldExprSpec)

/-- 'backsteplaw07.ConstfoldValue', WHERE WHAT IT READS IS OF BULK AT MOST 1048576: true; the input reads as it did. -/
def constfoldValueUptoRow : OpenClaim := { program := "ytlpgapmbajblmaa", sum := "0dd7e2d7f72adf794a79b0212a9ca57e629297763db27f8d22645ef3879a78be", func := "backstep/backsteplaw07.ConstfoldValue", spec := "constfoldValue", inPlace := ["internal/bytealg.IndexByteString"], unfollowed := true, recurses := true, maps := true, loops := true, apart := false, narrowed := true }
def ConstfoldValueUptoSaid : Prop := constfoldValueUptoRow.holds Try.pinned (OpenSpec.upto constfoldValueSpec)

/-- 'backsteplaw07.ConstfoldLiteral', WHERE WHAT IT READS IS OF BULK AT MOST 1048576: true; the input reads as it did. -/
def constfoldLiteralUptoRow : OpenClaim := { program := "ytlpgapmbajblmaa", sum := "0dd7e2d7f72adf794a79b0212a9ca57e629297763db27f8d22645ef3879a78be", func := "backstep/backsteplaw07.ConstfoldLiteral", spec := "constfoldLiteral", inPlace := ["internal/bytealg.IndexByteString"], unfollowed := true, recurses := true, apart := false, narrowed := true }
def ConstfoldLiteralUptoSaid : Prop := constfoldLiteralUptoRow.holds Try.pinned (OpenSpec.upto constfoldLiteralSpec)

/-- 'backsteplaw07.ConstfoldParts', WHERE WHAT IT READS IS OF BULK AT MOST 1048576: true; the input reads as it did. -/
def constfoldPartsUptoRow : OpenClaim := { program := "ytlpgapmbajblmaa", sum := "0dd7e2d7f72adf794a79b0212a9ca57e629297763db27f8d22645ef3879a78be", func := "backstep/backsteplaw07.ConstfoldParts", spec := "constfoldParts", inPlace := ["internal/bytealg.IndexByteString"], unfollowed := true, recurses := true, loops := true, apart := false, narrowed := true }
def ConstfoldPartsUptoSaid : Prop := constfoldPartsUptoRow.holds Try.pinned (OpenSpec.upto constfoldPartsSpec)

/-- 'backsteplaw07.ConstfoldProgram', WHERE WHAT IT READS IS OF BULK AT MOST 1048576: true; the input reads as it did. -/
def constfoldProgramUptoRow : OpenClaim := { program := "ytlpgapmbajblmaa", sum := "0dd7e2d7f72adf794a79b0212a9ca57e629297763db27f8d22645ef3879a78be", func := "backstep/backsteplaw07.ConstfoldProgram", spec := "constfoldProgram", inPlace := ["internal/bytealg.IndexByteString"], unfollowed := true, recurses := true, loops := true, apart := false, narrowed := true }
def ConstfoldProgramUptoSaid : Prop := constfoldProgramUptoRow.holds Try.pinned (OpenSpec.upto constfoldProgramSpec)

/-- 'backsteplaw07.ConstfoldSmaller', WHERE WHAT IT READS IS OF BULK AT MOST 1048576: true; the input reads as it did. -/
def constfoldSmallerUptoRow : OpenClaim := { program := "ytlpgapmbajblmaa", sum := "0dd7e2d7f72adf794a79b0212a9ca57e629297763db27f8d22645ef3879a78be", func := "backstep/backsteplaw07.ConstfoldSmaller", spec := "constfoldSmaller", inPlace := ["internal/bytealg.IndexByteString"], unfollowed := true, recurses := true, loops := true, apart := false, narrowed := true }
def ConstfoldSmallerUptoSaid : Prop := constfoldSmallerUptoRow.holds Try.pinned (OpenSpec.upto constfoldSmallerSpec)

/-- 'backsteplaw07.ConstfoldTwice', WHERE WHAT IT READS IS OF BULK AT MOST 1048576: true; the input reads as it did. -/
def constfoldTwiceUptoRow : OpenClaim := { program := "ytlpgapmbajblmaa", sum := "0dd7e2d7f72adf794a79b0212a9ca57e629297763db27f8d22645ef3879a78be", func := "backstep/backsteplaw07.ConstfoldTwice", spec := "constfoldTwice", inPlace := ["internal/bytealg.IndexByteString"], unfollowed := true, recurses := true, loops := true, apart := false, narrowed := true }
def ConstfoldTwiceUptoSaid : Prop := constfoldTwiceUptoRow.holds Try.pinned (OpenSpec.upto constfoldTwiceSpec)

end Rows
end Go.Proofs.Ytlpgapmbajblmaa
