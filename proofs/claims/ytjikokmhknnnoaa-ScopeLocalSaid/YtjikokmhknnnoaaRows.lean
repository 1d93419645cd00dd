/-
  NARROWER THAN 'FOR EVERY INPUT', by the rows' own cells (each row's printed sentence says how): ScopeChecks: loops · ScopeRenames: loops · ScopeUnused: loops · ScopeArity: loops · ScopeOrder: loops · ScopeDrops: loops · ScopeVisible: loops · ScopeLocal: loops.
  DERIVED. THE GIVEN ROWS OF THIS SEAT. 9 by the template 'for every input the law returns true; each argument reads behind the call as it read before'; 0 by the template 'total and deterministic' (their statements: YtjikokmhknnnoaaTotals.lean).
  GIVEN WITH THE SEED: the statements are not yours to turn. If you find one false, say at which input.
  Laid BY PROGRAM, IN A SANDBOX (cutbox-rows.mjs): the forced cells as the released guide's own fill.sh prints them over the translation 93038782357ec02e… (all of the seat's roots in one cut). By AI agents, Wed Nov 11 2026. No macro, syntax, notation, axiom, sorry.
-/
import Derived.Test.YtjikokmhknnnoaaChecked
import GoSem.Claim
import GoSem.ClaimJoined
import GoSem.ClaimMapViews
import Derived.JoinedTies
import Derived.KernelRfl
namespace Go.Proofs.Ytjikokmhknnnoaa
/- THE CELL 'sum', in the pinned program and in every row, IS THE sha256 OF THE DUMP (.gsa) THAT YtjikokmhknnnoaaProg.lean LOADS. Nothing in Lean hashes anything: it is a label: what it is worth is what the hold of that sum in a sandbox is worth. -/
noncomputable def Try.pinned : Pinned := { name := "ytjikokmhknnnoaa", sum := "93038782357ec02e714eb336c99348b9437de86c6bb1d46efcf8c2f2b632a68d", checked := Try.checked }
namespace Rows
def none {H : Type} : Left H := { results := [], args := [] }

/-- 'backsteplaw06.ScopeFinds': WHATEVER THE INPUT: true; the input reads as it did. -/
def scopeFindsSpec : ChangeSpec := { name := "scopeFinds", fn := fun _ => fun
  | [d1, d2, d3] => { results := [.lit (.bool true)], args := [d1, d2, d3] }
  | _ => none }
def scopeFindsRow : OpenClaim := { program := "ytjikokmhknnnoaa", sum := "93038782357ec02e714eb336c99348b9437de86c6bb1d46efcf8c2f2b632a68d", func := "backstep/backsteplaw06.ScopeFinds", spec := "scopeFinds", inPlace := ["internal/bytealg.IndexByteString"], unfollowed := true, recurses := true, apart := false }
def ScopeFindsSaid : Prop := scopeFindsRow.holds Try.pinned (OpenSpec.ofChange scopeFindsSpec)

/-- ITS FALSE NEIGHBOUR: 'it returns false'. Refute it at one input. -/
def scopeFindsWrong : ChangeSpec := { name := "scopeFinds", fn := fun _ => fun
  | [d1, d2, d3] => { results := [.lit (.bool false)], args := [d1, d2, d3] }
  | _ => none }
def ScopeFindsWrongFalsely : Prop := scopeFindsRow.holds Try.pinned (OpenSpec.ofChange scopeFindsWrong)

/-- 'backsteplaw06.ScopeChecks': WHATEVER THE INPUT: true; the input reads as it did. -/
def scopeChecksSpec : ChangeSpec := { name := "scopeChecks", fn := fun _ => fun
  | [d] => { results := [.lit (.bool true)], args := [d] }
  | _ => none }
def scopeChecksRow : OpenClaim := { program := "ytjikokmhknnnoaa", sum := "93038782357ec02e714eb336c99348b9437de86c6bb1d46efcf8c2f2b632a68d", func := "backstep/backsteplaw06.ScopeChecks", spec := "scopeChecks", inPlace := ["internal/bytealg.IndexByteString"], unfollowed := true, recurses := true, loops := true, apart := false }
def ScopeChecksSaid : Prop := scopeChecksRow.holds Try.pinned (OpenSpec.ofChange scopeChecksSpec)

/-- ITS FALSE NEIGHBOUR: 'it returns false'. Refute it at one input. -/
def scopeChecksWrong : ChangeSpec := { name := "scopeChecks", fn := fun _ => fun
  | [d] => { results := [.lit (.bool false)], args := [d] }
  | _ => none }
def ScopeChecksWrongFalsely : Prop := scopeChecksRow.holds Try.pinned (OpenSpec.ofChange scopeChecksWrong)

/-- 'backsteplaw06.ScopeRenames': WHATEVER THE INPUT: true; the input reads as it did. -/
def scopeRenamesSpec : ChangeSpec := { name := "scopeRenames", fn := fun _ => fun
  | [d1, d2] => { results := [.lit (.bool true)], args := [d1, d2] }
  | _ => none }
def scopeRenamesRow : OpenClaim := { program := "ytjikokmhknnnoaa", sum := "93038782357ec02e714eb336c99348b9437de86c6bb1d46efcf8c2f2b632a68d", func := "backstep/backsteplaw06.ScopeRenames", spec := "scopeRenames", inPlace := ["internal/bytealg.IndexByteString"], unfollowed := true, recurses := true, loops := true, apart := false }
def ScopeRenamesSaid : Prop := scopeRenamesRow.holds Try.pinned (OpenSpec.ofChange scopeRenamesSpec)

/-- ITS FALSE NEIGHBOUR: 'it returns false'. Refute it at one input. -/
def scopeRenamesWrong : ChangeSpec := { name := "scopeRenames", fn := fun _ => fun
  | [d1, d2] => { results := [.lit (.bool false)], args := [d1, d2] }
  | _ => none }
def ScopeRenamesWrongFalsely : Prop := scopeRenamesRow.holds Try.pinned (OpenSpec.ofChange scopeRenamesWrong)

/-- 'backsteplaw06.ScopeUnused': WHATEVER THE INPUT: true; the input reads as it did. -/
def scopeUnusedSpec : ChangeSpec := { name := "scopeUnused", fn := fun _ => fun
  | [d] => { results := [.lit (.bool true)], args := [d] }
  | _ => none }
def scopeUnusedRow : OpenClaim := { program := "ytjikokmhknnnoaa", sum := "93038782357ec02e714eb336c99348b9437de86c6bb1d46efcf8c2f2b632a68d", func := "backstep/backsteplaw06.ScopeUnused", spec := "scopeUnused", inPlace := ["internal/bytealg.IndexByteString"], unfollowed := true, recurses := true, loops := true, apart := false }
def ScopeUnusedSaid : Prop := scopeUnusedRow.holds Try.pinned (OpenSpec.ofChange scopeUnusedSpec)

/-- ITS FALSE NEIGHBOUR: 'it returns false'. Refute it at one input. -/
def scopeUnusedWrong : ChangeSpec := { name := "scopeUnused", fn := fun _ => fun
  | [d] => { results := [.lit (.bool false)], args := [d] }
  | _ => none }
def ScopeUnusedWrongFalsely : Prop := scopeUnusedRow.holds Try.pinned (OpenSpec.ofChange scopeUnusedWrong)

/-- 'backsteplaw06.ScopeArity': WHATEVER THE INPUT: true; the input reads as it did. -/
def scopeAritySpec : ChangeSpec := { name := "scopeArity", fn := fun _ => fun
  | [d1, d2, d3] => { results := [.lit (.bool true)], args := [d1, d2, d3] }
  | _ => none }
def scopeArityRow : OpenClaim := { program := "ytjikokmhknnnoaa", sum := "93038782357ec02e714eb336c99348b9437de86c6bb1d46efcf8c2f2b632a68d", func := "backstep/backsteplaw06.ScopeArity", spec := "scopeArity", inPlace := ["internal/bytealg.IndexByteString"], unfollowed := true, recurses := true, loops := true, apart := false }
def ScopeAritySaid : Prop := scopeArityRow.holds Try.pinned (OpenSpec.ofChange scopeAritySpec)

/-- ITS FALSE NEIGHBOUR: 'it returns false'. Refute it at one input. -/
def scopeArityWrong : ChangeSpec := { name := "scopeArity", fn := fun _ => fun
  | [d1, d2, d3] => { results := [.lit (.bool false)], args := [d1, d2, d3] }
  | _ => none }
def ScopeArityWrongFalsely : Prop := scopeArityRow.holds Try.pinned (OpenSpec.ofChange scopeArityWrong)

/-- 'backsteplaw06.ScopeOrder': WHATEVER THE INPUT: true; the input reads as it did. -/
def scopeOrderSpec : ChangeSpec := { name := "scopeOrder", fn := fun _ => fun
  | [d] => { results := [.lit (.bool true)], args := [d] }
  | _ => none }
def scopeOrderRow : OpenClaim := { program := "ytjikokmhknnnoaa", sum := "93038782357ec02e714eb336c99348b9437de86c6bb1d46efcf8c2f2b632a68d", func := "backstep/backsteplaw06.ScopeOrder", spec := "scopeOrder", inPlace := ["internal/bytealg.IndexByteString"], unfollowed := true, recurses := true, loops := true, apart := false }
def ScopeOrderSaid : Prop := scopeOrderRow.holds Try.pinned (OpenSpec.ofChange scopeOrderSpec)

/-- ITS FALSE NEIGHBOUR: 'it returns false'. Refute it at one input. -/
def scopeOrderWrong : ChangeSpec := { name := "scopeOrder", fn := fun _ => fun
  | [d] => { results := [.lit (.bool false)], args := [d] }
  | _ => none }
def ScopeOrderWrongFalsely : Prop := scopeOrderRow.holds Try.pinned (OpenSpec.ofChange scopeOrderWrong)

/-- 'backsteplaw06.ScopeDrops': WHATEVER THE INPUT: true; the input reads as it did. -/
def scopeDropsSpec : ChangeSpec := { name := "scopeDrops", fn := fun _ => fun
  | [d1, d2] => { results := [.lit (.bool true)], args := [d1, d2] }
  | _ => none }
def scopeDropsRow : OpenClaim := { program := "ytjikokmhknnnoaa", sum := "93038782357ec02e714eb336c99348b9437de86c6bb1d46efcf8c2f2b632a68d", func := "backstep/backsteplaw06.ScopeDrops", spec := "scopeDrops", inPlace := ["internal/bytealg.IndexByteString"], unfollowed := true, recurses := true, loops := true, apart := false }
def ScopeDropsSaid : Prop := scopeDropsRow.holds Try.pinned (OpenSpec.ofChange scopeDropsSpec)

/-- ITS FALSE NEIGHBOUR: 'it returns false'. Refute it at one input. -/
def scopeDropsWrong : ChangeSpec := { name := "scopeDrops", fn := fun _ => fun
  | [d1, d2] => { results := [.lit (.bool false)], args := [d1, d2] }
  | _ => none }
def ScopeDropsWrongFalsely : Prop := scopeDropsRow.holds Try.pinned (OpenSpec.ofChange scopeDropsWrong)

/-- 'backsteplaw06.ScopeVisible': WHATEVER THE INPUT: true; the input reads as it did. -/
def scopeVisibleSpec : ChangeSpec := { name := "scopeVisible", fn := fun _ => fun
  | [d1, d2, d3] => { results := [.lit (.bool true)], args := [d1, d2, d3] }
  | _ => none }
def scopeVisibleRow : OpenClaim := { program := "ytjikokmhknnnoaa", sum := "93038782357ec02e714eb336c99348b9437de86c6bb1d46efcf8c2f2b632a68d", func := "backstep/backsteplaw06.ScopeVisible", spec := "scopeVisible", inPlace := ["internal/bytealg.IndexByteString"], unfollowed := true, recurses := true, loops := true, apart := false }
def ScopeVisibleSaid : Prop := scopeVisibleRow.holds Try.pinned (OpenSpec.ofChange scopeVisibleSpec)

/-- ITS FALSE NEIGHBOUR: 'it returns false'. Refute it at one input. -/
def scopeVisibleWrong : ChangeSpec := { name := "scopeVisible", fn := fun _ => fun
  | [d1, d2, d3] => { results := [.lit (.bool false)], args := [d1, d2, d3] }
  | _ => none }
def ScopeVisibleWrongFalsely : Prop := scopeVisibleRow.holds Try.pinned (OpenSpec.ofChange scopeVisibleWrong)

/-- 'backsteplaw06.ScopeLocal': WHATEVER THE INPUT: true; the input reads as it did. -/
def scopeLocalSpec : ChangeSpec := { name := "scopeLocal", fn := fun _ => fun
  | [d1, d2] => { results := [.lit (.bool true)], args := [d1, d2] }
  | _ => none }
def scopeLocalRow : OpenClaim := { program := "ytjikokmhknnnoaa", sum := "93038782357ec02e714eb336c99348b9437de86c6bb1d46efcf8c2f2b632a68d", func := "backstep/backsteplaw06.ScopeLocal", spec := "scopeLocal", inPlace := ["internal/bytealg.IndexByteString"], unfollowed := true, recurses := true, loops := true, apart := false }
def ScopeLocalSaid : Prop := scopeLocalRow.holds Try.pinned (OpenSpec.ofChange scopeLocalSpec)

/-- ITS FALSE NEIGHBOUR: 'it returns false'. Refute it at one input. -/
def scopeLocalWrong : ChangeSpec := { name := "scopeLocal", fn := fun _ => fun
  | [d1, d2] => { results := [.lit (.bool false)], args := [d1, d2] }
  | _ => none }
def ScopeLocalWrongFalsely : Prop := scopeLocalRow.holds Try.pinned (OpenSpec.ofChange scopeLocalWrong)

/- THE SECOND FORM. 'bulk': how many values and letters a reading holds, each counted each time it is reached (what is shared counts as often as it is met; a slice's spare places count too). A statement '..UptoSaid' is the law's where the arguments, and the package variables that the reading takes, are together of bulk at most 1048576: NARROWER than '..Said'. Prove '..Said' where nothing that the law and all that it calls make is longer than what came in: it says more and counts as full. Else prove '..UptoSaid'. A law counts once. -/
mutual
def uptoBulk {H : Type} : DataW H → Nat
  | .lit (.string bytes) => bytes.length + 1
  | .lit _ => 1
  | .nil => 1
  | .ptr d => uptoBulk d + 1
  | .slice elems spare => uptoBulkAll elems + uptoBulkAll spare + 1
  | .agg parts => uptoBulkAll parts + 1
  | .iface _ d => uptoBulk d + 1
  | .map entries => uptoBulkEntries entries + 1
  | .held _ => 1
def uptoBulkAll {H : Type} : List (DataW H) → Nat
  | [] => 0
  | d :: r => uptoBulk d + uptoBulkAll r
def uptoBulkEntries {H : Type} : List (Lit × DataW H) → Nat
  | [] => 0
  | x :: r => uptoBulkEntry x + uptoBulkEntries r
def uptoBulkEntry {H : Type} : Lit × DataW H → Nat
  | (.string bytes, d) => bytes.length + uptoBulk d + 1
  | (_, d) => uptoBulk d + 1
 end
def uptoSmall : (H : Type) → List (DataW H) → Bool := fun _ ds => decide (uptoBulkAll ds ≤ 1048576)
def OpenSpec.upto (s : _root_.Go.ChangeSpec) : _root_.Go.OpenSpec := { _root_.Go.OpenSpec.ofChange s with cond := some uptoSmall }

/-- 'backsteplaw06.ScopeFinds', WHERE WHAT IT READS IS OF BULK AT MOST 1048576: true; the input reads as it did. -/
def scopeFindsUptoRow : OpenClaim := { program := "ytjikokmhknnnoaa", sum := "93038782357ec02e714eb336c99348b9437de86c6bb1d46efcf8c2f2b632a68d", func := "backstep/backsteplaw06.ScopeFinds", spec := "scopeFinds", inPlace := ["internal/bytealg.IndexByteString"], unfollowed := true, recurses := true, apart := false, narrowed := true }
def ScopeFindsUptoSaid : Prop := scopeFindsUptoRow.holds Try.pinned (OpenSpec.upto scopeFindsSpec)

/-- 'backsteplaw06.ScopeChecks', WHERE WHAT IT READS IS OF BULK AT MOST 1048576: true; the input reads as it did. -/
def scopeChecksUptoRow : OpenClaim := { program := "ytjikokmhknnnoaa", sum := "93038782357ec02e714eb336c99348b9437de86c6bb1d46efcf8c2f2b632a68d", func := "backstep/backsteplaw06.ScopeChecks", spec := "scopeChecks", inPlace := ["internal/bytealg.IndexByteString"], unfollowed := true, recurses := true, loops := true, apart := false, narrowed := true }
def ScopeChecksUptoSaid : Prop := scopeChecksUptoRow.holds Try.pinned (OpenSpec.upto scopeChecksSpec)

/-- 'backsteplaw06.ScopeRenames', WHERE WHAT IT READS IS OF BULK AT MOST 1048576: true; the input reads as it did. -/
def scopeRenamesUptoRow : OpenClaim := { program := "ytjikokmhknnnoaa", sum := "93038782357ec02e714eb336c99348b9437de86c6bb1d46efcf8c2f2b632a68d", func := "backstep/backsteplaw06.ScopeRenames", spec := "scopeRenames", inPlace := ["internal/bytealg.IndexByteString"], unfollowed := true, recurses := true, loops := true, apart := false, narrowed := true }
def ScopeRenamesUptoSaid : Prop := scopeRenamesUptoRow.holds Try.pinned (OpenSpec.upto scopeRenamesSpec)

/-- 'backsteplaw06.ScopeUnused', WHERE WHAT IT READS IS OF BULK AT MOST 1048576: true; the input reads as it did. -/
def scopeUnusedUptoRow : OpenClaim := { program := "ytjikokmhknnnoaa", sum := "93038782357ec02e714eb336c99348b9437de86c6bb1d46efcf8c2f2b632a68d", func := "backstep/backsteplaw06.ScopeUnused", spec := "scopeUnused", inPlace := ["internal/bytealg.IndexByteString"], unfollowed := true, recurses := true, loops := true, apart := false, narrowed := true }
def ScopeUnusedUptoSaid : Prop := scopeUnusedUptoRow.holds Try.pinned (OpenSpec.upto scopeUnusedSpec)

/-- 'backsteplaw06.ScopeArity', WHERE WHAT IT READS IS OF BULK AT MOST 1048576: true; the input reads as it did. -/
def scopeArityUptoRow : OpenClaim := { program := "ytjikokmhknnnoaa", sum := "93038782357ec02e714eb336c99348b9437de86c6bb1d46efcf8c2f2b632a68d", func := "backstep/backsteplaw06.ScopeArity", spec := "scopeArity", inPlace := ["internal/bytealg.IndexByteString"], unfollowed := true, recurses := true, loops := true, apart := false, narrowed := true }
def ScopeArityUptoSaid : Prop := scopeArityUptoRow.holds Try.pinned (OpenSpec.upto scopeAritySpec)

/-- 'backsteplaw06.ScopeOrder', WHERE WHAT IT READS IS OF BULK AT MOST 1048576: true; the input reads as it did. -/
def scopeOrderUptoRow : OpenClaim := { program := "ytjikokmhknnnoaa", sum := "93038782357ec02e714eb336c99348b9437de86c6bb1d46efcf8c2f2b632a68d", func := "backstep/backsteplaw06.ScopeOrder", spec := "scopeOrder", inPlace := ["internal/bytealg.IndexByteString"], unfollowed := true, recurses := true, loops := true, apart := false, narrowed := true }
def ScopeOrderUptoSaid : Prop := scopeOrderUptoRow.holds Try.pinned (OpenSpec.upto scopeOrderSpec)

/-- 'backsteplaw06.ScopeDrops', WHERE WHAT IT READS IS OF BULK AT MOST 1048576: true; the input reads as it did. -/
def scopeDropsUptoRow : OpenClaim := { program := "ytjikokmhknnnoaa", sum := "93038782357ec02e714eb336c99348b9437de86c6bb1d46efcf8c2f2b632a68d", func := "backstep/backsteplaw06.ScopeDrops", spec := "scopeDrops", inPlace := ["internal/bytealg.IndexByteString"], unfollowed := true, recurses := true, loops := true, apart := false, narrowed := true }
def ScopeDropsUptoSaid : Prop := scopeDropsUptoRow.holds Try.pinned (OpenSpec.upto scopeDropsSpec)

/-- 'backsteplaw06.ScopeVisible', WHERE WHAT IT READS IS OF BULK AT MOST 1048576: true; the input reads as it did. -/
def scopeVisibleUptoRow : OpenClaim := { program := "ytjikokmhknnnoaa", sum := "93038782357ec02e714eb336c99348b9437de86c6bb1d46efcf8c2f2b632a68d", func := "backstep/backsteplaw06.ScopeVisible", spec := "scopeVisible", inPlace := ["internal/bytealg.IndexByteString"], unfollowed := true, recurses := true, loops := true, apart := false, narrowed := true }
def ScopeVisibleUptoSaid : Prop := scopeVisibleUptoRow.holds Try.pinned (OpenSpec.upto scopeVisibleSpec)

/-- 'backsteplaw06.ScopeLocal', WHERE WHAT IT READS IS OF BULK AT MOST 1048576: true; the input reads as it did. -/
def scopeLocalUptoRow : OpenClaim := { program := "ytjikokmhknnnoaa", sum := "93038782357ec02e714eb336c99348b9437de86c6bb1d46efcf8c2f2b632a68d", func := "backstep/backsteplaw06.ScopeLocal", spec := "scopeLocal", inPlace := ["internal/bytealg.IndexByteString"], unfollowed := true, recurses := true, loops := true, apart := false, narrowed := true }
def ScopeLocalUptoSaid : Prop := scopeLocalUptoRow.holds Try.pinned (OpenSpec.upto scopeLocalSpec)

end Rows
end Go.Proofs.Ytjikokmhknnnoaa
