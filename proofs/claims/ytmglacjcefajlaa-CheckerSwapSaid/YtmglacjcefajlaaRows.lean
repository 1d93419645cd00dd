/-
  NARROWER THAN 'FOR EVERY INPUT', by the rows' own cells (each row's printed sentence says how): CheckerLists: loops · CheckerOK: loops · CheckerLocal: loops · CheckerUpdates: loops · CheckerMends: loops · CheckerSwap: loops · CheckerProcs: loops · CheckerPaths: loops.
  DERIVED. THE GIVEN ROWS OF THIS SEAT. 8 by the template 'for every input the law returns true; each argument reads behind the call as it read before'; 0 by the template 'total and deterministic' (their statements: YtmglacjcefajlaaTotals.lean).
  GIVEN WITH THE SEED: the statements are not yours to turn. If you find one false, say at which input.
  Laid BY PROGRAM, IN A SANDBOX (cutbox-rows.mjs): the forced cells as the released guide's own fill.sh prints them over the translation 0fde78b598d58980… (all of the seat's roots in one cut). By AI agents, Wed Nov 11 2026. No macro, syntax, notation, axiom, sorry.
-/
import Derived.Test.YtmglacjcefajlaaChecked
import GoSem.Claim
import GoSem.ClaimJoined
import GoSem.ClaimMapViews
import Derived.JoinedTies
import Derived.KernelRfl
namespace Go.Proofs.Ytmglacjcefajlaa
/- THE CELL 'sum', in the pinned program and in every row, IS THE sha256 OF THE DUMP (.gsa) THAT YtmglacjcefajlaaProg.lean LOADS. Nothing in Lean hashes anything: it is a label: what it is worth is what the hold of that sum in a sandbox is worth. -/
noncomputable def Try.pinned : Pinned := { name := "ytmglacjcefajlaa", sum := "0fde78b598d58980b0f3f7c55826f47a17f57ea636c1e3719e285b18c6c48342", checked := Try.checked }
namespace Rows
def none {H : Type} : Left H := { results := [], args := [] }

/-- 'backsteplaw09.CheckerLists': WHATEVER THE INPUT: true; the input reads as it did. -/
def checkerListsSpec : ChangeSpec := { name := "checkerLists", fn := fun _ => fun
  | [d] => { results := [.lit (.bool true)], args := [d] }
  | _ => none }
def checkerListsRow : OpenClaim := { program := "ytmglacjcefajlaa", sum := "0fde78b598d58980b0f3f7c55826f47a17f57ea636c1e3719e285b18c6c48342", func := "backstep/backsteplaw09.CheckerLists", spec := "checkerLists", inPlace := ["internal/bytealg.IndexByteString"], unfollowed := true, recurses := true, loops := true, apart := false }
def CheckerListsSaid : Prop := checkerListsRow.holds Try.pinned (OpenSpec.ofChange checkerListsSpec)

/-- ITS FALSE NEIGHBOUR: 'it returns false'. Refute it at one input. -/
def checkerListsWrong : ChangeSpec := { name := "checkerLists", fn := fun _ => fun
  | [d] => { results := [.lit (.bool false)], args := [d] }
  | _ => none }
def CheckerListsWrongFalsely : Prop := checkerListsRow.holds Try.pinned (OpenSpec.ofChange checkerListsWrong)

/-- 'backsteplaw09.CheckerOK': WHATEVER THE INPUT: true; the input reads as it did. -/
def checkerOKSpec : ChangeSpec := { name := "checkerOK", fn := fun _ => fun
  | [d] => { results := [.lit (.bool true)], args := [d] }
  | _ => none }
def checkerOKRow : OpenClaim := { program := "ytmglacjcefajlaa", sum := "0fde78b598d58980b0f3f7c55826f47a17f57ea636c1e3719e285b18c6c48342", func := "backstep/backsteplaw09.CheckerOK", spec := "checkerOK", inPlace := ["internal/bytealg.IndexByteString"], unfollowed := true, recurses := true, loops := true, apart := false }
def CheckerOKSaid : Prop := checkerOKRow.holds Try.pinned (OpenSpec.ofChange checkerOKSpec)

/-- ITS FALSE NEIGHBOUR: 'it returns false'. Refute it at one input. -/
def checkerOKWrong : ChangeSpec := { name := "checkerOK", fn := fun _ => fun
  | [d] => { results := [.lit (.bool false)], args := [d] }
  | _ => none }
def CheckerOKWrongFalsely : Prop := checkerOKRow.holds Try.pinned (OpenSpec.ofChange checkerOKWrong)

/-- 'backsteplaw09.CheckerLocal': WHATEVER THE INPUT: true; the input reads as it did. -/
def checkerLocalSpec : ChangeSpec := { name := "checkerLocal", fn := fun _ => fun
  | [d1, d2] => { results := [.lit (.bool true)], args := [d1, d2] }
  | _ => none }
def checkerLocalRow : OpenClaim := { program := "ytmglacjcefajlaa", sum := "0fde78b598d58980b0f3f7c55826f47a17f57ea636c1e3719e285b18c6c48342", func := "backstep/backsteplaw09.CheckerLocal", spec := "checkerLocal", inPlace := ["internal/bytealg.IndexByteString"], unfollowed := true, recurses := true, loops := true, apart := false }
def CheckerLocalSaid : Prop := checkerLocalRow.holds Try.pinned (OpenSpec.ofChange checkerLocalSpec)

/-- ITS FALSE NEIGHBOUR: 'it returns false'. Refute it at one input. -/
def checkerLocalWrong : ChangeSpec := { name := "checkerLocal", fn := fun _ => fun
  | [d1, d2] => { results := [.lit (.bool false)], args := [d1, d2] }
  | _ => none }
def CheckerLocalWrongFalsely : Prop := checkerLocalRow.holds Try.pinned (OpenSpec.ofChange checkerLocalWrong)

/-- 'backsteplaw09.CheckerUpdates': WHATEVER THE INPUT: true; the input reads as it did. -/
def checkerUpdatesSpec : ChangeSpec := { name := "checkerUpdates", fn := fun _ => fun
  | [d1, d2] => { results := [.lit (.bool true)], args := [d1, d2] }
  | _ => none }
def checkerUpdatesRow : OpenClaim := { program := "ytmglacjcefajlaa", sum := "0fde78b598d58980b0f3f7c55826f47a17f57ea636c1e3719e285b18c6c48342", func := "backstep/backsteplaw09.CheckerUpdates", spec := "checkerUpdates", inPlace := ["internal/bytealg.IndexByteString"], unfollowed := true, recurses := true, loops := true, apart := false }
def CheckerUpdatesSaid : Prop := checkerUpdatesRow.holds Try.pinned (OpenSpec.ofChange checkerUpdatesSpec)

/-- ITS FALSE NEIGHBOUR: 'it returns false'. Refute it at one input. -/
def checkerUpdatesWrong : ChangeSpec := { name := "checkerUpdates", fn := fun _ => fun
  | [d1, d2] => { results := [.lit (.bool false)], args := [d1, d2] }
  | _ => none }
def CheckerUpdatesWrongFalsely : Prop := checkerUpdatesRow.holds Try.pinned (OpenSpec.ofChange checkerUpdatesWrong)

/-- 'backsteplaw09.CheckerMends': WHATEVER THE INPUT: true; the input reads as it did. -/
def checkerMendsSpec : ChangeSpec := { name := "checkerMends", fn := fun _ => fun
  | [d] => { results := [.lit (.bool true)], args := [d] }
  | _ => none }
def checkerMendsRow : OpenClaim := { program := "ytmglacjcefajlaa", sum := "0fde78b598d58980b0f3f7c55826f47a17f57ea636c1e3719e285b18c6c48342", func := "backstep/backsteplaw09.CheckerMends", spec := "checkerMends", inPlace := ["internal/bytealg.IndexByteString"], unfollowed := true, recurses := true, loops := true, apart := false }
def CheckerMendsSaid : Prop := checkerMendsRow.holds Try.pinned (OpenSpec.ofChange checkerMendsSpec)

/-- ITS FALSE NEIGHBOUR: 'it returns false'. Refute it at one input. -/
def checkerMendsWrong : ChangeSpec := { name := "checkerMends", fn := fun _ => fun
  | [d] => { results := [.lit (.bool false)], args := [d] }
  | _ => none }
def CheckerMendsWrongFalsely : Prop := checkerMendsRow.holds Try.pinned (OpenSpec.ofChange checkerMendsWrong)

/-- 'backsteplaw09.CheckerSwap': WHATEVER THE INPUT: true; the input reads as it did. -/
def checkerSwapSpec : ChangeSpec := { name := "checkerSwap", fn := fun _ => fun
  | [d] => { results := [.lit (.bool true)], args := [d] }
  | _ => none }
def checkerSwapRow : OpenClaim := { program := "ytmglacjcefajlaa", sum := "0fde78b598d58980b0f3f7c55826f47a17f57ea636c1e3719e285b18c6c48342", func := "backstep/backsteplaw09.CheckerSwap", spec := "checkerSwap", inPlace := ["internal/bytealg.IndexByteString"], unfollowed := true, recurses := true, loops := true, apart := false }
def CheckerSwapSaid : Prop := checkerSwapRow.holds Try.pinned (OpenSpec.ofChange checkerSwapSpec)

/-- ITS FALSE NEIGHBOUR: 'it returns false'. Refute it at one input. -/
def checkerSwapWrong : ChangeSpec := { name := "checkerSwap", fn := fun _ => fun
  | [d] => { results := [.lit (.bool false)], args := [d] }
  | _ => none }
def CheckerSwapWrongFalsely : Prop := checkerSwapRow.holds Try.pinned (OpenSpec.ofChange checkerSwapWrong)

/-- 'backsteplaw09.CheckerProcs': WHATEVER THE INPUT: true; the input reads as it did. -/
def checkerProcsSpec : ChangeSpec := { name := "checkerProcs", fn := fun _ => fun
  | [d1, d2] => { results := [.lit (.bool true)], args := [d1, d2] }
  | _ => none }
def checkerProcsRow : OpenClaim := { program := "ytmglacjcefajlaa", sum := "0fde78b598d58980b0f3f7c55826f47a17f57ea636c1e3719e285b18c6c48342", func := "backstep/backsteplaw09.CheckerProcs", spec := "checkerProcs", inPlace := ["internal/bytealg.IndexByteString"], unfollowed := true, recurses := true, loops := true, apart := false }
def CheckerProcsSaid : Prop := checkerProcsRow.holds Try.pinned (OpenSpec.ofChange checkerProcsSpec)

/-- ITS FALSE NEIGHBOUR: 'it returns false'. Refute it at one input. -/
def checkerProcsWrong : ChangeSpec := { name := "checkerProcs", fn := fun _ => fun
  | [d1, d2] => { results := [.lit (.bool false)], args := [d1, d2] }
  | _ => none }
def CheckerProcsWrongFalsely : Prop := checkerProcsRow.holds Try.pinned (OpenSpec.ofChange checkerProcsWrong)

/-- 'backsteplaw09.CheckerPaths': WHATEVER THE INPUT: true; the input reads as it did. -/
def checkerPathsSpec : ChangeSpec := { name := "checkerPaths", fn := fun _ => fun
  | [d] => { results := [.lit (.bool true)], args := [d] }
  | _ => none }
def checkerPathsRow : OpenClaim := { program := "ytmglacjcefajlaa", sum := "0fde78b598d58980b0f3f7c55826f47a17f57ea636c1e3719e285b18c6c48342", func := "backstep/backsteplaw09.CheckerPaths", spec := "checkerPaths", inPlace := ["internal/bytealg.IndexByteString"], unfollowed := true, recurses := true, loops := true, apart := false }
def CheckerPathsSaid : Prop := checkerPathsRow.holds Try.pinned (OpenSpec.ofChange checkerPathsSpec)

/-- ITS FALSE NEIGHBOUR: 'it returns false'. Refute it at one input. -/
def checkerPathsWrong : ChangeSpec := { name := "checkerPaths", fn := fun _ => fun
  | [d] => { results := [.lit (.bool false)], args := [d] }
  | _ => none }
def CheckerPathsWrongFalsely : Prop := checkerPathsRow.holds Try.pinned (OpenSpec.ofChange checkerPathsWrong)

/- THE SECOND FORM. 'bulk': how many values and letters a reading holds, each counted each time it is reached (what is shared counts as often as it is met; a slice's spare places count too). A statement '..UptoSaid' is the law's where the arguments, and the package variables that the reading takes, are together of bulk at most 1048576: NARROWER than '..Said'. Prove '..Said' where nothing that the law and all that it calls make is longer than what came in: it says more and counts as full. Else prove '..UptoSaid'. A law counts once. -/
mutual
def uptoBulk {H : Type} : DataW H → Nat
  | .lit (.string bytes) => bytes.length + 1
  | .lit _ => 1
  | .nil => 1
  | .ptr d => uptoBulk d + 1
  | .slice elems spare => uptoBulkAll elems + uptoBulkAll spare + 1
  | .agg parts => uptoBulkAll parts + 1
  | .iface _ d => uptoBulk d + 1
  | .map entries => uptoBulkEntries entries + 1
  | .held _ => 1
def uptoBulkAll {H : Type} : List (DataW H) → Nat
  | [] => 0
  | d :: r => uptoBulk d + uptoBulkAll r
def uptoBulkEntries {H : Type} : List (Lit × DataW H) → Nat
  | [] => 0
  | x :: r => uptoBulkEntry x + uptoBulkEntries r
def uptoBulkEntry {H : Type} : Lit × DataW H → Nat
  | (.string bytes, d) => bytes.length + uptoBulk d + 1
  | (_, d) => uptoBulk d + 1
 end
def uptoSmall : (H : Type) → List (DataW H) → Bool := fun _ ds => decide (uptoBulkAll ds ≤ 1048576)
def OpenSpec.upto (s : _root_.Go.ChangeSpec) : _root_.Go.OpenSpec := { _root_.Go.OpenSpec.ofChange s with cond := some uptoSmall }

/-- 'backsteplaw09.CheckerLists', WHERE WHAT IT READS IS OF BULK AT MOST 1048576: true; the input reads as it did. -/
def checkerListsUptoRow : OpenClaim := { program := "ytmglacjcefajlaa", sum := "0fde78b598d58980b0f3f7c55826f47a17f57ea636c1e3719e285b18c6c48342", func := "backstep/backsteplaw09.CheckerLists", spec := "checkerLists", inPlace := ["internal/bytealg.IndexByteString"], unfollowed := true, recurses := true, loops := true, apart := false, narrowed := true }
def CheckerListsUptoSaid : Prop := checkerListsUptoRow.holds Try.pinned (OpenSpec.upto checkerListsSpec)

/-- 'backsteplaw09.CheckerOK', WHERE WHAT IT READS IS OF BULK AT MOST 1048576: true; the input reads as it did. -/
def checkerOKUptoRow : OpenClaim := { program := "ytmglacjcefajlaa", sum := "0fde78b598d58980b0f3f7c55826f47a17f57ea636c1e3719e285b18c6c48342", func := "backstep/backsteplaw09.CheckerOK", spec := "checkerOK", inPlace := ["internal/bytealg.IndexByteString"], unfollowed := true, recurses := true, loops := true, apart := false, narrowed := true }
def CheckerOKUptoSaid : Prop := checkerOKUptoRow.holds Try.pinned (OpenSpec.upto checkerOKSpec)

/-- 'backsteplaw09.CheckerLocal', WHERE WHAT IT READS IS OF BULK AT MOST 1048576: true; the input reads as it did. -/
def checkerLocalUptoRow : OpenClaim := { program := "ytmglacjcefajlaa", sum := "0fde78b598d58980b0f3f7c55826f47a17f57ea636c1e3719e285b18c6c48342", func := "backstep/backsteplaw09.CheckerLocal", spec := "checkerLocal", inPlace := ["internal/bytealg.IndexByteString"], unfollowed := true, recurses := true, loops := true, apart := false, narrowed := true }
def CheckerLocalUptoSaid : Prop := checkerLocalUptoRow.holds Try.pinned (OpenSpec.upto checkerLocalSpec)

/-- 'backsteplaw09.CheckerUpdates', WHERE WHAT IT READS IS OF BULK AT MOST 1048576: true; the input reads as it did. -/
def checkerUpdatesUptoRow : OpenClaim := { program := "ytmglacjcefajlaa", sum := "0fde78b598d58980b0f3f7c55826f47a17f57ea636c1e3719e285b18c6c48342", func := "backstep/backsteplaw09.CheckerUpdates", spec := "checkerUpdates", inPlace := ["internal/bytealg.IndexByteString"], unfollowed := true, recurses := true, loops := true, apart := false, narrowed := true }
def CheckerUpdatesUptoSaid : Prop := checkerUpdatesUptoRow.holds Try.pinned (OpenSpec.upto checkerUpdatesSpec)

/-- 'backsteplaw09.CheckerMends', WHERE WHAT IT READS IS OF BULK AT MOST 1048576: true; the input reads as it did. -/
def checkerMendsUptoRow : OpenClaim := { program := "ytmglacjcefajlaa", sum := "0fde78b598d58980b0f3f7c55826f47a17f57ea636c1e3719e285b18c6c48342", func := "backstep/backsteplaw09.CheckerMends", spec := "checkerMends", inPlace := ["internal/bytealg.IndexByteString"], unfollowed := true, recurses := true, loops := true, apart := false, narrowed := true }
def CheckerMendsUptoSaid : Prop := checkerMendsUptoRow.holds Try.pinned (OpenSpec.upto checkerMendsSpec)

/-- 'backsteplaw09.CheckerSwap', WHERE WHAT IT READS IS OF BULK AT MOST 1048576: true; the input reads as it did. -/
def checkerSwapUptoRow : OpenClaim := { program := "ytmglacjcefajlaa", sum := "0fde78b598d58980b0f3f7c55826f47a17f57ea636c1e3719e285b18c6c48342", func := "backstep/backsteplaw09.CheckerSwap", spec := "checkerSwap", inPlace := ["internal/bytealg.IndexByteString"], unfollowed := true, recurses := true, loops := true, apart := false, narrowed := true }
def CheckerSwapUptoSaid : Prop := checkerSwapUptoRow.holds Try.pinned (OpenSpec.upto checkerSwapSpec)

/-- 'backsteplaw09.CheckerProcs', WHERE WHAT IT READS IS OF BULK AT MOST 1048576: true; the input reads as it did. -/
def checkerProcsUptoRow : OpenClaim := { program := "ytmglacjcefajlaa", sum := "0fde78b598d58980b0f3f7c55826f47a17f57ea636c1e3719e285b18c6c48342", func := "backstep/backsteplaw09.CheckerProcs", spec := "checkerProcs", inPlace := ["internal/bytealg.IndexByteString"], unfollowed := true, recurses := true, loops := true, apart := false, narrowed := true }
def CheckerProcsUptoSaid : Prop := checkerProcsUptoRow.holds Try.pinned (OpenSpec.upto checkerProcsSpec)

/-- 'backsteplaw09.CheckerPaths', WHERE WHAT IT READS IS OF BULK AT MOST 1048576: true; the input reads as it did. -/
def checkerPathsUptoRow : OpenClaim := { program := "ytmglacjcefajlaa", sum := "0fde78b598d58980b0f3f7c55826f47a17f57ea636c1e3719e285b18c6c48342", func := "backstep/backsteplaw09.CheckerPaths", spec := "checkerPaths", inPlace := ["internal/bytealg.IndexByteString"], unfollowed := true, recurses := true, loops := true, apart := false, narrowed := true }
def CheckerPathsUptoSaid : Prop := checkerPathsUptoRow.holds Try.pinned (OpenSpec.upto checkerPathsSpec)

end Rows
end Go.Proofs.Ytmglacjcefajlaa
