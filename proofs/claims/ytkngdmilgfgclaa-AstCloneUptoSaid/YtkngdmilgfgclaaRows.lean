/-
  NARROWER THAN 'FOR EVERY INPUT', by the rows' own cells (each row's printed sentence says how): AstKinds: loops · AstWalk: loops · AstEqual: loops · AstClone: loops · AstClosed: loops · AstAt: loops · AstSame: loops · AstReplace: loops · AstValid: loops · AstLimits: loops.
  DERIVED. THE GIVEN ROWS OF THIS SEAT. 10 by the template 'for every input the law returns true; each argument reads behind the call as it read before'; 0 by the template 'total and deterministic' (their statements: YtkngdmilgfgclaaTotals.lean).
  GIVEN WITH THE SEED: the statements are not yours to turn. If you find one false, say at which input.
  Laid BY PROGRAM, IN A SANDBOX (cutbox-rows.mjs): the forced cells as the released guide's own fill.sh prints them over the translation 81bf83fd14208d0d… (all of the seat's roots in one cut). By AI agents, Wed Nov 11 2026. No macro, syntax, notation, axiom, sorry.
-/
import Derived.Test.YtkngdmilgfgclaaChecked
import GoSem.Claim
import GoSem.ClaimJoined
import GoSem.ClaimMapViews
import Derived.JoinedTies
import Derived.KernelRfl
namespace Go.Proofs.Ytkngdmilgfgclaa
/- THE CELL 'sum', in the pinned program and in every row, IS THE sha256 OF THE DUMP (.gsa) THAT YtkngdmilgfgclaaProg.lean LOADS. Nothing in Lean hashes anything: it is a label: what it is worth is what the hold of that sum in a sandbox is worth. -/
noncomputable def Try.pinned : Pinned := { name := "ytkngdmilgfgclaa", sum := "81bf83fd14208d0dee821813205728d339ca5da53b6771152c3990dd594ab7c7", checked := Try.checked }
namespace Rows
def none {H : Type} : Left H := { results := [], args := [] }

/-- 'backsteplaw03.AstKinds': WHATEVER THE INPUT: true; the input reads as it did. -/
def astKindsSpec : ChangeSpec := { name := "astKinds", fn := fun _ => fun
  | [d] => { results := [.lit (.bool true)], args := [d] }
  | _ => none }
def astKindsRow : OpenClaim := { program := "ytkngdmilgfgclaa", sum := "81bf83fd14208d0dee821813205728d339ca5da53b6771152c3990dd594ab7c7", func := "backstep/backsteplaw03.AstKinds", spec := "astKinds", inPlace := ["internal/bytealg.IndexByteString"], unfollowed := true, recurses := true, loops := true, apart := false }
def AstKindsSaid : Prop := astKindsRow.holds Try.pinned (OpenSpec.ofChange astKindsSpec)

/-- ITS FALSE NEIGHBOUR: 'it returns false'. Refute it at one input. -/
def astKindsWrong : ChangeSpec := { name := "astKinds", fn := fun _ => fun
  | [d] => { results := [.lit (.bool false)], args := [d] }
  | _ => none }
def AstKindsWrongFalsely : Prop := astKindsRow.holds Try.pinned (OpenSpec.ofChange astKindsWrong)

/-- 'backsteplaw03.AstWalk': WHATEVER THE INPUT: true; the input reads as it did. -/
def astWalkSpec : ChangeSpec := { name := "astWalk", fn := fun _ => fun
  | [d1, d2] => { results := [.lit (.bool true)], args := [d1, d2] }
  | _ => none }
def astWalkRow : OpenClaim := { program := "ytkngdmilgfgclaa", sum := "81bf83fd14208d0dee821813205728d339ca5da53b6771152c3990dd594ab7c7", func := "backstep/backsteplaw03.AstWalk", spec := "astWalk", inPlace := ["internal/bytealg.IndexByteString"], unfollowed := true, recurses := true, loops := true, apart := false }
def AstWalkSaid : Prop := astWalkRow.holds Try.pinned (OpenSpec.ofChange astWalkSpec)

/-- ITS FALSE NEIGHBOUR: 'it returns false'. Refute it at one input. -/
def astWalkWrong : ChangeSpec := { name := "astWalk", fn := fun _ => fun
  | [d1, d2] => { results := [.lit (.bool false)], args := [d1, d2] }
  | _ => none }
def AstWalkWrongFalsely : Prop := astWalkRow.holds Try.pinned (OpenSpec.ofChange astWalkWrong)

/-- 'backsteplaw03.AstEqual': WHATEVER THE INPUT: true; the input reads as it did. -/
def astEqualSpec : ChangeSpec := { name := "astEqual", fn := fun _ => fun
  | [d1, d2, d3] => { results := [.lit (.bool true)], args := [d1, d2, d3] }
  | _ => none }
def astEqualRow : OpenClaim := { program := "ytkngdmilgfgclaa", sum := "81bf83fd14208d0dee821813205728d339ca5da53b6771152c3990dd594ab7c7", func := "backstep/backsteplaw03.AstEqual", spec := "astEqual", inPlace := ["internal/bytealg.IndexByteString"], unfollowed := true, recurses := true, loops := true, apart := false }
def AstEqualSaid : Prop := astEqualRow.holds Try.pinned (OpenSpec.ofChange astEqualSpec)

/-- ITS FALSE NEIGHBOUR: 'it returns false'. Refute it at one input. -/
def astEqualWrong : ChangeSpec := { name := "astEqual", fn := fun _ => fun
  | [d1, d2, d3] => { results := [.lit (.bool false)], args := [d1, d2, d3] }
  | _ => none }
def AstEqualWrongFalsely : Prop := astEqualRow.holds Try.pinned (OpenSpec.ofChange astEqualWrong)

/-- 'backsteplaw03.AstClone': WHATEVER THE INPUT: true; the input reads as it did. -/
def astCloneSpec : ChangeSpec := { name := "astClone", fn := fun _ => fun
  | [d1, d2] => { results := [.lit (.bool true)], args := [d1, d2] }
  | _ => none }
def astCloneRow : OpenClaim := { program := "ytkngdmilgfgclaa", sum := "81bf83fd14208d0dee821813205728d339ca5da53b6771152c3990dd594ab7c7", func := "backstep/backsteplaw03.AstClone", spec := "astClone", inPlace := ["internal/bytealg.IndexByteString"], unfollowed := true, recurses := true, loops := true, apart := false }
def AstCloneSaid : Prop := astCloneRow.holds Try.pinned (OpenSpec.ofChange astCloneSpec)

/-- ITS FALSE NEIGHBOUR: 'it returns false'. Refute it at one input. -/
def astCloneWrong : ChangeSpec := { name := "astClone", fn := fun _ => fun
  | [d1, d2] => { results := [.lit (.bool false)], args := [d1, d2] }
  | _ => none }
def AstCloneWrongFalsely : Prop := astCloneRow.holds Try.pinned (OpenSpec.ofChange astCloneWrong)

/-- 'backsteplaw03.AstClosed': WHATEVER THE INPUT: true; the input reads as it did. -/
def astClosedSpec : ChangeSpec := { name := "astClosed", fn := fun _ => fun
  | [d1, d2, d3, d4] => { results := [.lit (.bool true)], args := [d1, d2, d3, d4] }
  | _ => none }
def astClosedRow : OpenClaim := { program := "ytkngdmilgfgclaa", sum := "81bf83fd14208d0dee821813205728d339ca5da53b6771152c3990dd594ab7c7", func := "backstep/backsteplaw03.AstClosed", spec := "astClosed", inPlace := ["internal/bytealg.IndexByteString"], unfollowed := true, recurses := true, loops := true, apart := false }
def AstClosedSaid : Prop := astClosedRow.holds Try.pinned (OpenSpec.ofChange astClosedSpec)

/-- ITS FALSE NEIGHBOUR: 'it returns false'. Refute it at one input. -/
def astClosedWrong : ChangeSpec := { name := "astClosed", fn := fun _ => fun
  | [d1, d2, d3, d4] => { results := [.lit (.bool false)], args := [d1, d2, d3, d4] }
  | _ => none }
def AstClosedWrongFalsely : Prop := astClosedRow.holds Try.pinned (OpenSpec.ofChange astClosedWrong)

/-- 'backsteplaw03.AstAt': WHATEVER THE INPUT: true; the input reads as it did. -/
def astAtSpec : ChangeSpec := { name := "astAt", fn := fun _ => fun
  | [d1, d2, d3] => { results := [.lit (.bool true)], args := [d1, d2, d3] }
  | _ => none }
def astAtRow : OpenClaim := { program := "ytkngdmilgfgclaa", sum := "81bf83fd14208d0dee821813205728d339ca5da53b6771152c3990dd594ab7c7", func := "backstep/backsteplaw03.AstAt", spec := "astAt", inPlace := ["internal/bytealg.IndexByteString"], unfollowed := true, recurses := true, loops := true, apart := false }
def AstAtSaid : Prop := astAtRow.holds Try.pinned (OpenSpec.ofChange astAtSpec)

/-- ITS FALSE NEIGHBOUR: 'it returns false'. Refute it at one input. -/
def astAtWrong : ChangeSpec := { name := "astAt", fn := fun _ => fun
  | [d1, d2, d3] => { results := [.lit (.bool false)], args := [d1, d2, d3] }
  | _ => none }
def AstAtWrongFalsely : Prop := astAtRow.holds Try.pinned (OpenSpec.ofChange astAtWrong)

/-- 'backsteplaw03.AstSame': WHATEVER THE INPUT: true; the input reads as it did. -/
def astSameSpec : ChangeSpec := { name := "astSame", fn := fun _ => fun
  | [d1, d2] => { results := [.lit (.bool true)], args := [d1, d2] }
  | _ => none }
def astSameRow : OpenClaim := { program := "ytkngdmilgfgclaa", sum := "81bf83fd14208d0dee821813205728d339ca5da53b6771152c3990dd594ab7c7", func := "backstep/backsteplaw03.AstSame", spec := "astSame", inPlace := ["internal/bytealg.IndexByteString"], unfollowed := true, recurses := true, loops := true, apart := false }
def AstSameSaid : Prop := astSameRow.holds Try.pinned (OpenSpec.ofChange astSameSpec)

/-- ITS FALSE NEIGHBOUR: 'it returns false'. Refute it at one input. -/
def astSameWrong : ChangeSpec := { name := "astSame", fn := fun _ => fun
  | [d1, d2] => { results := [.lit (.bool false)], args := [d1, d2] }
  | _ => none }
def AstSameWrongFalsely : Prop := astSameRow.holds Try.pinned (OpenSpec.ofChange astSameWrong)

/-- 'backsteplaw03.AstReplace': WHATEVER THE INPUT: true; the input reads as it did. -/
def astReplaceSpec : ChangeSpec := { name := "astReplace", fn := fun _ => fun
  | [d1, d2, d3] => { results := [.lit (.bool true)], args := [d1, d2, d3] }
  | _ => none }
def astReplaceRow : OpenClaim := { program := "ytkngdmilgfgclaa", sum := "81bf83fd14208d0dee821813205728d339ca5da53b6771152c3990dd594ab7c7", func := "backstep/backsteplaw03.AstReplace", spec := "astReplace", inPlace := ["internal/bytealg.IndexByteString"], unfollowed := true, recurses := true, loops := true, apart := false }
def AstReplaceSaid : Prop := astReplaceRow.holds Try.pinned (OpenSpec.ofChange astReplaceSpec)

/-- ITS FALSE NEIGHBOUR: 'it returns false'. Refute it at one input. -/
def astReplaceWrong : ChangeSpec := { name := "astReplace", fn := fun _ => fun
  | [d1, d2, d3] => { results := [.lit (.bool false)], args := [d1, d2, d3] }
  | _ => none }
def AstReplaceWrongFalsely : Prop := astReplaceRow.holds Try.pinned (OpenSpec.ofChange astReplaceWrong)

/-- 'backsteplaw03.AstValid': WHATEVER THE INPUT: true; the input reads as it did. -/
def astValidSpec : ChangeSpec := { name := "astValid", fn := fun _ => fun
  | [d] => { results := [.lit (.bool true)], args := [d] }
  | _ => none }
def astValidRow : OpenClaim := { program := "ytkngdmilgfgclaa", sum := "81bf83fd14208d0dee821813205728d339ca5da53b6771152c3990dd594ab7c7", func := "backstep/backsteplaw03.AstValid", spec := "astValid", inPlace := ["internal/bytealg.IndexByteString"], unfollowed := true, recurses := true, loops := true, apart := false }
def AstValidSaid : Prop := astValidRow.holds Try.pinned (OpenSpec.ofChange astValidSpec)

/-- ITS FALSE NEIGHBOUR: 'it returns false'. Refute it at one input. -/
def astValidWrong : ChangeSpec := { name := "astValid", fn := fun _ => fun
  | [d] => { results := [.lit (.bool false)], args := [d] }
  | _ => none }
def AstValidWrongFalsely : Prop := astValidRow.holds Try.pinned (OpenSpec.ofChange astValidWrong)

/-- 'backsteplaw03.AstLimits': WHATEVER THE INPUT: true; the input reads as it did. -/
def astLimitsSpec : ChangeSpec := { name := "astLimits", fn := fun _ => fun
  | [d1, d2] => { results := [.lit (.bool true)], args := [d1, d2] }
  | _ => none }
def astLimitsRow : OpenClaim := { program := "ytkngdmilgfgclaa", sum := "81bf83fd14208d0dee821813205728d339ca5da53b6771152c3990dd594ab7c7", func := "backstep/backsteplaw03.AstLimits", spec := "astLimits", inPlace := ["internal/bytealg.IndexByteString"], unfollowed := true, recurses := true, loops := true, apart := false }
def AstLimitsSaid : Prop := astLimitsRow.holds Try.pinned (OpenSpec.ofChange astLimitsSpec)

/-- ITS FALSE NEIGHBOUR: 'it returns false'. Refute it at one input. -/
def astLimitsWrong : ChangeSpec := { name := "astLimits", fn := fun _ => fun
  | [d1, d2] => { results := [.lit (.bool false)], args := [d1, d2] }
  | _ => none }
def AstLimitsWrongFalsely : Prop := astLimitsRow.holds Try.pinned (OpenSpec.ofChange astLimitsWrong)

/- THE SECOND FORM. 'bulk': how many values and letters a reading holds, each counted each time it is reached (what is shared counts as often as it is met; a slice's spare places count too). A statement '..UptoSaid' is the law's where the arguments, and the package variables that the reading takes, are together of bulk at most 1048576: NARROWER than '..Said'. Prove '..Said' where nothing that the law and all that it calls make is longer than what came in: it says more and counts as full. Else prove '..UptoSaid'. A law counts once. -/
mutual
def uptoBulk {H : Type} : DataW H → Nat
  | .lit (.string bytes) => bytes.length + 1
  | .lit _ => 1
  | .nil => 1
  | .ptr d => uptoBulk d + 1
  | .slice elems spare => uptoBulkAll elems + uptoBulkAll spare + 1
  | .agg parts => uptoBulkAll parts + 1
  | .iface _ d => uptoBulk d + 1
  | .map entries => uptoBulkEntries entries + 1
  | .held _ => 1
def uptoBulkAll {H : Type} : List (DataW H) → Nat
  | [] => 0
  | d :: r => uptoBulk d + uptoBulkAll r
def uptoBulkEntries {H : Type} : List (Lit × DataW H) → Nat
  | [] => 0
  | x :: r => uptoBulkEntry x + uptoBulkEntries r
def uptoBulkEntry {H : Type} : Lit × DataW H → Nat
  | (.string bytes, d) => bytes.length + uptoBulk d + 1
  | (_, d) => uptoBulk d + 1
 end
def uptoSmall : (H : Type) → List (DataW H) → Bool := fun _ ds => decide (uptoBulkAll ds ≤ 1048576)
def OpenSpec.upto (s : _root_.Go.ChangeSpec) : _root_.Go.OpenSpec := { _root_.Go.OpenSpec.ofChange s with cond := some uptoSmall }

/-- 'backsteplaw03.AstKinds', WHERE WHAT IT READS IS OF BULK AT MOST 1048576: true; the input reads as it did. -/
def astKindsUptoRow : OpenClaim := { program := "ytkngdmilgfgclaa", sum := "81bf83fd14208d0dee821813205728d339ca5da53b6771152c3990dd594ab7c7", func := "backstep/backsteplaw03.AstKinds", spec := "astKinds", inPlace := ["internal/bytealg.IndexByteString"], unfollowed := true, recurses := true, loops := true, apart := false, narrowed := true }
def AstKindsUptoSaid : Prop := astKindsUptoRow.holds Try.pinned (OpenSpec.upto astKindsSpec)

/-- 'backsteplaw03.AstWalk', WHERE WHAT IT READS IS OF BULK AT MOST 1048576: true; the input reads as it did. -/
def astWalkUptoRow : OpenClaim := { program := "ytkngdmilgfgclaa", sum := "81bf83fd14208d0dee821813205728d339ca5da53b6771152c3990dd594ab7c7", func := "backstep/backsteplaw03.AstWalk", spec := "astWalk", inPlace := ["internal/bytealg.IndexByteString"], unfollowed := true, recurses := true, loops := true, apart := false, narrowed := true }
def AstWalkUptoSaid : Prop := astWalkUptoRow.holds Try.pinned (OpenSpec.upto astWalkSpec)

/-- 'backsteplaw03.AstEqual', WHERE WHAT IT READS IS OF BULK AT MOST 1048576: true; the input reads as it did. -/
def astEqualUptoRow : OpenClaim := { program := "ytkngdmilgfgclaa", sum := "81bf83fd14208d0dee821813205728d339ca5da53b6771152c3990dd594ab7c7", func := "backstep/backsteplaw03.AstEqual", spec := "astEqual", inPlace := ["internal/bytealg.IndexByteString"], unfollowed := true, recurses := true, loops := true, apart := false, narrowed := true }
def AstEqualUptoSaid : Prop := astEqualUptoRow.holds Try.pinned (OpenSpec.upto astEqualSpec)

/-- 'backsteplaw03.AstClone', WHERE WHAT IT READS IS OF BULK AT MOST 1048576: true; the input reads as it did. -/
def astCloneUptoRow : OpenClaim := { program := "ytkngdmilgfgclaa", sum := "81bf83fd14208d0dee821813205728d339ca5da53b6771152c3990dd594ab7c7", func := "backstep/backsteplaw03.AstClone", spec := "astClone", inPlace := ["internal/bytealg.IndexByteString"], unfollowed := true, recurses := true, loops := true, apart := false, narrowed := true }
def AstCloneUptoSaid : Prop := astCloneUptoRow.holds Try.pinned (OpenSpec.upto astCloneSpec)

/-- 'backsteplaw03.AstClosed', WHERE WHAT IT READS IS OF BULK AT MOST 1048576: true; the input reads as it did. -/
def astClosedUptoRow : OpenClaim := { program := "ytkngdmilgfgclaa", sum := "81bf83fd14208d0dee821813205728d339ca5da53b6771152c3990dd594ab7c7", func := "backstep/backsteplaw03.AstClosed", spec := "astClosed", inPlace := ["internal/bytealg.IndexByteString"], unfollowed := true, recurses := true, loops := true, apart := false, narrowed := true }
def AstClosedUptoSaid : Prop := astClosedUptoRow.holds Try.pinned (OpenSpec.upto astClosedSpec)

/-- 'backsteplaw03.AstAt', WHERE WHAT IT READS IS OF BULK AT MOST 1048576: true; the input reads as it did. -/
def astAtUptoRow : OpenClaim := { program := "ytkngdmilgfgclaa", sum := "81bf83fd14208d0dee821813205728d339ca5da53b6771152c3990dd594ab7c7", func := "backstep/backsteplaw03.AstAt", spec := "astAt", inPlace := ["internal/bytealg.IndexByteString"], unfollowed := true, recurses := true, loops := true, apart := false, narrowed := true }
def AstAtUptoSaid : Prop := astAtUptoRow.holds Try.pinned (OpenSpec.upto astAtSpec)

/-- 'backsteplaw03.AstSame', WHERE WHAT IT READS IS OF BULK AT MOST 1048576: true; the input reads as it did. -/
def astSameUptoRow : OpenClaim := { program := "ytkngdmilgfgclaa", sum := "81bf83fd14208d0dee821813205728d339ca5da53b6771152c3990dd594ab7c7", func := "backstep/backsteplaw03.AstSame", spec := "astSame", inPlace := ["internal/bytealg.IndexByteString"], unfollowed := true, recurses := true, loops := true, apart := false, narrowed := true }
def AstSameUptoSaid : Prop := astSameUptoRow.holds Try.pinned (OpenSpec.upto astSameSpec)

/-- 'backsteplaw03.AstReplace', WHERE WHAT IT READS IS OF BULK AT MOST 1048576: true; the input reads as it did. -/
def astReplaceUptoRow : OpenClaim := { program := "ytkngdmilgfgclaa", sum := "81bf83fd14208d0dee821813205728d339ca5da53b6771152c3990dd594ab7c7", func := "backstep/backsteplaw03.AstReplace", spec := "astReplace", inPlace := ["internal/bytealg.IndexByteString"], unfollowed := true, recurses := true, loops := true, apart := false, narrowed := true }
def AstReplaceUptoSaid : Prop := astReplaceUptoRow.holds Try.pinned (OpenSpec.upto astReplaceSpec)

/-- 'backsteplaw03.AstValid', WHERE WHAT IT READS IS OF BULK AT MOST 1048576: true; the input reads as it did. -/
def astValidUptoRow : OpenClaim := { program := "ytkngdmilgfgclaa", sum := "81bf83fd14208d0dee821813205728d339ca5da53b6771152c3990dd594ab7c7", func := "backstep/backsteplaw03.AstValid", spec := "astValid", inPlace := ["internal/bytealg.IndexByteString"], unfollowed := true, recurses := true, loops := true, apart := false, narrowed := true }
def AstValidUptoSaid : Prop := astValidUptoRow.holds Try.pinned (OpenSpec.upto astValidSpec)

/-- 'backsteplaw03.AstLimits', WHERE WHAT IT READS IS OF BULK AT MOST 1048576: true; the input reads as it did. -/
def astLimitsUptoRow : OpenClaim := { program := "ytkngdmilgfgclaa", sum := "81bf83fd14208d0dee821813205728d339ca5da53b6771152c3990dd594ab7c7", func := "backstep/backsteplaw03.AstLimits", spec := "astLimits", inPlace := ["internal/bytealg.IndexByteString"], unfollowed := true, recurses := true, loops := true, apart := false, narrowed := true }
def AstLimitsUptoSaid : Prop := astLimitsUptoRow.holds Try.pinned (OpenSpec.upto astLimitsSpec)

end Rows
end Go.Proofs.Ytkngdmilgfgclaa
