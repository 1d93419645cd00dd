/-
  NARROWER THAN 'FOR EVERY INPUT', by the rows' own cells (each row's printed sentence says how): EffectsReads: loops · EffectsWrites: loops · EffectsIndependent: loops · EffectsUnion: loops · EffectsLocal: loops · EffectsSorted: loops · EffectsCalls: loops · EffectsReach: loops.
  DERIVED. THE GIVEN ROWS OF THIS SEAT. 8 by the template 'for every input the law returns true; each argument reads behind the call as it read before'; 0 by the template 'total and deterministic' (their statements: YtkkhjpkkjpcbmaaTotals.lean).
  GIVEN WITH THE SEED: the statements are not yours to turn. If you find one false, say at which input.
  Laid BY PROGRAM, IN A SANDBOX (cutbox-rows.mjs): the forced cells as the released guide's own fill.sh prints them over the translation 9f4a58c1371ff660… (all of the seat's roots in one cut). By AI agents, Wed Nov 11 2026. No macro, syntax, notation, axiom, sorry.
-/
import Derived.Test.YtkkhjpkkjpcbmaaChecked
import GoSem.Claim
import GoSem.ClaimJoined
import GoSem.ClaimMapViews
import Derived.JoinedTies
import Derived.KernelRfl
namespace Go.Proofs.Ytkkhjpkkjpcbmaa
/- THE CELL 'sum', in the pinned program and in every row, IS THE sha256 OF THE DUMP (.gsa) THAT YtkkhjpkkjpcbmaaProg.lean LOADS. Nothing in Lean hashes anything: it is a label: what it is worth is what the hold of that sum in a sandbox is worth. -/
noncomputable def Try.pinned : Pinned := { name := "ytkkhjpkkjpcbmaa", sum := "9f4a58c1371ff660144459368b17578bebfcbaec525c5a080fa2e8a2a17c7eb7", checked := Try.checked }
namespace Rows
def none {H : Type} : Left H := { results := [], args := [] }

/-- 'backsteplaw08.EffectsReads': WHATEVER THE INPUT: true; the input reads as it did. -/
def effectsReadsSpec : ChangeSpec := { name := "effectsReads", fn := fun _ => fun
  | [d] => { results := [.lit (.bool true)], args := [d] }
  | _ => none }
def effectsReadsRow : OpenClaim := { program := "ytkkhjpkkjpcbmaa", sum := "9f4a58c1371ff660144459368b17578bebfcbaec525c5a080fa2e8a2a17c7eb7", func := "backstep/backsteplaw08.EffectsReads", spec := "effectsReads", unfollowed := true, recurses := true, loops := true, apart := false }
def EffectsReadsSaid : Prop := effectsReadsRow.holds Try.pinned (OpenSpec.ofChange effectsReadsSpec)

/-- ITS FALSE NEIGHBOUR: 'it returns false'. Refute it at one input. -/
def effectsReadsWrong : ChangeSpec := { name := "effectsReads", fn := fun _ => fun
  | [d] => { results := [.lit (.bool false)], args := [d] }
  | _ => none }
def EffectsReadsWrongFalsely : Prop := effectsReadsRow.holds Try.pinned (OpenSpec.ofChange effectsReadsWrong)

/-- 'backsteplaw08.EffectsWrites': WHATEVER THE INPUT: true; the input reads as it did. -/
def effectsWritesSpec : ChangeSpec := { name := "effectsWrites", fn := fun _ => fun
  | [d] => { results := [.lit (.bool true)], args := [d] }
  | _ => none }
def effectsWritesRow : OpenClaim := { program := "ytkkhjpkkjpcbmaa", sum := "9f4a58c1371ff660144459368b17578bebfcbaec525c5a080fa2e8a2a17c7eb7", func := "backstep/backsteplaw08.EffectsWrites", spec := "effectsWrites", unfollowed := true, recurses := true, loops := true, apart := false }
def EffectsWritesSaid : Prop := effectsWritesRow.holds Try.pinned (OpenSpec.ofChange effectsWritesSpec)

/-- ITS FALSE NEIGHBOUR: 'it returns false'. Refute it at one input. -/
def effectsWritesWrong : ChangeSpec := { name := "effectsWrites", fn := fun _ => fun
  | [d] => { results := [.lit (.bool false)], args := [d] }
  | _ => none }
def EffectsWritesWrongFalsely : Prop := effectsWritesRow.holds Try.pinned (OpenSpec.ofChange effectsWritesWrong)

/-- 'backsteplaw08.EffectsIndependent': WHATEVER THE INPUT: true; the input reads as it did. -/
def effectsIndependentSpec : ChangeSpec := { name := "effectsIndependent", fn := fun _ => fun
  | [d1, d2] => { results := [.lit (.bool true)], args := [d1, d2] }
  | _ => none }
def effectsIndependentRow : OpenClaim := { program := "ytkkhjpkkjpcbmaa", sum := "9f4a58c1371ff660144459368b17578bebfcbaec525c5a080fa2e8a2a17c7eb7", func := "backstep/backsteplaw08.EffectsIndependent", spec := "effectsIndependent", unfollowed := true, recurses := true, loops := true, apart := false }
def EffectsIndependentSaid : Prop := effectsIndependentRow.holds Try.pinned (OpenSpec.ofChange effectsIndependentSpec)

/-- ITS FALSE NEIGHBOUR: 'it returns false'. Refute it at one input. -/
def effectsIndependentWrong : ChangeSpec := { name := "effectsIndependent", fn := fun _ => fun
  | [d1, d2] => { results := [.lit (.bool false)], args := [d1, d2] }
  | _ => none }
def EffectsIndependentWrongFalsely : Prop := effectsIndependentRow.holds Try.pinned (OpenSpec.ofChange effectsIndependentWrong)

/-- 'backsteplaw08.EffectsUnion': WHATEVER THE INPUT: true; the input reads as it did. -/
def effectsUnionSpec : ChangeSpec := { name := "effectsUnion", fn := fun _ => fun
  | [d1, d2] => { results := [.lit (.bool true)], args := [d1, d2] }
  | _ => none }
def effectsUnionRow : OpenClaim := { program := "ytkkhjpkkjpcbmaa", sum := "9f4a58c1371ff660144459368b17578bebfcbaec525c5a080fa2e8a2a17c7eb7", func := "backstep/backsteplaw08.EffectsUnion", spec := "effectsUnion", unfollowed := true, recurses := true, loops := true, apart := false }
def EffectsUnionSaid : Prop := effectsUnionRow.holds Try.pinned (OpenSpec.ofChange effectsUnionSpec)

/-- ITS FALSE NEIGHBOUR: 'it returns false'. Refute it at one input. -/
def effectsUnionWrong : ChangeSpec := { name := "effectsUnion", fn := fun _ => fun
  | [d1, d2] => { results := [.lit (.bool false)], args := [d1, d2] }
  | _ => none }
def EffectsUnionWrongFalsely : Prop := effectsUnionRow.holds Try.pinned (OpenSpec.ofChange effectsUnionWrong)

/-- 'backsteplaw08.EffectsLocal': WHATEVER THE INPUT: true; the input reads as it did. -/
def effectsLocalSpec : ChangeSpec := { name := "effectsLocal", fn := fun _ => fun
  | [d1, d2, d3, d4] => { results := [.lit (.bool true)], args := [d1, d2, d3, d4] }
  | _ => none }
def effectsLocalRow : OpenClaim := { program := "ytkkhjpkkjpcbmaa", sum := "9f4a58c1371ff660144459368b17578bebfcbaec525c5a080fa2e8a2a17c7eb7", func := "backstep/backsteplaw08.EffectsLocal", spec := "effectsLocal", unfollowed := true, recurses := true, loops := true, apart := false }
def EffectsLocalSaid : Prop := effectsLocalRow.holds Try.pinned (OpenSpec.ofChange effectsLocalSpec)

/-- ITS FALSE NEIGHBOUR: 'it returns false'. Refute it at one input. -/
def effectsLocalWrong : ChangeSpec := { name := "effectsLocal", fn := fun _ => fun
  | [d1, d2, d3, d4] => { results := [.lit (.bool false)], args := [d1, d2, d3, d4] }
  | _ => none }
def EffectsLocalWrongFalsely : Prop := effectsLocalRow.holds Try.pinned (OpenSpec.ofChange effectsLocalWrong)

/-- 'backsteplaw08.EffectsSorted': WHATEVER THE INPUT: true; the input reads as it did. -/
def effectsSortedSpec : ChangeSpec := { name := "effectsSorted", fn := fun _ => fun
  | [d] => { results := [.lit (.bool true)], args := [d] }
  | _ => none }
def effectsSortedRow : OpenClaim := { program := "ytkkhjpkkjpcbmaa", sum := "9f4a58c1371ff660144459368b17578bebfcbaec525c5a080fa2e8a2a17c7eb7", func := "backstep/backsteplaw08.EffectsSorted", spec := "effectsSorted", unfollowed := true, recurses := true, loops := true, apart := false }
def EffectsSortedSaid : Prop := effectsSortedRow.holds Try.pinned (OpenSpec.ofChange effectsSortedSpec)

/-- ITS FALSE NEIGHBOUR: 'it returns false'. Refute it at one input. -/
def effectsSortedWrong : ChangeSpec := { name := "effectsSorted", fn := fun _ => fun
  | [d] => { results := [.lit (.bool false)], args := [d] }
  | _ => none }
def EffectsSortedWrongFalsely : Prop := effectsSortedRow.holds Try.pinned (OpenSpec.ofChange effectsSortedWrong)

/-- 'backsteplaw08.EffectsCalls': WHATEVER THE INPUT: true; the input reads as it did. -/
def effectsCallsSpec : ChangeSpec := { name := "effectsCalls", fn := fun _ => fun
  | [d1, d2] => { results := [.lit (.bool true)], args := [d1, d2] }
  | _ => none }
def effectsCallsRow : OpenClaim := { program := "ytkkhjpkkjpcbmaa", sum := "9f4a58c1371ff660144459368b17578bebfcbaec525c5a080fa2e8a2a17c7eb7", func := "backstep/backsteplaw08.EffectsCalls", spec := "effectsCalls", unfollowed := true, recurses := true, loops := true, apart := false }
def EffectsCallsSaid : Prop := effectsCallsRow.holds Try.pinned (OpenSpec.ofChange effectsCallsSpec)

/-- ITS FALSE NEIGHBOUR: 'it returns false'. Refute it at one input. -/
def effectsCallsWrong : ChangeSpec := { name := "effectsCalls", fn := fun _ => fun
  | [d1, d2] => { results := [.lit (.bool false)], args := [d1, d2] }
  | _ => none }
def EffectsCallsWrongFalsely : Prop := effectsCallsRow.holds Try.pinned (OpenSpec.ofChange effectsCallsWrong)

/-- 'backsteplaw08.EffectsReach': WHATEVER THE INPUT: true; the input reads as it did. -/
def effectsReachSpec : ChangeSpec := { name := "effectsReach", fn := fun _ => fun
  | [d1, d2] => { results := [.lit (.bool true)], args := [d1, d2] }
  | _ => none }
def effectsReachRow : OpenClaim := { program := "ytkkhjpkkjpcbmaa", sum := "9f4a58c1371ff660144459368b17578bebfcbaec525c5a080fa2e8a2a17c7eb7", func := "backstep/backsteplaw08.EffectsReach", spec := "effectsReach", unfollowed := true, recurses := true, loops := true, apart := false }
def EffectsReachSaid : Prop := effectsReachRow.holds Try.pinned (OpenSpec.ofChange effectsReachSpec)

/-- ITS FALSE NEIGHBOUR: 'it returns false'. Refute it at one input. -/
def effectsReachWrong : ChangeSpec := { name := "effectsReach", fn := fun _ => fun
  | [d1, d2] => { results := [.lit (.bool false)], args := [d1, d2] }
  | _ => none }
def EffectsReachWrongFalsely : Prop := effectsReachRow.holds Try.pinned (OpenSpec.ofChange effectsReachWrong)

/- THE SECOND FORM. 'bulk': how many values and letters a reading holds, each counted each time it is reached (what is shared counts as often as it is met; a slice's spare places count too). A statement '..UptoSaid' is the law's where the arguments, and the package variables that the reading takes, are together of bulk at most 1048576: NARROWER than '..Said'. Prove '..Said' where nothing that the law and all that it calls make is longer than what came in: it says more and counts as full. Else prove '..UptoSaid'. A law counts once. -/
mutual
def uptoBulk {H : Type} : DataW H → Nat
  | .lit (.string bytes) => bytes.length + 1
  | .lit _ => 1
  | .nil => 1
  | .ptr d => uptoBulk d + 1
  | .slice elems spare => uptoBulkAll elems + uptoBulkAll spare + 1
  | .agg parts => uptoBulkAll parts + 1
  | .iface _ d => uptoBulk d + 1
  | .map entries => uptoBulkEntries entries + 1
  | .held _ => 1
def uptoBulkAll {H : Type} : List (DataW H) → Nat
  | [] => 0
  | d :: r => uptoBulk d + uptoBulkAll r
def uptoBulkEntries {H : Type} : List (Lit × DataW H) → Nat
  | [] => 0
  | x :: r => uptoBulkEntry x + uptoBulkEntries r
def uptoBulkEntry {H : Type} : Lit × DataW H → Nat
  | (.string bytes, d) => bytes.length + uptoBulk d + 1
  | (_, d) => uptoBulk d + 1
 end
def uptoSmall : (H : Type) → List (DataW H) → Bool := fun _ ds => decide (uptoBulkAll ds ≤ 1048576)
def OpenSpec.upto (s : _root_.Go.ChangeSpec) : _root_.Go.OpenSpec := { _root_.Go.OpenSpec.ofChange s with cond := some uptoSmall }

/-- 'backsteplaw08.EffectsReads', WHERE WHAT IT READS IS OF BULK AT MOST 1048576: true; the input reads as it did. -/
def effectsReadsUptoRow : OpenClaim := { program := "ytkkhjpkkjpcbmaa", sum := "9f4a58c1371ff660144459368b17578bebfcbaec525c5a080fa2e8a2a17c7eb7", func := "backstep/backsteplaw08.EffectsReads", spec := "effectsReads", unfollowed := true, recurses := true, loops := true, apart := false, narrowed := true }
def EffectsReadsUptoSaid : Prop := effectsReadsUptoRow.holds Try.pinned (OpenSpec.upto effectsReadsSpec)

/-- 'backsteplaw08.EffectsWrites', WHERE WHAT IT READS IS OF BULK AT MOST 1048576: true; the input reads as it did. -/
def effectsWritesUptoRow : OpenClaim := { program := "ytkkhjpkkjpcbmaa", sum := "9f4a58c1371ff660144459368b17578bebfcbaec525c5a080fa2e8a2a17c7eb7", func := "backstep/backsteplaw08.EffectsWrites", spec := "effectsWrites", unfollowed := true, recurses := true, loops := true, apart := false, narrowed := true }
def EffectsWritesUptoSaid : Prop := effectsWritesUptoRow.holds Try.pinned (OpenSpec.upto effectsWritesSpec)

/-- 'backsteplaw08.EffectsIndependent', WHERE WHAT IT READS IS OF BULK AT MOST 1048576: true; the input reads as it did. -/
def effectsIndependentUptoRow : OpenClaim := { program := "ytkkhjpkkjpcbmaa", sum := "9f4a58c1371ff660144459368b17578bebfcbaec525c5a080fa2e8a2a17c7eb7", func := "backstep/backsteplaw08.EffectsIndependent", spec := "effectsIndependent", unfollowed := true, recurses := true, loops := true, apart := false, narrowed := true }
def EffectsIndependentUptoSaid : Prop := effectsIndependentUptoRow.holds Try.pinned (OpenSpec.upto effectsIndependentSpec)

/-- 'backsteplaw08.EffectsUnion', WHERE WHAT IT READS IS OF BULK AT MOST 1048576: true; the input reads as it did. -/
def effectsUnionUptoRow : OpenClaim := { program := "ytkkhjpkkjpcbmaa", sum := "9f4a58c1371ff660144459368b17578bebfcbaec525c5a080fa2e8a2a17c7eb7", func := "backstep/backsteplaw08.EffectsUnion", spec := "effectsUnion", unfollowed := true, recurses := true, loops := true, apart := false, narrowed := true }
def EffectsUnionUptoSaid : Prop := effectsUnionUptoRow.holds Try.pinned (OpenSpec.upto effectsUnionSpec)

/-- 'backsteplaw08.EffectsLocal', WHERE WHAT IT READS IS OF BULK AT MOST 1048576: true; the input reads as it did. -/
def effectsLocalUptoRow : OpenClaim := { program := "ytkkhjpkkjpcbmaa", sum := "9f4a58c1371ff660144459368b17578bebfcbaec525c5a080fa2e8a2a17c7eb7", func := "backstep/backsteplaw08.EffectsLocal", spec := "effectsLocal", unfollowed := true, recurses := true, loops := true, apart := false, narrowed := true }
def EffectsLocalUptoSaid : Prop := effectsLocalUptoRow.holds Try.pinned (OpenSpec.upto effectsLocalSpec)

/-- 'backsteplaw08.EffectsSorted', WHERE WHAT IT READS IS OF BULK AT MOST 1048576: true; the input reads as it did. -/
def effectsSortedUptoRow : OpenClaim := { program := "ytkkhjpkkjpcbmaa", sum := "9f4a58c1371ff660144459368b17578bebfcbaec525c5a080fa2e8a2a17c7eb7", func := "backstep/backsteplaw08.EffectsSorted", spec := "effectsSorted", unfollowed := true, recurses := true, loops := true, apart := false, narrowed := true }
def EffectsSortedUptoSaid : Prop := effectsSortedUptoRow.holds Try.pinned (OpenSpec.upto effectsSortedSpec)

/-- 'backsteplaw08.EffectsCalls', WHERE WHAT IT READS IS OF BULK AT MOST 1048576: true; the input reads as it did. -/
def effectsCallsUptoRow : OpenClaim := { program := "ytkkhjpkkjpcbmaa", sum := "9f4a58c1371ff660144459368b17578bebfcbaec525c5a080fa2e8a2a17c7eb7", func := "backstep/backsteplaw08.EffectsCalls", spec := "effectsCalls", unfollowed := true, recurses := true, loops := true, apart := false, narrowed := true }
def EffectsCallsUptoSaid : Prop := effectsCallsUptoRow.holds Try.pinned (OpenSpec.upto effectsCallsSpec)

/-- 'backsteplaw08.EffectsReach', WHERE WHAT IT READS IS OF BULK AT MOST 1048576: true; the input reads as it did. -/
def effectsReachUptoRow : OpenClaim := { program := "ytkkhjpkkjpcbmaa", sum := "9f4a58c1371ff660144459368b17578bebfcbaec525c5a080fa2e8a2a17c7eb7", func := "backstep/backsteplaw08.EffectsReach", spec := "effectsReach", unfollowed := true, recurses := true, loops := true, apart := false, narrowed := true }
def EffectsReachUptoSaid : Prop := effectsReachUptoRow.holds Try.pinned (OpenSpec.upto effectsReachSpec)

end Rows
end Go.Proofs.Ytkkhjpkkjpcbmaa
