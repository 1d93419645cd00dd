/-
  NARROWER THAN 'FOR EVERY INPUT', by the rows' own cells (each row's printed sentence says how): LayoutAssigns: loops · LayoutPrefix: loops · LayoutShares: loops · LayoutCovers: loops · LayoutDisjoint: loops.
  DERIVED. THE GIVEN ROWS OF THIS SEAT. 7 by the template 'for every input the law returns true; each argument reads behind the call as it read before'; 0 by the template 'total and deterministic' (their statements: YthgdibdapjaljaaTotals.lean).
  GIVEN WITH THE SEED: the statements are not yours to turn. If you find one false, say at which input.
  Laid BY PROGRAM, IN A SANDBOX (cutbox-rows.mjs): the forced cells as the released guide's own fill.sh prints them over the translation 65dc529819596c78… (all of the seat's roots in one cut). By AI agents, Wed Nov 11 2026. No macro, syntax, notation, axiom, sorry.
-/
import Derived.Test.YthgdibdapjaljaaChecked
import GoSem.Claim
import GoSem.ClaimJoined
import GoSem.ClaimMapViews
import Derived.JoinedTies
import Derived.KernelRfl
namespace Go.Proofs.Ythgdibdapjaljaa
/- THE CELL 'sum', in the pinned program and in every row, IS THE sha256 OF THE DUMP (.gsa) THAT YthgdibdapjaljaaProg.lean LOADS. Nothing in Lean hashes anything: it is a label: what it is worth is what the hold of that sum in a sandbox is worth. -/
noncomputable def Try.pinned : Pinned := { name := "ythgdibdapjaljaa", sum := "65dc529819596c78f7f8a4e920fbe1a6ed1d5d54408de29e4e8b9bc246b4c9bf", checked := Try.checked }
namespace Rows
def none {H : Type} : Left H := { results := [], args := [] }

/-- 'backsteplaw26.LayoutFinds': WHATEVER THE INPUT: true; the input reads as it did. -/
def layoutFindsSpec : ChangeSpec := { name := "layoutFinds", fn := fun _ => fun
  | [d1, d2, d3] => { results := [.lit (.bool true)], args := [d1, d2, d3] }
  | _ => none }
def layoutFindsRow : OpenClaim := { program := "ythgdibdapjaljaa", sum := "65dc529819596c78f7f8a4e920fbe1a6ed1d5d54408de29e4e8b9bc246b4c9bf", func := "backstep/backsteplaw26.LayoutFinds", spec := "layoutFinds", inPlace := ["internal/bytealg.IndexByteString"], unfollowed := true, recurses := true, apart := false }
def LayoutFindsSaid : Prop := layoutFindsRow.holds Try.pinned (OpenSpec.ofChange layoutFindsSpec)

/-- ITS FALSE NEIGHBOUR: 'it returns false'. Refute it at one input. -/
def layoutFindsWrong : ChangeSpec := { name := "layoutFinds", fn := fun _ => fun
  | [d1, d2, d3] => { results := [.lit (.bool false)], args := [d1, d2, d3] }
  | _ => none }
def LayoutFindsWrongFalsely : Prop := layoutFindsRow.holds Try.pinned (OpenSpec.ofChange layoutFindsWrong)

/-- 'backsteplaw26.LayoutErrors': WHATEVER THE INPUT: true; the input reads as it did. -/
def layoutErrorsSpec : ChangeSpec := { name := "layoutErrors", fn := fun _ => fun
  | [d1, d2, d3] => { results := [.lit (.bool true)], args := [d1, d2, d3] }
  | _ => none }
def layoutErrorsRow : OpenClaim := { program := "ythgdibdapjaljaa", sum := "65dc529819596c78f7f8a4e920fbe1a6ed1d5d54408de29e4e8b9bc246b4c9bf", func := "backstep/backsteplaw26.LayoutErrors", spec := "layoutErrors", inPlace := ["internal/bytealg.IndexByteString"], unfollowed := true, recurses := true, apart := false }
def LayoutErrorsSaid : Prop := layoutErrorsRow.holds Try.pinned (OpenSpec.ofChange layoutErrorsSpec)

/-- ITS FALSE NEIGHBOUR: 'it returns false'. Refute it at one input. -/
def layoutErrorsWrong : ChangeSpec := { name := "layoutErrors", fn := fun _ => fun
  | [d1, d2, d3] => { results := [.lit (.bool false)], args := [d1, d2, d3] }
  | _ => none }
def LayoutErrorsWrongFalsely : Prop := layoutErrorsRow.holds Try.pinned (OpenSpec.ofChange layoutErrorsWrong)

/-- 'backsteplaw26.LayoutAssigns': WHATEVER THE INPUT: true; the input reads as it did. -/
def layoutAssignsSpec : ChangeSpec := { name := "layoutAssigns", fn := fun _ => fun
  | [d1, d2] => { results := [.lit (.bool true)], args := [d1, d2] }
  | _ => none }
def layoutAssignsRow : OpenClaim := { program := "ythgdibdapjaljaa", sum := "65dc529819596c78f7f8a4e920fbe1a6ed1d5d54408de29e4e8b9bc246b4c9bf", func := "backstep/backsteplaw26.LayoutAssigns", spec := "layoutAssigns", inPlace := ["internal/bytealg.IndexByteString"], unfollowed := true, recurses := true, loops := true, apart := false }
def LayoutAssignsSaid : Prop := layoutAssignsRow.holds Try.pinned (OpenSpec.ofChange layoutAssignsSpec)

/-- ITS FALSE NEIGHBOUR: 'it returns false'. Refute it at one input. -/
def layoutAssignsWrong : ChangeSpec := { name := "layoutAssigns", fn := fun _ => fun
  | [d1, d2] => { results := [.lit (.bool false)], args := [d1, d2] }
  | _ => none }
def LayoutAssignsWrongFalsely : Prop := layoutAssignsRow.holds Try.pinned (OpenSpec.ofChange layoutAssignsWrong)

/-- 'backsteplaw26.LayoutPrefix': WHATEVER THE INPUT: true; the input reads as it did. -/
def layoutPrefixSpec : ChangeSpec := { name := "layoutPrefix", fn := fun _ => fun
  | [d1, d2] => { results := [.lit (.bool true)], args := [d1, d2] }
  | _ => none }
def layoutPrefixRow : OpenClaim := { program := "ythgdibdapjaljaa", sum := "65dc529819596c78f7f8a4e920fbe1a6ed1d5d54408de29e4e8b9bc246b4c9bf", func := "backstep/backsteplaw26.LayoutPrefix", spec := "layoutPrefix", inPlace := ["internal/bytealg.IndexByteString"], unfollowed := true, recurses := true, loops := true, apart := false }
def LayoutPrefixSaid : Prop := layoutPrefixRow.holds Try.pinned (OpenSpec.ofChange layoutPrefixSpec)

/-- ITS FALSE NEIGHBOUR: 'it returns false'. Refute it at one input. -/
def layoutPrefixWrong : ChangeSpec := { name := "layoutPrefix", fn := fun _ => fun
  | [d1, d2] => { results := [.lit (.bool false)], args := [d1, d2] }
  | _ => none }
def LayoutPrefixWrongFalsely : Prop := layoutPrefixRow.holds Try.pinned (OpenSpec.ofChange layoutPrefixWrong)

/-- 'backsteplaw26.LayoutShares': WHATEVER THE INPUT: true; the input reads as it did. -/
def layoutSharesSpec : ChangeSpec := { name := "layoutShares", fn := fun _ => fun
  | [d1, d2] => { results := [.lit (.bool true)], args := [d1, d2] }
  | _ => none }
def layoutSharesRow : OpenClaim := { program := "ythgdibdapjaljaa", sum := "65dc529819596c78f7f8a4e920fbe1a6ed1d5d54408de29e4e8b9bc246b4c9bf", func := "backstep/backsteplaw26.LayoutShares", spec := "layoutShares", inPlace := ["internal/bytealg.IndexByteString"], unfollowed := true, recurses := true, loops := true, apart := false }
def LayoutSharesSaid : Prop := layoutSharesRow.holds Try.pinned (OpenSpec.ofChange layoutSharesSpec)

/-- ITS FALSE NEIGHBOUR: 'it returns false'. Refute it at one input. -/
def layoutSharesWrong : ChangeSpec := { name := "layoutShares", fn := fun _ => fun
  | [d1, d2] => { results := [.lit (.bool false)], args := [d1, d2] }
  | _ => none }
def LayoutSharesWrongFalsely : Prop := layoutSharesRow.holds Try.pinned (OpenSpec.ofChange layoutSharesWrong)

/-- 'backsteplaw26.LayoutCovers': WHATEVER THE INPUT: true; the input reads as it did. -/
def layoutCoversSpec : ChangeSpec := { name := "layoutCovers", fn := fun _ => fun
  | [d] => { results := [.lit (.bool true)], args := [d] }
  | _ => none }
def layoutCoversRow : OpenClaim := { program := "ythgdibdapjaljaa", sum := "65dc529819596c78f7f8a4e920fbe1a6ed1d5d54408de29e4e8b9bc246b4c9bf", func := "backstep/backsteplaw26.LayoutCovers", spec := "layoutCovers", inPlace := ["internal/bytealg.IndexByteString"], unfollowed := true, recurses := true, loops := true, apart := false }
def LayoutCoversSaid : Prop := layoutCoversRow.holds Try.pinned (OpenSpec.ofChange layoutCoversSpec)

/-- ITS FALSE NEIGHBOUR: 'it returns false'. Refute it at one input. -/
def layoutCoversWrong : ChangeSpec := { name := "layoutCovers", fn := fun _ => fun
  | [d] => { results := [.lit (.bool false)], args := [d] }
  | _ => none }
def LayoutCoversWrongFalsely : Prop := layoutCoversRow.holds Try.pinned (OpenSpec.ofChange layoutCoversWrong)

/-- 'backsteplaw26.LayoutDisjoint': WHATEVER THE INPUT: true; the input reads as it did. -/
def layoutDisjointSpec : ChangeSpec := { name := "layoutDisjoint", fn := fun _ => fun
  | [d1, d2] => { results := [.lit (.bool true)], args := [d1, d2] }
  | _ => none }
def layoutDisjointRow : OpenClaim := { program := "ythgdibdapjaljaa", sum := "65dc529819596c78f7f8a4e920fbe1a6ed1d5d54408de29e4e8b9bc246b4c9bf", func := "backstep/backsteplaw26.LayoutDisjoint", spec := "layoutDisjoint", inPlace := ["internal/bytealg.IndexByteString"], unfollowed := true, recurses := true, loops := true, apart := false }
def LayoutDisjointSaid : Prop := layoutDisjointRow.holds Try.pinned (OpenSpec.ofChange layoutDisjointSpec)

/-- ITS FALSE NEIGHBOUR: 'it returns false'. Refute it at one input. -/
def layoutDisjointWrong : ChangeSpec := { name := "layoutDisjoint", fn := fun _ => fun
  | [d1, d2] => { results := [.lit (.bool false)], args := [d1, d2] }
  | _ => none }
def LayoutDisjointWrongFalsely : Prop := layoutDisjointRow.holds Try.pinned (OpenSpec.ofChange layoutDisjointWrong)

/- THE SECOND FORM. 'bulk': how many values and letters a reading holds, each counted each time it is reached (what is shared counts as often as it is met; a slice's spare places count too). A statement '..UptoSaid' is the law's where the arguments, and the package variables that the reading takes, are together of bulk at most 1048576: NARROWER than '..Said'. Prove '..Said' where nothing that the law and all that it calls make is longer than what came in: it says more and counts as full. Else prove '..UptoSaid'. A law counts once. -/
mutual
def uptoBulk {H : Type} : DataW H → Nat
  | .lit (.string bytes) => bytes.length + 1
  | .lit _ => 1
  | .nil => 1
  | .ptr d => uptoBulk d + 1
  | .slice elems spare => uptoBulkAll elems + uptoBulkAll spare + 1
  | .agg parts => uptoBulkAll parts + 1
  | .iface _ d => uptoBulk d + 1
  | .map entries => uptoBulkEntries entries + 1
  | .held _ => 1
def uptoBulkAll {H : Type} : List (DataW H) → Nat
  | [] => 0
  | d :: r => uptoBulk d + uptoBulkAll r
def uptoBulkEntries {H : Type} : List (Lit × DataW H) → Nat
  | [] => 0
  | x :: r => uptoBulkEntry x + uptoBulkEntries r
def uptoBulkEntry {H : Type} : Lit × DataW H → Nat
  | (.string bytes, d) => bytes.length + uptoBulk d + 1
  | (_, d) => uptoBulk d + 1
 end
def uptoSmall : (H : Type) → List (DataW H) → Bool := fun _ ds => decide (uptoBulkAll ds ≤ 1048576)
def OpenSpec.upto (s : _root_.Go.ChangeSpec) : _root_.Go.OpenSpec := { _root_.Go.OpenSpec.ofChange s with cond := some uptoSmall }

/-- 'backsteplaw26.LayoutFinds', WHERE WHAT IT READS IS OF BULK AT MOST 1048576: true; the input reads as it did. -/
def layoutFindsUptoRow : OpenClaim := { program := "ythgdibdapjaljaa", sum := "65dc529819596c78f7f8a4e920fbe1a6ed1d5d54408de29e4e8b9bc246b4c9bf", func := "backstep/backsteplaw26.LayoutFinds", spec := "layoutFinds", inPlace := ["internal/bytealg.IndexByteString"], unfollowed := true, recurses := true, apart := false, narrowed := true }
def LayoutFindsUptoSaid : Prop := layoutFindsUptoRow.holds Try.pinned (OpenSpec.upto layoutFindsSpec)

/-- 'backsteplaw26.LayoutErrors', WHERE WHAT IT READS IS OF BULK AT MOST 1048576: true; the input reads as it did. -/
def layoutErrorsUptoRow : OpenClaim := { program := "ythgdibdapjaljaa", sum := "65dc529819596c78f7f8a4e920fbe1a6ed1d5d54408de29e4e8b9bc246b4c9bf", func := "backstep/backsteplaw26.LayoutErrors", spec := "layoutErrors", inPlace := ["internal/bytealg.IndexByteString"], unfollowed := true, recurses := true, apart := false, narrowed := true }
def LayoutErrorsUptoSaid : Prop := layoutErrorsUptoRow.holds Try.pinned (OpenSpec.upto layoutErrorsSpec)

/-- 'backsteplaw26.LayoutAssigns', WHERE WHAT IT READS IS OF BULK AT MOST 1048576: true; the input reads as it did. -/
def layoutAssignsUptoRow : OpenClaim := { program := "ythgdibdapjaljaa", sum := "65dc529819596c78f7f8a4e920fbe1a6ed1d5d54408de29e4e8b9bc246b4c9bf", func := "backstep/backsteplaw26.LayoutAssigns", spec := "layoutAssigns", inPlace := ["internal/bytealg.IndexByteString"], unfollowed := true, recurses := true, loops := true, apart := false, narrowed := true }
def LayoutAssignsUptoSaid : Prop := layoutAssignsUptoRow.holds Try.pinned (OpenSpec.upto layoutAssignsSpec)

/-- 'backsteplaw26.LayoutPrefix', WHERE WHAT IT READS IS OF BULK AT MOST 1048576: true; the input reads as it did. -/
def layoutPrefixUptoRow : OpenClaim := { program := "ythgdibdapjaljaa", sum := "65dc529819596c78f7f8a4e920fbe1a6ed1d5d54408de29e4e8b9bc246b4c9bf", func := "backstep/backsteplaw26.LayoutPrefix", spec := "layoutPrefix", inPlace := ["internal/bytealg.IndexByteString"], unfollowed := true, recurses := true, loops := true, apart := false, narrowed := true }
def LayoutPrefixUptoSaid : Prop := layoutPrefixUptoRow.holds Try.pinned (OpenSpec.upto layoutPrefixSpec)

/-- 'backsteplaw26.LayoutShares', WHERE WHAT IT READS IS OF BULK AT MOST 1048576: true; the input reads as it did. -/
def layoutSharesUptoRow : OpenClaim := { program := "ythgdibdapjaljaa", sum := "65dc529819596c78f7f8a4e920fbe1a6ed1d5d54408de29e4e8b9bc246b4c9bf", func := "backstep/backsteplaw26.LayoutShares", spec := "layoutShares", inPlace := ["internal/bytealg.IndexByteString"], unfollowed := true, recurses := true, loops := true, apart := false, narrowed := true }
def LayoutSharesUptoSaid : Prop := layoutSharesUptoRow.holds Try.pinned (OpenSpec.upto layoutSharesSpec)

/-- 'backsteplaw26.LayoutCovers', WHERE WHAT IT READS IS OF BULK AT MOST 1048576: true; the input reads as it did. -/
def layoutCoversUptoRow : OpenClaim := { program := "ythgdibdapjaljaa", sum := "65dc529819596c78f7f8a4e920fbe1a6ed1d5d54408de29e4e8b9bc246b4c9bf", func := "backstep/backsteplaw26.LayoutCovers", spec := "layoutCovers", inPlace := ["internal/bytealg.IndexByteString"], unfollowed := true, recurses := true, loops := true, apart := false, narrowed := true }
def LayoutCoversUptoSaid : Prop := layoutCoversUptoRow.holds Try.pinned (OpenSpec.upto layoutCoversSpec)

/-- 'backsteplaw26.LayoutDisjoint', WHERE WHAT IT READS IS OF BULK AT MOST 1048576: true; the input reads as it did. -/
def layoutDisjointUptoRow : OpenClaim := { program := "ythgdibdapjaljaa", sum := "65dc529819596c78f7f8a4e920fbe1a6ed1d5d54408de29e4e8b9bc246b4c9bf", func := "backstep/backsteplaw26.LayoutDisjoint", spec := "layoutDisjoint", inPlace := ["internal/bytealg.IndexByteString"], unfollowed := true, recurses := true, loops := true, apart := false, narrowed := true }
def LayoutDisjointUptoSaid : Prop := layoutDisjointUptoRow.holds Try.pinned (OpenSpec.upto layoutDisjointSpec)

end Rows
end Go.Proofs.Ythgdibdapjaljaa
