/- Maps that are sets of names. -/
import Derived.Test.YtkkhjpkkjpcbmaaE9
namespace Go.Proofs.Ytkkhjpkkjpcbmaa
open Go.RowKit


instance lawful_ba : LawfulBEq ByteArray := { eq_of_beq := fun h => ba_eq.1 h, rfl := ba_eq.2 rfl }
theorem zer_bool : ((Try.prog.info? 4).bind (·.zero)).bind ofValue = some (.bool false) := by kernel_rfl
end Go.Proofs.Ytkkhjpkkjpcbmaa
