/- Maps that are sets of names. -/
import Derived.Test.YtkkhjpkkjpcbmaaGreatE8
namespace Go.Proofs.YtkkhjpkkjpcbmaaGreat
open Go.RowKit


instance lawful_ba : LawfulBEq ByteArray := { eq_of_beq := fun h => ba_eq.1 h, rfl := ba_eq.2 rfl }
end Go.Proofs.YtkkhjpkkjpcbmaaGreat
