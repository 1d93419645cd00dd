/- Folding of an expression; what the law on literals builds. -/
import Derived.Test.YtlpgapmbajblmaaCf
import Derived.Test.YtlpgapmbajblmaaCr
namespace Go.Proofs.Ytlpgapmbajblmaa
open Go.RowKit

noncomputable def fd0 : Field := (fs_constfold_folded.toList[0]?).getD default
theorem fd0_e : fs_constfold_folded.toList[0]? = some fd0 := by kernel_rfl
theorem fd0_t : fd0.type = 24 := by kernel_rfl
theorem fd0_o : fd0.offset = 0 := by kernel_rfl
def exprT (t : Tr) : Tr := if exprB t then (foldT t).1 else t
theorem awake_ok : fn EV 11 [] = some (.bool true) := fn_of (n := 200) (by kernel_rfl)

end Go.Proofs.Ytlpgapmbajblmaa
