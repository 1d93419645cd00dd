/- The reference's Independent over data. -/
import Derived.Test.YtkkhjpkkjpcbmaaE8
namespace Go.Proofs.Ytkkhjpkkjpcbmaa
open Go.RowKit
theorem few_sz {t : Tr} (h : fewB t = true) : t.size ≤ 300 := by simpa [fewB] using h
end Go.Proofs.Ytkkhjpkkjpcbmaa
