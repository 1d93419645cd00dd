/- Folding: the reference. -/
import Derived.Test.YtlpgapmbajblmaaCf
namespace Go.Proofs.Ytlpgapmbajblmaa
open Go.RowKit
end Go.Proofs.Ytlpgapmbajblmaa
