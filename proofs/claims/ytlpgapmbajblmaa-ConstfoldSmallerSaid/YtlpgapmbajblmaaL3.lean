/- Const: the plain law. -/
import Derived.Test.YtlpgapmbajblmaaCr
namespace Go.Proofs.Ytlpgapmbajblmaa
open Go.RowKit
end Go.Proofs.Ytlpgapmbajblmaa
