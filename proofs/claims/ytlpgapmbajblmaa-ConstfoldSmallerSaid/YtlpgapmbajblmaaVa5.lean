/- Valid: the reference and the law. -/
import Derived.Test.YtlpgapmbajblmaaVa4
namespace Go.Proofs.Ytlpgapmbajblmaa
open Go.RowKit
end Go.Proofs.Ytlpgapmbajblmaa
