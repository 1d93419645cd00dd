/- The reference's folding over data. -/
import Derived.Test.YtlpgapmbajblmaaPg
import Derived.Test.YtlpgapmbajblmaaL3
namespace Go.Proofs.Ytlpgapmbajblmaa
open Go.RowKit
end Go.Proofs.Ytlpgapmbajblmaa
