/- Programs that are the same, over data. -/
import Derived.Test.YtlpgapmbajblmaaBs
namespace Go.Proofs.Ytlpgapmbajblmaa
open Go.RowKit
section
variable {α : Type} {f : α → α → Bool}
end
end Go.Proofs.Ytlpgapmbajblmaa
