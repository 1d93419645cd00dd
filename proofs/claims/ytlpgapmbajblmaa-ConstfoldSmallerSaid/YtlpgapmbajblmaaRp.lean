import Derived.Test.YtlpgapmbajblmaaBA
/- At and Replace on plain trees. No program in sight. -/
namespace Go.Proofs.Ytlpgapmbajblmaa
end Go.Proofs.Ytlpgapmbajblmaa
