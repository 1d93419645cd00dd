import Derived.Test.YtmglacjcefajlaaBJ
import Derived.Test.YtmglacjcefajlaaPred
import Derived.Test.YtmglacjcefajlaaClone
/- The equality of trees: ast.Equal, slices.EqualFunc over nodes, the reference's Equal. -/
namespace Go.Proofs.Ytmglacjcefajlaa
open Go.RowKit Go.Shelf
end Go.Proofs.Ytmglacjcefajlaa

/- An act behind a region: the act ahead, but for the region's slots. -/
namespace Go.Proofs.Ytmglacjcefajlaa
end Go.Proofs.Ytmglacjcefajlaa

/- The reference's equality of trees. -/
namespace Go.Proofs.Ytmglacjcefajlaa
open Go.RowKit Go.Shelf
end Go.Proofs.Ytmglacjcefajlaa
