import Derived.Test.YtkkhjpkkjpcbmaaProg
import Derived.WalkKit
import Derived.Lib.Hide
import Derived.KernelRfl
import Derived.Deep.LoopGhost
import Derived.Deep.Light
import Derived.Outline
import Derived.WalkSpells
import Derived.WalkLawsBesides
import Derived.RangeFuncOwn
import Derived.Carry
import Derived.Laws.Externs
import Derived.Shelf.Abstract
import Derived.Deep.QuietTactic
import Derived.BigQuiet
import Derived.WalkSmall
/- Names: the walks of the two packages' tests, and what they compute. -/
namespace Go.Proofs.Ytkkhjpkkjpcbmaa
open Go.RowKit
end Go.Proofs.Ytkkhjpkkjpcbmaa

/- Keyword: the map of the keywords, laid and asked. -/
namespace Go.Proofs.Ytkkhjpkkjpcbmaa
open Go.RowKit
theorem heap_new (w : World) (o : Obj) : (w.alloc o).heap[w.heap.size]? = some o := World.alloc_heap_new w o
theorem ba_eq {a b : ByteArray} : (a == b) = true ↔ a = b := by
  cases a with | mk x => cases b with | mk y =>
  rw [ByteArray.mk.injEq]
  show (x == y) = true ↔ x = y
  exact beq_iff_eq

end Go.Proofs.Ytkkhjpkkjpcbmaa

/- Names, the second part: first, sign, Name; the reference's Kind, In, Name. -/
namespace Go.Proofs.Ytkkhjpkkjpcbmaa
open Go.RowKit Go.Shelf
end Go.Proofs.Ytkkhjpkkjpcbmaa

/- Names, the third part: the reference's In, Kind, Name. -/
namespace Go.Proofs.Ytkkhjpkkjpcbmaa
open Go.RowKit Go.Shelf
end Go.Proofs.Ytkkhjpkkjpcbmaa
