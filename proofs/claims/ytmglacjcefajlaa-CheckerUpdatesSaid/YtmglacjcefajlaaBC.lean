import Derived.Test.YtmglacjcefajlaaKinds
import Derived.Test.YtmglacjcefajlaaBB
import Derived.Test.YtmglacjcefajlaaKinds2
import Derived.Test.YtmglacjcefajlaaBA
/- Valid expressions: the walk of the reference. -/
namespace Go.Proofs.Ytmglacjcefajlaa
open Go.RowKit Go.Shelf

theorem Rep.row {w : World} {B : Nat} {k n : Int} {s : ByteArray} {c : List Tr} {A : Option Addr} {cap len : Nat} (hr : Rep w B (.mk k n s c) (nodeV k n s A len cap)) : len = c.length ∧ Fits k n s c.length cap ∧ RepRow w B c A 0 := by
 simp only [Rep] at hr
 obtain ⟨A', cap', he, hf, hrow⟩ := hr
 simp only [nodeV, Value.agg.injEq, Array.mk.injEq, List.cons.injEq, Value.slice.injEq, true_and, and_true] at he
 obtain ⟨rfl, hl, rfl⟩ := he
 exact ⟨hl, hf, hrow⟩

end Go.Proofs.Ytmglacjcefajlaa

/- Valid statements and blocks: the walks of the reference. -/
namespace Go.Proofs.Ytmglacjcefajlaa
open Go.RowKit Go.Shelf
end Go.Proofs.Ytmglacjcefajlaa

/- Valid statements and blocks: the walks of the reference, the statement itself. -/
namespace Go.Proofs.Ytmglacjcefajlaa
open Go.RowKit Go.Shelf
end Go.Proofs.Ytmglacjcefajlaa

/- Valid statements: the walk of the reference, its loop. -/
namespace Go.Proofs.Ytmglacjcefajlaa
open Go.RowKit Go.Shelf
end Go.Proofs.Ytmglacjcefajlaa

/- Valid statements and blocks of the reference, together. -/
namespace Go.Proofs.Ytmglacjcefajlaa
open Go.RowKit Go.Shelf
end Go.Proofs.Ytmglacjcefajlaa

/- count, Big, Size, Depth. -/
namespace Go.Proofs.Ytmglacjcefajlaa
open Go.RowKit Go.Shelf

mutual
def cnt : Tr → Nat → Int
 | .mk _ _ _ c, d => if d = 0 then -1 else cntL c (d - 1) 1
def cntL : List Tr → Nat → Int → Int
 | [], _, s => s
 | t :: r, d, s => if cnt t d < 0 ∨ 1000 < s then -1 else cntL r d (s + cnt t d)
end

def bigB (t : Tr) : Bool := decide (cnt t 100 < 0) || decide (400 < cnt t 100)
end Go.Proofs.Ytmglacjcefajlaa
