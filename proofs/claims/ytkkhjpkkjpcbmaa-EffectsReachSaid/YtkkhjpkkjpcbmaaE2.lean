/- The reference's lists of names over data. -/
import Derived.Test.YtkkhjpkkjpcbmaaE1
namespace Go.Proofs.Ytkkhjpkkjpcbmaa
open Go.RowKit

theorem Acc.appN {P : Program} {t e : TypeId} {i : TypeInfo} {sz : Nat} {o : Own} {n : Nat} {L : List D} {lv : List Nat} (h : Acc e sz o n L lv) (hu : P.underlying t = some (.slice e)) (hi : P.info? e = some i) (hs : i.size = sz) (hp : 0 < sz) (hb : i.bytes ≤ 4096) (hz : (i.zero.map fun z => z.cells.size) = some sz) (nx : Nat) (n2 : Nat) (l2 : List D)
    (hl : L.length + l2.length ≤ 16777216) (hn2 : l2 ≠ [] → n2 = sz) : ∃ o' n' nx' lv', Acc e sz o' n' (L ++ l2) lv' ∧ ∀ fr bx, aappend P ⟨fr, bx, nx, lv⟩ t (.slice o n L) (.slice .imm n2 l2) = some (.slice o' n' (L ++ l2), ⟨fr, bx, nx', lv'⟩) := by
  cases l2 with
  | nil => exact ⟨o, n, nx, lv, by rw [List.append_nil]; exact h, fun fr bx => by rw [List.append_nil]; exact Acc.app0 hu hi⟩
  | cons a r =>
    obtain rfl := hn2 (by simp)
    refine ⟨.own nx e, n2, nx + 1, nx :: o.cut lv, .own (List.mem_cons_self), fun fr bx => ?_⟩
    exact Acc.app (σ := ⟨fr, bx, nx, lv⟩) (o2 := .imm) h hu hi hs hp hb hz hl (by simp)

def ltB (a b : ByteArray) : Bool := Op.bytesLess a.toList b.toList
/-- a name is put into a sorted list -/
def posN : List ByteArray → ByteArray → Nat
  | [], _ => 0
  | x :: r, s => if ltB x s then posN r s + 1 else 0
def putN (l : List ByteArray) (s : ByteArray) : List ByteArray := match l[posN l s]? with
  | some x => if x.toList == s.toList then l else l.take (posN l s) ++ [s] ++ l.drop (posN l s)
  | none => l.take (posN l s) ++ [s] ++ l.drop (posN l s)
end Go.Proofs.Ytkkhjpkkjpcbmaa
