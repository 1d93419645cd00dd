/- The reference's place over data. -/
import Derived.Test.YtkkhjpkkjpcbmaaE3
namespace Go.Proofs.Ytkkhjpkkjpcbmaa
open Go.RowKit
def pl1 (x : Tr) (A : List ByteArray) : List ByteArray := if isPl x then putN A x.name else A
def placeN (t : Tr) (i : Nat) (A : List ByteArray) : List ByteArray := match t.kids[i]? with
 | some x => pl1 x A
 | none => A
theorem pl1_len (x : Tr) (A : List ByteArray) : (pl1 x A).length ≤ A.length + 1 := by
 have := putN_len A x.name
 unfold pl1; split <;> omega
theorem placeN_len (t : Tr) (i : Nat) (A : List ByteArray) : (placeN t i A).length ≤ A.length + 1 := by
 unfold placeN; split
 ·exact pl1_len _ _
 ·omega
def plK : List Tr → List ByteArray → List ByteArray
 | [], A => A
 | x :: r, A => plK r (pl1 x A)
theorem plK_len : ∀ (c : List Tr) (A : List ByteArray), (plK c A).length ≤ A.length + Tr.sizes c
 | [], A => by simp [plK]
 | x :: r, A => by
  have h1 := plK_len r (pl1 x A)
  have h2 := pl1_len x A
  have h3 := Tr.size_pos x
  simp only [plK, Tr.sizes]; omega
mutual
def wrT : Tr → List ByteArray
 | .mk k n s c => if updN k then placeN (.mk k n s c) 0 [] else if k == 43 then placeN (.mk k n s c) 1 (placeN (.mk k n s c) 0 []) else if k == 44 || k == 45 then placeN (.mk k n s c) 0 [s] else if k == 50 || k == 51 then plK c [] else if bodN k then wrK k s 0 c [] else []
def wrK (k : Int) (s : ByteArray) : Nat → List Tr → List ByteArray → List ByteArray
 | _, [], A => A
 | i, t :: r, A => wrK k s (i + 1) r (unionN s (hidesN k i) A (wrT t))
end
mutual
theorem wrT_len : ∀ t : Tr, (wrT t).length ≤ 2 * t.size
 | .mk k n s c => by
  have h0 := wrK_len k s c 0 []
  have h1 := plK_len c []
  have h2 := placeN_len (.mk k n s c) 0 []
  have h3 := placeN_len (.mk k n s c) 1 (placeN (.mk k n s c) 0 [])
  have h4 := placeN_len (.mk k n s c) 0 [s]
  simp only [zln, zlc] at h0 h1 h2 h4
  rw [wrT]
  simp only [Tr.size]
  split
  ·omega
  ·split
   ·omega
   ·split
    ·omega
    ·split
     ·omega
     ·split
      ·omega
      ·simp
theorem wrK_len (k : Int) (s : ByteArray) : ∀ (c : List Tr) (i : Nat) (A : List ByteArray), (wrK k s i c A).length ≤ A.length + 2 * Tr.sizes c
 | [], i, A => by simp [wrK]
 | t :: r, i, A => by
  have h1 := wrK_len k s r (i + 1) (unionN s (hidesN k i) A (wrT t))
  have h2 := unionN_len s (hidesN k i) (wrT t) A
  have h3 := wrT_len t
  simp only [wrK, Tr.sizes]; omega
end
end Go.Proofs.Ytkkhjpkkjpcbmaa
