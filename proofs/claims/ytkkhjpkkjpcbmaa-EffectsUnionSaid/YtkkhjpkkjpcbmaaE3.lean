/- The reference's Union and Reads over data. -/
import Derived.Test.YtkkhjpkkjpcbmaaE2
import Derived.Test.YtkkhjpkkjpcbmaaEf7
namespace Go.Proofs.Ytkkhjpkkjpcbmaa
open Go.RowKit

theorem fn_strip {E : Env} {k : Nat} {args args' : List D} (h : plain args = true) (h' : plain args' = true) (e : args.map D.strip = args'.map D.strip) : fn E k args = fn E k args' := by
 unfold fn pureWith
 unfold plain at h h'
 rw [if_pos h, if_pos h', e]
/-- a slice of names, however it came about -/
structure IsL (d : D) (A : List ByteArray) : Prop where
 s : d.strip = sl 1 (A.map dS)
 u : ∀ m, d.under m = true
 g : d.good = true
 a : d.isAgg = false
 c : d.cells = [d]
theorem IsL.sl (A : List ByteArray) : IsL (Go.Proofs.Ytkkhjpkkjpcbmaa.sl 1 (A.map dS)) A := ⟨sl_strip (map_strip dS_strip A), fun m => sl_under (map_under (dS_under m) A), rfl, rfl, rfl⟩
theorem IsL.nil : IsL (.slice .nil 0 []) [] := ⟨rfl, fun _ => rfl, rfl, rfl, rfl⟩
theorem putN_len (l : List ByteArray) (s : ByteArray) : (putN l s).length ≤ l.length + 1 := by
 unfold putN
 split
 ·split
  ·omega
  ·simp; omega
 ·simp; omega
def unionN (ex : ByteArray) (b : Bool) : List ByteArray → List ByteArray → List ByteArray
 | l, [] => l
 | l, x :: r => unionN ex b (if !b || !(x.toList == ex.toList) then putN l x else l) r
theorem unionN_len (ex : ByteArray) (b : Bool) : ∀ (r l : List ByteArray), (unionN ex b l r).length ≤ l.length + r.length
 | [], l => by simp [unionN]
 | x :: r, l => by
  have h1 := unionN_len ex b r (if !b || !(x.toList == ex.toList) then putN l x else l)
  have h2 := putN_len l x
  unfold unionN
  simp only [zlc]
  split at h1
  ·rename_i hc; rw [if_pos hc]; omega
  ·rename_i hc; rw [if_neg hc]; omega
mutual
def rrT : Tr → List ByteArray
 | .mk k _ s c => rrK k s 0 c (if usesN k then [s] else [])
def rrK (k : Int) (s : ByteArray) : Nat → List Tr → List ByteArray → List ByteArray
 | _, [], A => A
 | i, t :: r, A => rrK k s (i + 1) r (unionN s (hidesN k i) A (rrT t))
end
mutual
theorem rrT_len : ∀ t : Tr, (rrT t).length ≤ t.size
 | .mk k _ s c => by
  have := rrK_len k s c 0 (if usesN k then [s] else [])
  have h2 : (if usesN k = true then [s] else []).length ≤ 1 := by split <;> simp
  simp only [rrT, Tr.size]; omega
theorem rrK_len (k : Int) (s : ByteArray) : ∀ (c : List Tr) (i : Nat) (A : List ByteArray), (rrK k s i c A).length ≤ A.length + Tr.sizes c
 | [], i, A => by simp [rrK]
 | t :: r, i, A => by
  have h1 := rrK_len k s r (i + 1) (unionN s (hidesN k i) A (rrT t))
  have h2 := unionN_len s (hidesN k i) (rrT t) A
  have h3 := rrT_len t
  simp only [rrK, Tr.sizes]; omega
end
end Go.Proofs.Ytkkhjpkkjpcbmaa
