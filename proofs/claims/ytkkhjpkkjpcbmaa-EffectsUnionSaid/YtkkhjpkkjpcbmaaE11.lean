/- Sets of names: plain facts. -/
import Derived.Test.YtkkhjpkkjpcbmaaE10
namespace Go.Proofs.Ytkkhjpkkjpcbmaa
open Go.RowKit
def addL (A l : List ByteArray) : List ByteArray := l.foldl addS A
theorem addL_mem : ∀ (l A : List ByteArray) (x : ByteArray), x ∈ addL A l ↔ x ∈ A ∨ x ∈ l
 | [], A, x => by simp [addL]
 | y :: r, A, x => by
  show x ∈ addL (addS A y) r ↔ _
  rw [addL_mem r, addS_mem, or_assoc, List.mem_cons]
theorem addL_nodup : ∀ (l A : List ByteArray), A.Nodup → (addL A l).Nodup
 | [], _A, h => h
 | y :: r, _A, h => addL_nodup r _ (addS_nodup h y)
theorem addL_len : ∀ (l A : List ByteArray), (addL A l).length ≤ A.length + l.length
 | [], A => Nat.le_refl _
 | y :: r, A => by
  have h1 := addL_len r (addS A y)
  have h2 := addS_len A y
  show (addL (addS A y) r).length ≤ _
  simp only [zlc]; omega
theorem addL_snoc (A l : List ByteArray) (i : Nat) (h : i < l.length) : addS (addL A (l.take i)) l[i] = addL A (l.take (i + 1)) := by
 unfold addL
 rw [List.take_succ_eq_append_getElem h, List.foldl_append]; rfl
theorem addL_app (A l m : List ByteArray) : addL (addL A l) m = addL A (l ++ m) := by
 unfold addL; rw [List.foldl_append]
theorem sD_half (A : List ByteArray) : (sD A).length / 2 = A.length := by rw [sD_len]; omega
theorem asc_nodup {A : List ByteArray} (h : Asc (nms A)) : A.Nodup := by
 have h1 : (nms A).Nodup := h.imp (fun {a b} q e => by rw [e] at q; exact absurd q (List.lt_irrefl _))
 exact (List.pairwise_map.1 h1).imp (fun {a b} q e => q (by rw [e]))
theorem rr_mem {t : Tr} {x : ByteArray} : x ∈ rrT t ↔ x.data.toList ∈ readsT t := mem_nms.trans ((rrT_spec t).2 _)
theorem wr_mem {t : Tr} {x : ByteArray} : x ∈ wrT t ↔ x.data.toList ∈ writesT t := mem_nms.trans ((wrT_spec t).2 _)
def others (s : ByteArray) (l : List ByteArray) : List ByteArray := l.filter fun x => !(x.toList == s.toList)
def two (u w : Tr) : List (List ByteArray) := [rrT u, rrT w]
/-- a call on a tree that the caller has just built -/
theorem call_d {E : Env} {k : Nat} {d r : D} {t : Tr} (h : fn E k [dN t] = some r) (hs : d.strip = dN t) (hp : plain [d] = true) : fn E k [d] = some r := by
 rw [← h]
 exact fn_strip hp (by simp only [plain, List.all_cons, List.all_nil, dN_under, dN_good, Bool.and_true]) (by simp only [zmc, zmn, hs, dN_strip])
end Go.Proofs.Ytkkhjpkkjpcbmaa
