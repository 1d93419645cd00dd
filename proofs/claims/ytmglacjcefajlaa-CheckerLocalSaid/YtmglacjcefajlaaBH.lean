import Derived.Test.YtmglacjcefajlaaBJ
import Derived.Test.YtmglacjcefajlaaPred
import Derived.Test.YtmglacjcefajlaaClone
/- The equality of trees: ast.Equal, slices.EqualFunc over nodes, the reference's Equal. -/
namespace Go.Proofs.Ytmglacjcefajlaa
open Go.RowKit Go.Shelf

mutual
def eqB : Tr → Tr → Bool
 | .mk k n s c, .mk k' n' s' c' => (k == k') && (n == n') && (s.toList == s'.toList) && eqsB c c'
def eqsB : List Tr → List Tr → Bool
 | [], [] => true
 | a :: q, b :: r => eqB a b && eqsB q r
 | [], _ :: _ => false
 | _ :: _, [] => false
end

theorem eqsB_len : ∀ {c d : List Tr}, c.length ≠ d.length → eqsB c d = false
 | [], [], h => absurd rfl h
 | [], _ :: _, _ => by simp only [eqsB]
 | _ :: _, [], _ => by simp only [eqsB]
 | a :: q, b :: r, h => by
  simp only [eqsB]
  rw [eqsB_len (by simpa using h)]
  simp
theorem eqsB_of : ∀ {c d : List Tr}, c.length = d.length → (∀ (j : Nat) (h : j < c.length) (h' : j < d.length), eqB c[j] d[j] = true) → eqsB c d = true
 | [], [], _, _ => by simp only [eqsB]
 | [], _ :: _, h, _ => by simp at h
 | _ :: _, [], h, _ => by simp at h
 | a :: q, b :: r, h, hall => by
  simp only [eqsB, Bool.and_eq_true]
  exact ⟨hall 0 (by simp) (by simp), eqsB_of (by simpa using h) fun j hj hj' => hall (j + 1) (by simpa using hj) (by simpa using hj')⟩
theorem eqsB_not : ∀ {c d : List Tr} (j : Nat) (h : j < c.length) (h' : j < d.length), eqB c[j] d[j] = false → eqsB c d = false
 | [], _, _, h, _, _ => absurd h (Nat.not_lt_zero _)
 | _ :: _, [], _, _, h, _ => absurd h (Nat.not_lt_zero _)
 | a :: q, b :: r, 0, _, _, e => by
  simp only [eqsB]
  have : eqB a b = false := by simpa using e
  rw [this]
  rfl
 | a :: q, b :: r, j + 1, h, h', e => by
  simp only [eqsB]
  rw [eqsB_not j (by simpa using h) (by simpa using h') (by simpa using e)]
  simp

theorem bytes_loop (q : ByteArray) : ∀ (m i : Nat) (r : List UInt8), q.size - i = m → ByteArray.toList.loop q i r = r.reverse ++ q.data.toList.drop i := by
 have hz : q.data.toList.length = q.size := by simp
 intro m
 induction m with
 | zero =>
  intro i r h
  rw [ByteArray.toList.loop.eq_1, if_neg (by omega), List.drop_eq_nil_of_le (by omega), List.append_nil]
 | succ m ih =>
  intro i r h
  have hi : i < q.data.toList.length := by omega
  rw [ByteArray.toList.loop.eq_1, if_pos (by omega), ih (i + 1) _ (by omega), List.reverse_cons, List.append_assoc, List.drop_eq_getElem_cons hi]
  congr 1
  show q.data[i]! :: _ = _
  rw [getElem!_pos q.data i (by simpa using hi)]
  rfl
theorem bytes_toList {s t : ByteArray} : s.toList = t.toList ↔ s = t := by
 constructor
 ·intro h
  have hd : ∀ q : ByteArray, q.toList = q.data.toList := fun q => by
   rw [ByteArray.toList.eq_1, bytes_loop q _ 0 [] rfl]
   rfl
  rw [hd, hd] at h
  exact ByteArray.ext (Array.toList_inj.1 h)
 ·intro h; rw [h]
mutual
theorem eqB_iff : ∀ (a b : Tr), eqB a b = true ↔ a = b
 | .mk k n s c, .mk k' n' s' c' => by
  have h := eqsB_iff c c'
  simp only [eqB, Bool.and_eq_true, beq_iff_eq, bytes_toList, h, Tr.mk.injEq, and_assoc]
theorem eqsB_iff : ∀ (c d : List Tr), eqsB c d = true ↔ c = d
 | [], [] => by simp only [eqsB]
 | [], _ :: _ => by simp [eqsB]
 | _ :: _, [] => by simp [eqsB]
 | a :: q, b :: r => by
  have h1 := eqB_iff a b
  have h2 := eqsB_iff q r
  simp only [eqsB, Bool.and_eq_true, h1, h2, List.cons.injEq]
end
theorem eqB_refl (a : Tr) : eqB a a = true := (eqB_iff a a).2 rfl
theorem eqB_comm (a b : Tr) : eqB a b = eqB b a := by
 cases h : eqB b a
 ·cases h' : eqB a b
  ·rfl
  ·rw [eqB_iff] at h'; subst h'; rw [eqB_refl] at h; cases h
 ·rw [eqB_iff] at h; subst h; exact eqB_refl _

/-- the contract of a test of two nodes -/
def Tests2 (f : Nat) (p : Tr → Tr → Bool) (a b : Tr) : Prop := ∀ (v u : Value) (w : World), Rep w w.heap.size a v → Rep w w.heap.size b u → Calls Try.prog f #[v, u] w fun e w' => e = .returned (.bool (p a b)) ∧ Below w.heap.size w w'

end Go.Proofs.Ytmglacjcefajlaa

/- An act behind a region: the act ahead, but for the region's slots. -/
namespace Go.Proofs.Ytmglacjcefajlaa

theorem sets_at (tm : Array Value) : ∀ (sl : List Nat) (a : Array Value) (t : Nat), a.size = tm.size → (sl.foldl (fun a t => a.setIfInBounds t (tm.getD t undef)) a)[t]? = if t ∈ sl then tm[t]? else a[t]?
 | [], a, t, _ => by simp
 | q :: r, a, t, h => by
  rw [List.foldl_cons, sets_at tm r _ t (by simpa using h)]
  by_cases ht : t ∈ r
  ·simp [ht]
  ·by_cases e : q = t
   ·subst e
    simp only [ht, if_false, List.mem_cons, true_or, if_true]
    rw [Array.getElem?_setIfInBounds]
    simp only [if_true, h]
    rcases Nat.lt_or_ge q tm.size with hl | hl
    ·simp [hl]
    ·simp [Nat.not_lt.2 hl]
   ·have e' : ¬ t = q := fun x => e x.symm
    simp only [ht, if_false, List.mem_cons, e', or_self]
    rw [Array.getElem?_setIfInBounds_ne e]

theorem tm_sets {a0 tm : Array Value} (sl : List Nat) (hs : tm.size = a0.size) (hfx : ∀ t, t ∉ sl → tm[t]? = a0[t]?) : tm = sl.foldl (fun a t => a.setIfInBounds t (tm.getD t undef)) a0 := by
 apply Array.ext_getElem?
 intro t
 rw [sets_at tm sl a0 t hs.symm]
 by_cases h : t ∈ sl
 ·rw [if_pos h]
 ·rw [if_neg h]; exact hfx t h

end Go.Proofs.Ytmglacjcefajlaa

/- The reference's equality of trees. -/
namespace Go.Proofs.Ytmglacjcefajlaa
open Go.RowKit Go.Shelf
end Go.Proofs.Ytmglacjcefajlaa
