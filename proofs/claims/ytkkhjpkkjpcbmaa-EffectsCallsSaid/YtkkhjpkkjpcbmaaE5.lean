/- The reference's lists are the sorted sets. No program in sight. -/
import Derived.Test.YtkkhjpkkjpcbmaaE4
import Derived.Sort.Walk0
namespace Go.Proofs.Ytkkhjpkkjpcbmaa
open Go.RowKit

theorem ba_data (q : ByteArray) : q.toList = q.data.toList := by
 rw [ByteArray.toList.eq_1, bytes_loop q _ 0 [] rfl]
 rfl
theorem ltB_iff {a b : ByteArray} : ltB a b = true ↔ a.data.toList < b.data.toList := by
 unfold ltB
 rw [ba_data, ba_data, bytesLess_eq, decide_eq_true_eq]
theorem beq_iff {a b : ByteArray} : (a.toList == b.toList) = true ↔ a.data.toList = b.data.toList := by
 rw [ba_data, ba_data, beq_iff_eq]
def nms (A : List ByteArray) : List Nm := A.map (fun s => s.data.toList)
def bN (s : Nm) : ByteArray := ⟨s.toArray⟩
theorem bN_nms (A : List ByteArray) : (nms A).map bN = A := by
 unfold nms bN
 rw [List.map_map]
 refine (List.map_congr_left fun s _ => ?_).trans (List.map_id _)
 rfl
/-- strictly ascending -/
def Asc (l : List Nm) : Prop := l.Pairwise (fun x y => x < y)
theorem lt_tri (a b : Nm) : a < b ∨ a = b ∨ b < a := by
 rcases List.le_total a b with h | h
 ·by_cases e : b ≤ a
  ·exact .inr (.inl (List.le_antisymm h e))
  ·exact .inl (List.not_le.1 e)
 ·by_cases e : a ≤ b
  ·exact .inr (.inl (List.le_antisymm e h))
  ·exact .inr (.inr (List.not_le.1 e))
theorem put_spec : ∀ (l : List ByteArray) (s : ByteArray), Asc (nms l) → Asc (nms (putN l s)) ∧ ∀ x, x ∈ nms (putN l s) ↔ x = s.data.toList ∨ x ∈ nms l
 | [], s, _ => ⟨by simp [putN, posN, nms, Asc], fun x => by simp [putN, posN, nms]⟩
 | a :: r, s, h => by
  have h1 : Asc (nms r) := (List.pairwise_cons.1 h).2
  have h2 : ∀ y ∈ nms r, a.data.toList < y := (List.pairwise_cons.1 h).1
  by_cases hlt : ltB a s = true
  ·have e : putN (a :: r) s = a :: putN r s := by
    unfold putN
    simp only [posN, hlt, if_true, zg1, zt1, zd1]
    cases (r[posN r s]?) with
    | none => rfl
    | some y => dsimp only; split <;> rfl
   obtain ⟨i1, i2⟩ := put_spec r s h1
   rw [e]
   refine ⟨List.pairwise_cons.2 ⟨fun y hy => ?_, i1⟩, fun x => ?_⟩
   ·rcases (i2 y).1 hy with rfl | hy
    ·exact ltB_iff.1 hlt
    ·exact h2 y hy
   ·show x ∈ a.data.toList :: nms (putN r s) ↔ x = s.data.toList ∨ x ∈ a.data.toList :: nms r
    rw [List.mem_cons, List.mem_cons, i2 x]
    exact ⟨fun q => q.elim (fun q => .inr (.inl q)) (fun q => q.elim .inl (fun q => .inr (.inr q))), fun q => q.elim (fun q => .inr (.inl q)) (fun q => q.elim .inl (fun q => .inr (.inr q)))⟩
  ·have hp : posN (a :: r) s = 0 := by simp only [posN]; rw [if_neg hlt]
   have hnl : ¬ a.data.toList < s.data.toList := fun q => hlt (ltB_iff.2 q)
   by_cases he : (a.toList == s.toList) = true
   ·have e : putN (a :: r) s = a :: r := by
     unfold putN
     rw [hp]
     simp only [zg0, he, if_true]
    rw [e]
    refine ⟨h, fun x => ⟨fun q => .inr q, fun q => q.elim (fun q => ?_) id⟩⟩
    rw [q, ← beq_iff.1 he]
    exact List.mem_cons_self
   ·have e : putN (a :: r) s = s :: a :: r := by
     unfold putN
     rw [hp]
     simp only [zg0]
     rw [if_neg he]
     rfl
    have hsa : s.data.toList < a.data.toList := by
     rcases lt_tri a.data.toList s.data.toList with q | q | q
     ·exact absurd q hnl
     ·exact absurd (beq_iff.2 q) he
     ·exact q
    rw [e]
    refine ⟨List.pairwise_cons.2 ⟨fun y hy => ?_, h⟩, fun x => List.mem_cons⟩
    rcases List.mem_cons.1 hy with rfl | hy
    ·exact hsa
    ·exact List.lt_trans hsa (h2 y hy)
theorem put_asc {l : List ByteArray} (s : ByteArray) (h : Asc (nms l)) : Asc (nms (putN l s)) := (put_spec l s h).1
theorem put_mem {l : List ByteArray} (s : ByteArray) (h : Asc (nms l)) (x : Nm) : x ∈ nms (putN l s) ↔ x = s.data.toList ∨ x ∈ nms l := (put_spec l s h).2 x
theorem union_spec (ex : ByteArray) (b : Bool) : ∀ (r l : List ByteArray), Asc (nms l) → Asc (nms (unionN ex b l r)) ∧ ∀ x, x ∈ nms (unionN ex b l r) ↔ x ∈ nms l ∨ (x ∈ nms r ∧ (b = true → x ≠ ex.data.toList))
 | [], l, h => ⟨h, fun x => by simp [unionN, nms]⟩
 | a :: r, l, h => by
  have hc : nms (a :: r) = a.data.toList :: nms r := rfl
  unfold unionN
  by_cases hb : (!b || !(a.toList == ex.toList)) = true
  ·rw [if_pos hb]
   obtain ⟨i1, i2⟩ := union_spec ex b r (putN l a) (put_asc a h)
   refine ⟨i1, fun x => ?_⟩
   have hne : b = true → a.data.toList ≠ ex.data.toList := fun q e => by
    rw [q, beq_iff.2 e] at hb; cases hb
   rw [i2 x, put_mem a h, hc, List.mem_cons]
   constructor
   ·rintro ((rfl | q) | ⟨q1, q2⟩)
    ·exact .inr ⟨.inl rfl, hne⟩
    ·exact .inl q
    ·exact .inr ⟨.inr q1, q2⟩
   ·rintro (q | ⟨rfl | q1, q2⟩)
    ·exact .inl (.inr q)
    ·exact .inl (.inl rfl)
    ·exact .inr ⟨q1, q2⟩
  ·rw [if_neg hb]
   obtain ⟨i1, i2⟩ := union_spec ex b r l h
   refine ⟨i1, fun x => ?_⟩
   rw [i2 x, hc, List.mem_cons]
   have hbb : b = true ∧ a.data.toList = ex.data.toList := by
    cases b
    ·exact absurd rfl hb
    ·refine ⟨rfl, ?_⟩
     cases q : (a.toList == ex.toList)
     ·rw [q] at hb; exact absurd rfl hb
     ·exact beq_iff.1 q
   constructor
   ·rintro (q | ⟨q1, q2⟩)
    ·exact .inl q
    ·exact .inr ⟨.inr q1, q2⟩
   ·rintro (q | ⟨rfl | q1, q2⟩)
    ·exact .inl q
    ·exact absurd hbb.2 (q2 hbb.1)
    ·exact .inr ⟨q1, q2⟩
/-- a part of a union, by its names -/
theorem unionF_mem {E : Tr → List Nm} {k : Int} {s : Nm} {i : Nat} {t : Tr} {x : Nm} : x ∈ unionF E k s i t ↔ x ∈ E t ∧ (hidesN k i = true → x ≠ s) := by
 unfold unionF
 split
 ·rename_i h
  simp [h]
 ·rename_i h
  simp [h]
mutual
theorem rrT_spec : ∀ t : Tr, Asc (nms (rrT t)) ∧ ∀ x, x ∈ nms (rrT t) ↔ x ∈ readsT t
 | .mk k n s c => by
  have h0 : Asc (nms (if usesN k = true then [s] else [])) := by split <;> simp [nms, Asc]
  obtain ⟨i1, i2⟩ := rrK_spec k s c 0 _ h0
  rw [rrT, readsT_mk]
  refine ⟨i1, fun x => ?_⟩
  rw [i2 x, List.mem_append]
  refine or_congr ?_ Iff.rfl
  split <;> simp [nms]
theorem rrK_spec (k : Int) (s : ByteArray) : ∀ (c : List Tr) (i : Nat) (A : List ByteArray), Asc (nms A) → Asc (nms (rrK k s i c A)) ∧ ∀ x, x ∈ nms (rrK k s i c A) ↔ x ∈ nms A ∨ x ∈ partsL (unionF readsT k s.data.toList) i c
 | [], i, A, h => ⟨h, fun x => by simp [rrK, partsL]⟩
 | t :: r, i, A, h => by
  obtain ⟨_, j2⟩ := rrT_spec t
  obtain ⟨u1, u2⟩ := union_spec s (hidesN k i) (rrT t) A h
  obtain ⟨i1, i2⟩ := rrK_spec k s r (i + 1) _ u1
  rw [rrK, partsL]
  refine ⟨i1, fun x => ?_⟩
  rw [i2 x, u2 x, j2 x, List.mem_append, unionF_mem, or_assoc]
end
/-- ascending lists of the same names are one -/
theorem asc_sort {l L : List Nm} (h : Asc l) (hm : ∀ x, x ∈ l ↔ x ∈ L) : sortN L = l := by
 have nd : l.Nodup := h.imp (fun {a b} q e => by rw [e] at q; exact absurd q (List.lt_irrefl _))
 have hp : (dd L).Perm l := (List.perm_ext_iff_of_nodup (nodup_dd L) nd).2 fun x => by rw [mem_dd]; exact (hm x).symm
 have tr : ∀ a b c : Nm, decide (a ≤ b) = true → decide (b ≤ c) = true → decide (a ≤ c) = true := fun a b c h1 h2 => by simp only [decide_eq_true_eq] at *; exact List.le_trans h1 h2
 have to : ∀ a b : Nm, (decide (a ≤ b) || decide (b ≤ a)) = true := fun a b => by simp only [Bool.or_eq_true, decide_eq_true_eq]; exact List.le_total a b
 refine List.Perm.eq_of_pairwise (le := fun a b => decide (a ≤ b) = true) (fun a b _ _ h1 h2 => ?_) (List.pairwise_mergeSort tr to (dd L)) (h.imp (fun {a b} q => by simp only [decide_eq_true_eq]; exact List.le_of_lt q)) ((List.mergeSort_perm _ _).trans hp)
 simp only [decide_eq_true_eq] at h1 h2
 exact List.le_antisymm h1 h2
theorem sort_reads (t : Tr) : (sortN (readsT t)).map bN = rrT t := by
 obtain ⟨h1, h2⟩ := rrT_spec t
 rw [asc_sort h1 h2, bN_nms]
end Go.Proofs.Ytkkhjpkkjpcbmaa
