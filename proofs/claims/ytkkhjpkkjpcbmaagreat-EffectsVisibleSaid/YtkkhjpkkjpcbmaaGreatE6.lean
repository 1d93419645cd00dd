/- The reference's lists of names over data. -/
import Derived.Test.YtkkhjpkkjpcbmaaGreatE1
import Derived.Test.YtkkhjpkkjpcbmaaGreatEf7
import Derived.Sort.Walk0
namespace Go.Proofs.YtkkhjpkkjpcbmaaGreat
open Go.RowKit
def ltB (a b : ByteArray) : Bool := Op.bytesLess a.toList b.toList
/-- a name is put into a sorted list -/
def posN : List ByteArray → ByteArray → Nat
  | [], _ => 0
  | x :: r, s => if ltB x s then posN r s + 1 else 0
def putN (l : List ByteArray) (s : ByteArray) : List ByteArray := match l[posN l s]? with
  | some x => if x.toList == s.toList then l else l.take (posN l s) ++ [s] ++ l.drop (posN l s)
  | none => l.take (posN l s) ++ [s] ++ l.drop (posN l s)
end Go.Proofs.YtkkhjpkkjpcbmaaGreat

/- The reference's Union and Reads over data. -/
namespace Go.Proofs.YtkkhjpkkjpcbmaaGreat
open Go.RowKit
/-- a slice of names, however it came about -/
structure IsL (d : D) (A : List ByteArray) : Prop where
  s : d.strip = sl 1 (A.map dS)
  u : ∀ m, d.under m = true
  g : d.good = true
  a : d.isAgg = false
  c : d.cells = [d]
theorem IsL.sl (A : List ByteArray) : IsL (Go.Proofs.YtkkhjpkkjpcbmaaGreat.sl 1 (A.map dS)) A := ⟨sl_strip (map_strip dS_strip A), fun m => sl_under (map_under (dS_under m) A), rfl, rfl, rfl⟩
theorem IsL.nil : IsL (.slice .nil 0 []) [] := ⟨rfl, fun _ => rfl, rfl, rfl, rfl⟩
theorem putN_len (l : List ByteArray) (s : ByteArray) : (putN l s).length ≤ l.length + 1 := by
  unfold putN
  split
  · split
    · omega
    · simp; omega
  · simp; omega
def unionN (ex : ByteArray) (b : Bool) : List ByteArray → List ByteArray → List ByteArray
  | l, [] => l
  | l, x :: r => unionN ex b (if !b || !(x.toList == ex.toList) then putN l x else l) r
theorem unionN_len (ex : ByteArray) (b : Bool) : ∀ (r l : List ByteArray), (unionN ex b l r).length ≤ l.length + r.length
  | [], l => by simp [unionN]
  | x :: r, l => by
    have h1 := unionN_len ex b r (if !b || !(x.toList == ex.toList) then putN l x else l)
    have h2 := putN_len l x
    unfold unionN
    simp only [zlc]
    split at h1
    · rename_i hc; rw [if_pos hc]; omega
    · rename_i hc; rw [if_neg hc]; omega
mutual
def rrT : Tr → List ByteArray
  | .mk k _ s c => rrK k s 0 c (if usesN k then [s] else [])
def rrK (k : Int) (s : ByteArray) : Nat → List Tr → List ByteArray → List ByteArray
  | _, [], A => A
  | i, t :: r, A => rrK k s (i + 1) r (unionN s (hidesN k i) A (rrT t))
end
mutual
theorem rrT_len : ∀ t : Tr, (rrT t).length ≤ t.size
  | .mk k _ s c => by
    have := rrK_len k s c 0 (if usesN k then [s] else [])
    have h2 : (if usesN k = true then [s] else []).length ≤ 1 := by split <;> simp
    simp only [rrT, Tr.size]; omega
theorem rrK_len (k : Int) (s : ByteArray) : ∀ (c : List Tr) (i : Nat) (A : List ByteArray), (rrK k s i c A).length ≤ A.length + Tr.sizes c
  | [], i, A => by simp [rrK]
  | t :: r, i, A => by
    have h1 := rrK_len k s r (i + 1) (unionN s (hidesN k i) A (rrT t))
    have h2 := unionN_len s (hidesN k i) (rrT t) A
    have h3 := rrT_len t
    simp only [rrK, Tr.sizes]; omega
end
end Go.Proofs.YtkkhjpkkjpcbmaaGreat

/- The reference's place over data. -/
namespace Go.Proofs.YtkkhjpkkjpcbmaaGreat
open Go.RowKit
def pl1 (x : Tr) (A : List ByteArray) : List ByteArray := if isPl x then putN A x.name else A
def placeN (t : Tr) (i : Nat) (A : List ByteArray) : List ByteArray := match t.kids[i]? with
  | some x => pl1 x A
  | none => A
def plK : List Tr → List ByteArray → List ByteArray
  | [], A => A
  | x :: r, A => plK r (pl1 x A)
mutual
def wrT : Tr → List ByteArray
  | .mk k n s c => if updN k then placeN (.mk k n s c) 0 [] else if k == 43 then placeN (.mk k n s c) 1 (placeN (.mk k n s c) 0 []) else if k == 44 || k == 45 then placeN (.mk k n s c) 0 [s] else if k == 50 || k == 51 then plK c [] else if bodN k then wrK k s 0 c [] else []
def wrK (k : Int) (s : ByteArray) : Nat → List Tr → List ByteArray → List ByteArray
  | _, [], A => A
  | i, t :: r, A => wrK k s (i + 1) r (unionN s (hidesN k i) A (wrT t))
end
end Go.Proofs.YtkkhjpkkjpcbmaaGreat

/- The reference's Writes over data. -/
namespace Go.Proofs.YtkkhjpkkjpcbmaaGreat
open Go.RowKit
end Go.Proofs.YtkkhjpkkjpcbmaaGreat

/- The reference's lists are the sorted sets. No program in sight. -/
namespace Go.Proofs.YtkkhjpkkjpcbmaaGreat
open Go.RowKit

theorem ba_data (q : ByteArray) : q.toList = q.data.toList := by
 rw [ByteArray.toList.eq_1, bytes_loop q _ 0 [] rfl]
 rfl
theorem ltB_iff {a b : ByteArray} : ltB a b = true ↔ a.data.toList < b.data.toList := by
 unfold ltB
 rw [ba_data, ba_data, bytesLess_eq, decide_eq_true_eq]
theorem beq_iff {a b : ByteArray} : (a.toList == b.toList) = true ↔ a.data.toList = b.data.toList := by
 rw [ba_data, ba_data, beq_iff_eq]
def nms (A : List ByteArray) : List Nm := A.map (fun s => s.data.toList)
def bN (s : Nm) : ByteArray := ⟨s.toArray⟩
theorem bN_nms (A : List ByteArray) : (nms A).map bN = A := by
 unfold nms bN
 rw [List.map_map]
 refine (List.map_congr_left fun s _ => ?_).trans (List.map_id _)
 rfl
/-- strictly ascending -/
def Asc (l : List Nm) : Prop := l.Pairwise (fun x y => x < y)
theorem lt_tri (a b : Nm) : a < b ∨ a = b ∨ b < a := by
 rcases List.le_total a b with h | h
 ·by_cases e : b ≤ a
  ·exact .inr (.inl (List.le_antisymm h e))
  ·exact .inl (List.not_le.1 e)
 ·by_cases e : a ≤ b
  ·exact .inr (.inl (List.le_antisymm e h))
  ·exact .inr (.inr (List.not_le.1 e))
theorem nms_mem {A : List ByteArray} {x : Nm} : x ∈ nms A ↔ ∃ s ∈ A, s.data.toList = x := List.mem_map
theorem put_spec : ∀ (l : List ByteArray) (s : ByteArray), Asc (nms l) → Asc (nms (putN l s)) ∧ ∀ x, x ∈ nms (putN l s) ↔ x = s.data.toList ∨ x ∈ nms l
 | [], s, _ => ⟨by simp [putN, posN, nms, Asc], fun x => by simp [putN, posN, nms]⟩
 | a :: r, s, h => by
  have h1 : Asc (nms r) := (List.pairwise_cons.1 h).2
  have h2 : ∀ y ∈ nms r, a.data.toList < y := (List.pairwise_cons.1 h).1
  by_cases hlt : ltB a s = true
  ·have e : putN (a :: r) s = a :: putN r s := by
    unfold putN
    simp only [posN, hlt, if_true, zg1, zt1, zd1]
    cases (r[posN r s]?) with
    | none => rfl
    | some y => dsimp only; split <;> rfl
   obtain ⟨i1, i2⟩ := put_spec r s h1
   rw [e]
   refine ⟨List.pairwise_cons.2 ⟨fun y hy => ?_, i1⟩, fun x => ?_⟩
   ·rcases (i2 y).1 hy with rfl | hy
    ·exact ltB_iff.1 hlt
    ·exact h2 y hy
   ·show x ∈ a.data.toList :: nms (putN r s) ↔ x = s.data.toList ∨ x ∈ a.data.toList :: nms r
    rw [List.mem_cons, List.mem_cons, i2 x]
    exact ⟨fun q => q.elim (fun q => .inr (.inl q)) (fun q => q.elim .inl (fun q => .inr (.inr q))), fun q => q.elim (fun q => .inr (.inl q)) (fun q => q.elim .inl (fun q => .inr (.inr q)))⟩
  ·have hp : posN (a :: r) s = 0 := by simp only [posN]; rw [if_neg hlt]
   have hnl : ¬ a.data.toList < s.data.toList := fun q => hlt (ltB_iff.2 q)
   by_cases he : (a.toList == s.toList) = true
   ·have e : putN (a :: r) s = a :: r := by
     unfold putN
     rw [hp]
     simp only [zg0, he, if_true]
    rw [e]
    refine ⟨h, fun x => ⟨fun q => .inr q, fun q => q.elim (fun q => ?_) id⟩⟩
    rw [q, ← beq_iff.1 he]
    exact List.mem_cons_self
   ·have e : putN (a :: r) s = s :: a :: r := by
     unfold putN
     rw [hp]
     simp only [zg0]
     rw [if_neg he]
     rfl
    have hsa : s.data.toList < a.data.toList := by
     rcases lt_tri a.data.toList s.data.toList with q | q | q
     ·exact absurd q hnl
     ·exact absurd (beq_iff.2 q) he
     ·exact q
    rw [e]
    refine ⟨List.pairwise_cons.2 ⟨fun y hy => ?_, h⟩, fun x => List.mem_cons⟩
    rcases List.mem_cons.1 hy with rfl | hy
    ·exact hsa
    ·exact List.lt_trans hsa (h2 y hy)
theorem put_asc {l : List ByteArray} (s : ByteArray) (h : Asc (nms l)) : Asc (nms (putN l s)) := (put_spec l s h).1
theorem put_mem {l : List ByteArray} (s : ByteArray) (h : Asc (nms l)) (x : Nm) : x ∈ nms (putN l s) ↔ x = s.data.toList ∨ x ∈ nms l := (put_spec l s h).2 x
theorem union_spec (ex : ByteArray) (b : Bool) : ∀ (r l : List ByteArray), Asc (nms l) → Asc (nms (unionN ex b l r)) ∧ ∀ x, x ∈ nms (unionN ex b l r) ↔ x ∈ nms l ∨ (x ∈ nms r ∧ (b = true → x ≠ ex.data.toList))
 | [], l, h => ⟨h, fun x => by simp [unionN, nms]⟩
 | a :: r, l, h => by
  have hc : nms (a :: r) = a.data.toList :: nms r := rfl
  unfold unionN
  by_cases hb : (!b || !(a.toList == ex.toList)) = true
  ·rw [if_pos hb]
   obtain ⟨i1, i2⟩ := union_spec ex b r (putN l a) (put_asc a h)
   refine ⟨i1, fun x => ?_⟩
   have hne : b = true → a.data.toList ≠ ex.data.toList := fun q e => by
    rw [q, beq_iff.2 e] at hb; cases hb
   rw [i2 x, put_mem a h, hc, List.mem_cons]
   constructor
   ·rintro ((rfl | q) | ⟨q1, q2⟩)
    ·exact .inr ⟨.inl rfl, hne⟩
    ·exact .inl q
    ·exact .inr ⟨.inr q1, q2⟩
   ·rintro (q | ⟨rfl | q1, q2⟩)
    ·exact .inl (.inr q)
    ·exact .inl (.inl rfl)
    ·exact .inr ⟨q1, q2⟩
  ·rw [if_neg hb]
   obtain ⟨i1, i2⟩ := union_spec ex b r l h
   refine ⟨i1, fun x => ?_⟩
   rw [i2 x, hc, List.mem_cons]
   have hbb : b = true ∧ a.data.toList = ex.data.toList := by
    cases b
    ·exact absurd rfl hb
    ·refine ⟨rfl, ?_⟩
     cases q : (a.toList == ex.toList)
     ·rw [q] at hb; exact absurd rfl hb
     ·exact beq_iff.1 q
   constructor
   ·rintro (q | ⟨q1, q2⟩)
    ·exact .inl q
    ·exact .inr ⟨.inr q1, q2⟩
   ·rintro (q | ⟨rfl | q1, q2⟩)
    ·exact .inl q
    ·exact absurd hbb.2 (q2 hbb.1)
    ·exact .inr ⟨q1, q2⟩
/-- a part of a union, by its names -/
theorem unionF_mem {E : Tr → List Nm} {k : Int} {s : Nm} {i : Nat} {t : Tr} {x : Nm} : x ∈ unionF E k s i t ↔ x ∈ E t ∧ (hidesN k i = true → x ≠ s) := by
 unfold unionF
 split
 ·rename_i h
  simp [h]
 ·rename_i h
  simp [h]
mutual
theorem rrT_spec : ∀ t : Tr, Asc (nms (rrT t)) ∧ ∀ x, x ∈ nms (rrT t) ↔ x ∈ readsT t
 | .mk k n s c => by
  have h0 : Asc (nms (if usesN k = true then [s] else [])) := by split <;> simp [nms, Asc]
  obtain ⟨i1, i2⟩ := rrK_spec k s c 0 _ h0
  rw [rrT, readsT_mk]
  refine ⟨i1, fun x => ?_⟩
  rw [i2 x, List.mem_append]
  refine or_congr ?_ Iff.rfl
  split <;> simp [nms]
theorem rrK_spec (k : Int) (s : ByteArray) : ∀ (c : List Tr) (i : Nat) (A : List ByteArray), Asc (nms A) → Asc (nms (rrK k s i c A)) ∧ ∀ x, x ∈ nms (rrK k s i c A) ↔ x ∈ nms A ∨ x ∈ partsL (unionF readsT k s.data.toList) i c
 | [], i, A, h => ⟨h, fun x => by simp [rrK, partsL]⟩
 | t :: r, i, A, h => by
  obtain ⟨_, j2⟩ := rrT_spec t
  obtain ⟨u1, u2⟩ := union_spec s (hidesN k i) (rrT t) A h
  obtain ⟨i1, i2⟩ := rrK_spec k s r (i + 1) _ u1
  rw [rrK, partsL]
  refine ⟨i1, fun x => ?_⟩
  rw [i2 x, u2 x, j2 x, List.mem_append, unionF_mem, or_assoc]
end
/-- ascending lists of the same names are one -/
theorem asc_sort {l L : List Nm} (h : Asc l) (hm : ∀ x, x ∈ l ↔ x ∈ L) : sortN L = l := by
 have nd : l.Nodup := h.imp (fun {a b} q e => by rw [e] at q; exact absurd q (List.lt_irrefl _))
 have hp : (dd L).Perm l := (List.perm_ext_iff_of_nodup (nodup_dd L) nd).2 fun x => by rw [mem_dd]; exact (hm x).symm
 have tr : ∀ a b c : Nm, decide (a ≤ b) = true → decide (b ≤ c) = true → decide (a ≤ c) = true := fun a b c h1 h2 => by simp only [decide_eq_true_eq] at *; exact List.le_trans h1 h2
 have to : ∀ a b : Nm, (decide (a ≤ b) || decide (b ≤ a)) = true := fun a b => by simp only [Bool.or_eq_true, decide_eq_true_eq]; exact List.le_total a b
 refine List.Perm.eq_of_pairwise (le := fun a b => decide (a ≤ b) = true) (fun a b _ _ h1 h2 => ?_) (List.pairwise_mergeSort tr to (dd L)) (h.imp (fun {a b} q => by simp only [decide_eq_true_eq]; exact List.le_of_lt q)) ((List.mergeSort_perm _ _).trans hp)
 simp only [decide_eq_true_eq] at h1 h2
 exact List.le_antisymm h1 h2
theorem sort_reads (t : Tr) : (sortN (readsT t)).map bN = rrT t := by
 obtain ⟨h1, h2⟩ := rrT_spec t
 rw [asc_sort h1 h2, bN_nms]
end Go.Proofs.YtkkhjpkkjpcbmaaGreat

/- The reference's written names are the sorted sets. No program in sight. -/
namespace Go.Proofs.YtkkhjpkkjpcbmaaGreat
open Go.RowKit

theorem partsL_mem {f : Nat → Tr → List Nm} {x : Nm} : ∀ {c : List Tr} {i : Nat}, x ∈ partsL f i c ↔ ∃ j, ∃ h : j < c.length, x ∈ f (i + j) c[j]
 | [], i => by simp [partsL]
 | t :: r, i => by
  rw [partsL, List.mem_append, partsL_mem]
  constructor
  ·rintro (h | ⟨j, h, q⟩)
   ·exact ⟨0, by simp, by simpa using h⟩
   ·exact ⟨j + 1, by simpa using h, by rw [show i + (j + 1) = i + 1 + j from by omega]; simpa using q⟩
  ·rintro ⟨j, h, q⟩
   cases j with
   | zero => exact .inl (by simpa using q)
   | succ j => exact .inr ⟨j, by simpa using h, by rw [show i + 1 + j = i + (j + 1) from by omega]; simpa using q⟩
theorem placeF_mem {m : Int} {i : Nat} {t : Tr} {x : Nm} : x ∈ placeF m i t ↔ (i : Int) < m ∧ isPl t = true ∧ x = nmOf t := by
 unfold placeF
 split
 ·rename_i h; simp [h]
 ·rename_i h
  constructor
  ·intro q; cases q
  ·intro q; exact absurd ⟨q.1, q.2.1⟩ h
theorem pl1_spec (t : Tr) {A : List ByteArray} (h : Asc (nms A)) : Asc (nms (pl1 t A)) ∧ ∀ x, x ∈ nms (pl1 t A) ↔ x ∈ nms A ∨ (isPl t = true ∧ x = nmOf t) := by
 unfold pl1
 split
 ·rename_i hp
  refine ⟨put_asc _ h, fun x => ?_⟩
  rw [put_mem _ h]
  simp only [hp, true_and]
  exact or_comm
 ·rename_i hp
  exact ⟨h, fun x => ⟨.inl, fun q => q.elim id (fun q => absurd q.1 hp)⟩⟩
theorem placeN_spec (t : Tr) (i : Nat) {A : List ByteArray} (h : Asc (nms A)) : Asc (nms (placeN t i A)) ∧ ∀ x, x ∈ nms (placeN t i A) ↔ x ∈ nms A ∨ ∃ q : i < t.kids.length, isPl t.kids[i] = true ∧ x = nmOf t.kids[i] := by
 unfold placeN
 rcases Nat.lt_or_ge i t.kids.length with q | q
 ·rw [List.getElem?_eq_getElem q]
  obtain ⟨h1, h2⟩ := pl1_spec t.kids[i] h
  exact ⟨h1, fun x => (h2 x).trans (or_congr Iff.rfl ⟨fun r => ⟨q, r⟩, fun ⟨_, r⟩ => r⟩)⟩
 ·rw [List.getElem?_eq_none q]
  exact ⟨h, fun x => ⟨.inl, fun r => r.elim id (fun ⟨r, _⟩ => by omega)⟩⟩
theorem plK_spec : ∀ (c : List Tr) {A : List ByteArray}, Asc (nms A) → Asc (nms (plK c A)) ∧ ∀ x, x ∈ nms (plK c A) ↔ x ∈ nms A ∨ ∃ t ∈ c, isPl t = true ∧ x = nmOf t
 | [], A, h => ⟨h, fun x => by simp [plK]⟩
 | t :: r, A, h => by
  obtain ⟨h1, h2⟩ := pl1_spec t h
  obtain ⟨i1, i2⟩ := plK_spec r h1
  refine ⟨i1, fun x => ?_⟩
  rw [plK, i2 x, h2 x]
  simp only [List.mem_cons, exists_eq_or_imp, or_assoc]
theorem asc_nil : Asc (nms []) := List.Pairwise.nil
theorem pl_mem (t : Tr) (m : Nat) (x : Nm) : x ∈ partsL (placeF m) 0 t.kids ↔ ∃ j, ∃ h : j < t.kids.length, j < m ∧ isPl t.kids[j] = true ∧ x = nmOf t.kids[j] := by
 rw [partsL_mem]
 simp only [Nat.zero_add, placeF_mem, Int.ofNat_lt]
mutual
theorem wrT_spec : ∀ t : Tr, Asc (nms (wrT t)) ∧ ∀ x, x ∈ nms (wrT t) ↔ x ∈ writesT t
 | .mk k n s c => by
  obtain ⟨p1, p2⟩ := placeN_spec (.mk k n s c) 0 asc_nil
  obtain ⟨q1, q2⟩ := placeN_spec (.mk k n s c) 1 p1
  have s0 : Asc (nms [s]) := by simp [nms, Asc]
  obtain ⟨r1, r2⟩ := placeN_spec (.mk k n s c) 0 s0
  obtain ⟨t1, t2⟩ := plK_spec c asc_nil
  obtain ⟨u1, u2⟩ := wrK_spec k s c 0 [] asc_nil
  have m1 := pl_mem (.mk k n s c) 1
  have m2 := pl_mem (.mk k n s c) 2
  have m3 := pl_mem (.mk k n s c) c.length
  have e1 : ((1 : Nat) : Int) = 1 := rfl
  have e2 : ((2 : Nat) : Int) = 2 := rfl
  rw [e1] at m1
  rw [e2] at m2
  simp only [Tr.kids] at p2 q2 r2 m1 m2 m3
  have n0 : ∀ x, x ∈ nms [] ↔ False := fun x => by simp [nms]
  rw [wrT, writesT_mk]
  by_cases h1 : updN k = true
  ·rw [if_pos h1, if_pos h1]
   refine ⟨p1, fun x => ?_⟩
   rw [p2 x, m1 x, n0, false_or]
   exact ⟨fun ⟨h, q⟩ => ⟨0, h, by omega, q⟩, fun ⟨j, h, hj, q⟩ => by have e : j = 0 := (by omega); subst e; exact ⟨h, q⟩⟩
  ·rw [if_neg h1, if_neg h1]
   by_cases h2 : (k == 43) = true
   ·rw [if_pos h2, if_pos h2]
    refine ⟨q1, fun x => ?_⟩
    rw [q2 x, p2 x, m2 x, n0, false_or]
    constructor
    ·rintro (⟨h, q⟩ | ⟨h, q⟩)
     ·exact ⟨0, h, by omega, q⟩
     ·exact ⟨1, h, by omega, q⟩
    ·rintro ⟨j, h, hj, q⟩
     match j, h, hj, q with
     | 0, h, _, q => exact .inl ⟨h, q⟩
     | 1, h, _, q => exact .inr ⟨h, q⟩
   ·rw [if_neg h2, if_neg h2]
    by_cases h3 : (k == 44 || k == 45) = true
    ·rw [if_pos h3, if_pos h3]
     refine ⟨r1, fun x => ?_⟩
     rw [r2 x, List.mem_append, m1 x]
     refine or_congr (by simp [nms]) ?_
     exact ⟨fun ⟨h, q⟩ => ⟨0, h, by omega, q⟩, fun ⟨j, h, hj, q⟩ => by have e : j = 0 := (by omega); subst e; exact ⟨h, q⟩⟩
    ·rw [if_neg h3, if_neg h3]
     by_cases h4 : (k == 50 || k == 51) = true
     ·rw [if_pos h4, if_pos h4]
      refine ⟨t1, fun x => ?_⟩
      rw [t2 x, m3 x, n0, false_or]
      constructor
      ·rintro ⟨t, ht, q⟩
       obtain ⟨j, hj, rfl⟩ := List.getElem_of_mem ht
       exact ⟨j, hj, hj, q⟩
      ·rintro ⟨j, hj, _, q⟩
       exact ⟨c[j], List.getElem_mem hj, q⟩
     ·rw [if_neg h4, if_neg h4]
      by_cases h5 : bodN k = true
      ·rw [if_pos h5, if_pos h5]
       refine ⟨u1, fun x => ?_⟩
       rw [u2 x, n0, false_or]
      ·rw [if_neg h5, if_neg h5]
       exact ⟨asc_nil, fun x => by simp [nms]⟩
theorem wrK_spec (k : Int) (s : ByteArray) : ∀ (c : List Tr) (i : Nat) (A : List ByteArray), Asc (nms A) → Asc (nms (wrK k s i c A)) ∧ ∀ x, x ∈ nms (wrK k s i c A) ↔ x ∈ nms A ∨ x ∈ partsL (unionF writesT k s.data.toList) i c
 | [], i, A, h => ⟨h, fun x => by simp [wrK, partsL]⟩
 | t :: r, i, A, h => by
  obtain ⟨_, j2⟩ := wrT_spec t
  obtain ⟨u1, u2⟩ := union_spec s (hidesN k i) (wrT t) A h
  obtain ⟨i1, i2⟩ := wrK_spec k s r (i + 1) _ u1
  rw [wrK, partsL]
  refine ⟨i1, fun x => ?_⟩
  rw [i2 x, u2 x, j2 x, List.mem_append, unionF_mem, or_assoc]
end
theorem sort_writes (t : Tr) : (sortN (writesT t)).map bN = wrT t := by
 obtain ⟨h1, h2⟩ := wrT_spec t
 rw [asc_sort h1 h2, bN_nms]
def commonB (a b : List ByteArray) : Bool := a.any fun x => b.any fun y => x.toList == y.toList
theorem common_disj (t u : Tr) : disj (writesT t) (readsT u) = !commonB (wrT t) (rrT u) := by
 have h1 := (wrT_spec t).2
 have h2 := (rrT_spec u).2
 rw [Bool.eq_iff_iff]
 simp only [disj, commonB, List.all_eq_true, znt, decide_eq_false_iff_not, List.any_eq_false]
 constructor
 ·intro h x hx hany
  obtain ⟨y, hy, e⟩ := List.any_eq_true.1 hany
  have hx' := (h1 x.data.toList).1 (List.mem_map.2 ⟨x, hx, rfl⟩)
  exact h _ hx' ((h2 _).1 (List.mem_map.2 ⟨y, hy, (beq_iff.1 e).symm⟩))
 ·intro h x hx hx2
  obtain ⟨a, ha, rfl⟩ := List.mem_map.1 ((h1 x).2 hx)
  obtain ⟨b, hb, e⟩ := List.mem_map.1 ((h2 _).2 hx2)
  have := h a ha
  simp only [Bool.not_eq_true, List.any_eq_false] at this
  have hb2 := this b hb
  rw [beq_iff.2 e.symm] at hb2
  cases hb2
end Go.Proofs.YtkkhjpkkjpcbmaaGreat
