/- The reference's written names are the sorted sets. No program in sight. -/
import Derived.Test.YtkkhjpkkjpcbmaaE5
namespace Go.Proofs.Ytkkhjpkkjpcbmaa
open Go.RowKit

theorem partsL_mem {f : Nat → Tr → List Nm} {x : Nm} : ∀ {c : List Tr} {i : Nat}, x ∈ partsL f i c ↔ ∃ j, ∃ h : j < c.length, x ∈ f (i + j) c[j]
 | [], i => by simp [partsL]
 | t :: r, i => by
  rw [partsL, List.mem_append, partsL_mem]
  constructor
  ·rintro (h | ⟨j, h, q⟩)
   ·exact ⟨0, by simp, by simpa using h⟩
   ·exact ⟨j + 1, by simpa using h, by rw [show i + (j + 1) = i + 1 + j from by omega]; simpa using q⟩
  ·rintro ⟨j, h, q⟩
   cases j with
   | zero => exact .inl (by simpa using q)
   | succ j => exact .inr ⟨j, by simpa using h, by rw [show i + 1 + j = i + (j + 1) from by omega]; simpa using q⟩
theorem placeF_mem {m : Int} {i : Nat} {t : Tr} {x : Nm} : x ∈ placeF m i t ↔ (i : Int) < m ∧ isPl t = true ∧ x = nmOf t := by
 unfold placeF
 split
 ·rename_i h; simp [h]
 ·rename_i h
  constructor
  ·intro q; cases q
  ·intro q; exact absurd ⟨q.1, q.2.1⟩ h
theorem pl1_spec (t : Tr) {A : List ByteArray} (h : Asc (nms A)) : Asc (nms (pl1 t A)) ∧ ∀ x, x ∈ nms (pl1 t A) ↔ x ∈ nms A ∨ (isPl t = true ∧ x = nmOf t) := by
 unfold pl1
 split
 ·rename_i hp
  refine ⟨put_asc _ h, fun x => ?_⟩
  rw [put_mem _ h]
  simp only [hp, true_and]
  exact or_comm
 ·rename_i hp
  exact ⟨h, fun x => ⟨.inl, fun q => q.elim id (fun q => absurd q.1 hp)⟩⟩
theorem placeN_spec (t : Tr) (i : Nat) {A : List ByteArray} (h : Asc (nms A)) : Asc (nms (placeN t i A)) ∧ ∀ x, x ∈ nms (placeN t i A) ↔ x ∈ nms A ∨ ∃ q : i < t.kids.length, isPl t.kids[i] = true ∧ x = nmOf t.kids[i] := by
 unfold placeN
 rcases Nat.lt_or_ge i t.kids.length with q | q
 ·rw [List.getElem?_eq_getElem q]
  obtain ⟨h1, h2⟩ := pl1_spec t.kids[i] h
  exact ⟨h1, fun x => (h2 x).trans (or_congr Iff.rfl ⟨fun r => ⟨q, r⟩, fun ⟨_, r⟩ => r⟩)⟩
 ·rw [List.getElem?_eq_none q]
  exact ⟨h, fun x => ⟨.inl, fun r => r.elim id (fun ⟨r, _⟩ => by omega)⟩⟩
theorem plK_spec : ∀ (c : List Tr) {A : List ByteArray}, Asc (nms A) → Asc (nms (plK c A)) ∧ ∀ x, x ∈ nms (plK c A) ↔ x ∈ nms A ∨ ∃ t ∈ c, isPl t = true ∧ x = nmOf t
 | [], A, h => ⟨h, fun x => by simp [plK]⟩
 | t :: r, A, h => by
  obtain ⟨h1, h2⟩ := pl1_spec t h
  obtain ⟨i1, i2⟩ := plK_spec r h1
  refine ⟨i1, fun x => ?_⟩
  rw [plK, i2 x, h2 x]
  simp only [List.mem_cons, exists_eq_or_imp, or_assoc]
theorem asc_nil : Asc (nms []) := List.Pairwise.nil
theorem pl_mem (t : Tr) (m : Nat) (x : Nm) : x ∈ partsL (placeF m) 0 t.kids ↔ ∃ j, ∃ h : j < t.kids.length, j < m ∧ isPl t.kids[j] = true ∧ x = nmOf t.kids[j] := by
 rw [partsL_mem]
 simp only [Nat.zero_add, placeF_mem, Int.ofNat_lt]
mutual
theorem wrT_spec : ∀ t : Tr, Asc (nms (wrT t)) ∧ ∀ x, x ∈ nms (wrT t) ↔ x ∈ writesT t
 | .mk k n s c => by
  obtain ⟨p1, p2⟩ := placeN_spec (.mk k n s c) 0 asc_nil
  obtain ⟨q1, q2⟩ := placeN_spec (.mk k n s c) 1 p1
  have s0 : Asc (nms [s]) := by simp [nms, Asc]
  obtain ⟨r1, r2⟩ := placeN_spec (.mk k n s c) 0 s0
  obtain ⟨t1, t2⟩ := plK_spec c asc_nil
  obtain ⟨u1, u2⟩ := wrK_spec k s c 0 [] asc_nil
  have m1 := pl_mem (.mk k n s c) 1
  have m2 := pl_mem (.mk k n s c) 2
  have m3 := pl_mem (.mk k n s c) c.length
  have e1 : ((1 : Nat) : Int) = 1 := rfl
  have e2 : ((2 : Nat) : Int) = 2 := rfl
  rw [e1] at m1
  rw [e2] at m2
  simp only [Tr.kids] at p2 q2 r2 m1 m2 m3
  have n0 : ∀ x, x ∈ nms [] ↔ False := fun x => by simp [nms]
  rw [wrT, writesT_mk]
  by_cases h1 : updN k = true
  ·rw [if_pos h1, if_pos h1]
   refine ⟨p1, fun x => ?_⟩
   rw [p2 x, m1 x, n0, false_or]
   exact ⟨fun ⟨h, q⟩ => ⟨0, h, by omega, q⟩, fun ⟨j, h, hj, q⟩ => by have e : j = 0 := (by omega); subst e; exact ⟨h, q⟩⟩
  ·rw [if_neg h1, if_neg h1]
   by_cases h2 : (k == 43) = true
   ·rw [if_pos h2, if_pos h2]
    refine ⟨q1, fun x => ?_⟩
    rw [q2 x, p2 x, m2 x, n0, false_or]
    constructor
    ·rintro (⟨h, q⟩ | ⟨h, q⟩)
     ·exact ⟨0, h, by omega, q⟩
     ·exact ⟨1, h, by omega, q⟩
    ·rintro ⟨j, h, hj, q⟩
     match j, h, hj, q with
     | 0, h, _, q => exact .inl ⟨h, q⟩
     | 1, h, _, q => exact .inr ⟨h, q⟩
   ·rw [if_neg h2, if_neg h2]
    by_cases h3 : (k == 44 || k == 45) = true
    ·rw [if_pos h3, if_pos h3]
     refine ⟨r1, fun x => ?_⟩
     rw [r2 x, List.mem_append, m1 x]
     refine or_congr (by simp [nms]) ?_
     exact ⟨fun ⟨h, q⟩ => ⟨0, h, by omega, q⟩, fun ⟨j, h, hj, q⟩ => by have e : j = 0 := (by omega); subst e; exact ⟨h, q⟩⟩
    ·rw [if_neg h3, if_neg h3]
     by_cases h4 : (k == 50 || k == 51) = true
     ·rw [if_pos h4, if_pos h4]
      refine ⟨t1, fun x => ?_⟩
      rw [t2 x, m3 x, n0, false_or]
      constructor
      ·rintro ⟨t, ht, q⟩
       obtain ⟨j, hj, rfl⟩ := List.getElem_of_mem ht
       exact ⟨j, hj, hj, q⟩
      ·rintro ⟨j, hj, _, q⟩
       exact ⟨c[j], List.getElem_mem hj, q⟩
     ·rw [if_neg h4, if_neg h4]
      by_cases h5 : bodN k = true
      ·rw [if_pos h5, if_pos h5]
       refine ⟨u1, fun x => ?_⟩
       rw [u2 x, n0, false_or]
      ·rw [if_neg h5, if_neg h5]
       exact ⟨asc_nil, fun x => by simp [nms]⟩
theorem wrK_spec (k : Int) (s : ByteArray) : ∀ (c : List Tr) (i : Nat) (A : List ByteArray), Asc (nms A) → Asc (nms (wrK k s i c A)) ∧ ∀ x, x ∈ nms (wrK k s i c A) ↔ x ∈ nms A ∨ x ∈ partsL (unionF writesT k s.data.toList) i c
 | [], i, A, h => ⟨h, fun x => by simp [wrK, partsL]⟩
 | t :: r, i, A, h => by
  obtain ⟨_, j2⟩ := wrT_spec t
  obtain ⟨u1, u2⟩ := union_spec s (hidesN k i) (wrT t) A h
  obtain ⟨i1, i2⟩ := wrK_spec k s r (i + 1) _ u1
  rw [wrK, partsL]
  refine ⟨i1, fun x => ?_⟩
  rw [i2 x, u2 x, j2 x, List.mem_append, unionF_mem, or_assoc]
end
theorem sort_writes (t : Tr) : (sortN (writesT t)).map bN = wrT t := by
 obtain ⟨h1, h2⟩ := wrT_spec t
 rw [asc_sort h1 h2, bN_nms]
theorem ba_inj {a b : ByteArray} (h : a.data.toList = b.data.toList) : a = b := ByteArray.ext (Array.toList_inj.1 h)
def commonB (a b : List ByteArray) : Bool := a.any fun x => b.any fun y => x.toList == y.toList
theorem common_disj (t u : Tr) : disj (writesT t) (readsT u) = !commonB (wrT t) (rrT u) := by
 have h1 := (wrT_spec t).2
 have h2 := (rrT_spec u).2
 rw [Bool.eq_iff_iff]
 simp only [disj, commonB, List.all_eq_true, znt, decide_eq_false_iff_not, List.any_eq_false]
 constructor
 ·intro h x hx hany
  obtain ⟨y, hy, e⟩ := List.any_eq_true.1 hany
  have hx' := (h1 x.data.toList).1 (List.mem_map.2 ⟨x, hx, rfl⟩)
  exact h _ hx' ((h2 _).1 (List.mem_map.2 ⟨y, hy, (beq_iff.1 e).symm⟩))
 ·intro h x hx hx2
  obtain ⟨a, ha, rfl⟩ := List.mem_map.1 ((h1 x).2 hx)
  obtain ⟨b, hb, e⟩ := List.mem_map.1 ((h2 _).2 hx2)
  have := h a ha
  simp only [Bool.not_eq_true, List.any_eq_false] at this
  have hb2 := this b hb
  rw [beq_iff.2 e.symm] at hb2
  cases hb2
end Go.Proofs.Ytkkhjpkkjpcbmaa
