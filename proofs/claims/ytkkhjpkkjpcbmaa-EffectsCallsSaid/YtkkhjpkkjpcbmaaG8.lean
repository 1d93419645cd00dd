/- The reference's Recursive: its contract. -/
import Derived.Test.YtkkhjpkkjpcbmaaG6
namespace Go.Proofs.Ytkkhjpkkjpcbmaa
open Go.RowKit


def stepN (g : Int → List Int) (s : List Int × List Int) (j : Int) : List Int × List Int := if j ∈ s.1 then s else (addI s.1 j, s.2 ++ g j)
def rndN (g : Int → List Int) (L : List Int) (s : List Int × List Int) : List Int × List Int := L.foldl (stepN g) s
def outR (g : Int → List Int) : Nat → List Int × List Int → List Int × List Int
 | 0, s => s
 | c + 1, s => outR g c (rndN g s.2 (s.1, []))
def markN (L V : List Int) : List Int := L.foldl addI V
def recR (g : Int → List Int) (n : Nat) (q : Int) : Bool := decide (q ∈ markN (outR g n ([], g q)).2 (outR g n ([], g q)).1)
theorem rndN_step {g : Int → List Int} {L : List Int} {i : Nat} {s : List Int × List Int} (h : i < L.length) : rndN g (L.drop i) s = rndN g (L.drop (i + 1)) (stepN g s L[i]) := by
 rw [List.drop_eq_getElem_cons h]; rfl
theorem markN_step {L V : List Int} {i : Nat} (h : i < L.length) : markN (L.drop i) V = markN (L.drop (i + 1)) (addI V L[i]) := by
 rw [List.drop_eq_getElem_cons h]; rfl
def InR (n : Nat) (L : List Int) : Prop := ∀ x ∈ L, 0 ≤ x ∧ x < (n : Int)
theorem InR.app {n : Nat} {L M : List Int} (h : InR n L) (k : InR n M) : InR n (L ++ M) := fun x hx => (List.mem_append.1 hx).elim (h x) (k x)
theorem InR.nil (n : Nat) : InR n [] := fun _ h => by simp at h
theorem InN.full {n : Nat} {V : List Int} (h : InN n V) (hn : n ≤ V.length) {x : Int} (hx : 0 ≤ x ∧ x < (n : Int)) : x ∈ V := by
 by_cases q : x ∈ V
 ·exact q
 ·have h1 := (h.add hx).len
  rw [addI_new q] at h1
  omega
section
variable {g : Int → List Int} {n : Nat} {q : Int}
/-- what holds between the steps of a round: V is marked, L is to come, M has been gathered -/
structure Rd (g : Int → List Int) (n : Nat) (q : Int) (V L M : List Int) : Prop where
 v : InN n V
 l : InR n L
 m : InR n M
 pv : ∀ x ∈ V, Path g q x
 pl : ∀ x ∈ L, Path g q x
 pm : ∀ x ∈ M, Path g q x
 cl : ∀ x ∈ V, ∀ j ∈ g x, j ∈ V ∨ j ∈ L ∨ j ∈ M
 st : ∀ j ∈ g q, j ∈ V ∨ j ∈ L ∨ j ∈ M
theorem Rd.step (hg : ∀ i, ∀ j ∈ g i, 0 ≤ j ∧ j < (n : Int)) {V L M : List Int} {j : Int} (h : Rd g n q V (j :: L) M) : Rd g n q (stepN g (V, M) j).1 L (stepN g (V, M) j).2 := by
 unfold stepN
 have hL : InR n L := fun x hx => h.l x (List.mem_cons_of_mem _ hx)
 have hpl : ∀ x ∈ L, Path g q x := fun x hx => h.pl x (List.mem_cons_of_mem _ hx)
 split
 ·rename_i hm
  refine ⟨h.v, hL, h.m, h.pv, hpl, h.pm, fun x hx k hk => ?_, fun k hk => ?_⟩
  ·rcases h.cl x hx k hk with q | q | q
   ·exact .inl q
   ·rcases List.mem_cons.1 q with rfl | q
    ·exact .inl hm
    ·exact .inr (.inl q)
   ·exact .inr (.inr q)
  ·rcases h.st k hk with q | q | q
   ·exact .inl q
   ·rcases List.mem_cons.1 q with rfl | q
    ·exact .inl hm
    ·exact .inr (.inl q)
   ·exact .inr (.inr q)
 ·have hj := h.pl j List.mem_cons_self
  refine ⟨h.v.add (h.l j List.mem_cons_self), hL, h.m.app (hg j), fun x hx => ?_, hpl, fun x hx => ?_, fun x hx k hk => ?_, fun k hk => ?_⟩
  ·rcases addI_mem.1 hx with q | rfl
   ·exact h.pv x q
   ·exact hj
  ·rcases List.mem_append.1 hx with q | q
   ·exact h.pm x q
   ·exact hj.snoc q
  ·rcases addI_mem.1 hx with hx | rfl
   ·rcases h.cl x hx k hk with q | q | q
    ·exact .inl (addI_mem.2 (.inl q))
    ·rcases List.mem_cons.1 q with rfl | q
     ·exact .inl (addI_mem.2 (.inr rfl))
     ·exact .inr (.inl q)
    ·exact .inr (.inr (List.mem_append_left _ q))
   ·exact .inr (.inr (List.mem_append_right _ hk))
  ·rcases h.st k hk with q | q | q
   ·exact .inl (addI_mem.2 (.inl q))
   ·rcases List.mem_cons.1 q with rfl | q
    ·exact .inl (addI_mem.2 (.inr rfl))
    ·exact .inr (.inl q)
   ·exact .inr (.inr (List.mem_append_left _ q))
theorem Rd.round (hg : ∀ i, ∀ j ∈ g i, 0 ≤ j ∧ j < (n : Int)) : ∀ {L V M : List Int}, Rd g n q V L M → Rd g n q (rndN g L (V, M)).1 [] (rndN g L (V, M)).2 ∧ V.length ≤ (rndN g L (V, M)).1.length ∧ ((rndN g L (V, M)).2 = M ∨ V.length + 1 ≤ (rndN g L (V, M)).1.length)
 | [], V, M, h => ⟨h, Nat.le_refl _, .inl rfl⟩
 | j :: L, V, M, h => by
  obtain ⟨h1, h2, h3⟩ := Rd.round hg (h.step hg)
  have e : rndN g (j :: L) (V, M) = rndN g L ((stepN g (V, M) j).1, (stepN g (V, M) j).2) := rfl
  rw [e]
  by_cases hm : j ∈ V
  ·have e2 : stepN g (V, M) j = (V, M) := by unfold stepN; rw [if_pos hm]
   rw [e2] at h1 h2 h3 ⊢
   exact ⟨h1, h2, h3⟩
  ·have e2 : (stepN g (V, M) j).1.length = V.length + 1 := by unfold stepN; rw [if_neg hm]; exact addI_new hm
   exact ⟨h1, by omega, .inr (by omega)⟩
theorem outR_ok (hg : ∀ i, ∀ j ∈ g i, 0 ≤ j ∧ j < (n : Int)) : ∀ (c : Nat) (V L : List Int), Rd g n q V L [] → Rd g n q (outR g c (V, L)).1 (outR g c (V, L)).2 [] ∧ ((outR g c (V, L)).2 = [] ∨ V.length + c ≤ (outR g c (V, L)).1.length)
 | 0, V, L, h => ⟨h, .inr (by simp [outR])⟩
 | c + 1, V, L, h => by
  obtain ⟨h1, h2, h3⟩ := h.round hg
  have h4 : Rd g n q (rndN g L (V, [])).1 (rndN g L (V, [])).2 [] := ⟨h1.v, h1.m, InR.nil n, h1.pv, h1.pm, fun _ h => by simp at h, fun x hx j hj => (h1.cl x hx j hj).elim .inl (fun q => q.elim (fun q => by simp at q) (fun q => .inr (.inl q))), fun j hj => (h1.st j hj).elim .inl (fun q => q.elim (fun q => by simp at q) (fun q => .inr (.inl q)))⟩
  obtain ⟨k1, k2⟩ := outR_ok hg c _ _ h4
  have e : outR g (c + 1) (V, L) = outR g c ((rndN g L (V, [])).1, (rndN g L (V, [])).2) := rfl
  rw [e]
  refine ⟨k1, ?_⟩
  rcases h3 with h3 | h3
  ·have hz : ∀ (c : Nat) (W : List Int), outR g c (W, []) = (W, []) := fun c => by
    induction c with
    | zero => intro W; rfl
    | succ c ih => intro W; exact ih W
   rw [h3, hz]
   exact .inl rfl
  ·rcases k2 with k2 | k2
   ·exact .inl k2
   ·exact .inr (by omega)
theorem markN_mem : ∀ {L V : List Int} {x : Int}, x ∈ markN L V ↔ x ∈ V ∨ x ∈ L
 | [], V, x => by simp [markN]
 | j :: L, V, x => by
  show x ∈ markN L (addI V j) ↔ _
  rw [markN_mem, addI_mem, List.mem_cons, or_assoc]
theorem recR_iff (hg : ∀ i, ∀ j ∈ g i, 0 ≤ j ∧ j < (n : Int)) : recR g n q = true ↔ Path g q q := by
 have h0 : Rd g n q [] (g q) [] := ⟨InN.nil n, hg q, InR.nil n, fun _ h => by simp at h, fun x hx => .one hx, fun _ h => by simp at h, fun _ h => by simp at h, fun j hj => .inr (.inl hj)⟩
 obtain ⟨h1, h2⟩ := outR_ok hg n [] (g q) h0
 unfold recR
 rw [decide_eq_true_iff, markN_mem]
 constructor
 ·rintro (h | h)
  ·exact h1.pv _ h
  ·exact h1.pl _ h
 ·intro hp
  have hq : 0 ≤ q ∧ q < (n : Int) := by
   cases hp with
   | one h => exact hg _ _ h
   | more h k =>
    have : ∀ {i x : Int}, Path g i x → 0 ≤ x ∧ x < (n : Int) := fun p => by
     induction p with
     | one h => exact hg _ _ h
     | more _ _ ih => exact ih
    exact this k
  rcases h2 with h2 | h2
  ·rw [h2] at h1
   refine .inl (path_in (ok := fun _ => True) (fun k hk => ⟨trivial, ?_⟩) (fun x hx k hk => ⟨trivial, ?_⟩) hp).2
   ·rcases h1.st k hk with q | q | q
    ·exact q
    ·simp at q
    ·simp at q
   ·rcases h1.cl x hx k hk with q | q | q
    ·exact q
    ·simp at q
    ·simp at q
  ·exact .inl (h1.v.full (by simpa using h2) hq)
theorem rndN_in (hg : ∀ i, ∀ j ∈ g i, 0 ≤ j ∧ j < (n : Int)) (hgl : ∀ i, (g i).length ≤ n) {V M : List Int} {j : Int} (hV : InN n V) (hM : InR n M) (hml : M.length ≤ V.length * n) (hj : 0 ≤ j ∧ j < (n : Int)) (hm : j ∉ V) : InN n (addI V j) ∧ InR n (M ++ g j) ∧ (M ++ g j).length ≤ (addI V j).length * n := by
 refine ⟨hV.add hj, hM.app (hg j), ?_⟩
 rw [addI_new hm, zla, Nat.add_mul]
 have := hgl j
 omega
end
/-- the marks of the numbers below n -/
def bD (n : Nat) (V : List Int) : List D := (List.range n).map fun (k : Nat) => .bool (decide ((k : Int) ∈ V))
theorem bD_len (n : Nat) (V : List Int) : (bD n V).length = n := by simp [bD]
theorem bD_nil (n : Nat) : List.replicate n (D.bool false) = bD n [] := by
 unfold bD
 refine List.ext_getElem (by simp) (fun i h1 h2 => by simp)
theorem bD_at {n : Nat} {V : List Int} {x : Nat} (h : x < n) : ((bD n V).drop x).take 1 = [.bool (decide ((x : Int) ∈ V))] := by
 rw [List.drop_eq_getElem_cons (by rw [bD_len]; exact h), zt1, zt0]
 simp [bD]
theorem bD_set {n : Nat} {V : List Int} {x : Nat} (h : x < n) : (bD n V).take x ++ (.bool true :: (bD n V).drop (x + 1)) = bD n (addI V (x : Int)) := by
 refine List.ext_getElem (by simp [bD]; omega) (fun i h1 h2 => ?_)
 rw [bD_len] at h2
 rw [List.getElem_append]
 split
 ·rename_i hi
  have hi' : i < x := by simp [bD] at hi; omega
  rw [List.getElem_take]
  simp only [bD, List.getElem_map, List.getElem_range, D.bool.injEq]
  refine decide_eq_decide.2 ?_
  rw [addI_mem]
  exact ⟨.inl, fun q => q.resolve_right (by omega)⟩
 ·rename_i hi
  have hx : ((bD n V).take x).length = x := by simp [bD]; omega
  simp only [hx] at hi ⊢
  rcases Nat.lt_or_ge x i with hlt | hge
  ·obtain ⟨k, rfl⟩ : ∃ k, i = x + 1 + k := ⟨i - (x + 1), by omega⟩
   have e : x + 1 + k - x = k + 1 := by omega
   simp only [e, List.getElem_cons_succ, List.getElem_drop]
   simp only [bD, List.getElem_map, List.getElem_range, D.bool.injEq]
   refine decide_eq_decide.2 ?_
   rw [addI_mem]
   exact ⟨.inl, fun q => q.resolve_right (by omega)⟩
  ·obtain rfl : i = x := by omega
   simp only [Nat.sub_self, List.getElem_cons_zero]
   simp only [bD, List.getElem_map, List.getElem_range, D.bool.injEq]
   exact (decide_eq_true (addI_mem.2 (.inr rfl))).symm
theorem idxN_at (l : List Pr) (s : ByteArray) : ∀ (k i : Nat), i + k = l.length → ∀ j : Nat, idxN l s i k = (j : Int) ↔ i ≤ j ∧ (∃ h : j < l.length, l[j].name = s) ∧ ∀ m, i ≤ m → m < j → ∀ h : m < l.length, l[m].name ≠ s
 | 0, i, h, j => by
  simp only [idxN]
  constructor
  ·intro q; omega
  ·rintro ⟨h1, ⟨h2, _⟩, _⟩; omega
 | k + 1, i, h, j => by
  have hi : i < l.length := by omega
  simp only [idxN, List.getElem?_eq_getElem hi]
  split
  ·rename_i he
   have he' : l[i].name = s := ba_inj (beq_iff.1 he)
   constructor
   ·intro q
    have : i = j := by omega
    subst this
    exact ⟨Nat.le_refl _, ⟨hi, he'⟩, fun m h1 h2 => by omega⟩
   ·rintro ⟨h1, ⟨h2, h3⟩, h4⟩
    by_cases e : i = j
    ·rw [e]
    ·exact absurd he' (h4 i (Nat.le_refl _) (by omega) hi)
  ·rename_i he
   have he' : l[i].name ≠ s := fun e => he (by rw [e]; exact beq_self_eq_true _)
   rw [idxN_at l s k (i + 1) (by omega) j]
   constructor
   ·rintro ⟨h1, h2, h3⟩
    refine ⟨by omega, h2, fun m q1 q2 q3 => ?_⟩
    by_cases e : m = i
    ·subst e; exact he'
    ·exact h3 m (by omega) q2 q3
   ·rintro ⟨h1, ⟨h2, h2'⟩, h3⟩
    have : i ≠ j := fun e => he' (by subst e; exact h2')
    exact ⟨by omega, ⟨h2, h2'⟩, fun m q1 q2 q3 => h3 m (by omega) q2 q3⟩
theorem visI_mem (p : Pg) : ∀ (l : List ByteArray) (A : List Int) (x : Int), x ∈ visI p A l ↔ x ∈ A ∨ (0 ≤ x ∧ ∃ s ∈ l, idxN p.procs s 0 p.procs.length = x)
 | [], A, x => by simp [visI]
 | s :: r, A, x => by
  show x ∈ visI p (stepI p A s) r ↔ _
  rw [visI_mem p r]
  unfold stepI
  constructor
  ·rintro (h | ⟨h1, t, h2, h3⟩)
   ·split at h
    ·rename_i hq
     rcases addI_mem.1 h with h | rfl
     ·exact .inl h
     ·exact .inr ⟨hq, s, List.mem_cons_self, rfl⟩
    ·exact .inl h
   ·exact .inr ⟨h1, t, List.mem_cons_of_mem _ h2, h3⟩
  ·rintro (h | ⟨h1, t, h2, h3⟩)
   ·split
    ·exact .inl (addI_mem.2 (.inl h))
    ·exact .inl h
   ·rcases List.mem_cons.1 h2 with rfl | h2
    ·rw [h3, if_pos h1]
     exact .inl (addI_mem.2 (.inr rfl))
    ·exact .inr ⟨h1, t, h2, h3⟩
theorem pickI_mem (p : Pg) (l : List ByteArray) (j : Nat) : (j : Int) ∈ pickI p l p.procs.length ↔ ∃ s ∈ l, idxN p.procs s 0 p.procs.length = (j : Int) := by
 unfold pickI
 constructor
 ·intro h
  obtain ⟨k, hk, e⟩ := List.mem_map.1 h
  have : k = j := by omega
  subst this
  obtain ⟨h1, h2⟩ := List.mem_filter.1 hk
  have hl := List.mem_range.1 h1
  unfold pickB at h2
  rw [List.getElem?_eq_getElem hl] at h2
  simp only [zat] at h2
  obtain ⟨h3, h4⟩ := h2
  unfold calledB at h4
  rw [List.take_of_length_le (Nat.le_refl _), List.any_eq_true] at h4
  obtain ⟨s, hs, he⟩ := h4
  refine ⟨s, hs, (idxN_at _ _ _ _ (by omega) _).2 ⟨Nat.zero_le _, ⟨hl, (ba_inj (beq_iff.1 he)).symm⟩, fun m _ hm hml e => ?_⟩⟩
  unfold firstB at h3
  rw [List.all_eq_true] at h3
  have := h3 p.procs[m] (List.mem_take_iff_getElem.2 ⟨m, by omega, rfl⟩)
  rw [e, ba_inj (beq_iff.1 he)] at this
  simp at this
 ·rintro ⟨s, hs, h⟩
  obtain ⟨_, ⟨hl, he⟩, h3⟩ := (idxN_at _ _ _ _ (by omega) _).1 h
  refine List.mem_map.2 ⟨j, List.mem_filter.2 ⟨List.mem_range.2 hl, ?_⟩, rfl⟩
  unfold pickB
  rw [List.getElem?_eq_getElem hl]
  simp only [zat]
  refine ⟨?_, ?_⟩
  ·unfold firstB
   rw [List.all_eq_true]
   intro x hx
   obtain ⟨m, hm, rfl⟩ := List.mem_take_iff_getElem.1 hx
   have := h3 m (Nat.zero_le _) (by omega) (by omega)
   simp only [znt, beq_eq_false_iff_ne, ne_eq]
   intro e; exact this ((ba_inj (beq_iff.1 (by simpa using e))).trans he)
  ·unfold calledB
   rw [List.take_of_length_le (Nat.le_refl _), List.any_eq_true]
   exact ⟨s, hs, by rw [he]; exact beq_self_eq_true _⟩
theorem pickI_asc (p : Pg) (l : List ByteArray) (n : Nat) : (pickI p l n).Pairwise (· < ·) := by
 unfold pickI
 rw [List.pairwise_map]
 exact (List.pairwise_lt_range.filter _).imp fun h => by omega
theorem sortI_asc {A : List Int} (h : A.Nodup) : (sortI A).Pairwise (· < ·) := by
 have h1 : (sortI A).Pairwise (fun a b => decide (a ≤ b) = true) := List.pairwise_mergeSort (fun a b c h1 h2 => by simp only [decide_eq_true_eq] at *; omega) (fun a b => by simp only [Bool.or_eq_true, decide_eq_true_eq]; omega) A
 have h2 : (sortI A).Nodup := (sortI_perm A).nodup_iff.2 h
 exact (h1.and h2).imp fun ⟨q1, q2⟩ => by simp only [decide_eq_true_eq] at q1; omega
theorem asc_eq {l m : List Int} (hl : l.Pairwise (· < ·)) (hm : m.Pairwise (· < ·)) (h : ∀ x, x ∈ l ↔ x ∈ m) : l = m := by
 have nl : l.Nodup := hl.imp fun h => by omega
 have nm : m.Nodup := hm.imp fun h => by omega
 exact List.Perm.eq_of_pairwise (le := fun a b => a < b) (fun a b _ _ h1 h2 => by omega) hl hm ((List.perm_ext_iff_of_nodup nl nm).2 h)
/-- both lists of called procedures are the same -/
theorem calls_same (p : Pg) (q : Int) : clF p q = rclF p q := by
 unfold clF rclF
 cases bodyAt p q with
 | none => rfl
 | some t =>
  refine asc_eq (sortI_asc (visI_in p (cnT t) [] (InN.nil _)).d) (pickI_asc p _ _) (fun x => ?_)
  rw [mem_sortI, visI_mem]
  constructor
  ·rintro (h | ⟨h0, s, hs, e⟩)
   ·simp at h
   ·obtain ⟨j, rfl⟩ := Int.eq_ofNat_of_zero_le h0
    exact (pickI_mem p _ j).2 ⟨s, hs, e⟩
  ·intro h
   obtain ⟨j, hj, rfl⟩ := List.mem_map.1 h
   obtain ⟨s, hs, e⟩ := (pickI_mem p _ j).1 h
   exact .inr ⟨by omega, s, hs, e⟩
theorem recR_rec (p : Pg) (q : Int) (h : 0 ≤ q ∧ q < (p.procs.length : Int)) : recR (clF p) p.procs.length q = recF p q := by
 unfold recF
 rw [if_pos h, Bool.eq_iff_iff, recR_iff (clF_in p), reach_iff (clF_in p)]
theorem und_bool : Try.prog.underlying 74 = some (.slice 4) := by kernel_rfl
theorem siz_bool : Try.prog.cellsOf 4 = 1 := by kernel_rfl
noncomputable def inf_bool : TypeInfo := (Try.prog.info? 4).getD default
theorem inf_bool_eq : Try.prog.info? 4 = some inf_bool := by kernel_rfl
theorem inf_bool_size : inf_bool.size = 1 := by kernel_rfl
theorem inf_bool_bytes : inf_bool.bytes = 1 := by kernel_rfl
theorem inf_bool_z : inf_bool.zero = some (.bool false) := by kernel_rfl
theorem bD_set' {n : Nat} {V : List Int} {x : Nat} (h : x < n) : (bD n V).take x ++ [.bool true] ++ (bD n V).drop (x + 1) = bD n (addI V (x : Int)) := by rw [zaa]; exact bD_set h
theorem acc_or {e : TypeId} {o : Own} {n : Nat} {L : List Int} {lv : List Nat} (h : Acc e 1 o n (L.map dI) lv) : n = 1 ∨ L = [] := by
 rcases h with ⟨_, h, _⟩ | ⟨_, _, _, h⟩
 ·exact .inr (List.map_eq_nil_iff.1 h)
 ·exact .inl h
set_option maxRecDepth 100000 in
set_option maxHeartbeats 4000000 in
theorem rrec_b1 (p : Pg) (_hs : Sml p) (q : Int) (hq : q < 0) : PContract Try.prog 28 [dG p, .int .i64 q] (.bool (recF p q)) := by
 refine S_pure (f := _) Try.func28 rfl (by rw [List.all_cons, List.all_cons, List.all_nil, dG_under]; rfl) (by show [(dG p).strip, _] = _; rw [dG_strip]; rfl) ?_
 simp only [enterSt, Try.ntmps28, zlc, zln, Nat.reduceAdd, Nat.reduceSub, zr1, zr0, zca, zna]
 refine S_seq ?_
 refine S_of_X EV_ok (by kernel_rfl) ?_
 refine X_rg fun R hR => ?_
 simp only [aops, astep, awant, aeff, aop, ev, ofValue, St.put, zg0, zgd, zmo, if_true, zs1, zs0, zln, zna, dG_cells, dG_good]
 with_reducible refine hR _ ?_
 clear hR R
 show S _ _ _ _ _
 refine S_seq ?_
 refine S_seq ?_
 have h1 : (decide (q < 0)) = true := by simpa using hq
 refine S_of_X EV_ok (by kernel_rfl) ?_
 refine X_rg fun R hR => ?_
 simp only [EVP, inr_i64, Int.reduceLE, Int.reduceNeg, aops, astep, awant, aeff, aop, abin, aint, ev, ofValue, St.put, zg1, zg0, zgd, zmo, Option.map_none, zbs, if_true, zs1, zs0, Nat.zero_add, zft, if_false, and_self, reduceCtorEq, bq_tf, ty_s_api_Proc, ty_api_Program, und_api_Proc, h1]
 with_reducible refine hR _ ?_
 clear hR R
 show S _ _ _ _ _
 refine S_true (by simp only [ev, zg1, zg0, zgd]) ?_
 refine S_seq ?_
 refine S_of_X EV_ok (by kernel_rfl) ?_
 refine X_rg fun R hR => ?_
 simp only [aops, astep, awant, aeff, aop, ev, ofValue, St.put, zgd, zmo, if_true, zs1, zs0]
 with_reducible refine hR _ ?_
 clear hR R
 show S _ _ _ _ _
 refine S_ret ?_
 refine ⟨.inr rfl, .bool false, ?_, rfl, by unfold recF; rw [if_neg (by omega)]; rfl⟩
 simp only [resD, resAll, resOne, resTup, Try.results28, zg1, zg0, D.good, if_true, zmo]; try rfl
set_option maxRecDepth 100000 in
set_option maxHeartbeats 4000000 in
theorem rrec_b2 (p : Pg) (_hs : Sml p) (q : Int) (hq0 : ¬ q < 0) (hq : (p.procs.length : Int) ≤ q) : PContract Try.prog 28 [dG p, .int .i64 q] (.bool (recF p q)) := by
 refine S_pure (f := _) Try.func28 rfl (by rw [List.all_cons, List.all_cons, List.all_nil, dG_under]; rfl) (by show [(dG p).strip, _] = _; rw [dG_strip]; rfl) ?_
 simp only [enterSt, Try.ntmps28, zlc, zln, Nat.reduceAdd, Nat.reduceSub, zr1, zr0, zca, zna]
 refine S_seq ?_
 refine S_of_X EV_ok (by kernel_rfl) ?_
 refine X_rg fun R hR => ?_
 simp only [aops, astep, awant, aeff, aop, ev, ofValue, St.put, zg0, zgd, zmo, if_true, zs1, zs0, zln, zna, dG_cells, dG_good]
 with_reducible refine hR _ ?_
 clear hR R
 show S _ _ _ _ _
 refine S_seq ?_
 refine S_seq ?_
 have h1 : (decide (q < 0)) = false := by simpa using hq0
 have h2 : (decide (q ≥ (p.procs.length : Int))) = true := by simpa using hq
 refine S_of_X EV_ok (by kernel_rfl) ?_
 refine X_rg fun R hR => ?_
 simp only [EVP, inr_i64, Int.reduceLE, Int.reduceNeg, aops, astep, awant, aeff, aop, abin, aint, mkD, ev, ofValue, St.put, ia_slice, zg1, zg0, zgd, zmo, zbs, if_true, zs1, zs0, zlm, zlc, zln, zd1, zd0, zt1, zt0, Nat.reduceAdd, Nat.reduceLeDiff, Nat.zero_add, zft, if_false, and_self, reduceCtorEq, beq_self_eq_true, ty_s_api_Proc, ty_api_Program, und_api_Proc, h1, h2]
 with_reducible refine hR _ ?_
 clear hR R
 show S _ _ _ _ _
 refine S_true (by simp only [ev, zg1, zg0, zgd]) ?_
 refine S_seq ?_
 refine S_of_X EV_ok (by kernel_rfl) ?_
 refine X_rg fun R hR => ?_
 simp only [aops, astep, awant, aeff, aop, ev, ofValue, St.put, zgd, zmo, if_true, zs1, zs0]
 with_reducible refine hR _ ?_
 clear hR R
 show S _ _ _ _ _
 refine S_ret ?_
 refine ⟨.inr rfl, .bool false, ?_, rfl, by unfold recF; rw [if_neg (by omega)]; rfl⟩
 simp only [resD, resAll, resOne, resTup, Try.results28, zg1, zg0, D.good, if_true, zmo]; try rfl
set_option maxRecDepth 100000 in
set_option maxHeartbeats 4000000 in
theorem rrec_k (p : Pg) (hs : Sml p) (k : Nat) (hk : k < p.procs.length) : PContract Try.prog 28 [dG p, .int .i64 (k : Int)] (.bool (recF p (k : Int))) := by
 refine S_pure (f := _) Try.func28 rfl (by rw [List.all_cons, List.all_cons, List.all_nil, dG_under]; rfl) (by show [(dG p).strip, _] = _; rw [dG_strip]; rfl) ?_
 simp only [enterSt, Try.ntmps28, zlc, zln, Nat.reduceAdd, Nat.reduceSub, zr1, zr0, zca, zna]
 refine S_seq ?_
 refine S_of_X EV_ok (by kernel_rfl) ?_
 refine X_rg fun R hR => ?_
 simp only [aops, astep, awant, aeff, aop, ev, ofValue, St.put, zg0, zgd, zmo, if_true, zs1, zs0, zln, zna, dG_cells, dG_good]
 with_reducible refine hR _ ?_
 clear hR R
 show S _ _ _ _ _
 refine S_seq ?_
 refine S_seq ?_
 have h1 : (decide ((k : Int) < 0)) = false := by first | (simp; done) | (simp; omega)
 have h2 : (decide ((k : Int) ≥ (p.procs.length : Int))) = false := by first | (simp; done) | (simp; omega)
 refine S_of_X EV_ok (by kernel_rfl) ?_
 refine X_rg fun R hR => ?_
 simp only [EVP, inr_i64, Int.reduceLE, Int.reduceNeg, aops, astep, awant, aeff, aop, abin, aint, mkD, ev, ofValue, St.put, ia_slice, zg1, zg0, zgd, zmo, zbs, if_true, zs1, zs0, zlm, zlc, zln, zd1, zd0, zt1, zt0, Nat.reduceAdd, Nat.reduceLeDiff, Nat.zero_add, zft, if_false, and_self, reduceCtorEq, beq_self_eq_true, ty_s_api_Proc, ty_api_Program, und_api_Proc, h1, h2]
 with_reducible refine hR _ ?_
 clear hR R
 show S _ _ _ _ _
 refine S_false (by simp only [ev, zg1, zg0, zgd]) ?_
 refine S_skip ?_
 show S _ _ _ _ _
 refine S_seq ?_
 refine S_by EV_ok 3 rfl (by kernel_rfl) (by kernel_rfl) fun R hR => ?_
 simp only [EVP, aops, astep, awant, aeff, aop, mkD, ev, St.put, ia_slice, zg1, zg0, zgd, zmo, if_true, zs1, zs0, zlm, zlc, zln, zd1, zd0, zt1, zt0, Nat.reduceAdd, Nat.reduceLeDiff, Nat.zero_add, zft, if_false, reduceCtorEq, ty_s_api_Proc, ty_api_Program, und_api_Proc]
 with_reducible refine hR _ ?_
 clear hR R
 refine ⟨_, SWp_make (s := 21) (n := p.procs.length) (k := .i64) (d0 := .bool false) (z := .bool false) rfl rfl und_bool inf_bool_eq inf_bool_z rfl inf_bool_size (by rw [inf_bool_bytes]; omega) rfl (by have := hs.n; omega), fun R hR => ?_⟩
 rw [bD_nil]
 simp only [EVP, aops, astep, awant, aeff, aop, ev, St.put, zg1, zg0, zgd, zmo, if_true, zs1, zs0, zlc, zln, zd1, zd0, zca, zna, Nat.reduceAdd, Nat.zero_add]
 with_reducible refine hR _ ?_
 clear hR R
 show S _ _ _ _ _
 refine S_seq ?_
 have hC := rcalls_fn p hs (k : Int)
 rw [← calls_same] at hC
 simp only [sl] at hC
 refine S_of_X EV_ok (by kernel_rfl) ?_
 refine X_rg fun R hR => ?_
 simp only [EVP, aops, astep, awant, aeff, aop, mkD, ev, St.put, pcall, zmc, zmn, zg1, zg0, zgd, zmo, if_true, zs1, zs0, zlc, zln, zd0, zt1, zt0, zca, zna, Nat.reduceAdd, Nat.reduceLeDiff, Nat.zero_add, ty_api_Program, any26, dG_agg, hC]
 with_reducible refine hR _ ?_
 clear hR R
 show S _ _ _ _ _
 refine S_seq ?_
 refine S_seq ?_
 refine S_of_X EV_ok (by kernel_rfl) ?_
 refine X_rg fun R hR => ?_
 simp only [EVP, inr_i64, Int.reduceLE, Int.reduceNeg, aops, astep, awant, aeff, aop, mkD, ev, ofValue, St.put, ia_slice, zg1, zg0, zgd, zmo, if_true, zs1, zs0, zlm, zlc, zln, zd1, zd0, zt1, zt0, Nat.reduceAdd, Nat.reduceLeDiff, Nat.zero_add, zft, if_false, and_self, reduceCtorEq, ty_s_api_Proc, ty_api_Program, und_api_Proc]
 with_reducible refine hR _ ?_
 clear hR R
 show S _ _ _ _ _
 refine S_block ?_
 refine S_loop (fun m σ => ∃ (c : Nat) (L : List Int) (V : List Int) (o : Own) (n : Nat) (nx : Nat) (lv : List Nat), σ = ⟨[slotOf σ 0, .int .i64 (k : Int), .ptr 0 0, slotOf σ 3, slotOf σ 4, .bsl 1 0 1 p.procs.length, .slice o n (L.map dI), slotOf σ 7, slotOf σ 8, slotOf σ 9, slotOf σ 10, slotOf σ 11, slotOf σ 12, slotOf σ 13, slotOf σ 14, slotOf σ 15, slotOf σ 16, slotOf σ 17, slotOf σ 18, slotOf σ 19, slotOf σ 20, slotOf σ 21, slotOf σ 22, slotOf σ 23, slotOf σ 24, slotOf σ 25, slotOf σ 26, slotOf σ 27, .int .i64 p.procs.length, .int .i64 c, slotOf σ 30, slotOf σ 31, slotOf σ 32, slotOf σ 33, slotOf σ 34, slotOf σ 35, slotOf σ 36, slotOf σ 37, slotOf σ 38, slotOf σ 39, slotOf σ 40, slotOf σ 41, slotOf σ 42, slotOf σ 43, slotOf σ 44, slotOf σ 45, slotOf σ 46, slotOf σ 47, slotOf σ 48, slotOf σ 49, slotOf σ 50, slotOf σ 51, slotOf σ 52, slotOf σ 53, slotOf σ 54, slotOf σ 55, slotOf σ 56, slotOf σ 57, slotOf σ 58, slotOf σ 59, slotOf σ 60, slotOf σ 61, slotOf σ 62, slotOf σ 63, slotOf σ 64, slotOf σ 65, slotOf σ 66, slotOf σ 67, slotOf σ 68, slotOf σ 69, slotOf σ 70, slotOf σ 71, slotOf σ 72, slotOf σ 73, slotOf σ 74, slotOf σ 75, slotOf σ 76], [[.slice .imm (if (p.vars.map dV).isEmpty = true then 0 else 3) (p.vars.map dV), .slice .imm (if (p.procs.map dP).isEmpty = true then 0 else 6) (p.procs.map dP), .int .u8 p.main.kind, .int .i64 p.main.num, .str p.main.name, .slice .imm (if (p.main.kids.map dN).isEmpty = true then 0 else 4) (p.main.kids.map dN)], bD p.procs.length V], nx, lv⟩ ∧ m = p.procs.length - c ∧ c ≤ p.procs.length ∧ (n = 1 ∨ L = []) ∧ Hid (InN p.procs.length V) ∧ Hid (InR p.procs.length L) ∧ L.length ≤ p.procs.length * p.procs.length ∧ Hid (outR (clF p) (p.procs.length - c) (V, L) = outR (clF p) p.procs.length ([], (clF p) (k : Int)))) ?_ (p.procs.length) ?_
 rotate_left
 ·exact ⟨0, (clF p) (k : Int), [], _, _, _, _, rfl, rfl, Nat.zero_le _, (by cases hcl : (clF p) (k : Int) with | nil => exact .inr rfl | cons a r => exact .inl rfl), Lib.hid (InN.nil _), Lib.hid (clF_in p _), Nat.le_trans (clF_len p _) (Nat.le_mul_of_pos_left _ (by omega)), Lib.hid rfl⟩
 rintro m σ ⟨c, L, V, o, n, nx, lv, hσ, rfl, hc, hn, hV, hL, hLl, hf⟩
 generalize slotOf σ = x at hσ
 subst hσ
 refine S_seq ?_
 refine S_of_X EV_ok (by kernel_rfl) ?_
 refine X_rg fun R hR => ?_
 simp only [nat_lt, aops, astep, awant, aeff, aop, abin, aint, ev, St.put, zg1, zg0, zgd, zmo, if_true, zs1, zs0]
 with_reducible refine hR _ ?_
 clear hR R
 show S _ _ _ _ _
 refine S_seq ?_
 refine S_ite (by simp only [ev, zg1, zg0, zgd]; exact rfl) ?_ ?_
 ·intro b1
  have c1 := b1
  try simp only [decide_eq_true_eq] at c1
  refine S_skip ?_
  show S _ _ _ _ _
  refine S_seq ?_
  refine S_block ?_
  refine S_seq ?_
  refine S_of_X EV_ok (by kernel_rfl) ?_
  refine X_rg fun R hR => ?_
  simp only [aops, astep, awant, aeff, aop, ev, ofValue, St.put, zgd, zmo, if_true, zs1, zs0, b1]
  with_reducible refine hR _ ?_
  clear hR R
  show S _ _ _ _ _
  refine S_seq ?_
  refine S_seq ?_
  refine S_of_X EV_ok (by kernel_rfl) ?_
  refine X_rg fun R hR => ?_
  simp only [inr_i64, Int.reduceLE, Int.reduceNeg, aops, astep, awant, aeff, aop, ev, ofValue, St.put, zgd, zmo, if_true, zs1, zs0, and_self]
  with_reducible refine hR _ ?_
  clear hR R
  show S _ _ _ _ _
  refine S_block ?_
  refine S_loop (fun m σ => ∃ (i : Nat) (V2 : List Int) (M : List Int) (o2 : Own) (n2 : Nat) (nx2 : Nat) (lv2 : List Nat), σ = ⟨[slotOf σ 0, .int .i64 (k : Int), .ptr 0 0, slotOf σ 3, slotOf σ 4, .bsl 1 0 1 p.procs.length, .slice o n (L.map dI), .slice o2 n2 (M.map dI), .int .i64 i, slotOf σ 9, slotOf σ 10, slotOf σ 11, slotOf σ 12, slotOf σ 13, slotOf σ 14, slotOf σ 15, slotOf σ 16, slotOf σ 17, slotOf σ 18, slotOf σ 19, slotOf σ 20, slotOf σ 21, slotOf σ 22, slotOf σ 23, slotOf σ 24, slotOf σ 25, slotOf σ 26, slotOf σ 27, .int .i64 p.procs.length, .int .i64 c, slotOf σ 30, slotOf σ 31, slotOf σ 32, slotOf σ 33, slotOf σ 34, slotOf σ 35, slotOf σ 36, slotOf σ 37, slotOf σ 38, slotOf σ 39, slotOf σ 40, slotOf σ 41, slotOf σ 42, slotOf σ 43, slotOf σ 44, slotOf σ 45, slotOf σ 46, slotOf σ 47, slotOf σ 48, slotOf σ 49, slotOf σ 50, slotOf σ 51, slotOf σ 52, slotOf σ 53, slotOf σ 54, slotOf σ 55, slotOf σ 56, slotOf σ 57, slotOf σ 58, slotOf σ 59, slotOf σ 60, slotOf σ 61, slotOf σ 62, slotOf σ 63, slotOf σ 64, slotOf σ 65, slotOf σ 66, slotOf σ 67, slotOf σ 68, slotOf σ 69, slotOf σ 70, slotOf σ 71, slotOf σ 72, slotOf σ 73, slotOf σ 74, slotOf σ 75, slotOf σ 76], [[.slice .imm (if (p.vars.map dV).isEmpty = true then 0 else 3) (p.vars.map dV), .slice .imm (if (p.procs.map dP).isEmpty = true then 0 else 6) (p.procs.map dP), .int .u8 p.main.kind, .int .i64 p.main.num, .str p.main.name, .slice .imm (if (p.main.kids.map dN).isEmpty = true then 0 else 4) (p.main.kids.map dN)], bD p.procs.length V2], nx2, lv2⟩ ∧ m = L.length - i ∧ i ≤ L.length ∧ Hid (Acc 3 1 o2 n2 (M.map dI) lv2) ∧ Hid (InN p.procs.length V2) ∧ Hid (InR p.procs.length M) ∧ M.length ≤ V2.length * p.procs.length ∧ Hid (rndN (clF p) (L.drop i) (V2, M) = rndN (clF p) L (V, []))) ?_ (L.length) ?_
  rotate_left
  ·exact ⟨0, V, [], _, _, _, _, rfl, rfl, Nat.zero_le _, Lib.hid (.nil _ _ _), Lib.hid hV.out, Lib.hid (InR.nil _), by simp, Lib.hid rfl⟩
  rintro m σ ⟨i, V2, M, o2, n2, nx2, lv2, hσ, rfl, hi, ha, hV2, hM, hMl, hf2⟩
  generalize slotOf σ = x at hσ
  subst hσ
  refine S_seq ?_
  refine S_seq ?_
  refine S_of_X EV_ok (by kernel_rfl) ?_
  refine X_rg fun R hR => ?_
  simp only [EVP, nat_lt, aops, astep, awant, aeff, aop, abin, aint, ev, St.put, zg1, zg0, zgd, zmo, if_true, zs1, zs0, zlm, und_int]
  with_reducible refine hR _ ?_
  clear hR R
  show S _ _ _ _ _
  refine S_ite (by simp only [ev, zg1, zg0, zgd]; exact rfl) ?_ ?_
  ·intro b2
   have c2 := b2
   try simp only [decide_eq_true_eq] at c2
   refine S_skip ?_
   show S _ _ _ _ _
   refine S_seq ?_
   refine S_block ?_
   refine S_seq ?_
   have hlt : i < L.length := by first | assumption | omega | simp_all
   have hn1 : (n = 1) = True := eq_true (hn.resolve_right (fun e => by subst e; simp at hlt))
   obtain ⟨x, hx, hxn⟩ : ∃ x : Nat, L[i] = (x : Int) ∧ x < p.procs.length := ⟨L[i].toNat, by have := hL.out _ (List.getElem_mem hlt); omega, by have := hL.out _ (List.getElem_mem hlt); omega⟩
   have e1 : (L.map dI)[i]? = some (.int .i64 (x : Int)) := by rw [List.getElem?_map, List.getElem?_eq_getElem hlt, hx]; rfl
   have hxb : ((x : Int) < (p.procs.length : Int)) = True := eq_true (by omega)
   have hx0 : ((0 : Int) ≤ (x : Int)) = True := eq_true (by omega)
   have hx1 : (x + 1 ≤ p.procs.length) = True := eq_true (by omega)
   refine S_by EV_ok 6 rfl (by kernel_rfl) (by kernel_rfl) fun R hR => ?_
   simp only [EVP, nat_lt, nat_0, nat_to, aops, astep, awant, aeff, aop, ev, St.put, ia_int, cl_int, zg1, zg0, zgd, zmo, if_true, zs1, zs0, zlm, zlc, zln, zt1, zt0, Nat.reduceLT, Nat.zero_add, and_self, decide_true, zis, ty_int, und_int, siz_int, inf_int_eq, und_bool, siz_bool, inf_bool_eq, hlt, hn1, e1, hxb, hx0, Nat.mul_one, Nat.zero_add]
   with_reducible refine hR _ ?_
   clear hR R
   refine ⟨_, SWp_load (t := 4) (s := 42) (i := 1) (ln := 0) (d := .bool (decide ((x : Int) ∈ V2))) rfl rfl rfl (by simp only [aop, ty_bool, EVP, zg1, zg0, bD_len, hx1, if_true, bD_at hxn, ia_bool, mkD, zft, if_false]), fun R hR => ?_⟩
   simp only [EVP, aops, astep, awant, aeff, aop, ev, St.put, zg1, zg0, zgd, zmo, if_true, zs1, zs0, zd1, zd0, Nat.reduceAdd]
   with_reducible refine hR _ ?_
   clear hR R
   show S _ _ _ _ _
   refine S_ite (by simp only [ev, zg1, zg0, zgd]; exact rfl) ?_ ?_
   ·intro b3
    have c3 := b3
    try simp only [znt, decide_eq_false_iff_not] at c3
    refine S_seq ?_
    have hs1 := bD_set (V := V2) hxn
    have hs2 := bD_set' (V := V2) hxn
    refine S_of_X EV_ok (by kernel_rfl) ?_
    refine X_rg fun R hR => ?_
    simp only [EVP, nat_lt, nat_0, nat_to, aops, astep, awant, aeff, aop, astore, ev, ofValue, St.put, gd_bool, cl_bool, ia_int, cl_int, zg1, zg0, zgd, zmo, if_true, zs1, zs0, zlm, zlc, zln, Nat.reduceLT, Nat.zero_add, and_self, zis, ty_int, ty_bool, und_int, siz_int, inf_int_eq, und_bool, siz_bool, inf_bool_eq, b3, hlt, hn1, e1, hxb, hx0, Nat.mul_one, Nat.zero_add, hs2, bD_len, hx1]
    with_reducible refine hR _ ?_
    clear hR R
    show S _ _ _ _ _
    have hD := rcalls_fn p hs (x : Int)
    rw [← calls_same] at hD
    simp only [sl] at hD
    have hcl := clF_len p (x : Int)
    have hvl := hV2.out.len
    have hmm : V2.length * p.procs.length ≤ p.procs.length * p.procs.length := Nat.mul_le_mul_right _ hvl
    have hnn : p.procs.length * p.procs.length ≤ 1000 * 1000 := Nat.mul_le_mul hs.n hs.n
    have hpn := hs.n
    obtain ⟨o3, n3, nx3, lv3, ha3, hap3⟩ := ha.out.appN (P := Try.prog) (t := 39) (e := 3) und_int inf_int_eq inf_int_size (by omega) (by rw [inf_int_bytes]; omega) inf_int_zc nx2 (if (((clF p) (x : Int)).map dI).isEmpty = true then 0 else 1) (((clF p) (x : Int)).map dI) (by simp; omega) (fun h => sl_n (j := 0) (List.length_pos_iff.2 h))
    refine S_of_X EV_ok (by kernel_rfl) ?_
    refine X_rg fun R hR => ?_
    simp only [EVP, nat_lt, nat_0, nat_to, aops, astep, awant, aeff, aop, mkD, ev, St.put, pcall, ia_int, cl_int, zmc, zmn, zg1, zg0, zgd, zmo, if_true, zs1, zs0, zlm, zlc, zln, zd0, zt1, zt0, zca, zna, Nat.reduceAdd, Nat.reduceLeDiff, Nat.zero_add, and_self, zis, ty_int, ty_api_Program, und_int, siz_int, inf_int_eq, any26, dG_agg, hlt, hn1, e1, Nat.zero_add, hD, hap3]
    with_reducible refine hR _ ?_
    clear hR R
    show S _ _ _ _ _
    have hnn2 : p.procs.length * p.procs.length ≤ 1000 * 1000 := Nat.mul_le_mul hs.n hs.n
    have hbig : i < 9223372036854775807 := by omega
    refine S_of_X EV_ok (by kernel_rfl) ?_
    refine X_rg fun R hR => ?_
    simp only [inr_i64, Int.reduceLE, Int.reduceNeg, aops, astep, awant, aeff, aop, abin, aint, ev, ofValue, St.put, zg1, zg0, zgd, zmo, if_true, zs1, zs0, and_self, nat_succ hbig]
    with_reducible refine hR _ ?_
    clear hR R
    show ∃ m, m < _ ∧ _
    have hq := hf2.out
    rw [rndN_step hlt] at hq
    unfold stepN at hq
    simp only at hq
    rw [hx] at hq
    have hm : (x : Int) ∉ V2 := by first | assumption | (simp_all; done)
    rw [if_neg hm] at hq
    obtain ⟨r1, r2, r3⟩ := rndN_in (clF_in p) (clF_len p) hV2.out hM.out hMl (j := (x : Int)) ⟨by omega, by omega⟩ hm
    exact ⟨L.length - (i + 1), by omega, i + 1, addI V2 (x : Int), M ++ (clF p) (x : Int), o3, n3, nx3, lv3, by rw [List.map_append]; rfl, rfl, by omega, Lib.hid (by rw [List.map_append]; exact ha3), Lib.hid r1, Lib.hid r2, r3, Lib.hid hq⟩
   ·intro b4
    have c4 := b4
    try simp only [znf, decide_eq_true_eq] at c4
    refine S_skip ?_
    show S _ _ _ _ _
    have hnn2 : p.procs.length * p.procs.length ≤ 1000 * 1000 := Nat.mul_le_mul hs.n hs.n
    have hbig : i < 9223372036854775807 := by omega
    refine S_of_X EV_ok (by kernel_rfl) ?_
    refine X_rg fun R hR => ?_
    simp only [inr_i64, Int.reduceLE, Int.reduceNeg, aops, astep, awant, aeff, aop, abin, aint, ev, ofValue, St.put, zg1, zg0, zgd, zmo, if_true, zs1, zs0, and_self, b4, nat_succ hbig]
    with_reducible refine hR _ ?_
    clear hR R
    show ∃ m, m < _ ∧ _
    have hq := hf2.out
    rw [rndN_step hlt] at hq
    unfold stepN at hq
    simp only at hq
    rw [hx] at hq
    have hm : (x : Int) ∈ V2 := by first | assumption | (simp_all; done)
    rw [if_pos hm] at hq
    exact ⟨L.length - (i + 1), by omega, i + 1, V2, M, o2, n2, nx2, lv2, rfl, rfl, by omega, Lib.hid ha.out, Lib.hid hV2.out, Lib.hid hM.out, hMl, Lib.hid hq⟩
  ·intro b5
   have c5 := b5
   try simp only [decide_eq_false_iff_not] at c5
   refine S_exit ?_
   show S _ _ _ _ _
   refine S_of_X EV_ok (by kernel_rfl) ?_
   refine X_rg fun R hR => ?_
   simp only [aops, astep, awant, aeff, aop, ev, St.put, zg1, zg0, zgd, zmo, if_true, zs1, zs0, b5]
   with_reducible refine hR _ ?_
   clear hR R
   show S _ _ _ _ _
   have hpn2 := hs.n
   have hbig2 : c < 9223372036854775807 := by omega
   refine S_of_X EV_ok (by kernel_rfl) ?_
   refine X_rg fun R hR => ?_
   simp only [inr_i64, Int.reduceLE, Int.reduceNeg, aops, astep, awant, aeff, aop, abin, aint, ev, ofValue, St.put, zg1, zg0, zgd, zmo, if_true, zs1, zs0, and_self, nat_succ hbig2]
   with_reducible refine hR _ ?_
   clear hR R
   show ∃ m, m < _ ∧ _
   have hrd : rndN (clF p) L (V, []) = (V2, M) := by rw [← hf2.out, List.drop_of_length_le (by first | omega | (simp_all; omega))]; rfl
   have hcl : c < p.procs.length := by first | assumption | omega | (simp_all; omega)
   have hmm : V2.length * p.procs.length ≤ p.procs.length * p.procs.length := Nat.mul_le_mul_right _ hV2.out.len
   have hq := hf.out
   rw [show p.procs.length - c = (p.procs.length - (c + 1)) + 1 from by omega] at hq
   rw [show ∀ m, outR (clF p) (m + 1) (V, L) = outR (clF p) m (rndN (clF p) L (V, [])) from fun _ => rfl, hrd] at hq
   exact ⟨p.procs.length - (c + 1), by omega, c + 1, M, V2, o2, n2, nx2, lv2, rfl, rfl, by omega, acc_or ha.out, Lib.hid hV2.out, Lib.hid hM.out, by omega, Lib.hid hq⟩
 ·intro b6
  have c6 := b6
  try simp only [decide_eq_false_iff_not] at c6
  refine S_exit ?_
  show S _ _ _ _ _
  refine S_seq ?_
  refine S_seq ?_
  refine S_of_X EV_ok (by kernel_rfl) ?_
  refine X_rg fun R hR => ?_
  simp only [inr_i64, Int.reduceLE, Int.reduceNeg, aops, astep, awant, aeff, aop, ev, ofValue, St.put, zgd, zmo, if_true, zs1, zs0, and_self, b6]
  with_reducible refine hR _ ?_
  clear hR R
  show S _ _ _ _ _
  refine S_block ?_
  have hcN : c = p.procs.length := by first | omega | (simp_all; omega)
  refine S_loop (fun m σ => ∃ (i : Nat) (V3 : List Int), σ = ⟨[slotOf σ 0, .int .i64 (k : Int), .ptr 0 0, slotOf σ 3, slotOf σ 4, .bsl 1 0 1 p.procs.length, .slice o n (L.map dI), slotOf σ 7, slotOf σ 8, .int .i64 i, slotOf σ 10, slotOf σ 11, slotOf σ 12, slotOf σ 13, slotOf σ 14, slotOf σ 15, slotOf σ 16, slotOf σ 17, slotOf σ 18, slotOf σ 19, slotOf σ 20, slotOf σ 21, slotOf σ 22, slotOf σ 23, slotOf σ 24, slotOf σ 25, slotOf σ 26, slotOf σ 27, slotOf σ 28, slotOf σ 29, slotOf σ 30, slotOf σ 31, slotOf σ 32, slotOf σ 33, slotOf σ 34, slotOf σ 35, slotOf σ 36, slotOf σ 37, slotOf σ 38, slotOf σ 39, slotOf σ 40, slotOf σ 41, slotOf σ 42, slotOf σ 43, slotOf σ 44, slotOf σ 45, slotOf σ 46, slotOf σ 47, slotOf σ 48, slotOf σ 49, slotOf σ 50, slotOf σ 51, slotOf σ 52, slotOf σ 53, slotOf σ 54, slotOf σ 55, slotOf σ 56, slotOf σ 57, slotOf σ 58, slotOf σ 59, slotOf σ 60, slotOf σ 61, slotOf σ 62, slotOf σ 63, slotOf σ 64, slotOf σ 65, slotOf σ 66, slotOf σ 67, slotOf σ 68, slotOf σ 69, slotOf σ 70, slotOf σ 71, slotOf σ 72, slotOf σ 73, slotOf σ 74, slotOf σ 75, slotOf σ 76], [[.slice .imm (if (p.vars.map dV).isEmpty = true then 0 else 3) (p.vars.map dV), .slice .imm (if (p.procs.map dP).isEmpty = true then 0 else 6) (p.procs.map dP), .int .u8 p.main.kind, .int .i64 p.main.num, .str p.main.name, .slice .imm (if (p.main.kids.map dN).isEmpty = true then 0 else 4) (p.main.kids.map dN)], bD p.procs.length V3], nx, lv⟩ ∧ m = L.length - i ∧ i ≤ L.length ∧ Hid (markN (L.drop i) V3 = markN L V)) ?_ (L.length) ?_
  rotate_left
  ·exact ⟨0, V, rfl, rfl, Nat.zero_le _, Lib.hid rfl⟩
  rintro m σ ⟨i, V3, hσ, rfl, hi, hf3⟩
  generalize slotOf σ = x at hσ
  subst hσ
  refine S_seq ?_
  refine S_seq ?_
  refine S_of_X EV_ok (by kernel_rfl) ?_
  refine X_rg fun R hR => ?_
  simp only [EVP, nat_lt, aops, astep, awant, aeff, aop, abin, aint, ev, St.put, zg1, zg0, zgd, zmo, if_true, zs1, zs0, zlm, und_int]
  with_reducible refine hR _ ?_
  clear hR R
  show S _ _ _ _ _
  refine S_ite (by simp only [ev, zg1, zg0, zgd]; exact rfl) ?_ ?_
  ·intro b7
   have c7 := b7
   try simp only [decide_eq_true_eq] at c7
   refine S_skip ?_
   show S _ _ _ _ _
   refine S_seq ?_
   refine S_block ?_
   have hlt : i < L.length := by first | assumption | omega | simp_all
   have hn1 : (n = 1) = True := eq_true (hn.resolve_right (fun e => by subst e; simp at hlt))
   obtain ⟨x, hx, hxn⟩ : ∃ x : Nat, L[i] = (x : Int) ∧ x < p.procs.length := ⟨L[i].toNat, by have := hL.out _ (List.getElem_mem hlt); omega, by have := hL.out _ (List.getElem_mem hlt); omega⟩
   have e1 : (L.map dI)[i]? = some (.int .i64 (x : Int)) := by rw [List.getElem?_map, List.getElem?_eq_getElem hlt, hx]; rfl
   have hxb : ((x : Int) < (p.procs.length : Int)) = True := eq_true (by omega)
   have hx0 : ((0 : Int) ≤ (x : Int)) = True := eq_true (by omega)
   have hx1 : (x + 1 ≤ p.procs.length) = True := eq_true (by omega)
   have hs1 := bD_set (V := V3) hxn
   have hs2 := bD_set' (V := V3) hxn
   refine S_of_X EV_ok (by kernel_rfl) ?_
   refine X_rg fun R hR => ?_
   simp only [EVP, nat_lt, nat_0, nat_to, aops, astep, awant, aeff, aop, astore, ev, ofValue, St.put, gd_bool, cl_bool, ia_int, cl_int, zg1, zg0, zgd, zmo, if_true, zs1, zs0, zlm, zlc, zln, Nat.reduceLT, Nat.zero_add, and_self, decide_true, zis, ty_int, ty_bool, und_int, siz_int, inf_int_eq, und_bool, siz_bool, inf_bool_eq, hlt, hn1, e1, hxb, hx0, Nat.mul_one, Nat.zero_add, hs2, bD_len, hx1]
   with_reducible refine hR _ ?_
   clear hR R
   show S _ _ _ _ _
   have hnn2 : p.procs.length * p.procs.length ≤ 1000 * 1000 := Nat.mul_le_mul hs.n hs.n
   have hbig : i < 9223372036854775807 := by omega
   refine S_of_X EV_ok (by kernel_rfl) ?_
   refine X_rg fun R hR => ?_
   simp only [inr_i64, Int.reduceLE, Int.reduceNeg, aops, astep, awant, aeff, aop, abin, aint, ev, ofValue, St.put, zg1, zg0, zgd, zmo, if_true, zs1, zs0, and_self, nat_succ hbig]
   with_reducible refine hR _ ?_
   clear hR R
   show ∃ m, m < _ ∧ _
   exact ⟨L.length - (i + 1), by omega, i + 1, addI V3 (x : Int), rfl, rfl, by omega, Lib.hid (by rw [← hf3.out, markN_step hlt, hx])⟩
  ·intro b8
   have c8 := b8
   try simp only [decide_eq_false_iff_not] at c8
   refine S_exit ?_
   show S _ _ _ _ _
   refine S_seq ?_
   have hxn : k < p.procs.length := hk
   have hxb : ((k : Int) < (p.procs.length : Int)) = True := eq_true (by omega)
   have hx0 : ((0 : Int) ≤ (k : Int)) = True := eq_true (by omega)
   have hx1 : (k + 1 ≤ p.procs.length) = True := eq_true (by omega)
   refine S_by EV_ok 3 rfl (by kernel_rfl) (by kernel_rfl) fun R hR => ?_
   simp only [EVP, nat_to, aops, astep, awant, aeff, aop, ev, St.put, zg1, zg0, zgd, zmo, if_true, zs1, zs0, zt1, zt0, Nat.reduceLT, Nat.zero_add, and_self, zis, und_bool, siz_bool, inf_bool_eq, b8, hxb, hx0, Nat.mul_one, Nat.zero_add]
   with_reducible refine hR _ ?_
   clear hR R
   refine ⟨_, SWp_load (t := 4) (s := 75) (i := 1) (ln := 0) (d := .bool (decide ((k : Int) ∈ V3))) rfl rfl rfl (by simp only [aop, ty_bool, EVP, zg1, zg0, bD_len, hx1, if_true, bD_at hxn, ia_bool, mkD, zft, if_false]), fun R hR => ?_⟩
   simp only [EVP, aops, astep, awant, aeff, aop, ev, St.put, zg1, zg0, zgd, zmo, if_true, zs1, zs0, zd1, zd0, Nat.reduceAdd]
   with_reducible refine hR _ ?_
   clear hR R
   show S _ _ _ _ _
   refine S_ret ?_
   have hV3 : V3 = markN L V := by rw [← hf3.out, List.drop_of_length_le (by first | omega | (simp_all; omega))]; rfl
   have hq := hf.out
   rw [hcN, Nat.sub_self] at hq
   have hq2 : (V, L) = outR (clF p) p.procs.length ([], clF p (k : Int)) := hq
   have hR : recR (clF p) p.procs.length (k : Int) = decide ((k : Int) ∈ V3) := by unfold recR; rw [← hq2, hV3]
   rw [recR_rec p (k : Int) (by omega)] at hR
   refine ⟨.inr rfl, .bool (decide ((k : Int) ∈ V3)), ?_, rfl, by rw [hR]; rfl⟩
   simp only [resD, resAll, resOne, resTup, Try.results28, zg1, zg0, D.good, if_true, zmo]; try rfl
theorem rrec_any (p : Pg) (hs : Sml p) (q : Int) : PContract Try.prog 28 [dG p, .int .i64 q] (.bool (recF p q)) := by
 by_cases h1 : q < 0
 ·exact rrec_b1 p hs q h1
 by_cases h2 : (p.procs.length : Int) ≤ q
 ·exact rrec_b2 p hs q h1 h2
 ·obtain ⟨k, rfl⟩ : ∃ k : Nat, q = (k : Int) := ⟨q.toNat, by omega⟩
  exact rrec_k p hs k (by omega)

end Go.Proofs.Ytkkhjpkkjpcbmaa
