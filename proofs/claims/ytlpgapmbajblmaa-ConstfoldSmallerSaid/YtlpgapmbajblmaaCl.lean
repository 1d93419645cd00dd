import Derived.Test.YtlpgapmbajblmaaRp
import Derived.Test.YtlpgapmbajblmaaKinds
/- Validity is substitutive: plain laws about trees. No program in sight. -/
namespace Go.Proofs.Ytlpgapmbajblmaa

/-- the categories of nodes: 0 an expression, 1 a place, 2 a block, 3 a variable, 4 a statement -/
def cat (q : Nat) (t : Tr) : Bool := if q = 4 then stmtB t else if q = 0 then exprB t else if q = 1 then placeB t else if q = 2 then blockB t else varB t
/-- the category of a node's child -/
def kidcat (k : Int) (i : Nat) : Nat :=
 if k = 57 then 4 else if k ≤ 23 then 0
 else if k = 40 ∨ k = 41 ∨ k = 42 ∨ k = 56 then (([1, 0] : List Nat)[i]?).getD 0
 else if k = 43 then (([1, 1] : List Nat)[i]?).getD 0
 else if k = 44 ∨ k = 45 then (([1] : List Nat)[i]?).getD 0
 else if k = 46 ∨ k = 47 ∨ k = 48 ∨ k = 49 then (([1] : List Nat)[i]?).getD 0
 else if k = 50 ∨ k = 51 then 3
 else if k = 52 ∨ k = 53 then (([0, 2, 2, 0] : List Nat)[i]?).getD 0
 else if k = 54 then (([0, 2, 0] : List Nat)[i]?).getD 0
 else if k = 55 then (([2] : List Nat)[i]?).getD 0
 else 0

theorem expr_kind {t : Tr} (h : exprB t = true) : t.kind ≤ 23 := by
 cases t with
 | mk k n s c =>
  simp only [exprB] at h
  simp only [Tr.kind]
  by_cases h1 : k ≤ 23
  ·exact h1
  ·rw [if_neg (by omega), if_neg (by omega), if_neg (by omega), if_neg (by omega), if_neg (by omega)] at h
   cases h
theorem stmt_kind {t : Tr} (h : stmtB t = true) : 40 ≤ t.kind ∧ t.kind ≤ 56 := by
 cases t with
 | mk k n s c =>
  simp only [stmtB] at h
  simp only [Tr.kind]
  by_cases h1 : 40 ≤ k ∧ k ≤ 56
  ·exact h1
  ·rw [if_neg (by omega), if_neg (by omega), if_neg (by omega), if_neg (by omega), if_neg (by omega), if_neg (by omega), if_neg (by omega), if_neg (by omega)] at h
   cases h
theorem block_kind {t : Tr} (h : blockB t = true) : t.kind = 57 := by
 cases t with
 | mk k n s c =>
  simp only [blockB, Bool.and_eq_true, beq_iff_eq] at h
  exact h.1.1
theorem var_place {t : Tr} (h : varB t = true) : placeB t = true := by
 simp only [varB, placeB, Bool.and_eq_true, Bool.or_eq_true] at h ⊢
 exact ⟨.inl h.1, h.2⟩
theorem place_expr {t : Tr} (h : placeB t = true) : exprB t = true := by
 simp only [placeB, Bool.and_eq_true] at h
 exact h.2
/-- whatever has a category is an expression, a block or a statement -/
theorem cat_any {q : Nat} {t : Tr} (h : cat q t = true) : exprB t = true ∨ blockB t = true ∨ stmtB t = true := by
 unfold cat at h
 split at h
 ·exact .inr (.inr h)
 ·split at h
  ·exact .inl h
  ·split at h
   ·exact .inl (place_expr h)
   ·split at h
    ·exact .inr (.inl h)
    ·exact .inl (place_expr (var_place h))
theorem catsB_iff : ∀ (l : List Nat) (c : List Tr), (∀ x ∈ l, x ≠ 4) → (catsB l c = true ↔ c.length = l.length ∧ ∀ (i : Nat) (h : i < c.length), cat ((l[i]?).getD 0) c[i] = true)
 | [], [], _ => by simp [catsB]
 | [], t :: r, _ => by simp [catsB]
 | x :: l, [], _ => by simp [catsB]
 | x :: l, t :: r, hl => by
  have hx := hl x List.mem_cons_self
  have ih := catsB_iff l r (fun y hy => hl y (List.mem_cons_of_mem _ hy))
  have e : (if x = 0 then exprB t else if x = 1 then placeB t else if x = 2 then blockB t else varB t) = cat x t := by
   unfold cat; rw [if_neg hx]
  simp only [catsB, Bool.and_eq_true, e, ih, List.length_cons]
  constructor
  ·rintro ⟨h1, h2, h3⟩
   refine ⟨by omega, fun i h => ?_⟩
   cases i with
   | zero => simpa using h1
   | succ i => simpa using h3 i (by omega)
  ·rintro ⟨h2, h3⟩
   refine ⟨by simpa using h3 0 (by omega), by omega, fun i h => ?_⟩
   have h9 := h3 (i + 1) (by omega)
   rw [List.getElem_cons_succ, List.getElem?_cons_succ] at h9
   exact h9
theorem all_set {p : Tr → Bool} {c : List Tr} {i : Nat} {u : Tr} (h : c.all p = true) (hu : p u = true) : (c.set i u).all p = true := by
 rw [List.all_eq_true] at h ⊢
 intro x hx
 rcases List.mem_or_eq_of_mem_set hx with h9 | rfl
 ·exact h x h9
 ·exact hu
theorem all_at {p : Tr → Bool} {c : List Tr} {i : Nat} (h : c.all p = true) (hi : i < c.length) : p c[i] = true := List.all_eq_true.1 h _ (List.getElem_mem hi)
theorem cats_set {l : List Nat} {c : List Tr} {i : Nat} {u : Tr} (hl : ∀ x ∈ l, x ≠ 4) (h : catsB l c = true) (hu : cat ((l[i]?).getD 0) u = true) : catsB l (c.set i u) = true := by
 rw [catsB_iff l _ hl] at h ⊢
 refine ⟨by rw [List.length_set]; exact h.1, fun j hj => ?_⟩
 rw [List.length_set] at hj
 by_cases e : i = j
 ·subst e; rw [List.getElem_set_self]; exact hu
 ·rw [List.getElem_set_ne e]; exact h.2 j hj
theorem lenB_set {c : List Tr} {i : Nat} {u : Tr} {m : Int} : lenB (c.set i u) m = lenB c m := by unfold lenB; rw [List.length_set]
theorem cat0 (t : Tr) : cat 0 t = exprB t := by unfold cat; rw [if_neg (by omega), if_pos rfl]
theorem cat3 (t : Tr) : cat 3 t = varB t := by unfold cat; rw [if_neg (by omega), if_neg (by omega), if_neg (by omega), if_neg (by omega)]
theorem cat4 (t : Tr) : cat 4 t = stmtB t := by unfold cat; rw [if_pos rfl]
theorem cat2 (t : Tr) : cat 2 t = blockB t := by unfold cat; rw [if_neg (by omega), if_neg (by omega), if_neg (by omega), if_pos rfl]

theorem expr_step {k n : Int} {s : ByteArray} {c : List Tr} {i : Nat} (h : exprB (.mk k n s c) = true) (hi : i < c.length) : kidcat k i = 0 ∧ exprB c[i] = true ∧ ∀ u, exprB u = true → exprB (.mk k n s (c.set i u)) = true := by
 have hk := expr_kind h
 simp only [Tr.kind] at hk
 refine ⟨by unfold kidcat; rw [if_neg (by omega), if_pos hk], ?_⟩
 simp only [exprB] at h
 have h0 : ∀ (b : Bool), (b && lenB c 0) = true → False := fun b q => by
  simp only [Bool.and_eq_true, lenB, beq_iff_eq] at q
  omega
 split at h
 ·exact absurd h (fun q => h0 _ q)
 ·split at h
  ·exact absurd h (fun q => h0 _ q)
  ·rename_i q1 q2
   split at h
   ·rename_i q3
    simp only [Bool.and_eq_true, exprsB_all] at h
    refine ⟨all_at h.2 hi, fun u hu => ?_⟩
    simp only [exprB]
    rw [if_neg q1, if_neg q2, if_pos q3, lenB_set, exprsB_all, all_set h.2 hu, h.1.1, h.1.2]; rfl
   ·rename_i q3
    split at h
    ·rename_i q4
     simp only [Bool.and_eq_true, exprsB_all] at h
     refine ⟨all_at h.2 hi, fun u hu => ?_⟩
     simp only [exprB]
     rw [if_neg q1, if_neg q2, if_neg q3, if_pos q4, lenB_set, exprsB_all, all_set h.2 hu, h.1.1, h.1.2]; rfl
    ·rename_i q4
     split at h
     ·rename_i q5
      simp only [Bool.and_eq_true, exprsB_all] at h
      refine ⟨all_at h.2 hi, fun u hu => ?_⟩
      simp only [exprB]
      rw [if_neg q1, if_neg q2, if_neg q3, if_neg q4, if_pos q5, lenB_set, exprsB_all, all_set h.2 hu, h.1.1, h.1.2]; rfl
     ·cases h
theorem block_step {k n : Int} {s : ByteArray} {c : List Tr} {i : Nat} (h : blockB (.mk k n s c) = true) (hi : i < c.length) : kidcat k i = 4 ∧ stmtB c[i] = true ∧ ∀ u, stmtB u = true → blockB (.mk k n s (c.set i u)) = true := by
 simp only [blockB, Bool.and_eq_true, beq_iff_eq, stmtsB_all] at h
 obtain ⟨⟨hk, h1⟩, h2⟩ := h
 refine ⟨by unfold kidcat; rw [if_pos hk], all_at h2 hi, fun u hu => ?_⟩
 simp only [blockB, stmtsB_all, all_set h2 hu, h1, hk, beq_self_eq_true, Bool.and_self]
theorem cats_step {l : List Nat} {b : Bool} {k : Int} {c : List Tr} {i : Nat} (hl : ∀ x ∈ l, x ≠ 4) (hk : kidcat k i = (l[i]?).getD 0) (h : (b && catsB l c) = true) (hi : i < c.length) : cat (kidcat k i) c[i] = true ∧ ∀ u, cat (kidcat k i) u = true → (b && catsB l (c.set i u)) = true := by
 simp only [Bool.and_eq_true] at h ⊢
 rw [hk]
 exact ⟨((catsB_iff l c hl).1 h.2).2 i hi, fun u hu => ⟨h.1, cats_set hl h.2 hu⟩⟩
theorem stmt_step {k n : Int} {s : ByteArray} {c : List Tr} {i : Nat} (h : stmtB (.mk k n s c) = true) (hi : i < c.length) : cat (kidcat k i) c[i] = true ∧ ∀ u, cat (kidcat k i) u = true → stmtB (.mk k n s (c.set i u)) = true := by
 have hk := stmt_kind h
 simp only [Tr.kind] at hk
 have e57 : ¬ k = 57 := by omega
 have e23 : ¬ k ≤ 23 := by omega
 simp only [stmtB] at h ⊢
 unfold kidcat
 rw [if_neg e57, if_neg e23]
 by_cases q1 : k = 40 ∨ k = 41 ∨ k = 42 ∨ k = 56
 ·simp only [if_pos q1] at h ⊢
  have := cats_step (k := k) (i := i) (l := [1, 0]) (by decide) (by unfold kidcat; rw [if_neg e57, if_neg e23, if_pos q1]) h hi
  unfold kidcat at this; rw [if_neg e57, if_neg e23, if_pos q1] at this
  exact this
 ·rw [if_neg q1] at h ⊢
  simp only [if_neg q1]
  by_cases q2 : k = 43
  ·simp only [if_pos q2] at h ⊢
   have := cats_step (k := k) (i := i) (l := [1, 1]) (by decide) (by unfold kidcat; rw [if_neg e57, if_neg e23, if_neg q1, if_pos q2]) h hi
   unfold kidcat at this; rw [if_neg e57, if_neg e23, if_neg q1, if_pos q2] at this
   exact this
  ·rw [if_neg q2] at h ⊢
   simp only [if_neg q2]
   by_cases q3 : k = 44 ∨ k = 45
   ·simp only [if_pos q3] at h ⊢
    have := cats_step (k := k) (i := i) (l := [1]) (by decide) (by unfold kidcat; rw [if_neg e57, if_neg e23, if_neg q1, if_neg q2, if_pos q3]) h hi
    unfold kidcat at this; rw [if_neg e57, if_neg e23, if_neg q1, if_neg q2, if_pos q3] at this
    exact this
   ·rw [if_neg q3] at h ⊢
    simp only [if_neg q3]
    by_cases q4 : k = 46 ∨ k = 47 ∨ k = 48 ∨ k = 49
    ·simp only [if_pos q4] at h ⊢
     have := cats_step (k := k) (i := i) (l := [1]) (by decide) (by unfold kidcat; rw [if_neg e57, if_neg e23, if_neg q1, if_neg q2, if_neg q3, if_pos q4]) h hi
     unfold kidcat at this; rw [if_neg e57, if_neg e23, if_neg q1, if_neg q2, if_neg q3, if_pos q4] at this
     exact this
    ·rw [if_neg q4] at h ⊢
     simp only [if_neg q4]
     by_cases q5 : k = 50 ∨ k = 51
     ·simp only [if_pos q5, List.length_set, catsB_var] at h ⊢
      simp only [Bool.and_eq_true] at h
      refine ⟨by rw [cat3]; exact all_at h.2 hi, fun u hu => ?_⟩
      rw [cat3] at hu
      have e : List.replicate c.length 3 = List.replicate (c.set i u).length 3 := by rw [List.length_set]
      rw [e, catsB_var, all_set h.2 hu, h.1.1, h.1.2]; rfl
     ·rw [if_neg q5] at h ⊢
      simp only [if_neg q5]
      by_cases q6 : k = 52 ∨ k = 53
      ·simp only [if_pos q6] at h ⊢
       have := cats_step (k := k) (i := i) (l := [0, 2, 2, 0]) (by decide) (by unfold kidcat; rw [if_neg e57, if_neg e23, if_neg q1, if_neg q2, if_neg q3, if_neg q4, if_neg q5, if_pos q6]) h hi
       unfold kidcat at this; rw [if_neg e57, if_neg e23, if_neg q1, if_neg q2, if_neg q3, if_neg q4, if_neg q5, if_pos q6] at this
       exact this
      ·rw [if_neg q6] at h ⊢
       simp only [if_neg q6]
       by_cases q7 : k = 54
       ·simp only [if_pos q7] at h ⊢
        have := cats_step (k := k) (i := i) (l := [0, 2, 0]) (by decide) (by unfold kidcat; rw [if_neg e57, if_neg e23, if_neg q1, if_neg q2, if_neg q3, if_neg q4, if_neg q5, if_neg q6, if_pos q7]) h hi
        unfold kidcat at this; rw [if_neg e57, if_neg e23, if_neg q1, if_neg q2, if_neg q3, if_neg q4, if_neg q5, if_neg q6, if_pos q7] at this
        exact this
       ·rw [if_neg q7] at h ⊢
        simp only [if_neg q7]
        by_cases q8 : k = 55
        ·simp only [if_pos q8] at h ⊢
         have := cats_step (k := k) (i := i) (l := [2]) (by decide) (by unfold kidcat; rw [if_neg e57, if_neg e23, if_neg q1, if_neg q2, if_neg q3, if_neg q4, if_neg q5, if_neg q6, if_neg q7, if_pos q8]) h hi
         unfold kidcat at this; rw [if_neg e57, if_neg e23, if_neg q1, if_neg q2, if_neg q3, if_neg q4, if_neg q5, if_neg q6, if_neg q7, if_pos q8] at this
         exact this
        ·rw [if_neg q8] at h; cases h
/-- a child's category, and what may stand in its place -/
theorem cat_step {q : Nat} {k n : Int} {s : ByteArray} {c : List Tr} {i : Nat} (h : cat q (.mk k n s c) = true) (hi : i < c.length) : cat (kidcat k i) c[i] = true ∧ ∀ u, cat (kidcat k i) u = true → cat q (.mk k n s (c.set i u)) = true := by
 unfold cat at h
 split at h
 ·rename_i e; subst e
  simp only [cat4]
  exact stmt_step h hi
 ·split at h
  ·rename_i e; subst e
   obtain ⟨h1, h2, h3⟩ := expr_step h hi
   simp only [h1, cat0]
   exact ⟨h2, h3⟩
  ·split at h
   ·rename_i e4 e0 e; subst e
    simp only [placeB, Bool.and_eq_true] at h
    obtain ⟨h1, h2, h3⟩ := expr_step h.2 hi
    simp only [h1, cat0]
    refine ⟨h2, fun u hu => ?_⟩
    show placeB _ = true
    simp only [placeB, h3 u hu, Bool.and_true]
    exact h.1
   ·split at h
    ·rename_i e; subst e
     obtain ⟨h1, h2, h3⟩ := block_step h hi
     simp only [h1, cat4, cat2]
     exact ⟨h2, h3⟩
    ·simp only [varB, Bool.and_eq_true, beq_iff_eq, Tr.kind] at h
     have h9 := h.2
     simp only [exprB, h.1] at h9
     simp [lenB] at h9
     have := h9.2
     subst this
     exact absurd hi (Nat.not_lt_zero _)
end Go.Proofs.Ytlpgapmbajblmaa
