import Derived.Test.YtkngdmilgfgclaaBA
/- At and Replace on plain trees. No program in sight. -/
namespace Go.Proofs.Ytkngdmilgfgclaa

/-- the node at a path -/
def atO : Tr → List Int → Option Tr
  | t, [] => some t
  | t, i :: p => if 0 ≤ i then (match t.kids[i.toNat]? with
    | some k => atO k p
    | none => none) else none
/-- the tree in which the node at a path is another one -/
def putO : Tr → List Int → Tr → Option Tr
  | _, [], m => some m
  | t, i :: p, m => if 0 ≤ i then (match t.kids[i.toNat]? with
    | some k => (putO k p m).map fun r => .mk t.kind t.num t.name (t.kids.set i.toNat r)
    | none => none) else none

theorem atO_cons {t k : Tr} {i : Int} {p : List Int} (h0 : 0 ≤ i) (hk : t.kids[i.toNat]? = some k) : atO t (i :: p) = atO k p := by
  simp only [atO, if_pos h0, hk]
theorem putO_cons {t k m : Tr} {i : Int} {p : List Int} (h0 : 0 ≤ i) (hk : t.kids[i.toNat]? = some k) : putO t (i :: p) m = (putO k p m).map fun r => .mk t.kind t.num t.name (t.kids.set i.toNat r) := by
  simp only [putO, if_pos h0, hk]
theorem atO_some {t x : Tr} {i : Int} {p : List Int} (h : atO t (i :: p) = some x) : ∃ k, 0 ≤ i ∧ t.kids[i.toNat]? = some k ∧ atO k p = some x := by
  simp only [atO] at h
  split at h
  · rename_i h0
    split at h
    · rename_i k hk; exact ⟨k, h0, hk, h⟩
    · cases h
  · cases h
/-- both find their way, or neither -/
theorem putO_isSome (m : Tr) : ∀ (p : List Int) (t : Tr), (putO t p m).isSome = (atO t p).isSome
  | [], _ => rfl
  | i :: p, t => by
    simp only [putO, atO]
    split
    · split
      · rename_i k hk
        rw [← putO_isSome m p k]
        cases putO k p m <;> rfl
      · rfl
    · rfl
/-- the replaced node is found at its path -/
theorem atO_put {m : Tr} : ∀ (p : List Int) (t r : Tr), putO t p m = some r → atO r p = some m
  | [], t, r, h => by cases h; rfl
  | i :: p, t, r, h => by
    simp only [putO] at h
    split at h
    · rename_i h0
      split at h
      · rename_i k hk
        rw [Option.map_eq_some_iff] at h
        obtain ⟨s, h1, rfl⟩ := h
        have hlt := (List.getElem?_eq_some_iff.1 hk).1
        rw [atO_cons h0 (k := s) (by simp only [Tr.kids]; exact List.getElem?_set_self hlt)]
        exact atO_put p k s h1
      · cases h
    · cases h
/-- replacing it by the node that lay there restores the tree -/
theorem putO_back {m : Tr} : ∀ (p : List Int) (t r o : Tr), putO t p m = some r → atO t p = some o → putO r p o = some t
  | [], t, r, o, h, h' => by cases h'; rfl
  | i :: p, t, r, o, h, h' => by
    obtain ⟨k, h0, hk, h2⟩ := atO_some h'
    rw [putO_cons h0 hk, Option.map_eq_some_iff] at h
    obtain ⟨s, h1, rfl⟩ := h
    have hlt := (List.getElem?_eq_some_iff.1 hk).1
    rw [putO_cons h0 (k := s) (by simp only [Tr.kids]; exact List.getElem?_set_self hlt), putO_back p k s o h1 h2]
    simp only [Option.map_some, Tr.kind, Tr.num, Tr.name, Tr.kids, List.set_set]
    have : t.kids.set i.toNat k = t.kids := by
      refine List.ext_getElem? (fun j => ?_)
      by_cases e : i.toNat = j
      · subst e; rw [List.getElem?_set_self hlt, hk]
      · rw [List.getElem?_set_ne e]
    cases t
    simp only [Tr.kids] at this
    simp only [this]
theorem sizes_set : ∀ (c : List Tr) (j : Nat) (k s : Tr), c[j]? = some k → Tr.sizes (c.set j s) + k.size = Tr.sizes c + s.size
  | [], j, k, s, h => by cases j <;> cases h
  | x :: c, 0, k, s, h => by
    simp only [List.getElem?_cons_zero, Option.some.injEq] at h
    subst h
    simp only [List.set_cons_zero, Tr.sizes]; omega
  | x :: c, j + 1, k, s, h => by
    rw [List.getElem?_cons_succ] at h
    have := sizes_set c j k s h
    simp only [List.set_cons_succ, Tr.sizes]; omega
/-- the size turns by the difference -/
theorem putO_size {m : Tr} : ∀ (p : List Int) (t r o : Tr), putO t p m = some r → atO t p = some o → r.size + o.size = t.size + m.size
  | [], t, r, o, h, h' => by cases h; cases h'; omega
  | i :: p, t, r, o, h, h' => by
    obtain ⟨k, h0, hk, h2⟩ := atO_some h'
    rw [putO_cons h0 hk, Option.map_eq_some_iff] at h
    obtain ⟨s, h1, rfl⟩ := h
    have h3 := putO_size p k s o h1 h2
    have h4 := sizes_set t.kids i.toNat k s hk
    cases t
    simp only [Tr.size, Tr.kids] at h4 ⊢
    omega
end Go.Proofs.Ytkngdmilgfgclaa
