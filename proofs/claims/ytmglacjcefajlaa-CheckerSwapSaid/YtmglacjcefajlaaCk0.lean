/- What the checker rejects: plain facts. -/
import Derived.Test.YtmglacjcefajlaaSc2
import Derived.Test.YtmglacjcefajlaaDr
import Derived.Test.YtmglacjcefajlaaCf
namespace Go.Proofs.Ytmglacjcefajlaa
open Go.RowKit

def emS : ByteArray := ⟨#[]⟩
mutual
def mentE (s : ByteArray) : Tr → Bool
 | .mk k _ nm c => ((k == 2 || k == 3 || k == 4 || k == 5) && nm.toList == s.toList) || mentEs s c
def mentEs (s : ByteArray) : List Tr → Bool
 | [] => false
 | t :: r => mentE s t || mentEs s r
end
def hitE (s : ByteArray) (t : Tr) : Bool := (t.kind == 2 || t.kind == 3 || t.kind == 4 || t.kind == 5) && t.name.toList == s.toList
mutual
theorem ment_walk (s : ByteArray) : ∀ (t : Tr) (p : List Int), (walkL p t).any (fun x => hitE s x.2) = mentE s t
 | .mk k n nm c, p => by
  simp only [walkL, List.any_cons]
  rw [ment_walks s c p 0]
  simp only [mentE, hitE, Tr.kind, Tr.name]
theorem ment_walks (s : ByteArray) : ∀ (c : List Tr) (p : List Int) (i : Nat), (walksL p i c).any (fun x => hitE s x.2) = mentEs s c
 | [], _, _ => rfl
 | t :: r, p, i => by simp only [walksL, List.any_append, ment_walk s t, ment_walks s r, mentEs]
end
def kidN (t : Tr) (i : Nat) : Tr := (t.kids[i]?).getD noT
def idxE (t : Tr) (s : ByteArray) : Bool := t.kind == 3 && mentE s (kidN t 0)
def al1 (t : Tr) : List ByteArray → Option ByteArray
 | [] => none
 | s :: r => if idxE t s then some s else al1 t r
def al2 : List Tr → List ByteArray → Option ByteArray
 | [], _ => none
 | t :: r, nm => match al1 t nm with
  | some s => some s
  | none => al2 r nm
theorem al1_y {t : Tr} {l : List ByteArray} {j : Nat} (h : j < l.length) (q : idxE t l[j] = true) : al1 t (l.drop j) = some l[j] := by
 rw [List.drop_eq_getElem_cons h]; simp only [al1, q, if_true]
theorem al1_n {t : Tr} {l : List ByteArray} {j : Nat} (h : j < l.length) (q : idxE t l[j] = false) : al1 t (l.drop j) = al1 t (l.drop (j + 1)) := by
 rw [List.drop_eq_getElem_cons h]; simp only [al1, q, zft, if_false]
theorem al1_e {t : Tr} {l : List ByteArray} {j : Nat} (h : l.length ≤ j) : al1 t (l.drop j) = none := by
 rw [List.drop_of_length_le h]; rfl
theorem al2_y {c : List Tr} {l : List ByteArray} {i : Nat} {s : ByteArray} (h : i < c.length) (q : al1 c[i] l = some s) : al2 (c.drop i) l = some s := by
 rw [List.drop_eq_getElem_cons h]; simp only [al2, q]
theorem al2_n {c : List Tr} {l : List ByteArray} {i : Nat} (h : i < c.length) (q : al1 c[i] l = none) : al2 (c.drop i) l = al2 (c.drop (i + 1)) l := by
 rw [List.drop_eq_getElem_cons h]; simp only [al2, q]
theorem al2_e {c : List Tr} {l : List ByteArray} {i : Nat} (h : c.length ≤ i) : al2 (c.drop i) l = none := by
 rw [List.drop_of_length_le h]; rfl
def nmE : Option ByteArray → ByteArray × Int
 | some s => (s, 8)
 | none => (emS, 0)
def hasN (c : List Tr) (s : ByteArray) : Bool := c.any fun m => m.name.toList == s.toList
def dupN (c : List Tr) : Nat → Nat → Option ByteArray
 | _, 0 => none
 | i, n + 1 => match c[i]? with
  | some t => if hasN (c.take i) t.name then some t.name else dupN c (i + 1) n
  | none => none
theorem dup_y {c : List Tr} {i : Nat} (h : i < c.length) (q : hasN (c.take i) c[i].name = true) : dupN c i (c.length - i) = some c[i].name := by
 obtain ⟨k, hk⟩ : ∃ k, c.length - i = k + 1 := ⟨c.length - i - 1, by omega⟩
 rw [hk]; simp only [dupN, List.getElem?_eq_getElem h, q, if_true]
theorem dup_n {c : List Tr} {i : Nat} (h : i < c.length) (q : hasN (c.take i) c[i].name = false) : dupN c i (c.length - i) = dupN c (i + 1) (c.length - (i + 1)) := by
 obtain ⟨k, hk⟩ : ∃ k, c.length - i = k + 1 := ⟨c.length - i - 1, by omega⟩
 rw [hk, show c.length - (i + 1) = k from by omega]; simp only [dupN, List.getElem?_eq_getElem h, q, zft, if_false]
/-- the rejection of a node: the name, the error -/
def rejT (t : Tr) : ByteArray × Int :=
 if t.kind = 56 then ((kidN t 0).name, 9)
 else if t.kind = 40 ∨ t.kind = 41 ∨ t.kind = 42 then (if idxE (kidN t 0) (kidN t 0).name || mentE (kidN t 0).name (kidN t 1) then ((kidN t 0).name, 8) else (emS, 0))
 else if t.kind = 43 then nmE (al2 t.kids [(kidN t 0).name, (kidN t 1).name])
 else if t.kind = 44 ∨ t.kind = 45 then nmE (al2 t.kids [(kidN t 0).name, t.name])
 else if t.kind = 46 ∨ t.kind = 47 ∨ t.kind = 48 ∨ t.kind = 49 then nmE (al2 t.kids [(kidN t 0).name])
 else if t.kind = 50 ∨ t.kind = 51 then nmE (dupN t.kids 0 t.kids.length)
 else if t.kind = 52 then (if (constT (kidN t 3)).2 && !(constT (kidN t 0)).2 then (emS, 10) else (emS, 0))
 else if t.kind = 53 then (if (constT (kidN t 0)).2 then (emS, 10) else (emS, 0))
 else (emS, 0)
def rejF (pr : Int) (x : List Int × Tr) : List Ft := rep pr x.1 (rejT x.2).2 (rejT x.2).1
def bodyF (pr : Int) (t : Tr) : List Ft := (walkL [] t).flatMap (rejF pr)
def rejsF : List Pr → Nat → List Ft
 | [], _ => []
 | q :: r, i => bodyF i q.body ++ rejsF r (i + 1)
def chkF (p : Pg) : List Ft := if validB p = true ∧ checkF p = [] then rejsF p.procs 0 ++ bodyF (-1) p.main else []
/-- what every node of a valid block is -/
def okN (t : Tr) : Prop := exprB t = true ∨ stmtB t = true ∨ blockB t = true
theorem expr_kind {t : Tr} (h : exprB t = true) : t.kind < 40 := by
 obtain ⟨k, n, nm, c⟩ := t
 have := (expr_parts h).2.2
 simp only [Tr.kind]; omega
theorem stmt_kind {t : Tr} (h : stmtB t = true) : 40 ≤ t.kind ∧ t.kind ≤ 56 := by
 obtain ⟨k, n, nm, c⟩ := t
 simp only [Tr.kind]
 unfold stmtB at h
 repeat' split at h
 all_goals first | omega | cases h
theorem block_kind {t : Tr} (h : blockB t = true) : t.kind = 57 := by
 obtain ⟨k, n, nm, c⟩ := t
 simp only [blockB, zat, beq_iff_eq] at h
 exact h.1.1
theorem okN_cats : ∀ (xs : List Nat) (c : List Tr), catsB xs c = true → ∀ t ∈ c, okN t
 | [], [], _, t, ht => by cases ht
 | [], _ :: _, h, _, _ => by simp [catsB] at h
 | _ :: _, [], _, t, ht => by cases ht
 | x :: xs, u :: us, h, t, ht => by
  simp only [catsB, zat] at h
  rcases List.mem_cons.1 ht with rfl | ht
  ·have h1 := h.1
   split at h1
   ·exact .inl h1
   ·split at h1
    ·simp only [placeB, zat] at h1; exact .inl h1.2
    ·split at h1
     ·exact .inr (.inr h1)
     ·simp only [varB, zat] at h1; exact .inl h1.2
  ·exact okN_cats xs us h.2 t ht
theorem okN_kids {t : Tr} (h : okN t) : ∀ x ∈ t.kids, okN x := by
 obtain ⟨k, n, nm, c⟩ := t
 rcases h with h | h | h
 ·have := (expr_parts h).2.1
  rw [exprsB_all, List.all_eq_true] at this
  exact fun x hx => .inl (this x hx)
 ·obtain ⟨_, ⟨xs, h2⟩, _⟩ := stmt_parts h
  exact okN_cats xs c h2
 ·simp only [blockB, zat, stmtsB_all, List.all_eq_true] at h
  exact fun x hx => .inr (.inl (h.2 x hx))
mutual
theorem okN_walk : ∀ (t : Tr) (p : List Int), okN t → ∀ x ∈ walkL p t, okN x.2
 | .mk k n nm c, p, h, x, hx => by
  simp only [walkL] at hx
  rcases List.mem_cons.1 hx with rfl | hx
  ·exact h
  ·exact okN_walks c p 0 (okN_kids h) x hx
theorem okN_walks : ∀ (c : List Tr) (p : List Int) (i : Nat), (∀ t ∈ c, okN t) → ∀ x ∈ walksL p i c, okN x.2
 | [], _, _, _, x, hx => by cases hx
 | t :: r, p, i, h, x, hx => by
  simp only [walksL] at hx
  rcases List.mem_append.1 hx with hx | hx
  ·exact okN_walk t _ (h t (by simp)) x hx
  ·exact okN_walks r p (i + 1) (fun y hy => h y (by simp [hy])) x hx
end
/-- the same lists; the procedures count only if asked -/
def SameF (all : Bool) (f g : Ft) : Prop := f.err = g.err ∧ f.name.toList = g.name.toList ∧ f.path = g.path ∧ (all = true → f.proc = g.proc)
end Go.Proofs.Ytmglacjcefajlaa
