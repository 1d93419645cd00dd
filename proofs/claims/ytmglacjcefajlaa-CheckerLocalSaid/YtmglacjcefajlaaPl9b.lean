/- A rejected statement is taken away: plain facts. -/
import Derived.Test.YtmglacjcefajlaaPl9
namespace Go.Proofs.Ytmglacjcefajlaa
open Go.RowKit

mutual
theorem walk_emp {pr : Int} : ∀ (t : Tr) (p p' : List Int), (walkL p t).flatMap (rejF pr) = [] → (walkL p' t).flatMap (rejF pr) = []
 | .mk k n s c, p, p', h => by
  simp only [walkL, List.flatMap_cons, List.append_eq_nil_iff] at h ⊢
  exact ⟨rep_emp h.1 _ _, walks_emp c p p' 0 0 h.2⟩
theorem walks_emp {pr : Int} : ∀ (c : List Tr) (p p' : List Int) (i i' : Nat), (walksL p i c).flatMap (rejF pr) = [] → (walksL p' i' c).flatMap (rejF pr) = []
 | [], _, _, _, _, _ => rfl
 | t :: r, p, p', i, i', h => by
  simp only [walksL, List.flatMap_append, List.append_eq_nil_iff] at h ⊢
  exact ⟨walk_emp t _ _ h.1, walks_emp r p p' (i + 1) (i' + 1) h.2⟩
end
mutual
theorem walk_deep : ∀ (t : Tr) (p : List Int), ∀ x ∈ walkL p t, p.length ≤ x.1.length
 | .mk k n s c, p, x, hx => by
  simp only [walkL] at hx
  rcases List.mem_cons.1 hx with rfl | hx
  ·exact Nat.le_refl _
  ·have := walks_deep c p 0 x hx; omega
theorem walks_deep : ∀ (c : List Tr) (p : List Int) (i : Nat), ∀ x ∈ walksL p i c, p.length + 1 ≤ x.1.length
 | [], _, _, x, hx => by cases hx
 | t :: r, p, i, x, hx => by
  simp only [walksL] at hx
  rcases List.mem_append.1 hx with hx | hx
  ·have := walk_deep t _ x hx; simpa using this
  ·exact walks_deep r p (i + 1) x hx
end
def kidsF (pr : Int) (i : Nat) (c : List Tr) : List Ft := (walksL [] i c).flatMap (rejF pr)
theorem kidsF_cons (pr : Int) (i : Nat) (t : Tr) (r : List Tr) : kidsF pr i (t :: r) = (walkL [(i : Int)] t).flatMap (rejF pr) ++ kidsF pr (i + 1) r := by
 simp only [kidsF, walksL, List.flatMap_append, zna]
theorem kidsF_app (pr : Int) : ∀ (a b : List Tr) (i : Nat), kidsF pr i (a ++ b) = kidsF pr i a ++ kidsF pr (i + a.length) b
 | [], b, i => by simp [kidsF, walksL]
 | t :: r, b, i => by
  rw [zca, kidsF_cons, kidsF_cons, kidsF_app pr r b (i + 1), zaa, zlc, show i + 1 + r.length = i + (r.length + 1) by omega]
theorem bodyF_block {pr : Int} {t : Tr} (h : 56 < t.kind) : bodyF pr t = kidsF pr 0 t.kids := by
 obtain ⟨k, n, s, c⟩ := t
 simp only [bodyF, walkL, List.flatMap_cons, kidsF, Tr.kids]
 have : rejF pr ([], Tr.mk k n s c) = [] := by unfold rejF; rw [rejT_non (.inr h)]; rfl
 rw [this, zna]
theorem kidsF_emp {pr : Int} {c : List Tr} {i : Nat} (h : kidsF pr i c = []) (i' : Nat) : kidsF pr i' c = [] := walks_emp c [] [] i i' h
theorem kid_last {pr : Int} : ∀ (c : List Tr) (i : Nat) (L : List Ft) (f : Ft), kidsF pr i c = L ++ [f] → f.path.length = 1 → ∃ j : Nat, j < c.length ∧ f.path = [((i + j : Nat) : Int)] ∧ kidsF pr i (c.take j ++ c.drop (j + 1)) = L
 | [], i, L, f, h, _ => by simp [kidsF, walksL] at h
 | t :: r, i, L, f, h, hf => by
  rw [kidsF_cons] at h
  cases hr : kidsF pr (i + 1) r with
  | nil =>
   rw [hr, List.append_nil] at h
   obtain ⟨k, n, s, c⟩ := t
   simp only [walkL, List.flatMap_cons] at h
   have hd : (walksL [(i : Int)] 0 c).flatMap (rejF pr) = [] := by
    cases hx : (walksL [(i : Int)] 0 c).flatMap (rejF pr) with
    | nil => rfl
    | cons a b =>
     exfalso
     have hm : f ∈ (walksL [(i : Int)] 0 c).flatMap (rejF pr) := by
      rw [hx] at h ⊢
      obtain ⟨a', b', hab⟩ : ∃ a' b', a :: b = a' ++ [b'] := ⟨_, _, (List.dropLast_concat_getLast (by simp)).symm⟩
      rw [hab, ← zaa] at h
      obtain ⟨_, h2⟩ := List.append_inj' h rfl
      simp only [List.cons.injEq, and_true] at h2
      rw [hab, ← h2]; simp
     obtain ⟨x, hx1, hx2⟩ := List.mem_flatMap.1 hm
     have h2 := walks_deep c _ 0 x hx1
     rw [← rejF_path f hx2] at h2
     simp at h2; omega
   rw [hd, List.append_nil] at h
   have hl := rejF_len pr ([(i : Int)], Tr.mk k n s c)
   rw [h] at hl
   have hL : L = [] := by cases L with | nil => rfl | cons a b => simp at hl
   subst hL
   refine ⟨0, by simp, ?_, ?_⟩
   ·have := rejF_path (pr := pr) (x := ([(i : Int)], Tr.mk k n s c)) f (by rw [h]; simp)
    simpa using this
   ·simpa using kidsF_emp hr i
  | cons a b =>
   have hne : kidsF pr (i + 1) r ≠ [] := by rw [hr]; simp
   obtain ⟨L', f', hL'⟩ : ∃ L' f', kidsF pr (i + 1) r = L' ++ [f'] := ⟨_, _, (List.dropLast_concat_getLast hne).symm⟩
   rw [hL', ← zaa] at h
   obtain ⟨h1, h2⟩ := List.append_inj' h rfl
   simp only [List.cons.injEq, and_true] at h2
   subst h2
   obtain ⟨j, hj, hp, hk⟩ := kid_last r (i + 1) L' f' hL' hf
   refine ⟨j + 1, by simpa using hj, by rw [hp]; congr 2; omega, ?_⟩
   simp only [zt1, zd1, zca]
   rw [kidsF_cons, hk, h1]
theorem mends {p : Pg} (hv : validB p = true) (hc : checkF p = []) {L : List Ft} {f : Ft} (hl : chkF p = L ++ [f]) (hpr : f.proc = -1) (hf : f.path.length = 1) :
  ∃ j : Nat, j < p.main.kids.length ∧ f.path = [(j : Int)] ∧ chkF (withM p (p.main.kids.take j ++ p.main.kids.drop (j + 1))) = L := by
 have hk : p.main.kind = 57 := block_kind (main_block hv).1
 rw [chk_eq hv hc, bodyF_block (by omega)] at hl
 cases hm : kidsF (-1) 0 p.main.kids with
 | nil =>
  exfalso
  rw [hm, List.append_nil] at hl
  obtain ⟨j, _, _, h⟩ := rejs_proc p.procs 0 f (by rw [hl]; simp)
  omega
 | cons a b =>
  have hne : kidsF (-1) 0 p.main.kids ≠ [] := by rw [hm]; simp
  obtain ⟨L', f', hL'⟩ : ∃ L' f', kidsF (-1) 0 p.main.kids = L' ++ [f'] := ⟨_, _, (List.dropLast_concat_getLast hne).symm⟩
  rw [hL', ← zaa] at hl
  obtain ⟨h1, h2⟩ := List.append_inj' hl rfl
  simp only [List.cons.injEq, and_true] at h2
  subst h2
  obtain ⟨j, hj, hp, hkk⟩ := kid_last _ 0 L' f' hL' hf
  refine ⟨j, hj, by simpa using hp, ?_⟩
  have hs : (p.main.kids.take j ++ p.main.kids.drop (j + 1)).Sublist p.main.kids := by
   have h3 : p.main.kids.take j ++ p.main.kids.drop j = p.main.kids := List.take_append_drop j _
   conv => rhs; rw [← h3]
   refine List.Sublist.append (List.Sublist.refl _) ?_
   rw [← List.drop_drop (i := 1) (j := j)]
   exact List.drop_sublist 1 _
  obtain ⟨h4, h5⟩ := withM_ok hv hc hs
  rw [chk_eq h4 h5, bodyF_block (by simp [withM, Tr.kind])]
  show rejsF p.procs 0 ++ kidsF (-1) 0 (p.main.kids.take j ++ p.main.kids.drop (j + 1)) = L
  rw [hkk, h1]
end Go.Proofs.Ytmglacjcefajlaa
