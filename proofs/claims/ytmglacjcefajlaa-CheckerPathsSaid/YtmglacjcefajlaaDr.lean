/- Names that a block mentions: plain facts. -/
import Derived.Test.YtmglacjcefajlaaOd
namespace Go.Proofs.Ytmglacjcefajlaa
open Go.RowKit

theorem findN_any (l : List Vd) (s : ByteArray) : ∀ n, n ≤ l.length → (findN l s n).2 = (l.take n).any fun v => v.name.toList == s.toList
 | 0, _ => rfl
 | n + 1, h => by
  rw [List.take_succ_eq_append_getElem h, List.any_append]
  simp only [List.any_cons, List.any_nil, Bool.or_false]
  by_cases q : (l[n].name.toList == s.toList) = true
  ·rw [findN_y h q, q, Bool.or_true]
  ·have q' : (l[n].name.toList == s.toList) = false := by simpa using q
   rw [findN_n h q', q', Bool.or_false]; exact findN_any l s n (by omega)
def hasV (vs : List Vd) (s : ByteArray) : Bool := vs.any fun v => v.name.toList == s.toList
theorem hasV_eq (vs : List Vd) (s : ByteArray) : (findN vs s vs.length).2 = hasV vs s := by rw [findN_any vs s _ (Nat.le_refl _), List.take_length]; rfl
theorem hasV_congr {vs : List Vd} {s s' : ByteArray} (h : s.toList = s'.toList) : hasV vs s = hasV vs s' := by unfold hasV; rw [h]
mutual
def localsB (s : ByteArray) : Tr → Bool
 | .mk k _n nm c => ((k == 54 || k == 55) && nm.toList == s.toList) || localsL s c
def localsL (s : ByteArray) : List Tr → Bool
 | [] => false
 | t :: r => localsB s t || localsL s r
end
mutual
def mentB (s : ByteArray) : Tr → Bool
 | .mk k _n nm c => (nm.toList == s.toList && !(k == 50) && !(k == 51)) || mentL s c
def mentL (s : ByteArray) : List Tr → Bool
 | [] => false
 | t :: r => mentB s t || mentL s r
end
theorem localsL_any (s : ByteArray) : ∀ c : List Tr, localsL s c = c.any (localsB s)
 | [] => rfl
 | t :: r => by simp only [localsL, List.any_cons, localsL_any s r]
theorem mentL_any (s : ByteArray) : ∀ c : List Tr, mentL s c = c.any (mentB s)
 | [] => rfl
 | t :: r => by simp only [mentL, List.any_cons, mentL_any s r]
theorem localsB_eq (s : ByteArray) (t : Tr) : localsB s t = (((t.kind == 54 || t.kind == 55) && t.name.toList == s.toList) || t.kids.any (localsB s)) := by
 cases t; simp only [localsB, localsL_any, Tr.kind, Tr.name, Tr.kids]
theorem mentB_eq (s : ByteArray) (t : Tr) : mentB s t = ((t.name.toList == s.toList && !(t.kind == 50) && !(t.kind == 51)) || t.kids.any (mentB s)) := by
 cases t; simp only [mentB, mentL_any, Tr.kind, Tr.name, Tr.kids]
def kindsN : List Int := [2, 3, 4, 5, 44, 45, 50, 51, 54, 55]
mutual
/-- where the name may stand -/
def wB (s : ByteArray) : Tr → Bool
 | .mk k _n nm c => (!(nm.toList == s.toList) || kindsN.contains k) && (if k = 50 ∨ k = 51 then c.all (fun x => x.kind == 2 && x.kids.isEmpty) else wL s c)
def wL (s : ByteArray) : List Tr → Bool
 | [] => true
 | t :: r => wB s t && wL s r
end
theorem wL_all (s : ByteArray) : ∀ c : List Tr, wL s c = c.all (wB s)
 | [] => rfl
 | t :: r => by simp only [wL, List.all_cons, wL_all s r]
theorem wB_eq (s : ByteArray) (t : Tr) : wB s t = ((!(t.name.toList == s.toList) || kindsN.contains t.kind) && (if t.kind = 50 ∨ t.kind = 51 then t.kids.all (fun x => x.kind == 2 && x.kids.isEmpty) else t.kids.all (wB s))) := by
 cases t; simp only [wB, wL_all]; rfl
theorem ment_at {s : ByteArray} : ∀ (r : List Int) (t : Tr), (atT t r).2 = true → (atT t r).1.name.toList = s.toList → (atT t r).1.kind ≠ 50 → (atT t r).1.kind ≠ 51 → mentB s t = true
 | [], t, _, h1, h2, h3 => by
  simp only [atT] at h1 h2 h3
  rw [mentB_eq]; simp [h1, h2, h3]
 | i :: r, t, h0, h1, h2, h3 => by
  simp only [atT] at h0 h1 h2 h3
  split at h0
  ·cases h0
  ·rename_i hi
   rw [if_neg hi] at h1 h2 h3
   split at h0
   ·rename_i c hc
    rw [hc] at h1 h2 h3
    have := ment_at r c h0 h1 h2 h3
    rw [mentB_eq, Bool.or_eq_true, List.any_eq_true]
    exact .inr ⟨c, List.mem_of_getElem? hc, this⟩
   ·cases h0
theorem expr_parts {k n : Int} {nm : ByteArray} {c : List Tr} (h : exprB (.mk k n nm c) = true) : (emptyB nm = true ∨ k = 2 ∨ k = 3 ∨ k = 4 ∨ k = 5) ∧ exprsB c = true ∧ k ≤ 23 := by
 have h0 : ∀ m, lenB c m = true → m = 0 → exprsB c = true := by
  intro m q e
  subst e
  have : c = [] := by simpa [lenB] using q
  rw [this]; rfl
 unfold exprB at h
 split at h
 ·simp only [zat] at h; exact ⟨.inl h.1.2, h0 _ h.2 rfl, by omega⟩
 ·split at h
  ·simp only [zat] at h; exact ⟨.inr (by omega), h0 _ h.2 rfl, by omega⟩
  ·split at h
   ·simp only [zat] at h; exact ⟨.inr (by omega), h.2, by omega⟩
   ·split at h
    ·simp only [zat, plainB] at h; exact ⟨.inl h.1.1.2, h.2, by omega⟩
    ·split at h
     ·simp only [zat, plainB] at h; exact ⟨.inl h.1.1.2, h.2, by omega⟩
     ·cases h
theorem stmt_parts {k n : Int} {nm : ByteArray} {c : List Tr} (h : stmtB (.mk k n nm c) = true) : (emptyB nm = true ∨ k = 44 ∨ k = 45 ∨ k = 50 ∨ k = 51 ∨ k = 54 ∨ k = 55) ∧ (∃ xs, catsB xs c = true) ∧ (k = 50 ∨ k = 51 → c.all varB = true) := by
 unfold stmtB at h
 split at h
 ·simp only [zat, plainB] at h; exact ⟨.inl h.1.2, ⟨_, h.2⟩, fun q => by omega⟩
 ·split at h
  ·simp only [zat, plainB] at h; exact ⟨.inl h.1.2, ⟨_, h.2⟩, fun q => by omega⟩
  ·split at h
   ·simp only [zat] at h; exact ⟨.inr (by omega), ⟨_, h.2⟩, fun q => by omega⟩
   ·split at h
    ·simp only [zat, plainB] at h; exact ⟨.inl h.1.2, ⟨_, h.2⟩, fun q => by omega⟩
    ·split at h
     ·simp only [zat] at h; exact ⟨.inr (by omega), ⟨_, h.2⟩, fun _ => by rw [← catsB_var]; exact h.2⟩
     ·split at h
      ·simp only [zat, plainB] at h; exact ⟨.inl h.1.2, ⟨_, h.2⟩, fun q => by omega⟩
      ·split at h
       ·simp only [zat] at h; exact ⟨.inr (by omega), ⟨_, h.2⟩, fun q => by omega⟩
       ·split at h
        ·simp only [zat] at h; exact ⟨.inr (by omega), ⟨_, h.2⟩, fun q => by omega⟩
        ·cases h
theorem empty_ne {s nm : ByteArray} (hs : s.toList ≠ []) (h : emptyB nm = true) : (!(nm.toList == s.toList)) = true := by
 simp only [emptyB] at h
 simp only [znt, beq_eq_false_iff_ne, ne_eq]
 intro q
 apply hs
 rw [← q]
 simpa using h
mutual
theorem expr_w {s : ByteArray} (hs : s.toList ≠ []) : ∀ t, exprB t = true → wB s t = true
 | .mk k n nm c, h => by
  obtain ⟨h1, h2, h3⟩ := expr_parts h
  have h4 := exprs_w hs c h2
  simp only [wB]
  rw [if_neg (by omega), h4, Bool.and_true]
  rcases h1 with h1 | h1
  ·rw [empty_ne hs h1]; rfl
  ·rcases h1 with rfl | rfl | rfl | rfl <;> simp [kindsN]
theorem exprs_w {s : ByteArray} (hs : s.toList ≠ []) : ∀ c, exprsB c = true → wL s c = true
 | [], _ => rfl
 | t :: r, h => by
  simp only [exprsB, zat] at h
  simp only [wL, expr_w hs t h.1, exprs_w hs r h.2, Bool.and_true]
end
theorem var_leaf {t : Tr} (h : varB t = true) : (t.kind == 2 && t.kids.isEmpty) = true := by
 obtain ⟨k, n, nm, c⟩ := t
 simp only [varB, zat, Tr.kind, beq_iff_eq] at h
 obtain ⟨rfl, h⟩ := h
 have : c = [] := by
  unfold exprB at h
  simp [lenB] at h
  exact h.2
 subst this; rfl
mutual
theorem stmt_w {s : ByteArray} (hs : s.toList ≠ []) : ∀ t, stmtB t = true → wB s t = true
 | .mk k n nm c, h => by
  obtain ⟨h1, ⟨xs, h2⟩, h3⟩ := stmt_parts h
  have h4 := cats_w hs xs c h2
  have h5 : (!(nm.toList == s.toList) || kindsN.contains k) = true := by
   rcases h1 with h1 | h1
   ·rw [empty_ne hs h1]; rfl
   ·rcases h1 with rfl | rfl | rfl | rfl | rfl | rfl <;> simp [kindsN]
  simp only [wB, h5, Bool.true_and]
  split
  ·rename_i q
   rw [List.all_eq_true]
   intro x hx
   exact var_leaf (List.all_eq_true.1 (h3 q) x hx)
  ·exact h4
theorem block_w {s : ByteArray} (hs : s.toList ≠ []) : ∀ t, blockB t = true → wB s t = true
 | .mk k n nm c, h => by
  simp only [blockB, zat, beq_iff_eq, plainB] at h
  obtain ⟨⟨rfl, h1⟩, h2⟩ := h
  have h4 := stmts_w hs c h2
  simp only [wB]
  rw [if_neg (by omega), h4, empty_ne hs h1.2]; rfl
theorem cats_w {s : ByteArray} (hs : s.toList ≠ []) : ∀ xs c, catsB xs c = true → wL s c = true
 | [], [], _ => rfl
 | [], _ :: _, h => by simp [catsB] at h
 | _ :: _, [], _ => rfl
 | x :: xs, t :: ts, h => by
  simp only [catsB, zat] at h
  obtain ⟨h1, h2⟩ := h
  have h3 := cats_w hs xs ts h2
  have h4 : wB s t = true := by
   split at h1
   ·exact expr_w hs t h1
   ·split at h1
    ·simp only [placeB, zat] at h1; exact expr_w hs t h1.2
    ·split at h1
     ·exact block_w hs t h1
     ·simp only [varB, zat] at h1; exact expr_w hs t h1.2
  simp only [wL, h4, h3, Bool.and_true]
theorem stmts_w {s : ByteArray} (hs : s.toList ≠ []) : ∀ c, stmtsB c = true → wL s c = true
 | [], _ => rfl
 | t :: r, h => by
  simp only [stmtsB, zat] at h
  simp only [wL, stmt_w hs t h.1, stmts_w hs r h.2, Bool.and_true]
end
/-- a fault of a name that is not known, at a node that is no call -/
def Hit (s : ByteArray) (t : Tr) (path : List Int) (f : Ft) : Prop := f.err = 6 ∧ f.name.toList = s.toList ∧ ∃ r, f.path = path ++ r ∧ (atT t r).2 = true ∧ (atT t r).1.kind ≠ 50 ∧ (atT t r).1.kind ≠ 51
theorem use6 {vs : List Vd} {s : ByteArray} {k : Int} (h : useE vs s k = 6) : hasV vs s = false := by
 unfold useE at h
 rw [hasV_eq] at h
 split at h
 ·split at h <;> cases h
 ·rename_i q; simpa using q
theorem use6' {vs : List Vd} {s : ByteArray} {k : Int} (h : hasV vs s = false) : useE vs s k = 6 := by
 unfold useE
 rw [hasV_eq, h]; rfl
theorem fault6 {p : Pg} {t : Tr} {vs : List Vd} (h : faultE p t vs = 6) : t.kind = 50 ∨ t.kind = 51 ∨ hasV vs t.name = false := by
 unfold faultE at h
 split at h
 ·exact .inr (.inr (use6 h))
 ·split at h
  ·exact .inr (.inr (use6 h))
  ·split at h
   ·exact .inr (.inr (use6 h))
   ·split at h
    ·unfold freshE at h; split at h <;> cases h
    ·split at h
     ·rename_i q; rcases q with q | q
      ·exact .inl q
      ·exact .inr (.inl q)
     ·cases h
theorem arg6 {p : Pg} {t : Tr} {i : Nat} {vs : List Vd} {c : Tr} (hc : t.kids[i]? = some c) (h : argE p t i vs = 6) : hasV vs c.name = false := by
 unfold argE at h
 rw [hc] at h
 simp only at h
 rw [hasV_eq] at h
 split at h
 ·split at h
  ·cases h
  ·split at h
   ·split at h
    ·split at h <;> cases h
    ·cases h
   ·cases h
 ·rename_i q; simpa using q
theorem arg6' {p : Pg} {t : Tr} {i : Nat} {vs : List Vd} {c : Tr} (hc : t.kids[i]? = some c) (h : hasV vs c.name = false) : argE p t i vs = 6 := by
 unfold argE
 rw [hc]
 simp only
 rw [hasV_eq, h]; rfl
theorem inner_has {t : Tr} {i : Int} {vs : List Vd} {s : ByteArray} (h : hasV vs s = true) : hasV (innerV t i vs) s = true := by
 unfold innerV
 split
 ·unfold hasV at h ⊢; rw [List.any_append, h]; rfl
 ·split
  ·unfold hasV at h ⊢; rw [List.any_append, h]; rfl
  ·exact h
theorem inner_not {t : Tr} {i : Int} {vs : List Vd} {s : ByteArray} (h : hasV vs s = false) (hl : ((t.kind == 54 || t.kind == 55) && t.name.toList == s.toList) = false) : hasV (innerV t i vs) s = false := by
 unfold innerV
 split
 ·rename_i q
  have : (t.name.toList == s.toList) = false := by simpa [q.1] using hl
  unfold hasV at h ⊢; rw [List.any_append, h]; simp [this]
 ·split
  ·rename_i q
   have : (t.name.toList == s.toList) = false := by simpa [q.1] using hl
   unfold hasV at h ⊢; rw [List.any_append, h]; simp [this]
  ·exact h
theorem args_no {p : Pg} {pr : Int} {t : Tr} {path : List Int} {vs : List Vd} {s : ByteArray} (hv : hasV vs s = true) : ∀ (c : List Tr) (i : Nat), (∀ j, c[j]? = t.kids[i + j]?) → ∀ f ∈ argsF p pr t path vs c i, ¬ (f.err = 6 ∧ f.name.toList = s.toList)
 | [], _, _, f, h => by simp [argsF] at h
 | c :: r, i, hc, f, h => by
  simp only [argsF, List.mem_append] at h
  rcases h with h | h
  ·obtain ⟨rfl, he⟩ := rep_mem h
   have h0 := hc 0
   simp only [zg0, Nat.add_zero] at h0
   rintro ⟨h1, h2⟩
   have h3 := arg6 h0.symm h1
   rw [hasV_congr (s' := s) h2, hv] at h3; cases h3
  ·exact args_no hv r (i + 1) (fun j => by have := hc (j + 1); simp only [zg1] at this; rw [this]; congr 1; omega) f h
mutual
theorem vis_no {p : Pg} {pr : Int} {s : ByteArray} : ∀ (t : Tr) (path : List Int) (vs : List Vd), hasV vs s = true → ∀ f ∈ visF p pr t path vs, ¬ Hit s t path f
 | .mk k n nm c, path, vs, hv, f, h => by
  simp only [visF, List.mem_append] at h
  rcases h with h | h
  ·obtain ⟨rfl, he⟩ := rep_mem h
   rintro ⟨h1, h2, r, h3, h4, h5, h6⟩
   have hr : r = [] := by simpa using h3
   subst hr
   rcases fault6 h1 with q | q | q
   ·exact h5 q
   ·exact h6 q
   ·have q' : hasV vs nm = false := q
    rw [hasV_congr (s' := s) h2, hv] at q'; cases q'
  ·split at h
   ·rintro ⟨h1, h2, _⟩
    exact args_no hv c 0 (fun j => by simp [Tr.kids]) f h ⟨h1, h2⟩
   ·exact visL_no (.mk k n nm c) path vs hv c 0 (fun j => by simp [Tr.kids]) f h
theorem visL_no {p : Pg} {pr : Int} {s : ByteArray} (t : Tr) (path : List Int) (vs : List Vd) (hv : hasV vs s = true) : ∀ (c : List Tr) (i : Nat), (∀ j, c[j]? = t.kids[i + j]?) → ∀ f ∈ visL p pr t path vs c i, ¬ Hit s t path f
 | [], _, _, f, h => by simp [visL] at h
 | c :: r, i, hc, f, h => by
  simp only [visL, List.mem_append] at h
  rcases h with h | h
  ·obtain ⟨_, _, s', h3, _⟩ := vis_lies c _ _ f h
   have h0 := hc 0
   simp only [zg0, Nat.add_zero] at h0
   rintro ⟨h1, h2, q, g3, g4, g5, g6⟩
   have hq : q = (i : Int) :: s' := by
    rw [h3, zaa] at g3
    exact (List.append_cancel_left g3).symm
   subst hq
   rw [atT_kid h0.symm] at g4 g5 g6
   exact vis_no c _ _ (inner_has hv) f h ⟨h1, h2, s', h3, g4, g5, g6⟩
  ·exact visL_no t path vs hv r (i + 1) (fun j => by have := hc (j + 1); simp only [zg1] at this; rw [this]; congr 1; omega) f h
end
theorem args_mem {p : Pg} {pr : Int} {t : Tr} {path : List Int} {vs : List Vd} {f : Ft} : ∀ (c : List Tr) (i j : Nat) (x : Tr), c[j]? = some x → f ∈ rep pr (path ++ [((i + j : Nat) : Int)]) (argE p t (i + j) vs) x.name → f ∈ argsF p pr t path vs c i
 | [], _, _, _, h, _ => by simp at h
 | c :: r, i, 0, x, h, hf => by
  simp only [zg0, Option.some.injEq] at h
  subst h
  simp only [argsF, List.mem_append]; exact .inl hf
 | c :: r, i, j + 1, x, h, hf => by
  simp only [zg1] at h
  simp only [argsF, List.mem_append]
  refine .inr (args_mem r (i + 1) j x h ?_)
  rw [show i + 1 + j = i + (j + 1) by omega]; exact hf
theorem visL_mem {p : Pg} {pr : Int} {t : Tr} {path : List Int} {vs : List Vd} {f : Ft} : ∀ (c : List Tr) (i j : Nat) (x : Tr), c[j]? = some x → f ∈ visF p pr x (path ++ [((i + j : Nat) : Int)]) (innerV t ((i + j : Nat) : Int) vs) → f ∈ visL p pr t path vs c i
 | [], _, _, _, h, _ => by simp at h
 | c :: r, i, 0, x, h, hf => by
  simp only [zg0, Option.some.injEq] at h
  subst h
  simp only [visL, List.mem_append]; exact .inl hf
 | c :: r, i, j + 1, x, h, hf => by
  simp only [zg1] at h
  simp only [visL, List.mem_append]
  refine .inr (visL_mem r (i + 1) j x h ?_)
  rw [show i + 1 + j = i + (j + 1) by omega]; exact hf
theorem vis_hit {p : Pg} {pr : Int} {s : ByteArray} : ∀ (N : Nat) (t : Tr), t.size ≤ N → ∀ (path : List Int) (vs : List Vd), hasV vs s = false → localsB s t = false → wB s t = true → mentB s t = true → ∃ f ∈ visF p pr t path vs, Hit s t path f := by
 intro N
 induction N with
 | zero => intro t h; cases t; simp only [Tr.size] at h; omega
 | succ N IH =>
 intro t hN path vs hv hl hw hm
 rw [localsB_eq, zof] at hl
 rw [wB_eq, zat] at hw
 rw [mentB_eq, Bool.or_eq_true] at hm
 rw [visF_eq]
 rcases hm with hm | hm
 ·simp only [zat, beq_iff_eq, znt, beq_eq_false_iff_ne, ne_eq] at hm
  obtain ⟨⟨m1, m2⟩, m3⟩ := hm
  have hk : kindsN.contains t.kind = true := by
   have := hw.1
   rw [m1] at this; simpa using this
  have hh : hasV vs t.name = false := by rw [hasV_congr (s' := s) m1]; exact hv
  have h54 : ¬ t.kind = 54 ∧ ¬ t.kind = 55 := by
   have := hl.1
   rw [m1] at this; simpa using this
  have hf : faultE p t vs = 6 := by
   simp only [kindsN, List.contains_cons, List.contains_nil, Bool.or_false, Bool.or_eq_true, beq_iff_eq] at hk
   unfold faultE
   rcases hk with h | h | h | h | h | h | h | h | h | h <;> first | exact absurd h m2 | exact absurd h m3 | exact absurd h h54.1 | exact absurd h h54.2 | (rw [h]; simp [use6' hh])
  refine ⟨⟨pr, path, 6, t.name⟩, ?_, rfl, m1, [], by simp, rfl, m2, m3⟩
  rw [hf]; simp [rep]
 ·obtain ⟨c, hc, hcm⟩ := List.any_eq_true.1 hm
  obtain ⟨j, hj, rfl⟩ := List.getElem_of_mem hc
  have hcj : t.kids[j]? = some t.kids[j] := List.getElem?_eq_getElem hj
  by_cases hk : t.kind = 50 ∨ t.kind = 51
  ·have h2 := hw.2
   rw [if_pos hk] at h2
   have hlf := List.all_eq_true.1 h2 _ hc
   simp only [zat, beq_iff_eq, List.isEmpty_iff] at hlf
   rw [mentB_eq, hlf.2] at hcm
   simp only [List.any_nil, Bool.or_false, zat, beq_iff_eq] at hcm
   have hh : hasV vs t.kids[j].name = false := by rw [hasV_congr (s' := s) hcm.1.1]; exact hv
   rw [if_pos hk]
   refine ⟨⟨pr, path ++ [(j : Int)], 6, t.kids[j].name⟩, List.mem_append_right _ (args_mem t.kids 0 j _ hcj ?_), rfl, hcm.1.1, [(j : Int)], rfl, ?_, ?_, ?_⟩
   ·rw [Nat.zero_add, arg6' hcj hh]; simp [rep]
   all_goals rw [atT_kid hcj]
   ·rfl
   ·simp only [atT, hlf.1]; decide
   ·simp only [atT, hlf.1]; decide
  ·have h2 := hw.2
   rw [if_neg hk] at h2
   rw [if_neg hk]
   have hcl : localsB s t.kids[j] = false := by
    have := hl.2
    rw [List.any_eq_false] at this
    simpa using this _ hc
   obtain ⟨f, hf, h1, h3, r, h4, h5, h6, h7⟩ := IH t.kids[j] (by have := Tr.size_kid hj; omega) (path ++ [(j : Int)]) (innerV t (j : Int) vs) (inner_not hv hl.1) hcl (List.all_eq_true.1 h2 _ hc) hcm
   refine ⟨f, List.mem_append_right _ (visL_mem t.kids 0 j _ hcj (by rw [Nat.zero_add]; exact hf)), h1, h3, (j : Int) :: r, by rw [h4]; simp, ?_, ?_, ?_⟩
   all_goals rw [atT_kid hcj]
   ·exact h5
   ·exact h6
   ·exact h7
theorem hit_ment {p : Pg} {pr : Int} {s : ByteArray} {t : Tr} {path : List Int} {vs : List Vd} {f : Ft} (hf : f ∈ visF p pr t path vs) (h : Hit s t path f) : mentB s t = true := by
 obtain ⟨_, _, r, h3, _, h5⟩ := vis_lies t path vs f hf
 obtain ⟨h1, h2, q, g3, g4, g5, g6⟩ := h
 have hq : q = r := by rw [h3] at g3; exact (List.append_cancel_left g3).symm
 subst hq
 exact ment_at q t g4 (by rw [h5]; exact h2) g5 g6

end Go.Proofs.Ytmglacjcefajlaa
