/- The checker's rejections: where they lie and in which order. Plain facts. -/
import Derived.Test.YtmglacjcefajlaaPl9b
import Derived.Test.YtmglacjcefajlaaOd
namespace Go.Proofs.Ytmglacjcefajlaa
open Go.RowKit

mutual
theorem walk_at : ∀ (t : Tr) (p : List Int), ∀ x ∈ walkL p t, ∃ s, x.1 = p ++ s ∧ atT t s = (x.2, true)
 | .mk k n s c, p, x, hx => by
  simp only [walkL] at hx
  rcases List.mem_cons.1 hx with rfl | hx
  ·exact ⟨[], by simp, rfl⟩
  ·obtain ⟨j, r, h1, h2, h3⟩ := walks_at (.mk k n s c) c p 0 (fun j => by simp [Tr.kids]) x hx
   exact ⟨_, h2, h3⟩
theorem walks_at (t : Tr) : ∀ (c : List Tr) (p : List Int) (i : Nat), (∀ j, c[j]? = t.kids[i + j]?) → ∀ x ∈ walksL p i c, ∃ (j : Nat) (r : List Int), i ≤ j ∧ x.1 = p ++ ((j : Int) :: r) ∧ atT t ((j : Int) :: r) = (x.2, true)
 | [], _, _, _, x, hx => by cases hx
 | u :: r, p, i, hc, x, hx => by
  simp only [walksL] at hx
  rcases List.mem_append.1 hx with hx | hx
  ·obtain ⟨s, h1, h2⟩ := walk_at u _ x hx
   have h0 := hc 0
   simp only [zg0, Nat.add_zero] at h0
   exact ⟨i, s, Nat.le_refl _, by rw [h1, zaa]; rfl, by rw [atT_kid h0.symm]; exact h2⟩
  ·obtain ⟨j, s, h1, h2, h3⟩ := walks_at t r p (i + 1) (fun j => by have := hc (j + 1); simp only [zg1] at this; rw [this]; congr 1; omega) x hx
   exact ⟨j, s, by omega, h2, h3⟩
end
mutual
theorem walk_pw : ∀ (t : Tr) (p : List Int), (walkL p t).Pairwise (fun x y => lessB x.1 y.1 = true)
 | .mk k n s c, p => by
  simp only [walkL]
  refine List.Pairwise.cons (fun x hx => ?_) (walks_pw c p 0)
  obtain ⟨j, r, _, h2, _⟩ := walks_at (.mk k n s c) c p 0 (fun j => by simp [Tr.kids]) x hx
  rw [h2]; exact less_nil p r j
theorem walks_pw : ∀ (c : List Tr) (p : List Int) (i : Nat), (walksL p i c).Pairwise (fun x y => lessB x.1 y.1 = true)
 | [], _, _ => List.Pairwise.nil
 | u :: r, p, i => by
  simp only [walksL]
  refine List.pairwise_append.2 ⟨walk_pw u _, walks_pw r p (i + 1), fun x hx y hy => ?_⟩
  obtain ⟨s, h1, _⟩ := walk_at u _ x hx
  obtain ⟨j, s', h2, h3, _⟩ := walks_at (.mk 0 0 ⟨#[]⟩ (List.replicate (i + 1) (.mk 0 0 ⟨#[]⟩ []) ++ r)) r p (i + 1) (fun j => by simp only [Tr.kids]; rw [List.getElem?_append_right (by simp)]; simp) y hy
  rw [h1, h3, zaa, less_app]
  exact less_lt (by omega) s s'
end
theorem nmE_err (o : Option ByteArray) : (nmE o).2 = 0 ∨ (nmE o).2 = 8 := by cases o <;> simp [nmE]
theorem rejT_err (t : Tr) : (rejT t).2 = 0 ∨ (rejT t).2 = 8 ∨ (rejT t).2 = 9 ∨ (rejT t).2 = 10 := by
 have h := nmE_err
 unfold rejT
 repeat' split
 all_goals first | exact (h _).elim .inl (fun q => .inr (.inl q)) | (simp; done)
/-- a rejection in a body -/
structure RejIn (pr : Int) (t : Tr) (f : Ft) : Prop where
 pr : f.proc = pr
 at' : (atT t f.path).2 = true
 st : stmtB (atT t f.path).1 = true
 err : f.err = 8 ∨ f.err = 9 ∨ f.err = 10
theorem body_in {pr : Int} {t : Tr} (ht : okN t) {f : Ft} (hf : f ∈ bodyF pr t) : RejIn pr t f := by
 obtain ⟨x, hx, hfx⟩ := List.mem_flatMap.1 hf
 obtain ⟨s, h1, h2⟩ := walk_at t [] x hx
 rw [zna] at h1
 have hs : stmtB x.2 = true := by
  cases q : stmtB x.2 with
  | true => rfl
  | false => rw [rejF_non (okN_walk t [] ht x hx) q] at hfx; cases hfx
 obtain ⟨rfl, he⟩ := rep_mem hfx
 refine ⟨rfl, ?_, ?_, ?_⟩
 ·show (atT t x.1).2 = true; rw [h1, h2]
 ·show stmtB (atT t x.1).1 = true; rw [h1, h2]; exact hs
 ·rcases rejT_err x.2 with q | q
  ·exact absurd q he
  ·exact q
theorem body_pw (pr : Int) (t : Tr) : (bodyF pr t).Pairwise (fun f g => lessB f.path g.path = true) := by
 unfold bodyF
 rw [List.pairwise_flatMap]
 refine ⟨fun x _ => ?_, (walk_pw t []).imp fun {x y} h f hf g hg => ?_⟩
 ·unfold rejF rep; split <;> simp
 ·rw [(rep_mem hf).1, (rep_mem hg).1]; exact h
def bodQ (p : Pg) (k : Int) : Tr := if 0 ≤ k then (match p.procs[k.toNat]? with | some q => q.body | none => p.main) else p.main
/-- the order of two rejections -/
def Rc (f g : Ft) : Prop := (f.proc = g.proc ∧ lessB f.path g.path = true) ∨ (f.proc ≠ g.proc ∧ f.proc ≠ -1 ∧ (g.proc = -1 ∨ f.proc < g.proc))
structure OkR (p : Pg) (f : Ft) : Prop where
 lo : -1 ≤ f.proc
 hi : f.proc < (p.procs.length : Int)
 r : RejIn f.proc (bodQ p f.proc) f
theorem rejs_ok {p : Pg} {f : Ft} (hb : ∀ q ∈ p.procs, okN q.body) : ∀ (c : List Pr) (i : Nat), (∀ j, c[j]? = p.procs[i + j]?) → f ∈ rejsF c i → OkR p f ∧ (i : Int) ≤ f.proc
 | [], _, _, h => by cases h
 | q :: r, i, hc, h => by
  simp only [rejsF, List.mem_append] at h
  rcases h with h | h
  ·have h0 := hc 0
   simp only [zg0, Nat.add_zero] at h0
   have hi : i < p.procs.length := (List.getElem?_eq_some_iff.1 h0.symm).1
   have hq : q ∈ p.procs := List.mem_of_getElem? h0.symm
   have hr := body_in (hb q hq) h
   have e : bodQ p f.proc = q.body := by
    unfold bodQ
    rw [hr.pr, if_pos (by omega), Int.toNat_natCast, ← h0]
   have hp := hr.pr
   exact ⟨⟨by omega, by omega, by rw [e, hp]; exact hr⟩, by omega⟩
  ·obtain ⟨h1, h2⟩ := rejs_ok hb r (i + 1) (fun j => by have := hc (j + 1); simp only [zg1] at this; rw [this]; congr 1; omega) h
   exact ⟨h1, by omega⟩
theorem rejs_pr {f : Ft} : ∀ (c : List Pr) (i : Nat), f ∈ rejsF c i → (i : Int) ≤ f.proc
 | [], _, h => by cases h
 | q :: r, i, h => by
  simp only [rejsF, List.mem_append] at h
  rcases h with h | h
  ·obtain ⟨x, _, hfx⟩ := List.mem_flatMap.1 h
   rw [(rep_mem hfx).1]; exact Int.le_refl _
  ·have := rejs_pr r (i + 1) h; omega
theorem body_pr {pr : Int} {t : Tr} {f : Ft} (h : f ∈ bodyF pr t) : f.proc = pr := by
 obtain ⟨x, _, hfx⟩ := List.mem_flatMap.1 h
 rw [(rep_mem hfx).1]
theorem body_rc (pr : Int) (t : Tr) : (bodyF pr t).Pairwise Rc := by
 refine List.Pairwise.imp_of_mem ?_ (body_pw pr t)
 intro f g hf hg h
 exact .inl ⟨by rw [body_pr hf, body_pr hg], h⟩
theorem rejs_rc : ∀ (c : List Pr) (i : Nat), (rejsF c i).Pairwise Rc
 | [], _ => List.Pairwise.nil
 | q :: r, i => by
  simp only [rejsF]
  refine List.pairwise_append.2 ⟨body_rc _ _, rejs_rc r (i + 1), fun f hf g hg => ?_⟩
  have h1 := body_pr hf
  have h2 := rejs_pr r (i + 1) hg
  exact .inr ⟨by omega, by omega, .inr (by omega)⟩
theorem chk_ok {p : Pg} {f : Ft} (h : f ∈ chkF p) : OkR p f := by
 unfold chkF at h
 split at h
 ·rename_i hv
  have hm := main_block hv.1
  have hok : ∀ q ∈ p.procs, okN q.body := fun q hq => (ok_block hv.1).2 q hq
  rcases List.mem_append.1 h with h | h
  ·exact (rejs_ok hok p.procs 0 (fun j => by simp) h).1
  ·have hr := body_in (ok_block hv.1).1 h
   have hp := hr.pr
   have e : bodQ p f.proc = p.main := by unfold bodQ; rw [hp, if_neg (by omega)]
   exact ⟨by omega, by omega, by rw [e, hp]; exact hr⟩
 ·cases h
theorem chk_rc (p : Pg) : (chkF p).Pairwise Rc := by
 unfold chkF
 split
 ·refine List.pairwise_append.2 ⟨rejs_rc _ _, body_rc _ _, fun f hf g hg => ?_⟩
  have h1 := rejs_pr _ _ hf
  have h2 := body_pr hg
  exact .inr ⟨by omega, by omega, .inl h2⟩
 ·exact List.Pairwise.nil
end Go.Proofs.Ytmglacjcefajlaa
