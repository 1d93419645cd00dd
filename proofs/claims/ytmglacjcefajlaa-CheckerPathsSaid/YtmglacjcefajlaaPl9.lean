/- Rejections of parts of a program: plain facts. -/
import Derived.Test.YtmglacjcefajlaaCk3
namespace Go.Proofs.Ytmglacjcefajlaa
open Go.RowKit

theorem rep_emp {pr : Int} {path : List Int} {err : Int} {name : ByteArray} (h : rep pr path err name = []) (pr' : Int) (path' : List Int) : rep pr' path' err name = [] := by
 unfold rep at h ⊢
 split at h
 ·rename_i q; rw [if_pos q]
 ·cases h
theorem procI_congr {p q : Pg} (h : p.procs = q.procs) (s : ByteArray) : procI p s = procI q s := by unfold procI; rw [h]
theorem prmN_congr {p q : Pg} (h : p.procs = q.procs) (s : ByteArray) : prmN p s = prmN q s := by unfold prmN; rw [procI_congr h, h]
theorem faultE_congr {p q : Pg} (h : p.procs = q.procs) (t : Tr) (vs : List Vd) : faultE p t vs = faultE q t vs := by
 unfold faultE; rw [procI_congr h, prmN_congr h]
theorem argE_congr {p q : Pg} (h : p.procs = q.procs) (t : Tr) (i : Nat) (vs : List Vd) : argE p t i vs = argE q t i vs := by
 unfold argE; rw [procI_congr h, prmN_congr h]
theorem args_emp {p q : Pg} (hp : p.procs = q.procs) {pr : Int} {t : Tr} {path : List Int} {vs : List Vd} (pr' : Int) (path' : List Int) : ∀ (c : List Tr) (i : Nat), argsF p pr t path vs c i = [] → argsF q pr' t path' vs c i = []
 | [], _, _ => rfl
 | c :: r, i, h => by
  simp only [argsF, List.append_eq_nil_iff] at h ⊢
  rw [← argE_congr hp]
  exact ⟨rep_emp h.1 _ _, args_emp hp pr' path' r (i + 1) h.2⟩
mutual
theorem vis_emp {p q : Pg} (hp : p.procs = q.procs) {pr : Int} (pr' : Int) : ∀ (t : Tr) (path path' : List Int) (vs : List Vd), visF p pr t path vs = [] → visF q pr' t path' vs = []
 | .mk k n s c, path, path', vs, h => by
  simp only [visF, List.append_eq_nil_iff] at h ⊢
  rw [← faultE_congr hp]
  refine ⟨rep_emp h.1 _ _, ?_⟩
  have h2 := h.2
  split
  ·rename_i hk; rw [if_pos hk] at h2; exact args_emp hp pr' path' c 0 h2
  ·rename_i hk; rw [if_neg hk] at h2; exact visL_emp hp pr' (.mk k n s c) path path' vs c 0 h2
theorem visL_emp {p q : Pg} (hp : p.procs = q.procs) {pr : Int} (pr' : Int) (t : Tr) (path path' : List Int) (vs : List Vd) : ∀ (c : List Tr) (i : Nat), visL p pr t path vs c i = [] → visL q pr' t path' vs c i = []
 | [], _, _ => rfl
 | c :: r, i, h => by
  simp only [visL, List.append_eq_nil_iff] at h ⊢
  exact ⟨vis_emp hp pr' c _ _ _ h.1, visL_emp hp pr' t path path' vs r (i + 1) h.2⟩
end
theorem vr_emp {pr : Int} {one : Bool} {l : List Vd} (pr' : Int) (one' : Bool) : ∀ (c : List Vd) (i : Nat), vrF pr one l c i = [] → vrF pr' one' l c i = []
 | [], _, _ => rfl
 | c :: r, i, h => by
  simp only [vrF, List.append_eq_nil_iff] at h ⊢
  exact ⟨rep_emp h.1 _ _, vr_emp pr' one' r (i + 1) h.2⟩
theorem procF_emp {p q : Pg} (hp : p.procs = q.procs) {i : Nat} {x : Pr} (h : procF p i x = []) : procF q i x = [] := by
 simp only [procF, List.append_eq_nil_iff] at h ⊢
 rw [← procI_congr hp]
 exact ⟨h.1, h.2.1, vis_emp hp _ _ _ _ _ h.2.2⟩
theorem procs_emp {p q : Pg} (hp : p.procs = q.procs) : ∀ (c : List Pr) (i : Nat), procsF p c i = [] → procsF q c i = []
 | [], _, _ => rfl
 | c :: r, i, h => by
  simp only [procsF, List.append_eq_nil_iff] at h ⊢
  exact ⟨procF_emp hp h.1, procs_emp hp r (i + 1) h.2⟩
theorem procs_at {p : Pg} : ∀ (c : List Pr) (i : Nat), procsF p c i = [] → ∀ (j : Nat) (hj : j < c.length), procF p (i + j) c[j] = []
 | [], _, _, j, hj => absurd hj (Nat.not_lt_zero _)
 | c :: r, i, h, 0, _ => by
  simp only [procsF, List.append_eq_nil_iff] at h
  exact h.1
 | c :: r, i, h, j + 1, hj => by
  simp only [procsF, List.append_eq_nil_iff] at h
  have := procs_at r (i + 1) h.2 j (by simpa using hj)
  rw [show i + (j + 1) = i + 1 + j by omega]
  simpa using this
theorem check_parts {p : Pg} (h : checkF p = []) : vrF (-1) true p.vars p.vars 0 = [] ∧ procsF p p.procs 0 = [] ∧ visF p p.procs.length p.main [] p.vars = [] := by
 simp only [checkF, List.append_eq_nil_iff] at h; exact h
/-- a procedure as a main block -/
def subP (p : Pg) (q : Pr) : Pg := ⟨q.params, p.procs, q.body⟩
theorem sub_valid {p : Pg} (hv : validB p = true) {k : Nat} (hk : k < p.procs.length) : validB (subP p p.procs[k]) = true := by
 obtain ⟨b1, b2, b3, _⟩ := valid_bd hv
 have h8 := (b3 _ (List.getElem_mem hk)).1
 simp only [validB, zat, List.all_eq_true] at hv ⊢
 have hq := hv.1.2 _ (List.getElem_mem hk)
 simp only [procB, zat, List.all_eq_true] at hq
 refine ⟨⟨⟨⟨?_, hv.1.1.1.2⟩, hq.1.2⟩, hv.1.2⟩, hq.2⟩
 have hz : (p.procs[k].params.length : Int) ≤ 8 := by exact_mod_cast h8
 have h9 : ¬ ((p.procs[k].params.length : Int) > 32) := fun q => absurd (Int.lt_of_lt_of_le q hz) (by decide)
 show (!decide ((p.procs[k].params.length : Int) > 32)) = true
 rw [decide_eq_false h9]; rfl
theorem sub_check {p : Pg} (hc : checkF p = []) {k : Nat} (hk : k < p.procs.length) : checkF (subP p p.procs[k]) = [] := by
 obtain ⟨_, h2, _⟩ := check_parts hc
 have h3 := procs_at _ _ h2 k hk
 simp only [procF, List.append_eq_nil_iff] at h3
 simp only [checkF, List.append_eq_nil_iff]
 exact ⟨vr_emp _ _ _ _ h3.2.1, procs_emp (p := p) (q := subP p p.procs[k]) rfl p.procs 0 h2, vis_emp (p := p) (q := subP p p.procs[k]) rfl _ p.procs[k].body [] [] p.procs[k].params h3.2.2⟩
theorem rejF_proc {pr : Int} {x : List Int × Tr} : ∀ f ∈ rejF pr x, f.proc = pr := fun f hf => by
 obtain ⟨rfl, _⟩ := rep_mem hf; rfl
theorem bodyF_proc {pr : Int} {t : Tr} : ∀ f ∈ bodyF pr t, f.proc = pr := fun f hf => by
 obtain ⟨x, _, hx⟩ := List.mem_flatMap.1 hf; exact rejF_proc f hx
theorem filter_own {pr : Int} {l : List Ft} (h : ∀ f ∈ l, f.proc = pr) : l.filter (fun f => f.proc == pr) = l := by
 rw [List.filter_eq_self]; intro f hf; simp [h f hf]
theorem filter_no {pr pr' : Int} {l : List Ft} (h : ∀ f ∈ l, f.proc = pr) (hne : pr ≠ pr') : l.filter (fun f => f.proc == pr') = [] := by
 rw [List.filter_eq_nil_iff]; intro f hf; simp [h f hf, hne]
theorem rejs_proc : ∀ (c : List Pr) (i : Nat), ∀ f ∈ rejsF c i, ∃ j : Nat, i ≤ j ∧ j < i + c.length ∧ f.proc = (j : Int)
 | [], _, f, h => by cases h
 | c :: r, i, f, h => by
  simp only [rejsF] at h
  rcases List.mem_append.1 h with h | h
  ·exact ⟨i, Nat.le_refl _, by simp, bodyF_proc f h⟩
  ·obtain ⟨j, h1, h2, h3⟩ := rejs_proc r (i + 1) f h
   exact ⟨j, by omega, by simp only [zlc]; omega, h3⟩
theorem rejs_neg (c : List Pr) (i : Nat) : (rejsF c i).filter (fun f => f.proc == -1) = [] := by
 rw [List.filter_eq_nil_iff]; intro f hf
 obtain ⟨j, _, _, h⟩ := rejs_proc c i f hf
 simp only [h, beq_iff_eq]; omega
theorem rejs_at : ∀ (c : List Pr) (i k : Nat) (hk : k < c.length), (rejsF c i).filter (fun f => f.proc == ((i + k : Nat) : Int)) = bodyF ((i + k : Nat) : Int) c[k].body
 | [], _, _, hk => absurd hk (Nat.not_lt_zero _)
 | c :: r, i, 0, _ => by
  simp only [rejsF, List.filter_append, Nat.add_zero, List.getElem_cons_zero]
  rw [filter_own bodyF_proc]
  have : (rejsF r (i + 1)).filter (fun f => f.proc == (i : Int)) = [] := by
   rw [List.filter_eq_nil_iff]; intro f hf
   obtain ⟨j, h1, _, h⟩ := rejs_proc r (i + 1) f hf
   simp only [h, beq_iff_eq]; omega
  rw [this, List.append_nil]
 | c :: r, i, k + 1, hk => by
  simp only [rejsF, List.filter_append, List.getElem_cons_succ]
  have h1 := rejs_at r (i + 1) k (by simpa using hk)
  rw [show i + 1 + k = i + (k + 1) by omega] at h1
  rw [h1, filter_no bodyF_proc (by omega), zna]
theorem chk_eq {p : Pg} (hv : validB p = true) (hc : checkF p = []) : chkF p = rejsF p.procs 0 ++ bodyF (-1) p.main := if_pos ⟨hv, hc⟩
theorem chk_at {p : Pg} (hv : validB p = true) (hc : checkF p = []) {k : Nat} (hk : k < p.procs.length) : (chkF p).filter (fun f => f.proc == (k : Int)) = bodyF k p.procs[k].body := by
 have := rejs_at p.procs 0 k hk
 rw [Nat.zero_add] at this
 rw [chk_eq hv hc, List.filter_append, this, filter_no bodyF_proc (by omega), List.append_nil]
theorem chk_main {p : Pg} (hv : validB p = true) (hc : checkF p = []) : (chkF p).filter (fun f => f.proc == -1) = bodyF (-1) p.main := by
 rw [chk_eq hv hc, List.filter_append, rejs_neg, filter_own bodyF_proc, zna]
theorem bodyF_re (a b : Int) (t : Tr) : bodyF b t = (bodyF a t).map (fun f => { f with proc := b }) := by
 unfold bodyF
 rw [List.map_flatMap]
 congr 1; funext x
 unfold rejF rep
 split <;> rfl
theorem body_same (a b : Int) (t : Tr) : (bodyF a t).length = (bodyF b t).length ∧ ∀ (i : Nat) (h1 : i < (bodyF a t).length) (h2 : i < (bodyF b t).length), SameF false (bodyF a t)[i] (bodyF b t)[i] := by
 have h := bodyF_re a b t
 refine ⟨by rw [h, zlm], fun i h1 h2 => ?_⟩
 simp only [h, List.getElem_map]
 exact ⟨rfl, rfl, rfl, fun q => by cases q⟩
theorem SameF.rfl (all : Bool) (f : Ft) : SameF all f f := ⟨Eq.refl _, Eq.refl _, Eq.refl _, fun _ => Eq.refl _⟩
theorem rejF_path {pr : Int} {x : List Int × Tr} : ∀ f ∈ rejF pr x, f.path = x.1 := fun f hf => by
 obtain ⟨rfl, _⟩ := rep_mem hf; rfl
theorem bodyF_plen {pr : Int} {t : Tr} : ∀ f ∈ bodyF pr t, f.path.length ≤ t.size := fun f hf => by
 obtain ⟨x, hx, h⟩ := List.mem_flatMap.1 hf
 rw [rejF_path f h]
 have := walkL_plen t [] x hx; simpa using this
theorem rejs_plen {B : Nat} : ∀ (c : List Pr) (i : Nat), (∀ q ∈ c, q.body.size ≤ B) → ∀ f ∈ rejsF c i, f.path.length ≤ B
 | [], _, _, f, h => by cases h
 | c :: r, i, hq, f, h => by
  simp only [rejsF] at h
  rcases List.mem_append.1 h with h | h
  ·exact Nat.le_trans (bodyF_plen f h) (hq c (by simp))
  ·exact rejs_plen r (i + 1) (fun q h' => hq q (by simp [h'])) f h
theorem rejsF_len {B : Nat} : ∀ (c : List Pr) (i : Nat), (∀ q ∈ c, q.body.size ≤ B) → (rejsF c i).length ≤ B * c.length
 | [], _, _ => by simp [rejsF]
 | c :: r, i, hq => by
  have h1 := bodyF_len i c.body
  have h2 := hq c (by simp)
  have h3 := rejsF_len r (i + 1) (fun q h' => hq q (by simp [h']))
  simp only [rejsF, zla, zlc, Nat.mul_add, Nat.mul_one]; omega
theorem chk_bd (p : Pg) : (chkF p).length ≤ 1000000 ∧ ∀ f ∈ chkF p, f.path.length ≤ 1000000 := by
 unfold chkF
 split
 ·rename_i h
  obtain ⟨b1, b2, b3, b4, _⟩ := valid_bd h.1
  have hb : ∀ q ∈ p.procs, q.body.size ≤ 2000 := fun q hq => (b3 q hq).2.1
  have h1 := rejsF_len p.procs 0 hb
  have h2 := bodyF_len (-1) p.main
  refine ⟨by rw [zla]; omega, fun f hf => ?_⟩
  rcases List.mem_append.1 hf with hf | hf
  ·have := rejs_plen p.procs 0 hb f hf; omega
  ·have := bodyF_plen f hf; omega
 ·exact ⟨by simp, fun f hf => by cases hf⟩
/-- the same program with another main block -/
def withM (p : Pg) (c : List Tr) : Pg := ⟨p.vars, p.procs, .mk 57 0 emS c⟩
theorem sizes_sub {a b : List Tr} (h : a.Sublist b) : Tr.sizes a ≤ Tr.sizes b := by
 induction h with
 | slnil => exact Nat.le_refl _
 | cons x _ ih => simp only [Tr.sizes]; omega
 | cons_cons x _ ih => simp only [Tr.sizes]; omega
theorem depths_sub {a b : List Tr} (h : a.Sublist b) : Tr.depths a ≤ Tr.depths b := by
 induction h with
 | slnil => exact Nat.le_refl _
 | cons x _ ih => simp only [Tr.depths]; omega
 | cons_cons x _ ih => simp only [Tr.depths]; omega
theorem visL_all {p q : Pg} (hp : p.procs = q.procs) {pr : Int} (pr' : Int) {t t' : Tr} (h1 : ¬ t.kind = 54 ∧ ¬ t.kind = 55) (h2 : ¬ t'.kind = 54 ∧ ¬ t'.kind = 55) {path path' : List Int} {vs : List Vd} {b : List Tr} {j : Nat} (h : visL p pr t path vs b j = []) : ∀ (a : List Tr) (i : Nat), (∀ x ∈ a, x ∈ b) → visL q pr' t' path' vs a i = []
 | [], _, _ => rfl
 | c :: r, i, hs => by
  have hin : ∀ (t : Tr) (i : Int), (¬ t.kind = 54 ∧ ¬ t.kind = 55) → innerV t i vs = vs := fun t i h => by unfold innerV; rw [if_neg (fun q => h.1 q.1), if_neg (fun q => h.2 q.1)]
  have hall : ∀ (b : List Tr) (j : Nat), visL p pr t path vs b j = [] → ∀ x ∈ b, ∃ pa, visF p pr x pa vs = [] := by
   intro b
   induction b with
   | nil => intro j _ x hx; cases hx
   | cons y b ih =>
    intro j h x hx
    simp only [visL, List.append_eq_nil_iff] at h
    rcases List.mem_cons.1 hx with rfl | hx
    ·have := h.1; rw [hin t _ h1] at this; exact ⟨_, this⟩
    ·exact ih (j + 1) h.2 x hx
  simp only [visL, List.append_eq_nil_iff]
  refine ⟨?_, visL_all hp pr' h1 h2 h r (i + 1) fun x hx => hs x (by simp [hx])⟩
  obtain ⟨pa, hpa⟩ := hall b j h c (hs c (by simp))
  rw [hin t' _ h2]
  exact vis_emp hp pr' c _ _ _ hpa
theorem main_block {p : Pg} (hv : validB p = true) : blockB p.main = true ∧ p.main.depth ≤ 80 ∧ p.main.size ≤ 2000 := by
 simp only [validB, zat] at hv
 have := hv.2
 simp only [bodyB, zat, decide_eq_true_eq] at this
 exact ⟨this.2, this.1.1, this.1.2⟩
theorem withM_ok {p : Pg} (hv : validB p = true) (hc : checkF p = []) {c : List Tr} (hs : c.Sublist p.main.kids) : validB (withM p c) = true ∧ checkF (withM p c) = [] := by
 obtain ⟨hb, hd, hz⟩ := main_block hv
 obtain ⟨h1, h2, h3⟩ := check_parts hc
 obtain ⟨hkind, hpl, hst⟩ : p.main.kind = 57 ∧ plainB p.main.num p.main.name = true ∧ ∀ x ∈ p.main.kids, stmtB x = true := by
  cases hm : p.main with
  | mk k n s l =>
   rw [hm] at hb
   simp only [blockB, zat, beq_iff_eq, stmtsB_all, List.all_eq_true] at hb
   exact ⟨hb.1.1, hb.1.2, hb.2⟩
 constructor
 ·simp only [validB, zat] at hv ⊢
  refine ⟨hv.1, ?_⟩
  have e1 := sizes_sub hs; have e2 := depths_sub hs
  have hz' : p.main.size = 1 + Tr.sizes p.main.kids := size_kids _
  have hd' : p.main.depth = Tr.depths p.main.kids + 1 := by cases p.main; simp only [Tr.depth, Tr.kids]
  simp only [withM, bodyB, zat, decide_eq_true_eq, blockB, stmtsB_all, List.all_eq_true, Tr.size, Tr.depth]
  refine ⟨⟨by omega, by omega⟩, ⟨by simp, ?_⟩, fun x hx => hst x (hs.subset hx)⟩
  simp [plainB, emptyB, emS, ByteArray.toList_eq]
 ·simp only [checkF, List.append_eq_nil_iff]
  refine ⟨h1, procs_emp (p := p) (q := withM p c) rfl p.procs 0 h2, ?_⟩
  rw [visF_eq] at h3 ⊢
  simp only [List.append_eq_nil_iff] at h3
  rw [if_neg (by omega)] at h3
  simp only [List.append_eq_nil_iff]
  refine ⟨?_, ?_⟩
  ·unfold faultE
   simp only [withM, Tr.kind]
   simp [rep]
  ·rw [if_neg (by simp [withM, Tr.kind])]
   exact visL_all (p := p) (q := withM p c) rfl _ (t := p.main) (t' := .mk 57 0 emS c) ⟨by omega, by omega⟩ ⟨by simp [Tr.kind], by simp [Tr.kind]⟩ h3.2 _ 0 (fun x hx => hs.subset hx)
end Go.Proofs.Ytmglacjcefajlaa
