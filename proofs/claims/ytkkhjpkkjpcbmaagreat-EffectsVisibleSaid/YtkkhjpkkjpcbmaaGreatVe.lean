/- The law EffectsVisible: plain facts. -/
import Derived.Test.YtkkhjpkkjpcbmaaGreatG2
namespace Go.Proofs.YtkkhjpkkjpcbmaaGreat
open Go.RowKit

theorem findN_any (l : List Vd) (s : ByteArray) : ∀ n, n ≤ l.length → (findN l s n).2 = (l.take n).any fun v => v.name.toList == s.toList
 | 0, _ => rfl
 | n + 1, h => by
  rw [List.take_succ_eq_append_getElem h, List.any_append]
  simp only [List.any_cons, List.any_nil, Bool.or_false]
  by_cases q : (l[n].name.toList == s.toList) = true
  ·rw [findN_y h q, q, Bool.or_true]
  ·have q' : (l[n].name.toList == s.toList) = false := by simpa using q
   rw [findN_n h q', q', Bool.or_false]; exact findN_any l s n (by omega)
def hasV (vs : List Vd) (s : ByteArray) : Bool := vs.any fun v => v.name.toList == s.toList
theorem hasV_eq (vs : List Vd) (s : ByteArray) : (findN vs s vs.length).2 = hasV vs s := by rw [findN_any vs s _ (Nat.le_refl _), List.take_length]; rfl
def kindsN : List Int := [2, 3, 4, 5, 44, 45, 50, 51, 54, 55]
mutual
/-- where the name may stand -/
def wB (s : ByteArray) : Tr → Bool
 | .mk k _n nm c => (!(nm.toList == s.toList) || kindsN.contains k) && (if k = 50 ∨ k = 51 then c.all (fun x => x.kind == 2 && x.kids.isEmpty) else wL s c)
def wL (s : ByteArray) : List Tr → Bool
 | [] => true
 | t :: r => wB s t && wL s r
end
theorem wL_all (s : ByteArray) : ∀ c : List Tr, wL s c = c.all (wB s)
 | [] => rfl
 | t :: r => by simp only [wL, List.all_cons, wL_all s r]
theorem wB_eq (s : ByteArray) (t : Tr) : wB s t = ((!(t.name.toList == s.toList) || kindsN.contains t.kind) && (if t.kind = 50 ∨ t.kind = 51 then t.kids.all (fun x => x.kind == 2 && x.kids.isEmpty) else t.kids.all (wB s))) := by
 cases t; simp only [wB, wL_all]; rfl
theorem expr_parts {k n : Int} {nm : ByteArray} {c : List Tr} (h : exprB (.mk k n nm c) = true) : (emptyB nm = true ∨ k = 2 ∨ k = 3 ∨ k = 4 ∨ k = 5) ∧ exprsB c = true ∧ k ≤ 23 := by
 have h0 : ∀ m, lenB c m = true → m = 0 → exprsB c = true := by
  intro m q e
  subst e
  have : c = [] := by simpa [lenB] using q
  rw [this]; rfl
 unfold exprB at h
 split at h
 ·simp only [zat] at h; exact ⟨.inl h.1.2, h0 _ h.2 rfl, by omega⟩
 ·split at h
  ·simp only [zat] at h; exact ⟨.inr (by omega), h0 _ h.2 rfl, by omega⟩
  ·split at h
   ·simp only [zat] at h; exact ⟨.inr (by omega), h.2, by omega⟩
   ·split at h
    ·simp only [zat, plainB] at h; exact ⟨.inl h.1.1.2, h.2, by omega⟩
    ·split at h
     ·simp only [zat, plainB] at h; exact ⟨.inl h.1.1.2, h.2, by omega⟩
     ·cases h
theorem stmt_parts {k n : Int} {nm : ByteArray} {c : List Tr} (h : stmtB (.mk k n nm c) = true) : (emptyB nm = true ∨ k = 44 ∨ k = 45 ∨ k = 50 ∨ k = 51 ∨ k = 54 ∨ k = 55) ∧ (∃ xs, catsB xs c = true) ∧ (k = 50 ∨ k = 51 → c.all varB = true) := by
 unfold stmtB at h
 split at h
 ·simp only [zat, plainB] at h; exact ⟨.inl h.1.2, ⟨_, h.2⟩, fun q => by omega⟩
 ·split at h
  ·simp only [zat, plainB] at h; exact ⟨.inl h.1.2, ⟨_, h.2⟩, fun q => by omega⟩
  ·split at h
   ·simp only [zat] at h; exact ⟨.inr (by omega), ⟨_, h.2⟩, fun q => by omega⟩
   ·split at h
    ·simp only [zat, plainB] at h; exact ⟨.inl h.1.2, ⟨_, h.2⟩, fun q => by omega⟩
    ·split at h
     ·simp only [zat] at h; exact ⟨.inr (by omega), ⟨_, h.2⟩, fun _ => by rw [← catsB_var]; exact h.2⟩
     ·split at h
      ·simp only [zat, plainB] at h; exact ⟨.inl h.1.2, ⟨_, h.2⟩, fun q => by omega⟩
      ·split at h
       ·simp only [zat] at h; exact ⟨.inr (by omega), ⟨_, h.2⟩, fun q => by omega⟩
       ·split at h
        ·simp only [zat] at h; exact ⟨.inr (by omega), ⟨_, h.2⟩, fun q => by omega⟩
        ·cases h
theorem empty_ne {s nm : ByteArray} (hs : s.toList ≠ []) (h : emptyB nm = true) : (!(nm.toList == s.toList)) = true := by
 simp only [emptyB] at h
 simp only [znt, beq_eq_false_iff_ne, ne_eq]
 intro q
 apply hs
 rw [← q]
 simpa using h
mutual
theorem expr_w {s : ByteArray} (hs : s.toList ≠ []) : ∀ t, exprB t = true → wB s t = true
 | .mk k n nm c, h => by
  obtain ⟨h1, h2, h3⟩ := expr_parts h
  have h4 := exprs_w hs c h2
  simp only [wB]
  rw [if_neg (by omega), h4, Bool.and_true]
  rcases h1 with h1 | h1
  ·rw [empty_ne hs h1]; rfl
  ·rcases h1 with rfl | rfl | rfl | rfl <;> simp [kindsN]
theorem exprs_w {s : ByteArray} (hs : s.toList ≠ []) : ∀ c, exprsB c = true → wL s c = true
 | [], _ => rfl
 | t :: r, h => by
  simp only [exprsB, zat] at h
  simp only [wL, expr_w hs t h.1, exprs_w hs r h.2, Bool.and_true]
end
theorem var_leaf {t : Tr} (h : varB t = true) : (t.kind == 2 && t.kids.isEmpty) = true := by
 obtain ⟨k, n, nm, c⟩ := t
 simp only [varB, zat, Tr.kind, beq_iff_eq] at h
 obtain ⟨rfl, h⟩ := h
 have : c = [] := by
  unfold exprB at h
  simp [lenB] at h
  exact h.2
 subst this; rfl
mutual
theorem stmt_w {s : ByteArray} (hs : s.toList ≠ []) : ∀ t, stmtB t = true → wB s t = true
 | .mk k n nm c, h => by
  obtain ⟨h1, ⟨xs, h2⟩, h3⟩ := stmt_parts h
  have h4 := cats_w hs xs c h2
  have h5 : (!(nm.toList == s.toList) || kindsN.contains k) = true := by
   rcases h1 with h1 | h1
   ·rw [empty_ne hs h1]; rfl
   ·rcases h1 with rfl | rfl | rfl | rfl | rfl | rfl <;> simp [kindsN]
  simp only [wB, h5, Bool.true_and]
  split
  ·rename_i q
   rw [List.all_eq_true]
   intro x hx
   exact var_leaf (List.all_eq_true.1 (h3 q) x hx)
  ·exact h4
theorem block_w {s : ByteArray} (hs : s.toList ≠ []) : ∀ t, blockB t = true → wB s t = true
 | .mk k n nm c, h => by
  simp only [blockB, zat, beq_iff_eq, plainB] at h
  obtain ⟨⟨rfl, h1⟩, h2⟩ := h
  have h4 := stmts_w hs c h2
  simp only [wB]
  rw [if_neg (by omega), h4, empty_ne hs h1.2]; rfl
theorem cats_w {s : ByteArray} (hs : s.toList ≠ []) : ∀ xs c, catsB xs c = true → wL s c = true
 | [], [], _ => rfl
 | [], _ :: _, h => by simp [catsB] at h
 | _ :: _, [], _ => rfl
 | x :: xs, t :: ts, h => by
  simp only [catsB, zat] at h
  obtain ⟨h1, h2⟩ := h
  have h3 := cats_w hs xs ts h2
  have h4 : wB s t = true := by
   split at h1
   ·exact expr_w hs t h1
   ·split at h1
    ·simp only [placeB, zat] at h1; exact expr_w hs t h1.2
    ·split at h1
     ·exact block_w hs t h1
     ·simp only [varB, zat] at h1; exact expr_w hs t h1.2
  simp only [wL, h4, h3, Bool.and_true]
theorem stmts_w {s : ByteArray} (hs : s.toList ≠ []) : ∀ c, stmtsB c = true → wL s c = true
 | [], _ => rfl
 | t :: r, h => by
  simp only [stmtsB, zat] at h
  simp only [wL, stmt_w hs t h.1, stmts_w hs r h.2, Bool.and_true]
end

/-- a declaration has this name -/
def hasN (vs : List Vd) (x : Nm) : Prop := ∃ v ∈ vs, v.name.data.toList = x
theorem hasN_of {vs : List Vd} {s : ByteArray} (h : hasV vs s = true) : hasN vs s.data.toList := by
 obtain ⟨v, hv, e⟩ := List.any_eq_true.1 h
 exact ⟨v, hv, beq_iff.1 e⟩
theorem has_of {vs : List Vd} {s : ByteArray} (h : hasN vs s.data.toList) : hasV vs s = true := by
 obtain ⟨v, hv, e⟩ := h
 exact List.any_eq_true.2 ⟨v, hv, beq_iff.2 e⟩
theorem rep_nil {pr : Int} {path : List Int} {e : Int} {s : ByteArray} (h : rep pr path e s = []) : e = 0 := by
 unfold rep at h
 split at h
 ·assumption
 ·cases h
theorem use0 {vs : List Vd} {s : ByteArray} {k : Int} (h : useE vs s k = 0) : hasV vs s = true := by
 unfold useE at h
 rw [hasV_eq] at h
 split at h
 ·assumption
 ·cases h
theorem fault0 {p : Pg} {t : Tr} {vs : List Vd} (h : faultE p t vs = 0) (hu : usesN t.kind = true) : hasV vs t.name = true := by
 unfold faultE at h
 split at h
 ·exact use0 h
 ·split at h
  ·exact use0 h
  ·split at h
   ·exact use0 h
   ·rename_i h1 h2 h3
    exfalso
    simp only [usesN, Bool.or_eq_true, beq_iff_eq] at hu
    omega
theorem arg0 {p : Pg} {t c : Tr} {i : Nat} {vs : List Vd} (hc : t.kids[i]? = some c) (h : argE p t i vs = 0) : hasV vs c.name = true := by
 unfold argE at h
 rw [hc] at h
 simp only at h
 rw [hasV_eq] at h
 split at h
 ·assumption
 ·cases h
theorem leaf_reads {c : Tr} {x : Nm} (h1 : c.kind = 2) (h2 : c.kids = []) (h : x ∈ readsT c) : x = c.name.data.toList := by
 obtain ⟨k, n, s, l⟩ := c
 simp only [Tr.kind, Tr.kids] at h1 h2
 subst h1 h2
 rw [readsT_mk] at h
 show x = s.data.toList
 simpa [usesN, partsL] using h
theorem hides_inner (t : Tr) (i : Nat) (vs : List Vd) : innerV t (i : Int) vs = vs ∨ hidesN t.kind i = true ∧ ∃ a b, innerV t (i : Int) vs = vs ++ [⟨t.name, a, b⟩] := by
 unfold innerV hidesN
 split
 ·rename_i q
  refine .inr ⟨?_, _, _, rfl⟩
  have : i = 1 := by omega
  simp [q.1, this]
 ·split
  ·rename_i q
   refine .inr ⟨?_, _, _, rfl⟩
   have : i = 0 := by omega
   simp [q.1, this]
  ·exact .inl rfl
theorem args_in {p : Pg} {pr : Int} {t : Tr} {path : List Int} {vs : List Vd} (ht : t.kind = 50 ∨ t.kind = 51) : ∀ (c : List Tr) (i : Nat), (∀ j, c[j]? = t.kids[i + j]?) → (∀ x ∈ c, x.kind = 2 ∧ x.kids = []) → argsF p pr t path vs c i = [] → ∀ x ∈ partsL (unionF readsT t.kind t.name.data.toList) i c, hasN vs x
 | [], _, _, _, _, x, hx => by simp [partsL] at hx
 | c :: r, i, hc, hk, h, x, hx => by
  rw [argsF, List.append_eq_nil_iff] at h
  rw [partsL, List.mem_append] at hx
  have h0 := hc 0
  simp only [zg0, Nat.add_zero] at h0
  rcases hx with hx | hx
  ·have hn : hidesN t.kind i = false := by rcases ht with e | e <;> rw [e] <;> simp [hidesN]
   unfold unionF at hx
   rw [hn] at hx
   obtain ⟨k1, k2⟩ := hk c List.mem_cons_self
   have hxe := leaf_reads (x := x) k1 k2 (by simpa using hx)
   rw [hxe]
   exact hasN_of (arg0 h0.symm (rep_nil h.1))
  ·exact args_in ht r (i + 1) (fun j => by have := hc (j + 1); simp only [zg1] at this; rw [this]; congr 1; omega) (fun y hy => hk y (List.mem_cons_of_mem _ hy)) h.2 x hx
mutual
theorem reads_in {p : Pg} {pr : Int} {s : ByteArray} : ∀ (t : Tr) (path : List Int) (vs : List Vd), visF p pr t path vs = [] → wB s t = true → ∀ x ∈ readsT t, hasN vs x
 | .mk k n nm c, path, vs, hv, hw, x, hx => by
  rw [visF_eq, List.append_eq_nil_iff] at hv
  obtain ⟨hv1, hv2⟩ := hv
  have he := rep_nil hv1
  rw [wB_eq, zat] at hw
  obtain ⟨_, hw2⟩ := hw
  rw [readsT_mk, List.mem_append] at hx
  rcases hx with hx | hx
  ·split at hx
   ·rename_i hu
    have := fault0 he hu
    rw [show x = nm.data.toList from by simpa using hx]
    exact hasN_of this
   ·simp at hx
  ·by_cases q : (Tr.mk k n nm c).kind = 50 ∨ (Tr.mk k n nm c).kind = 51
   ·rw [if_pos q] at hv2 hw2
    exact args_in q c 0 (fun j => by simp [Tr.kids]) (fun y hy => by have := List.all_eq_true.1 hw2 y hy; simpa using this) hv2 x hx
   ·rw [if_neg q] at hv2 hw2
    exact kids_in (.mk k n nm c) path vs c 0 hv2 (fun y hy => List.all_eq_true.1 hw2 y hy) x hx
theorem kids_in {p : Pg} {pr : Int} {s : ByteArray} (t : Tr) (path : List Int) (vs : List Vd) : ∀ (c : List Tr) (i : Nat), visL p pr t path vs c i = [] → (∀ y ∈ c, wB s y = true) → ∀ x ∈ partsL (unionF readsT t.kind t.name.data.toList) i c, hasN vs x
 | [], _, _, _, x, hx => by simp [partsL] at hx
 | c :: r, i, h, hw, x, hx => by
  rw [visL, List.append_eq_nil_iff] at h
  rw [partsL, List.mem_append] at hx
  rcases hx with hx | hx
  ·have hr : x ∈ readsT c ∧ (hidesN t.kind i = true → x ≠ t.name.data.toList) := by
    unfold unionF at hx
    split at hx
    ·rw [List.mem_filter] at hx
     exact ⟨hx.1, fun _ => by simpa using hx.2⟩
    ·rename_i q
     exact ⟨hx, fun e => absurd e q⟩
   have h1 := reads_in c _ _ h.1 (hw c List.mem_cons_self) x hr.1
   rcases hides_inner t i vs with e | ⟨e1, a, b, e2⟩
   ·rwa [e] at h1
   ·rw [e2] at h1
    obtain ⟨v, hv, e⟩ := h1
    rcases List.mem_append.1 hv with hv | hv
    ·exact ⟨v, hv, e⟩
    ·rw [List.mem_singleton] at hv
     subst hv
     exact absurd e.symm (hr.2 e1)
  ·exact kids_in t path vs r (i + 1) h.2 (fun y hy => hw y (List.mem_cons_of_mem _ hy)) x hx
end
theorem main_w {p : Pg} (h : validB p = true) : wB ⟨#[97]⟩ p.main = true := by
 simp only [validB, bodyB, zat] at h
 exact block_w (by decide +kernel) p.main h.2.2
theorem proc_w {p : Pg} (h : validB p = true) {q : Pr} (hq : q ∈ p.procs) : wB ⟨#[97]⟩ q.body = true := by
 simp only [validB, zat, List.all_eq_true] at h
 have := h.1.2 q hq
 simp only [procB, bodyB, zat] at this
 exact block_w (by decide +kernel) q.body this.2.2
theorem check_main {p : Pg} (h : checkF p = []) : visF p p.procs.length p.main [] p.vars = [] := by
 unfold checkF at h
 rw [List.append_eq_nil_iff, List.append_eq_nil_iff] at h
 exact h.2.2
theorem procsF_nil {p : Pg} : ∀ (c : List Pr) (i : Nat), procsF p c i = [] → ∀ (j : Nat) (hj : j < c.length), visF p ((i + j : Nat) : Int) c[j].body [] c[j].params = []
 | [], _, _, j, hj => absurd hj (Nat.not_lt_zero _)
 | q :: r, i, h, j, hj => by
  rw [procsF, List.append_eq_nil_iff] at h
  cases j with
  | zero =>
   have := h.1
   unfold procF at this
   rw [List.append_eq_nil_iff, List.append_eq_nil_iff] at this
   exact this.2.2
  | succ j =>
   have := procsF_nil r (i + 1) h.2 j (by simpa using hj)
   rw [show i + 1 + j = i + (j + 1) from by omega] at this
   exact this
theorem check_proc {p : Pg} (h : checkF p = []) {k : Nat} (hk : k < p.procs.length) : visF p (k : Int) p.procs[k].body [] p.procs[k].params = [] := by
 unfold checkF at h
 rw [List.append_eq_nil_iff, List.append_eq_nil_iff] at h
 have := procsF_nil p.procs 0 h.2.1 k hk
 rwa [Nat.zero_add] at this
theorem reads_main {p : Pg} (hv : validB p = true) (h : checkF p = []) {x : ByteArray} (hx : x ∈ rrT p.main) : hasV p.vars x = true :=
 has_of (reads_in p.main _ _ (check_main h) (main_w hv) _ (((rrT_spec p.main).2 _).1 (nms_mem.2 ⟨x, hx, rfl⟩)))
theorem reads_proc {p : Pg} (hv : validB p = true) (h : checkF p = []) {k : Nat} (hk : k < p.procs.length) {x : ByteArray} (hx : x ∈ rrT p.procs[k].body) : hasV p.procs[k].params x = true :=
 has_of (reads_in p.procs[k].body _ _ (check_proc h hk) (proc_w hv (List.getElem_mem hk)) _ (((rrT_spec p.procs[k].body).2 _).1 (nms_mem.2 ⟨x, hx, rfl⟩)))
theorem idx_name {l : List Pr} {s : ByteArray} : ∀ (n i m : Nat), idxN l s i n = (m : Int) → ∃ h : m < l.length, (l[m].name.toList == s.toList) = true
 | 0, i, m, h => by simp only [idxN] at h; omega
 | n + 1, i, m, h => by
  simp only [idxN] at h
  split at h
  ·rename_i q hq
   split at h
   ·rename_i he
    have : i = m := by omega
    subst this
    obtain ⟨h1, h2⟩ := List.getElem?_eq_some_iff.1 hq
    exact ⟨h1, by rw [h2]; exact he⟩
   ·exact idx_name n (i + 1) m h
  ·omega
theorem idx_congr {l : List Pr} {s s' : ByteArray} (h : s.toList = s'.toList) : ∀ (n i : Nat), idxN l s i n = idxN l s' i n
 | 0, _ => rfl
 | n + 1, i => by simp only [idxN, h, idx_congr h n (i + 1)]
theorem visI_src {p : Pg} : ∀ (l : List ByteArray) (A : List Int) (j : Int), j ∈ visI p A l → j ∈ A ∨ ∃ s, j = procI p s ∧ 0 ≤ j
 | [], A, j, h => .inl h
 | s :: r, A, j, h => by
  have h' : j ∈ visI p (stepI p A s) r := h
  rcases visI_src r _ j h' with q | q
  ·unfold stepI at q
   split at q
   ·rename_i h0
    rcases addI_mem.1 q with q | q
    ·exact .inl q
    ·exact .inr ⟨s, q, by rw [q]; exact h0⟩
   ·exact .inl q
  ·exact .inr q
theorem clF_ok {p : Pg} {q j : Int} (h : j ∈ clF p q) : ∃ m, ∃ hm : m < p.procs.length, j = (m : Int) ∧ procI p p.procs[m].name = (m : Int) := by
 unfold clF at h
 split at h
 ·rcases visI_src _ _ _ (mem_sortI.1 h) with q | ⟨s, q1, q2⟩
  ·simp at q
  ·obtain ⟨m, rfl⟩ := Int.eq_ofNat_of_zero_le q2
   obtain ⟨hm, he⟩ := idx_name _ _ _ (show idxN p.procs s 0 p.procs.length = (m : Int) from q1.symm)
   refine ⟨m, hm, rfl, ?_⟩
   unfold procI
   rw [idx_congr (s' := s) (by simpa using he)]
   exact q1.symm
 ·simp at h

end Go.Proofs.YtkkhjpkkjpcbmaaGreat
