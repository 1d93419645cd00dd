/- An unused procedure or variable at the end: the plain facts. -/
import Derived.Test.YtjikokmhknnnoaaRn
import Derived.Test.YtjikokmhknnnoaaQ64
namespace Go.Proofs.Ytjikokmhknnnoaa
open Go.RowKit

mutual
/-- the procedure is called somewhere -/
def callB (s : ByteArray) : Tr → Bool
  | .mk k _n nm c => ((k == 50 || k == 51) && nm.toList == s.toList) || callL s c
def callL (s : ByteArray) : List Tr → Bool
  | [] => false
  | t :: r => callB s t || callL s r
end
theorem callL_any (s : ByteArray) : ∀ c : List Tr, callL s c = c.any (callB s)
  | [] => rfl
  | t :: r => by simp only [callL, List.any_cons, callL_any s r]
theorem callB_eq (s : ByteArray) (t : Tr) : callB s t = (((t.kind == 50 || t.kind == 51) && t.name.toList == s.toList) || t.kids.any (callB s)) := by
  cases t; simp only [callB, callL_any, Tr.kind, Tr.name, Tr.kids]

theorem findN_pre (vs l : List Vd) (s : ByteArray) : ∀ n, n ≤ vs.length → findN (vs ++ l) s n = findN vs s n
  | 0, _ => rfl
  | n + 1, h => by
    have h0 : n < vs.length := by omega
    simp only [findN, List.getElem?_append_left h0, findN_pre vs l s n (by omega)]
theorem findN_app (vs : List Vd) (x : Vd) (s : ByteArray) : findN (vs ++ [x]) s (vs ++ [x]).length = if x.name.toList == s.toList then (x, true) else findN vs s vs.length := by
  rw [show (vs ++ [x]).length = vs.length + 1 from by simp]
  simp only [findN, List.getElem?_append_right (Nat.le_refl _), Nat.sub_self, List.getElem?_cons_zero]
  rw [findN_pre vs [x] s _ (Nat.le_refl _)]
/-- the same is found, whatever the name but b -/
def SameF (b : ByteArray) (vs vs' : List Vd) : Prop := ∀ s : ByteArray, (s.toList == b.toList) = false → findN vs' s vs'.length = findN vs s vs.length
theorem SameF.snoc {b : ByteArray} {vs vs' : List Vd} (h : SameF b vs vs') (x : Vd) : SameF b (vs ++ [x]) (vs' ++ [x]) := fun s hs => by rw [findN_app, findN_app, h s hs]
theorem SameF.inner {b : ByteArray} {vs vs' : List Vd} (h : SameF b vs vs') (t : Tr) (i : Int) : SameF b (innerV t i vs) (innerV t i vs') := by
  unfold innerV
  split
  · exact h.snoc _
  · split
    · exact h.snoc _
    · exact h
theorem SameF.add {b : ByteArray} (vs : List Vd) (v : Vd) (hv : v.name = b) : SameF b vs (vs ++ [v]) := fun s hs => by
  rw [findN_app, if_neg]
  intro e
  rw [hv] at e
  have : (s.toList == b.toList) = true := by rw [beq_iff_eq] at e ⊢; exact e.symm
  rw [this] at hs; cases hs
section
variable {b : ByteArray} {vs vs' : List Vd}
theorem SameF.use (h : SameF b vs vs') {s : ByteArray} (hs : (s.toList == b.toList) = false) (k : Int) : useE vs' s k = useE vs s k := by unfold useE; rw [h s hs]
theorem SameF.fresh (h : SameF b vs vs') {s : ByteArray} (hs : (s.toList == b.toList) = false) : freshE vs' s = freshE vs s := by unfold freshE; rw [h s hs]
theorem SameF.fault (h : SameF b vs vs') (p : Pg) (t : Tr) (hm : (t.name.toList == b.toList && !(t.kind == 50) && !(t.kind == 51)) = false) : faultE p t vs' = faultE p t vs := by
  by_cases hc : t.kind = 50 ∨ t.kind = 51
  · have k1 : ¬ t.kind = 2 := by omega
    have k2 : ¬ t.kind = 3 := by omega
    have k3 : ¬ (t.kind = 4 ∨ t.kind = 5 ∨ t.kind = 44 ∨ t.kind = 45) := by omega
    have k4 : ¬ (t.kind = 54 ∨ t.kind = 55) := by omega
    simp only [faultE, if_neg k1, if_neg k2, if_neg k3, if_neg k4]
  · have hs : (t.name.toList == b.toList) = false := by
      have k1 : ¬ t.kind = 50 := fun e => hc (.inl e)
      have k2 : ¬ t.kind = 51 := fun e => hc (.inr e)
      simpa [k1, k2] using hm
    simp only [faultE, h.use hs, h.fresh hs]
theorem SameF.arg (h : SameF b vs vs') (p : Pg) (t : Tr) (i : Nat) {c : Tr} (hi : t.kids[i]? = some c) (hc : c.kind = 2) (hm : mentB b c = false) : argE p t i vs' = argE p t i vs := by
  have hs : (c.name.toList == b.toList) = false := by
    rw [mentB_eq, Bool.or_eq_false_iff] at hm
    simpa [hc] using hm.1
  unfold argE
  rw [hi]
  simp only [h _ hs]
end

/-- what is said depends on the procedures alone -/
theorem procI_pp {p p' : Pg} (h : p'.procs = p.procs) (s : ByteArray) : procI p' s = procI p s := by unfold procI; rw [h]
theorem prmN_pp {p p' : Pg} (h : p'.procs = p.procs) (s : ByteArray) : prmN p' s = prmN p s := by unfold prmN; rw [procI_pp h, h]
theorem fault_pp {p p' : Pg} (h : p'.procs = p.procs) (t : Tr) (vs : List Vd) : faultE p' t vs = faultE p t vs := by unfold faultE; rw [procI_pp h, prmN_pp h]
theorem arg_pp {p p' : Pg} (h : p'.procs = p.procs) (t : Tr) (i : Nat) (vs : List Vd) : argE p' t i vs = argE p t i vs := by unfold argE; rw [procI_pp h, prmN_pp h]
theorem args_pp {p p' : Pg} (h : p'.procs = p.procs) (pr : Int) (t : Tr) (path : List Int) (vs : List Vd) : ∀ (c : List Tr) (i : Nat), argsF p' pr t path vs c i = argsF p pr t path vs c i
  | [], _ => rfl
  | c :: r, i => by rw [argsF, argsF, args_pp h pr t path vs r (i + 1), arg_pp h]
mutual
theorem vis_pp {p p' : Pg} (h : p'.procs = p.procs) (pr : Int) : ∀ (t : Tr) (path : List Int) (vs : List Vd), visF p' pr t path vs = visF p pr t path vs
  | .mk k n s c, path, vs => by rw [visF, visF, args_pp h, visL_pp h pr (.mk k n s c) path vs c 0, fault_pp h]
theorem visL_pp {p p' : Pg} (h : p'.procs = p.procs) (pr : Int) (t : Tr) (path : List Int) (vs : List Vd) : ∀ (c : List Tr) (i : Nat), visL p' pr t path vs c i = visL p pr t path vs c i
  | [], _ => rfl
  | c :: r, i => by rw [visL, visL, vis_pp h pr c, visL_pp h pr t path vs r (i + 1)]
end
theorem procs_pp {p p' : Pg} (h : p'.procs = p.procs) : ∀ (c : List Pr) (i : Nat), procsF p' c i = procsF p c i
  | [], _ => rfl
  | q :: r, i => by rw [procsF, procsF, procs_pp h r (i + 1), procF, procF, vis_pp h, procI_pp h]

/-- the variables that are visible matter for their names alone -/
theorem args_v {b : ByteArray} {vs vs' : List Vd} (h : SameF b vs vs') (p : Pg) (pr : Int) (t : Tr) (path : List Int) : ∀ (c : List Tr) (i : Nat), (∀ j, c[j]? = t.kids[i + j]?) → (∀ x ∈ c, x.kind = 2 ∧ mentB b x = false) → argsF p pr t path vs' c i = argsF p pr t path vs c i
  | [], _, _, _ => rfl
  | c :: r, i, hk, hx => by
    have h0 := hk 0
    simp only [List.getElem?_cons_zero, Nat.add_zero] at h0
    rw [argsF, argsF, args_v h p pr t path r (i + 1) (fun j => by have := hk (j + 1); simpa [Nat.add_assoc, Nat.add_comm 1 j] using this) (fun x hx' => hx x (by simp [hx'])), h.arg p t i h0.symm (hx c (by simp)).1 (hx c (by simp)).2]
mutual
theorem vis_v {b s : ByteArray} (p : Pg) (pr : Int) : ∀ (t : Tr) (path : List Int) (vs vs' : List Vd), SameF b vs vs' → mentB b t = false → wB s t = true → visF p pr t path vs' = visF p pr t path vs
  | .mk k n nm c, path, vs, vs', h, hm, hw => by
    have hm' := hm
    simp only [mentB, Bool.or_eq_false_iff] at hm'
    simp only [wB, Bool.and_eq_true] at hw
    rw [visF, visF, h.fault p (.mk k n nm c) hm'.1]
    congr 1
    by_cases hc : k = 50 ∨ k = 51
    · rw [if_pos hc, if_pos hc]
      rw [if_pos hc] at hw
      refine args_v h p pr (.mk k n nm c) path c 0 (fun j => by simp [Tr.kids]) (fun x hx => ?_)
      have h1 := List.all_eq_true.1 hw.2 x hx
      simp only [Bool.and_eq_true, beq_iff_eq] at h1
      have h2 := hm'.2
      rw [mentL_any, List.any_eq_false] at h2
      exact ⟨h1.1, by simpa using h2 x hx⟩
    · rw [if_neg hc, if_neg hc]
      rw [if_neg hc] at hw
      exact visL_v p pr (.mk k n nm c) path vs vs' h c 0 hm'.2 hw.2
theorem visL_v {b s : ByteArray} (p : Pg) (pr : Int) (t : Tr) (path : List Int) (vs vs' : List Vd) (h : SameF b vs vs') : ∀ (c : List Tr) (i : Nat), mentL b c = false → wL s c = true → visL p pr t path vs' c i = visL p pr t path vs c i
  | [], _, _, _ => rfl
  | c :: r, i, hm, hw => by
    simp only [mentL, Bool.or_eq_false_iff] at hm
    simp only [wL, Bool.and_eq_true] at hw
    rw [visL, visL, vis_v p pr c _ _ _ (h.inner t i) hm.1 hw.1, visL_v p pr t path vs vs' h r (i + 1) hm.2 hw.2]
end
/-- a variable more -/
def addV (b : ByteArray) (p : Pg) : Pg := ⟨p.vars ++ [⟨b, 3, 0⟩], p.procs, p.main⟩
theorem vrF_app (pr : Int) (one : Bool) (l x : List Vd) : ∀ (c : List Vd) (i : Nat), i + c.length ≤ l.length → vrF pr one (l ++ x) c i = vrF pr one l c i
  | [], _, _ => rfl
  | v :: r, i, h => by
    simp only [List.length_cons] at h
    rw [vrF, vrF, vrF_app pr one l x r (i + 1) (by omega), List.take_append_of_le_length (by omega)]
theorem vrF_snoc (pr : Int) (one : Bool) (l : List Vd) : ∀ (c d : List Vd) (i : Nat), vrF pr one l (c ++ d) i = vrF pr one l c i ++ vrF pr one l d (i + c.length)
  | [], d, i => by simp [vrF]
  | v :: r, d, i => by
    rw [List.cons_append, vrF, vrF, vrF_snoc pr one l r d (i + 1), List.append_assoc, List.length_cons, show i + 1 + r.length = i + (r.length + 1) from by omega]
theorem check_addV {b s : ByteArray} {p : Pg} (hb : hasV p.vars b = false) (hm : mentB b p.main = false) (hw : wB s p.main = true) : checkF (addV b p) = checkF p := by
  unfold checkF
  have e1 : vrF (-1) true (addV b p).vars (addV b p).vars 0 = vrF (-1) true p.vars p.vars 0 := by
    show vrF (-1) true (p.vars ++ [⟨b, 3, 0⟩]) (p.vars ++ [⟨b, 3, 0⟩]) 0 = _
    rw [vrF_snoc, vrF_app _ _ _ _ _ _ (by simp)]
    have : vrF (-1) true (p.vars ++ [⟨b, 3, 0⟩]) [⟨b, 3, 0⟩] (0 + p.vars.length) = [] := by
      rw [vrF, vrF, List.append_nil, Nat.zero_add, List.take_append_of_le_length (Nat.le_refl _), List.take_length]
      unfold freshE rep
      rw [hasV_eq, hb]; rfl
    rw [this, List.append_nil]
  rw [e1, procs_pp (p := p) (p' := addV b p) rfl, vis_pp (p := p) (p' := addV b p) rfl]
  show _ ++ (procsF p p.procs 0 ++ visF p p.procs.length p.main [] (p.vars ++ [⟨b, 3, 0⟩])) = _
  rw [vis_v (s := s) p p.procs.length p.main [] p.vars (p.vars ++ [(⟨b, 3, 0⟩ : Vd)]) (SameF.add p.vars ⟨b, 3, 0⟩ rfl) hm hw]

/-- a procedure more -/
def addP (b : ByteArray) (p : Pg) : Pg := ⟨p.vars, p.procs ++ [⟨b, [], .mk 57 0 ⟨#[]⟩ []⟩], p.main⟩
theorem idxN_step (l : List Pr) (s : ByteArray) (i k : Nat) (h : i < l.length) : idxN l s i (k + 1) = if l[i].name.toList == s.toList then (i : Int) else idxN l s (i + 1) k := by
  simp only [idxN, List.getElem?_eq_getElem h]
theorem idxN_app {l : List Pr} {u : Pr} {s : ByteArray} : ∀ (n i : Nat), i + n = l.length → idxN (l ++ [u]) s i (n + 1) = if idxN l s i n < 0 then (if u.name.toList == s.toList then (l.length : Int) else -1) else idxN l s i n
  | 0, i, h => by
    have hi : i = l.length := by omega
    subst hi
    rw [idxN_step _ _ _ _ (by simp)]
    simp only [List.getElem_append_right (Nat.le_refl _), Nat.sub_self, List.getElem_cons_zero]
    rw [show idxN l s l.length 0 = -1 from rfl, if_pos (show (-1 : Int) < 0 by decide)]
    rfl
  | n + 1, i, h => by
    have hi : i < l.length := by omega
    have ih := idxN_app (l := l) (u := u) (s := s) n (i + 1) (by omega)
    rw [idxN_step _ _ _ _ (by simp; omega), idxN_step l s i n hi, List.getElem_append_left hi]
    by_cases hq : (l[i].name.toList == s.toList) = true
    · rw [if_pos hq, if_pos hq, if_neg (by omega)]
    · rw [if_neg hq, if_neg hq]
      exact ih
theorem procI_add (b : ByteArray) (p : Pg) (s : ByteArray) : procI (addP b p) s = if procI p s < 0 then (if b.toList == s.toList then (p.procs.length : Int) else -1) else procI p s := by
  unfold procI
  show idxN (p.procs ++ ([⟨b, [], .mk 57 0 ⟨#[]⟩ []⟩] : List Pr)) s 0 (p.procs ++ ([⟨b, [], .mk 57 0 ⟨#[]⟩ []⟩] : List Pr)).length = _
  rw [show (p.procs ++ [(⟨b, [], .mk 57 0 ⟨#[]⟩ []⟩ : Pr)]).length = p.procs.length + 1 from by simp]
  exact idxN_app p.procs.length 0 (by omega)
theorem procI_neg (p : Pg) (s : ByteArray) (h : procI p s < 0) : procI p s = -1 := by
  rcases idxN_in (l := p.procs) (s := s) p.procs.length 0 (by omega) with q | ⟨j, _, q⟩
  · exact q
  · exfalso
    have : procI p s = (j : Int) := q
    omega
theorem procI_ne {b : ByteArray} (p : Pg) {s : ByteArray} (hs : (s.toList == b.toList) = false) : procI (addP b p) s = procI p s := by
  rw [procI_add]
  split
  · rename_i h
    rw [if_neg, procI_neg p s h]
    intro e
    have : (s.toList == b.toList) = true := by rw [beq_iff_eq] at e ⊢; exact e.symm
    rw [this] at hs; cases hs
  · rfl
theorem prmN_add {b : ByteArray} (p : Pg) {s : ByteArray} (hs : (s.toList == b.toList) = false) (h0 : ¬ procI p s < 0) : prmN (addP b p) s = prmN p s := by
  unfold prmN
  rw [procI_ne p hs]
  rcases idxN_in (l := p.procs) (s := s) p.procs.length 0 (by omega) with q | ⟨j, hj, q⟩
  · exact absurd (show procI p s < 0 by unfold procI; omega) h0
  · have : procI p s = (j : Int) := q
    rw [this, Int.toNat_natCast]
    show (match (p.procs ++ [⟨b, [], .mk 57 0 ⟨#[]⟩ []⟩])[j]? with | some q => q.params | none => []) = _
    rw [List.getElem?_append_left hj]
    cases p.procs[j]? <;> rfl
theorem fault_add {b : ByteArray} (p : Pg) (t : Tr) (vs : List Vd) (hc : ((t.kind == 50 || t.kind == 51) && t.name.toList == b.toList) = false) : faultE (addP b p) t vs = faultE p t vs := by
  by_cases h5 : t.kind = 50 ∨ t.kind = 51
  · have hs : (t.name.toList == b.toList) = false := by
      have : (t.kind == 50 || t.kind == 51) = true := by simpa using h5
      rw [this, Bool.true_and] at hc; exact hc
    unfold faultE
    rw [procI_ne p hs]
    by_cases h0 : procI p t.name < 0
    · simp only [if_pos h0]
    · rw [prmN_add p hs h0]
  · simp only [faultE, if_neg h5]
theorem arg_add {b : ByteArray} (p : Pg) (t : Tr) (i : Nat) (vs : List Vd) (hs : (t.name.toList == b.toList) = false) : argE (addP b p) t i vs = argE p t i vs := by
  unfold argE
  rw [procI_ne p hs]
  by_cases h0 : procI p t.name < 0
  · simp only [if_pos h0]
  · rw [prmN_add p hs h0]
theorem args_add {b : ByteArray} (p : Pg) (pr : Int) (t : Tr) (path : List Int) (vs : List Vd) (hs : (t.name.toList == b.toList) = false) : ∀ (c : List Tr) (i : Nat), argsF (addP b p) pr t path vs c i = argsF p pr t path vs c i
  | [], _ => rfl
  | c :: r, i => by rw [argsF, argsF, args_add p pr t path vs hs r (i + 1), arg_add p t i vs hs]
mutual
theorem vis_add {b : ByteArray} (p : Pg) (pr : Int) : ∀ (t : Tr) (path : List Int) (vs : List Vd), callB b t = false → visF (addP b p) pr t path vs = visF p pr t path vs
  | .mk k n s c, path, vs, hc => by
    simp only [callB, Bool.or_eq_false_iff] at hc
    rw [visF, visF, fault_add p (.mk k n s c) vs hc.1]
    by_cases h5 : k = 50 ∨ k = 51
    · have hs : (s.toList == b.toList) = false := by
        have h1 := hc.1
        have : (k == 50 || k == 51) = true := by simpa using h5
        rw [this, Bool.true_and] at h1; exact h1
      rw [if_pos h5, if_pos h5, args_add p pr (.mk k n s c) path vs hs]
    · rw [if_neg h5, if_neg h5, visL_add p pr (.mk k n s c) path vs c 0 hc.2]
theorem visL_add {b : ByteArray} (p : Pg) (pr : Int) (t : Tr) (path : List Int) (vs : List Vd) : ∀ (c : List Tr) (i : Nat), callL b c = false → visL (addP b p) pr t path vs c i = visL p pr t path vs c i
  | [], _, _ => rfl
  | c :: r, i, hc => by
    simp only [callL, Bool.or_eq_false_iff] at hc
    rw [visL, visL, vis_add p pr c _ _ hc.1, visL_add p pr t path vs r (i + 1) hc.2]
end
theorem rep_pr (pr pr' : Int) (path : List Int) (e : Int) (s : ByteArray) : rep pr' path e s = (rep pr path e s).map fun f => ⟨pr', f.path, f.err, f.name⟩ := by unfold rep; split <;> rfl
theorem args_pr (p : Pg) (pr pr' : Int) (t : Tr) (path : List Int) (vs : List Vd) : ∀ (c : List Tr) (i : Nat), argsF p pr' t path vs c i = (argsF p pr t path vs c i).map fun f => ⟨pr', f.path, f.err, f.name⟩
  | [], _ => rfl
  | c :: r, i => by rw [argsF, argsF, List.map_append, args_pr p pr pr' t path vs r (i + 1), rep_pr pr pr']
mutual
theorem vis_pr (p : Pg) (pr pr' : Int) : ∀ (t : Tr) (path : List Int) (vs : List Vd), visF p pr' t path vs = (visF p pr t path vs).map fun f => ⟨pr', f.path, f.err, f.name⟩
  | .mk k n s c, path, vs => by
    rw [visF, visF, List.map_append, rep_pr pr pr']
    split
    · rw [args_pr p pr pr']
    · rw [visL_pr p pr pr' (.mk k n s c) path vs c 0]
theorem visL_pr (p : Pg) (pr pr' : Int) (t : Tr) (path : List Int) (vs : List Vd) : ∀ (c : List Tr) (i : Nat), visL p pr' t path vs c i = (visL p pr t path vs c i).map fun f => ⟨pr', f.path, f.err, f.name⟩
  | [], _ => rfl
  | c :: r, i => by rw [visL, visL, List.map_append, vis_pr p pr pr' c, visL_pr p pr pr' t path vs r (i + 1)]
end
theorem vis_proc (p : Pg) (pr : Int) (t : Tr) (path : List Int) (vs : List Vd) {f : Ft} (h : f ∈ visF p pr t path vs) : f.proc = pr := by
  rw [vis_pr p pr pr t path vs, List.mem_map] at h
  obtain ⟨g, _, rfl⟩ := h
  rfl
theorem procF_add {b : ByteArray} (p : Pg) (i : Nat) (q : Pr) (hb : (q.name.toList == b.toList) = false) (hc : callB b q.body = false) : procF (addP b p) i q = procF p i q := by
  unfold procF
  rw [vis_add p i q.body [] q.params hc, procI_ne p hb]
theorem procsF_add {b : ByteArray} (p : Pg) : ∀ (c : List Pr) (i : Nat), (∀ q ∈ c, (q.name.toList == b.toList) = false ∧ callB b q.body = false) → procsF (addP b p) c i = procsF p c i
  | [], _, _ => rfl
  | q :: r, i, h => by
    rw [procsF, procsF, procsF_add p r (i + 1) (fun x hx => h x (by simp [hx])), procF_add p i q (h q (by simp)).1 (h q (by simp)).2]
theorem procsF_snoc (p : Pg) : ∀ (c d : List Pr) (i : Nat), procsF p (c ++ d) i = procsF p c i ++ procsF p d (i + c.length)
  | [], d, i => by simp [procsF]
  | q :: r, d, i => by
    rw [List.cons_append, procsF, procsF, procsF_snoc p r d (i + 1), List.append_assoc, List.length_cons, show i + 1 + r.length = i + (r.length + 1) from by omega]
theorem name_ne {b : ByteArray} {p : Pg} (h : procI p b < 0) : ∀ q ∈ p.procs, (q.name.toList == b.toList) = false := by
  have key : ∀ (n i : Nat), i + n = p.procs.length → idxN p.procs b i n < 0 → ∀ j, i ≤ j → (hj : j < p.procs.length) → (p.procs[j].name.toList == b.toList) = false := by
    intro n
    induction n with
    | zero => intro i hi _ j h1 h2; omega
    | succ n ih =>
      intro i hi hlt j h1 h2
      have hi' : i < p.procs.length := by omega
      simp only [idxN, List.getElem?_eq_getElem hi'] at hlt
      split at hlt
      · omega
      · rename_i hne
        rcases Nat.lt_or_ge i j with q | q
        · exact ih (i + 1) (by omega) hlt j (by omega) h2
        · have : j = i := by omega
          subst this
          simpa using hne
  intro q hq
  obtain ⟨j, hj, rfl⟩ := List.getElem_of_mem hq
  exact key p.procs.length 0 (by omega) h j (Nat.zero_le _) hj
/-- the main block has moved by one -/
def backF (N : Int) (f : Ft) : Ft := if f.proc = N + 1 then ⟨N, f.path, f.err, f.name⟩ else f
theorem map_id_of {α : Type} {f : α → α} : ∀ {l : List α}, (∀ x ∈ l, f x = x) → l.map f = l
  | [], _ => rfl
  | x :: r, h => by rw [List.map_cons, h x (by simp), map_id_of fun y hy => h y (by simp [hy])]
theorem check_addP {b : ByteArray} {p : Pg} (hb : procI p b < 0) (hm : callB b p.main = false) (hq : ∀ q ∈ p.procs, callB b q.body = false) : (checkF (addP b p)).map (backF p.procs.length) = checkF p ∧ (checkF (addP b p)).length = (checkF p).length := by
  have hne := name_ne hb
  have e1 : procsF (addP b p) (addP b p).procs 0 = procsF p p.procs 0 := by
    show procsF (addP b p) (p.procs ++ [⟨b, [], .mk 57 0 ⟨#[]⟩ []⟩]) 0 = _
    rw [procsF_snoc, procsF_add p p.procs 0 (fun q h => ⟨hne q h, hq q h⟩)]
    have hi : procI (addP b p) b = (p.procs.length : Int) := by rw [procI_add, if_pos hb, if_pos (by simp)]
    have : procsF (addP b p) [⟨b, [], .mk 57 0 ⟨#[]⟩ []⟩] (0 + p.procs.length) = [] := by
      rw [procsF, procsF, List.append_nil, procF, Nat.zero_add]
      show (if procI (addP b p) b < (p.procs.length : Int) then _ else _) ++ _ = _
      rw [hi, if_neg (by omega), List.nil_append]
      rfl
    rw [this, List.append_nil]
  have e2 : visF (addP b p) ((addP b p).procs.length : Int) p.main [] p.vars = (visF p p.procs.length p.main [] p.vars).map fun f => ⟨(p.procs.length : Int) + 1, f.path, f.err, f.name⟩ := by
    rw [vis_add p _ p.main [] p.vars hm, vis_pr p p.procs.length]
    have : ((addP b p).procs.length : Int) = (p.procs.length : Int) + 1 := by
      show ((p.procs ++ [(⟨b, [], .mk 57 0 ⟨#[]⟩ []⟩ : Pr)]).length : Int) = _
      simp
    rw [this]
  have e3 : checkF (addP b p) = vrF (-1) true p.vars p.vars 0 ++ (procsF p p.procs 0 ++ (visF p p.procs.length p.main [] p.vars).map fun f => ⟨(p.procs.length : Int) + 1, f.path, f.err, f.name⟩) := by
    unfold checkF
    rw [e1]
    show _ ++ (_ ++ visF (addP b p) ((addP b p).procs.length : Int) p.main [] p.vars) = _
    rw [e2]
    rfl
  refine ⟨?_, by rw [e3]; unfold checkF; simp⟩
  rw [e3, List.map_append, List.map_append, List.map_map]
  unfold checkF
  congr 1
  · refine map_id_of fun f hf => ?_
    have := vrF_proc _ _ hf
    unfold backF; rw [if_neg (by omega)]
  · congr 1
    · refine map_id_of fun f hf => ?_
      have := procsF_proc p p.procs 0 f hf
      unfold backF; rw [if_neg (by omega)]
    · refine map_id_of fun f hf => ?_
      have := vis_proc p _ _ _ _ hf
      show backF _ ⟨_, _, _, _⟩ = f
      unfold backF
      rw [if_pos rfl]
      cases f
      simp only at this
      rw [this]

end Go.Proofs.Ytjikokmhknnnoaa
