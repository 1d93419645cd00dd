/- An unused procedure or variable at the end: the plain facts. -/
import Derived.Test.YtjikokmhknnnoaaRn
import Derived.Test.YtjikokmhknnnoaaQ64
namespace Go.Proofs.Ytjikokmhknnnoaa
open Go.RowKit
theorem findN_pre (vs l : List Vd) (s : ByteArray) : ∀ n, n ≤ vs.length → findN (vs ++ l) s n = findN vs s n
  | 0, _ => rfl
  | n + 1, h => by
    have h0 : n < vs.length := by omega
    simp only [findN, List.getElem?_append_left h0, findN_pre vs l s n (by omega)]
theorem findN_app (vs : List Vd) (x : Vd) (s : ByteArray) : findN (vs ++ [x]) s (vs ++ [x]).length = if x.name.toList == s.toList then (x, true) else findN vs s vs.length := by
  rw [show (vs ++ [x]).length = vs.length + 1 from by simp]
  simp only [findN, List.getElem?_append_right (Nat.le_refl _), Nat.sub_self, List.getElem?_cons_zero]
  rw [findN_pre vs [x] s _ (Nat.le_refl _)]
/-- the same is found, whatever the name but b -/
def SameF (b : ByteArray) (vs vs' : List Vd) : Prop := ∀ s : ByteArray, (s.toList == b.toList) = false → findN vs' s vs'.length = findN vs s vs.length
theorem SameF.snoc {b : ByteArray} {vs vs' : List Vd} (h : SameF b vs vs') (x : Vd) : SameF b (vs ++ [x]) (vs' ++ [x]) := fun s hs => by rw [findN_app, findN_app, h s hs]
theorem SameF.inner {b : ByteArray} {vs vs' : List Vd} (h : SameF b vs vs') (t : Tr) (i : Int) : SameF b (innerV t i vs) (innerV t i vs') := by
  unfold innerV
  split
  · exact h.snoc _
  · split
    · exact h.snoc _
    · exact h
theorem SameF.add {b : ByteArray} (vs : List Vd) (v : Vd) (hv : v.name = b) : SameF b vs (vs ++ [v]) := fun s hs => by
  rw [findN_app, if_neg]
  intro e
  rw [hv] at e
  have : (s.toList == b.toList) = true := by rw [beq_iff_eq] at e ⊢; exact e.symm
  rw [this] at hs; cases hs
section
variable {b : ByteArray} {vs vs' : List Vd}
theorem SameF.use (h : SameF b vs vs') {s : ByteArray} (hs : (s.toList == b.toList) = false) (k : Int) : useE vs' s k = useE vs s k := by unfold useE; rw [h s hs]
theorem SameF.fresh (h : SameF b vs vs') {s : ByteArray} (hs : (s.toList == b.toList) = false) : freshE vs' s = freshE vs s := by unfold freshE; rw [h s hs]
theorem SameF.fault (h : SameF b vs vs') (p : Pg) (t : Tr) (hm : (t.name.toList == b.toList && !(t.kind == 50) && !(t.kind == 51)) = false) : faultE p t vs' = faultE p t vs := by
  by_cases hc : t.kind = 50 ∨ t.kind = 51
  · have k1 : ¬ t.kind = 2 := by omega
    have k2 : ¬ t.kind = 3 := by omega
    have k3 : ¬ (t.kind = 4 ∨ t.kind = 5 ∨ t.kind = 44 ∨ t.kind = 45) := by omega
    have k4 : ¬ (t.kind = 54 ∨ t.kind = 55) := by omega
    simp only [faultE, if_neg k1, if_neg k2, if_neg k3, if_neg k4]
  · have hs : (t.name.toList == b.toList) = false := by
      have k1 : ¬ t.kind = 50 := fun e => hc (.inl e)
      have k2 : ¬ t.kind = 51 := fun e => hc (.inr e)
      simpa [k1, k2] using hm
    simp only [faultE, h.use hs, h.fresh hs]
theorem SameF.arg (h : SameF b vs vs') (p : Pg) (t : Tr) (i : Nat) {c : Tr} (hi : t.kids[i]? = some c) (hc : c.kind = 2) (hm : mentB b c = false) : argE p t i vs' = argE p t i vs := by
  have hs : (c.name.toList == b.toList) = false := by
    rw [mentB_eq, Bool.or_eq_false_iff] at hm
    simpa [hc] using hm.1
  unfold argE
  rw [hi]
  simp only [h _ hs]
end

/-- what is said depends on the procedures alone -/
theorem procI_pp {p p' : Pg} (h : p'.procs = p.procs) (s : ByteArray) : procI p' s = procI p s := by unfold procI; rw [h]
theorem prmN_pp {p p' : Pg} (h : p'.procs = p.procs) (s : ByteArray) : prmN p' s = prmN p s := by unfold prmN; rw [procI_pp h, h]
theorem fault_pp {p p' : Pg} (h : p'.procs = p.procs) (t : Tr) (vs : List Vd) : faultE p' t vs = faultE p t vs := by unfold faultE; rw [procI_pp h, prmN_pp h]
theorem arg_pp {p p' : Pg} (h : p'.procs = p.procs) (t : Tr) (i : Nat) (vs : List Vd) : argE p' t i vs = argE p t i vs := by unfold argE; rw [procI_pp h, prmN_pp h]
theorem args_pp {p p' : Pg} (h : p'.procs = p.procs) (pr : Int) (t : Tr) (path : List Int) (vs : List Vd) : ∀ (c : List Tr) (i : Nat), argsF p' pr t path vs c i = argsF p pr t path vs c i
  | [], _ => rfl
  | c :: r, i => by rw [argsF, argsF, args_pp h pr t path vs r (i + 1), arg_pp h]
mutual
theorem vis_pp {p p' : Pg} (h : p'.procs = p.procs) (pr : Int) : ∀ (t : Tr) (path : List Int) (vs : List Vd), visF p' pr t path vs = visF p pr t path vs
  | .mk k n s c, path, vs => by rw [visF, visF, args_pp h, visL_pp h pr (.mk k n s c) path vs c 0, fault_pp h]
theorem visL_pp {p p' : Pg} (h : p'.procs = p.procs) (pr : Int) (t : Tr) (path : List Int) (vs : List Vd) : ∀ (c : List Tr) (i : Nat), visL p' pr t path vs c i = visL p pr t path vs c i
  | [], _ => rfl
  | c :: r, i => by rw [visL, visL, vis_pp h pr c, visL_pp h pr t path vs r (i + 1)]
end
theorem procs_pp {p p' : Pg} (h : p'.procs = p.procs) : ∀ (c : List Pr) (i : Nat), procsF p' c i = procsF p c i
  | [], _ => rfl
  | q :: r, i => by rw [procsF, procsF, procs_pp h r (i + 1), procF, procF, vis_pp h, procI_pp h]

/-- the variables that are visible matter for their names alone -/
theorem args_v {b : ByteArray} {vs vs' : List Vd} (h : SameF b vs vs') (p : Pg) (pr : Int) (t : Tr) (path : List Int) : ∀ (c : List Tr) (i : Nat), (∀ j, c[j]? = t.kids[i + j]?) → (∀ x ∈ c, x.kind = 2 ∧ mentB b x = false) → argsF p pr t path vs' c i = argsF p pr t path vs c i
  | [], _, _, _ => rfl
  | c :: r, i, hk, hx => by
    have h0 := hk 0
    simp only [List.getElem?_cons_zero, Nat.add_zero] at h0
    rw [argsF, argsF, args_v h p pr t path r (i + 1) (fun j => by have := hk (j + 1); simpa [Nat.add_assoc, Nat.add_comm 1 j] using this) (fun x hx' => hx x (by simp [hx'])), h.arg p t i h0.symm (hx c (by simp)).1 (hx c (by simp)).2]
mutual
theorem vis_v {b s : ByteArray} (p : Pg) (pr : Int) : ∀ (t : Tr) (path : List Int) (vs vs' : List Vd), SameF b vs vs' → mentB b t = false → wB s t = true → visF p pr t path vs' = visF p pr t path vs
  | .mk k n nm c, path, vs, vs', h, hm, hw => by
    have hm' := hm
    simp only [mentB, Bool.or_eq_false_iff] at hm'
    simp only [wB, Bool.and_eq_true] at hw
    rw [visF, visF, h.fault p (.mk k n nm c) hm'.1]
    congr 1
    by_cases hc : k = 50 ∨ k = 51
    · rw [if_pos hc, if_pos hc]
      rw [if_pos hc] at hw
      refine args_v h p pr (.mk k n nm c) path c 0 (fun j => by simp [Tr.kids]) (fun x hx => ?_)
      have h1 := List.all_eq_true.1 hw.2 x hx
      simp only [Bool.and_eq_true, beq_iff_eq] at h1
      have h2 := hm'.2
      rw [mentL_any, List.any_eq_false] at h2
      exact ⟨h1.1, by simpa using h2 x hx⟩
    · rw [if_neg hc, if_neg hc]
      rw [if_neg hc] at hw
      exact visL_v p pr (.mk k n nm c) path vs vs' h c 0 hm'.2 hw.2
theorem visL_v {b s : ByteArray} (p : Pg) (pr : Int) (t : Tr) (path : List Int) (vs vs' : List Vd) (h : SameF b vs vs') : ∀ (c : List Tr) (i : Nat), mentL b c = false → wL s c = true → visL p pr t path vs' c i = visL p pr t path vs c i
  | [], _, _, _ => rfl
  | c :: r, i, hm, hw => by
    simp only [mentL, Bool.or_eq_false_iff] at hm
    simp only [wL, Bool.and_eq_true] at hw
    rw [visL, visL, vis_v p pr c _ _ _ (h.inner t i) hm.1 hw.1, visL_v p pr t path vs vs' h r (i + 1) hm.2 hw.2]
end
theorem rep_pr (pr pr' : Int) (path : List Int) (e : Int) (s : ByteArray) : rep pr' path e s = (rep pr path e s).map fun f => ⟨pr', f.path, f.err, f.name⟩ := by unfold rep; split <;> rfl
theorem args_pr (p : Pg) (pr pr' : Int) (t : Tr) (path : List Int) (vs : List Vd) : ∀ (c : List Tr) (i : Nat), argsF p pr' t path vs c i = (argsF p pr t path vs c i).map fun f => ⟨pr', f.path, f.err, f.name⟩
  | [], _ => rfl
  | c :: r, i => by rw [argsF, argsF, List.map_append, args_pr p pr pr' t path vs r (i + 1), rep_pr pr pr']
mutual
theorem vis_pr (p : Pg) (pr pr' : Int) : ∀ (t : Tr) (path : List Int) (vs : List Vd), visF p pr' t path vs = (visF p pr t path vs).map fun f => ⟨pr', f.path, f.err, f.name⟩
  | .mk k n s c, path, vs => by
    rw [visF, visF, List.map_append, rep_pr pr pr']
    split
    · rw [args_pr p pr pr']
    · rw [visL_pr p pr pr' (.mk k n s c) path vs c 0]
theorem visL_pr (p : Pg) (pr pr' : Int) (t : Tr) (path : List Int) (vs : List Vd) : ∀ (c : List Tr) (i : Nat), visL p pr' t path vs c i = (visL p pr t path vs c i).map fun f => ⟨pr', f.path, f.err, f.name⟩
  | [], _ => rfl
  | c :: r, i => by rw [visL, visL, List.map_append, vis_pr p pr pr' c, visL_pr p pr pr' t path vs r (i + 1)]
end
theorem vis_proc (p : Pg) (pr : Int) (t : Tr) (path : List Int) (vs : List Vd) {f : Ft} (h : f ∈ visF p pr t path vs) : f.proc = pr := by
  rw [vis_pr p pr pr t path vs, List.mem_map] at h
  obtain ⟨g, _, rfl⟩ := h
  rfl
theorem map_id_of {α : Type} {f : α → α} : ∀ {l : List α}, (∀ x ∈ l, f x = x) → l.map f = l
  | [], _ => rfl
  | x :: r, h => by rw [List.map_cons, h x (by simp), map_id_of fun y hy => h y (by simp [hy])]
end Go.Proofs.Ytjikokmhknnnoaa
