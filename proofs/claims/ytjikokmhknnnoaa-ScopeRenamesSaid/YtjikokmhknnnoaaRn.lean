import Derived.Test.YtjikokmhknnnoaaDr
import Derived.Test.YtjikokmhknnnoaaSc2
/- The law ScopeRenames: plain facts. -/
namespace Go.Proofs.Ytjikokmhknnnoaa
open Go.RowKit

theorem ba_ext {x y : ByteArray} (h : (x.toList == y.toList) = true) : x = y := by
 rw [beq_iff_eq, ByteArray.toList_eq, ByteArray.toList_eq] at h
 cases x; cases y
 simp only [ByteArray.mk.injEq]
 exact Array.toList_inj.1 h
def rnN (a b s : ByteArray) : ByteArray := if (s.toList == a.toList) = true then b else s
mutual
def rnT (a b : ByteArray) : Tr → Tr
 | .mk k n s c => .mk k n (if k = 50 ∨ k = 51 then s else rnN a b s) (rnL a b c)
def rnL (a b : ByteArray) : List Tr → List Tr
 | [] => []
 | t :: r => rnT a b t :: rnL a b r
end
def rnV (a b : ByteArray) (v : Vd) : Vd := ⟨rnN a b v.name, v.kind, v.len⟩
def rnP (a b : ByteArray) (p : Pg) : Pg := ⟨p.vars.map (rnV a b), p.procs, rnT a b p.main⟩
section
variable {a b : ByteArray}
theorem rnL_map : ∀ c : List Tr, rnL a b c = c.map (rnT a b)
 | [] => rfl
 | t :: r => by rw [rnL, rnL_map r]; rfl
theorem rnT_kind (t : Tr) : (rnT a b t).kind = t.kind := by cases t; rfl
theorem rnT_num (t : Tr) : (rnT a b t).num = t.num := by cases t; rfl
theorem rnT_kids (t : Tr) : (rnT a b t).kids = t.kids.map (rnT a b) := by cases t; simp only [rnT, Tr.kids, rnL_map]
theorem rnT_name (t : Tr) : (rnT a b t).name = if t.kind = 50 ∨ t.kind = 51 then t.name else rnN a b t.name := by cases t; rfl
theorem rn_P {P : ByteArray → Bool} (h : P a = P b) (s : ByteArray) : P (rnN a b s) = P s := by
 unfold rnN
 split
 ·rename_i q; rw [ba_ext q, h]
 ·rfl
theorem rn_Q {P : ByteArray → Bool} (h : P a = P b) (q : Prop) [Decidable q] (s : ByteArray) : P (if q then s else rnN a b s) = P s := by
 split
 ·rfl
 ·exact rn_P h s
mutual
theorem expr_rn (hn : nameB a = nameB b) (he : emptyB a = emptyB b) : ∀ t, exprB (rnT a b t) = exprB t
 | .mk k n s c => by
  have h1 := exprs_rn hn he c
  have hl : (rnL a b c).length = c.length := by rw [rnL_map, zlm]
  simp only [rnT, exprB, namedB, plainB, lenB, hl, h1, rn_Q hn, rn_Q he]
theorem exprs_rn (hn : nameB a = nameB b) (he : emptyB a = emptyB b) : ∀ c, exprsB (rnL a b c) = exprsB c
 | [] => rfl
 | t :: r => by rw [rnL, exprsB, exprsB, expr_rn hn he t, exprs_rn hn he r]
end
mutual
theorem stmt_rn (hn : nameB a = nameB b) (he : emptyB a = emptyB b) : ∀ t, stmtB (rnT a b t) = stmtB t
 | .mk k n s c => by
  have h1 := fun xs => cats_rn hn he xs c
  have hl : (rnL a b c).length = c.length := by rw [rnL_map, zlm]
  simp only [rnT, stmtB, namedB, plainB, hl, h1, rn_Q hn, rn_Q he]
theorem block_rn (hn : nameB a = nameB b) (he : emptyB a = emptyB b) : ∀ t, blockB (rnT a b t) = blockB t
 | .mk k n s c => by
  have h1 := stmts_rn hn he c
  simp only [rnT, blockB, plainB, h1, rn_Q he]
theorem cats_rn (hn : nameB a = nameB b) (he : emptyB a = emptyB b) : ∀ xs c, catsB xs (rnL a b c) = catsB xs c
 | [], [] => rfl
 | [], _ :: _ => by rw [rnL, catsB, catsB]
 | _ :: _, [] => rfl
 | x :: xs, t :: ts => by
  have h1 := cats_rn hn he xs ts
  have h2 := block_rn hn he t
  rw [rnL, catsB, catsB, h1, h2]
  simp only [placeB, varB, expr_rn hn he t, rnT_kind]
theorem stmts_rn (hn : nameB a = nameB b) (he : emptyB a = emptyB b) : ∀ c, stmtsB (rnL a b c) = stmtsB c
 | [] => rfl
 | t :: r => by rw [rnL, stmtsB, stmtsB, stmt_rn hn he t, stmts_rn hn he r]
end
mutual
theorem size_rn : ∀ t : Tr, (rnT a b t).size = t.size ∧ (rnT a b t).depth = t.depth
 | .mk k n s c => by
  have h := sizes_rn c
  simp only [rnT, Tr.size, Tr.depth, h.1, h.2]; exact ⟨trivial, trivial⟩
theorem sizes_rn : ∀ c : List Tr, Tr.sizes (rnL a b c) = Tr.sizes c ∧ Tr.depths (rnL a b c) = Tr.depths c
 | [] => ⟨rfl, rfl⟩
 | t :: r => by
  have h := size_rn t
  have h2 := sizes_rn r
  simp only [rnL, Tr.sizes, Tr.depths, h.1, h.2, h2.1, h2.2]; exact ⟨trivial, trivial⟩
end
theorem valid_rn (hn : nameB a = nameB b) (he : emptyB a = emptyB b) (p : Pg) : validB (rnP a b p) = validB p := by
 have h1 : (p.vars.map (rnV a b)).all declB = p.vars.all declB := by
  rw [List.all_map]; congr 1; funext v; simp only [Function.comp, declB, rnV, rn_P hn]; rfl
 have h2 : bodyB (rnT a b p.main) = bodyB p.main := by simp only [bodyB, (size_rn p.main).1, (size_rn p.main).2, block_rn hn he]
 simp only [validB, rnP, zlm, h1, h2]; rfl
theorem rn_inj {x y : ByteArray} (h1 : (x.toList == b.toList) = false) (h2 : (y.toList == b.toList) = false) : ((rnN a b x).toList == (rnN a b y).toList) = (x.toList == y.toList) := by
 unfold rnN
 simp only [beq_eq_false_iff_ne, ne_eq] at h1 h2
 by_cases p : x.toList = a.toList
 ·by_cases q : y.toList = a.toList
  ·simp [p, q]
  ·have e1 : (b.toList == y.toList) = false := by rw [beq_eq_false_iff_ne]; exact fun e => h2 e.symm
   have e2 : (a.toList == y.toList) = false := by rw [beq_eq_false_iff_ne]; exact fun e => q e.symm
   simp [p, q, e1, e2]
 ·by_cases q : y.toList = a.toList
  ·have e1 : (x.toList == b.toList) = false := by rw [beq_eq_false_iff_ne]; exact h1
   have e2 : (x.toList == a.toList) = false := by rw [beq_eq_false_iff_ne]; exact p
   simp [q, e1, e2]
  ·simp [p, q]
theorem has_b {vs : List Vd} (h : hasV vs b = false) {v : Vd} (hv : v ∈ vs) : (v.name.toList == b.toList) = false := by
 unfold hasV at h
 rw [List.any_eq_false] at h
 simpa using h v hv
theorem find_rn {vs : List Vd} {s : ByteArray} (hb : hasV vs b = false) (hs : (s.toList == b.toList) = false) : ∀ n, n ≤ vs.length → (findN (vs.map (rnV a b)) (rnN a b s) n).2 = (findN vs s n).2 ∧ (findN (vs.map (rnV a b)) (rnN a b s) n).1.kind = (findN vs s n).1.kind ∧ (findN (vs.map (rnV a b)) (rnN a b s) n).1.len = (findN vs s n).1.len
 | 0, _ => ⟨rfl, rfl, rfl⟩
 | n + 1, h => by
  have h0 : n < vs.length := by omega
  have hi := rn_inj (a := a) (has_b hb (List.getElem_mem h0)) hs
  have ih := find_rn hb hs n (by omega)
  simp only [findN, List.getElem?_map, List.getElem?_eq_getElem h0, zmo]
  rw [show (rnV a b vs[n]).name = rnN a b vs[n].name from rfl, hi]
  split
  ·exact ⟨rfl, rfl, rfl⟩
  ·exact ih
theorem use_rn {vs : List Vd} {s : ByteArray} (hb : hasV vs b = false) (hs : (s.toList == b.toList) = false) (k : Int) : useE (vs.map (rnV a b)) (rnN a b s) k = useE vs s k := by
 obtain ⟨h1, h2, _⟩ := find_rn (a := a) hb hs vs.length (Nat.le_refl _)
 simp only [useE, zlm, h1, h2]
theorem fresh_rn {vs : List Vd} {s : ByteArray} (hb : hasV vs b = false) (hs : (s.toList == b.toList) = false) : freshE (vs.map (rnV a b)) (rnN a b s) = freshE vs s := by
 obtain ⟨h1, _⟩ := find_rn (a := a) hb hs vs.length (Nat.le_refl _)
 simp only [freshE, zlm, h1]
theorem inner_rn (t : Tr) (i : Int) (vs : List Vd) : innerV (rnT a b t) i (vs.map (rnV a b)) = (innerV t i vs).map (rnV a b) := by
 unfold innerV
 rw [rnT_kind, rnT_name]
 split
 ·rename_i q; rw [if_neg (by omega), List.map_append]; rfl
 ·split
  ·rename_i q; rw [if_neg (by omega), List.map_append]; rfl
  ·rfl
theorem fault_rn {p : Pg} {t : Tr} {vs : List Vd} (hb : hasV vs b = false) (hm : (t.name.toList == b.toList && !(t.kind == 50) && !(t.kind == 51)) = false) : faultE (rnP a b p) (rnT a b t) (vs.map (rnV a b)) = faultE p t vs := by
 have hl : (rnT a b t).kids.length = t.kids.length := by rw [rnT_kids, zlm]
 have hp : ∀ s, procI (rnP a b p) s = procI p s := fun _ => rfl
 have hq : ∀ s, prmN (rnP a b p) s = prmN p s := fun _ => rfl
 by_cases hc : t.kind = 50 ∨ t.kind = 51
 ·have e1 : (rnT a b t).name = t.name := by rw [rnT_name, if_pos hc]
  have k1 : ¬ t.kind = 2 := by omega
  have k2 : ¬ t.kind = 3 := by omega
  have k3 : ¬ (t.kind = 4 ∨ t.kind = 5 ∨ t.kind = 44 ∨ t.kind = 45) := by omega
  have k4 : ¬ (t.kind = 54 ∨ t.kind = 55) := by omega
  simp only [faultE, rnT_kind, e1, hl, hp, hq, if_neg k1, if_neg k2, if_neg k3, if_neg k4, if_pos hc]
 ·have e1 : (rnT a b t).name = rnN a b t.name := by rw [rnT_name, if_neg hc]
  have hs : (t.name.toList == b.toList) = false := by
   have k1 : ¬ t.kind = 50 := fun e => hc (.inl e)
   have k2 : ¬ t.kind = 51 := fun e => hc (.inr e)
   simpa [k1, k2] using hm
  simp only [faultE, rnT_kind, e1, use_rn hb hs, fresh_rn hb hs, if_neg hc]
theorem arg_rn {p : Pg} {t c : Tr} {i : Nat} {vs : List Vd} (hb : hasV vs b = false) (ht : t.kind = 50 ∨ t.kind = 51) (hi : t.kids[i]? = some c) (hc : c.kind = 2) (hm : mentB b c = false) : argE (rnP a b p) (rnT a b t) i (vs.map (rnV a b)) = argE p t i vs := by
 have hl : (rnT a b t).kids.length = t.kids.length := by rw [rnT_kids, zlm]
 have hp : ∀ s, procI (rnP a b p) s = procI p s := fun _ => rfl
 have hq : ∀ s, prmN (rnP a b p) s = prmN p s := fun _ => rfl
 have e1 : (rnT a b t).name = t.name := by rw [rnT_name, if_pos ht]
 have e2 : (rnT a b t).kids[i]? = some (rnT a b c) := by rw [rnT_kids, List.getElem?_map, hi]; rfl
 have e3 : (rnT a b c).name = rnN a b c.name := by rw [rnT_name, if_neg (by omega)]
 have hs : (c.name.toList == b.toList) = false := by
  rw [mentB_eq, zof] at hm
  simpa [hc] using hm.1
 obtain ⟨h1, h2, h3⟩ := find_rn (a := a) hb hs vs.length (Nat.le_refl _)
 simp only [argE, e2, hi, e3, e1, hl, hp, hq, zlm, h1, h2, h3]
/-- one list beside another -/
inductive Pw (R : Ft → Ft → Prop) : List Ft → List Ft → Prop
 | nil : Pw R [] []
 | cons {f g : Ft} {l m : List Ft} (h : R f g) (t : Pw R l m) : Pw R (f :: l) (g :: m)
theorem Pw.app {R : Ft → Ft → Prop} {l m l' m' : List Ft} (h : Pw R l m) (h' : Pw R l' m') : Pw R (l ++ l') (m ++ m') := by
 induction h with
 | nil => exact h'
 | cons h _ ih => exact .cons h ih
theorem Pw.mono {R S : Ft → Ft → Prop} {l m : List Ft} (h : Pw R l m) (hs : ∀ f g, f ∈ l → R f g → S f g) : Pw S l m := by
 induction h with
 | nil => exact .nil
 | cons h _ ih => exact .cons (hs _ _ List.mem_cons_self h) (ih fun f g hf => hs f g (List.mem_cons_of_mem _ hf))
theorem Pw.len {R : Ft → Ft → Prop} {l m : List Ft} (h : Pw R l m) : l.length = m.length := by
 induction h with
 | nil => rfl
 | cons _ _ ih => simp only [zlc, ih]
theorem Pw.at {R : Ft → Ft → Prop} {l m : List Ft} (h : Pw R l m) : ∀ (i : Nat) (h1 : i < l.length) (h2 : i < m.length), R l[i] m[i] := by
 induction h with
 | nil => intro i h1; exact absurd h1 (Nat.not_lt_zero _)
 | cons h _ ih =>
  intro i h1 h2
  cases i with
  | zero => exact h
  | succ i => exact ih i _ _
theorem Pw.refl {R : Ft → Ft → Prop} : ∀ {l : List Ft}, (∀ f ∈ l, R f f) → Pw R l l
 | [], _ => .nil
 | f :: _r, h => .cons (h f List.mem_cons_self) (Pw.refl fun g hg => h g (List.mem_cons_of_mem _ hg))
/-- the same fault, but for the name -/
def RnM (a b : ByteArray) (f g : Ft) : Prop := f.proc = g.proc ∧ f.path = g.path ∧ f.err = g.err ∧ (g.name = f.name ∨ g.name = rnN a b f.name)
theorem rep_rn {pr : Int} {path : List Int} {e : Int} {s s' : ByteArray} (h : s' = s ∨ s' = rnN a b s) : Pw (RnM a b) (rep pr path e s) (rep pr path e s') := by
 unfold rep
 split
 ·exact .nil
 ·exact .cons ⟨rfl, rfl, rfl, h⟩ .nil
theorem name_or (t : Tr) : (rnT a b t).name = t.name ∨ (rnT a b t).name = rnN a b t.name := by rw [rnT_name]; split <;> simp
theorem args_rn {p : Pg} {pr : Int} {t : Tr} {path : List Int} {vs : List Vd} (hb : hasV vs b = false) (ht : t.kind = 50 ∨ t.kind = 51) : ∀ (c : List Tr) (i : Nat), (∀ j, c[j]? = t.kids[i + j]?) → (∀ x ∈ c, x.kind = 2 ∧ mentB b x = false) → Pw (RnM a b) (argsF p pr t path vs c i) (argsF (rnP a b p) pr (rnT a b t) path (vs.map (rnV a b)) (rnL a b c) i)
 | [], _, _, _ => .nil
 | c :: r, i, hc, hk => by
  have h0 := hc 0
  simp only [zg0, Nat.add_zero] at h0
  obtain ⟨k1, k2⟩ := hk c List.mem_cons_self
  rw [rnL, argsF, argsF, arg_rn hb ht h0.symm k1 k2]
  exact (rep_rn (name_or c)).app (args_rn hb ht r (i + 1) (fun j => by have := hc (j + 1); simp only [zg1] at this; rw [this]; congr 1; omega) (fun x hx => hk x (List.mem_cons_of_mem _ hx)))
mutual
theorem vis_rn {p : Pg} {pr : Int} {s : ByteArray} : ∀ (t : Tr) (path : List Int) (vs : List Vd), hasV vs b = false → mentB b t = false → wB s t = true → Pw (RnM a b) (visF p pr t path vs) (visF (rnP a b p) pr (rnT a b t) path (vs.map (rnV a b)))
 | .mk k n nm c, path, vs, hb, hm, hw => by
  rw [mentB_eq, zof] at hm
  obtain ⟨hm1, hm2⟩ := hm
  rw [wB_eq, zat] at hw
  obtain ⟨_, hw2⟩ := hw
  have hmk : ∀ x ∈ c, mentB b x = false := fun x hx => by
   rw [List.any_eq_false] at hm2
   simpa using hm2 x hx
  rw [visF_eq, visF_eq, rnT_kind, fault_rn hb hm1]
  refine (rep_rn (name_or _)).app ?_
  have hkl : (rnT a b (.mk k n nm c)).kids = rnL a b c := by rw [rnT_kids, rnL_map]; rfl
  rw [hkl]
  split
  ·rename_i q
   rw [if_pos q] at hw2
   exact args_rn hb q c 0 (fun j => by simp [Tr.kids]) (fun x hx => ⟨by have := List.all_eq_true.1 hw2 x hx; simp at this; exact this.1, hmk x hx⟩)
  ·rename_i q
   rw [if_neg q] at hw2
   exact visL_rn (.mk k n nm c) path vs hb hm1 c 0 hmk (fun x hx => List.all_eq_true.1 hw2 x hx)
theorem visL_rn {p : Pg} {pr : Int} {s : ByteArray} (t : Tr) (path : List Int) (vs : List Vd) (hb : hasV vs b = false) (hm : (t.name.toList == b.toList && !(t.kind == 50) && !(t.kind == 51)) = false) : ∀ (c : List Tr) (i : Nat), (∀ x ∈ c, mentB b x = false) → (∀ x ∈ c, wB s x = true) → Pw (RnM a b) (visL p pr t path vs c i) (visL (rnP a b p) pr (rnT a b t) path (vs.map (rnV a b)) (rnL a b c) i)
 | [], _, _, _ => .nil
 | c :: r, i, hmk, hwk => by
  rw [rnL, visL, visL, inner_rn]
  refine Pw.app ?_ (visL_rn t path vs hb hm r (i + 1) (fun x hx => hmk x (List.mem_cons_of_mem _ hx)) (fun x hx => hwk x (List.mem_cons_of_mem _ hx)))
  refine vis_rn c _ _ (inner_not hb ?_) (hmk c List.mem_cons_self) (hwk c List.mem_cons_self)
  by_cases h : t.kind = 54
  ·simpa [h] using hm
  ·by_cases h2 : t.kind = 55
   ·simpa [h2] using hm
   ·simp [h, h2]
end
/-- what the law asks of two faults -/
def RnL (a b : ByteArray) (N : Int) (f g : Ft) : Prop := f.proc = g.proc ∧ f.path = g.path ∧ f.err = g.err ∧ g.name = if (f.name.toList == a.toList && (f.proc == -1 || (f.proc == N && g.name.toList == b.toList))) = true then b else f.name
theorem vr_rn {vs : List Vd} (hb : hasV vs b = false) : ∀ (c : List Vd) (i : Nat), (∀ j, c[j]? = vs[i + j]?) → Pw (fun f g => f.proc = -1 ∧ g.proc = -1 ∧ f.path = g.path ∧ f.err = g.err ∧ g.name = rnN a b f.name) (vrF (-1) true vs c i) (vrF (-1) true (vs.map (rnV a b)) (c.map (rnV a b)) i)
 | [], _, _ => .nil
 | v :: r, i, hc => by
  have h0 := hc 0
  simp only [zg0, Nat.add_zero] at h0
  have hm := List.mem_of_getElem? h0.symm
  have hbt : hasV (vs.take i) b = false := by
   unfold hasV at hb ⊢
   rw [List.any_eq_false] at hb ⊢
   exact fun x hx => hb x (List.mem_of_mem_take hx)
  rw [zmc, vrF, vrF, ← List.map_take, show (rnV a b v).name = rnN a b v.name from rfl, fresh_rn hbt (has_b hb hm)]
  refine Pw.app ?_ (vr_rn hb r (i + 1) (fun j => by have := hc (j + 1); simp only [zg1] at this; rw [this]; congr 1; omega))
  unfold rep
  split
  ·exact .nil
  ·exact .cons ⟨rfl, rfl, rfl, rfl, rfl⟩ .nil
theorem arg_q (p : Pg) (t : Tr) (i : Nat) (vs : List Vd) : argE (rnP a b p) t i vs = argE p t i vs := rfl
theorem args_q (p : Pg) (pr : Int) (t : Tr) (path : List Int) (vs : List Vd) : ∀ (c : List Tr) (i : Nat), argsF (rnP a b p) pr t path vs c i = argsF p pr t path vs c i
 | [], _ => rfl
 | c :: r, i => by rw [argsF, argsF, args_q p pr t path vs r (i + 1), arg_q]
mutual
theorem vis_q (p : Pg) (pr : Int) : ∀ (t : Tr) (path : List Int) (vs : List Vd), visF (rnP a b p) pr t path vs = visF p pr t path vs
 | .mk k n s c, path, vs => by
  rw [visF, visF, args_q, visL_q p pr (.mk k n s c) path vs c 0]; rfl
theorem visL_q (p : Pg) (pr : Int) (t : Tr) (path : List Int) (vs : List Vd) : ∀ (c : List Tr) (i : Nat), visL (rnP a b p) pr t path vs c i = visL p pr t path vs c i
 | [], _ => rfl
 | c :: r, i => by rw [visL, visL, vis_q p pr c, visL_q p pr t path vs r (i + 1)]
end
theorem procs_q (p : Pg) : ∀ (c : List Pr) (i : Nat), procsF (rnP a b p) c i = procsF p c i
 | [], _ => rfl
 | q :: r, i => by rw [procsF, procsF, procs_q p r (i + 1), procF, procF, vis_q]; rfl
theorem vrF_proc {pr : Int} {one : Bool} {l : List Vd} {f : Ft} : ∀ (c : List Vd) (i : Nat), f ∈ vrF pr one l c i → f.proc = pr
 | [], _, h => by simp [vrF] at h
 | v :: r, i, h => by
  rw [vrF, List.mem_append] at h
  rcases h with h | h
  ·rw [(rep_mem h).1]
  ·exact vrF_proc r (i + 1) h
theorem procF_proc (p : Pg) (i : Nat) (q : Pr) {f : Ft} (h : f ∈ procF p i q) : f.proc = (i : Int) := by
 unfold procF at h
 rw [List.mem_append, List.mem_append] at h
 rcases h with h | h | h
 ·split at h
  ·simp only [List.mem_cons, List.not_mem_nil, or_false] at h; rw [h]
  ·simp at h
 ·exact vrF_proc _ _ h
 ·exact (vis_lies q.body [] q.params f h).pr
theorem procsF_proc (p : Pg) : ∀ (c : List Pr) (i : Nat) (f : Ft), f ∈ procsF p c i → (i : Int) ≤ f.proc ∧ f.proc < (i : Int) + c.length
 | [], _, f, h => by simp [procsF] at h
 | q :: r, i, f, h => by
  rw [procsF, List.mem_append] at h
  rcases h with h | h
  ·have := procF_proc p i q h
   simp only [zlc]; omega
  ·have := procsF_proc p r (i + 1) f h
   simp only [zlc]; omega
/-- the faults of a program and of the renamed one -/
theorem check_rn {p : Pg} {s : ByteArray} (hab : (a.toList == b.toList) = false) (hb : hasV p.vars b = false) (hm : mentB b p.main = false) (hw : wB s p.main = true) : Pw (RnL a b p.procs.length) (checkF p) (checkF (rnP a b p)) := by
 unfold checkF
 refine Pw.app ?_ (Pw.app ?_ ?_)
 ·refine (vr_rn (a := a) hb p.vars 0 (fun j => by simp)).mono fun f g _ ⟨h1, h2, h3, h4, h5⟩ => ⟨by rw [h1, h2], h3, h4, ?_⟩
  rw [h5, h1]
  unfold rnN
  by_cases q : (f.name.toList == a.toList) = true <;> simp [q]
 ·show Pw _ (procsF p p.procs 0) (procsF (rnP a b p) p.procs 0)
  rw [procs_q]
  refine Pw.refl fun f hf => ⟨rfl, rfl, rfl, ?_⟩
  obtain ⟨h1, h2⟩ := procsF_proc p p.procs 0 f hf
  rw [if_neg]
  simp only [zat, Bool.or_eq_true, beq_iff_eq, not_and, not_or]
  exact fun _ => ⟨by omega, fun e => by omega⟩
 ·refine (vis_rn (s := s) p.main [] p.vars hb hm hw).mono fun f g hf ⟨h1, h2, h3, h4⟩ => ⟨h1, h2, h3, ?_⟩
  have hp : f.proc = (p.procs.length : Int) := (vis_lies p.main [] p.vars f hf).pr
  rw [hp]
  have hN : (((p.procs.length : Int) == -1)) = false := by rw [beq_eq_false_iff_ne]; omega
  rw [hN]
  simp only [beq_self_eq_true, Bool.false_or, Bool.true_and]
  by_cases q : (f.name.toList == a.toList) = true
  ·rcases h4 with h4 | h4
   ·rw [h4, q]
    have : f.name = a := ba_ext q
    rw [this, hab]; simp
   ·have : g.name = b := by rw [h4]; unfold rnN; rw [if_pos q]
    rw [this, q]; simp
  ·have q' : (f.name.toList == a.toList) = false := by simpa using q
   have : g.name = f.name := by
    rcases h4 with h4 | h4
    ·exact h4
    ·rw [h4]; unfold rnN; rw [if_neg q]
   rw [q', this]; simp
end
end Go.Proofs.Ytjikokmhknnnoaa
