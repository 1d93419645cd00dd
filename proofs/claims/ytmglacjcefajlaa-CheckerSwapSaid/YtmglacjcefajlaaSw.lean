/- The law CheckerSwap: plain facts. -/
import Derived.Test.YtmglacjcefajlaaCk0
namespace Go.Proofs.Ytmglacjcefajlaa
open Go.RowKit

/-- a swap's targets exchanged -/
def swK (k : Int) (l : List Tr) : List Tr := if k = 43 then (match l with
 | [a, b] => [b, a]
 | l => l) else l
mutual
def swT : Tr → Tr
 | .mk k n s l => .mk k n s (swK k (swL l))
def swL : List Tr → List Tr
 | [] => []
 | t :: r => swT t :: swL r
end
def swP (p : Pg) : Pg := ⟨p.vars, p.procs, swT p.main⟩
theorem swL_map : ∀ l : List Tr, swL l = l.map swT
 | [] => rfl
 | t :: r => by rw [swL, swL_map r]; rfl
theorem swK_len (k : Int) (l : List Tr) : (swK k l).length = l.length := by
 unfold swK
 split
 ·split <;> rfl
 ·rfl
theorem swK_mem (k : Int) (l : List Tr) (x : Tr) : x ∈ swK k l ↔ x ∈ l := by
 unfold swK
 split
 ·split
  ·simp [or_comm]
  ·exact Iff.rfl
 ·exact Iff.rfl
theorem swK_any (k : Int) (l : List Tr) (f : Tr → Bool) : (swK k l).any f = l.any f := by
 rw [Bool.eq_iff_iff, List.any_eq_true, List.any_eq_true]
 exact ⟨fun ⟨x, h, q⟩ => ⟨x, (swK_mem k l x).1 h, q⟩, fun ⟨x, h, q⟩ => ⟨x, (swK_mem k l x).2 h, q⟩⟩
theorem swK_no {k : Int} (h : ¬ k = 43) (l : List Tr) : swK k l = l := by unfold swK; rw [if_neg h]
theorem swT_kind (t : Tr) : (swT t).kind = t.kind := by cases t; rfl
theorem swT_num (t : Tr) : (swT t).num = t.num := by cases t; rfl
theorem swT_name (t : Tr) : (swT t).name = t.name := by cases t; rfl
theorem swT_kids (t : Tr) : (swT t).kids = swK t.kind (t.kids.map swT) := by cases t; simp only [swT, Tr.kids, Tr.kind, swL_map]
theorem swT_len (t : Tr) : (swT t).kids.length = t.kids.length := by rw [swT_kids, swK_len, zlm]
theorem sizes_two (a b : Tr) : Tr.sizes [a, b] = Tr.sizes [b, a] ∧ Tr.depths [a, b] = Tr.depths [b, a] := by
 simp only [Tr.sizes, Tr.depths]; omega
theorem swK_size (k : Int) (l : List Tr) : Tr.sizes (swK k l) = Tr.sizes l ∧ Tr.depths (swK k l) = Tr.depths l := by
 unfold swK
 split
 ·split
  ·exact sizes_two _ _
  ·exact ⟨rfl, rfl⟩
 ·exact ⟨rfl, rfl⟩
mutual
theorem size_sw : ∀ t : Tr, (swT t).size = t.size ∧ (swT t).depth = t.depth
 | .mk k n s l => by
  have h := sizes_sw l
  have h2 := swK_size k (swL l)
  simp only [swT, Tr.size, Tr.depth, h.1, h.2, h2.1, h2.2]; exact ⟨trivial, trivial⟩
theorem sizes_sw : ∀ l : List Tr, Tr.sizes (swL l) = Tr.sizes l ∧ Tr.depths (swL l) = Tr.depths l
 | [] => ⟨rfl, rfl⟩
 | t :: r => by
  have h := size_sw t
  have h2 := sizes_sw r
  simp only [swL, Tr.sizes, Tr.depths, h.1, h.2, h2.1, h2.2]; exact ⟨trivial, trivial⟩
end
mutual
theorem expr_sw : ∀ t, exprB (swT t) = exprB t
 | .mk k n s l => by
  have h1 := exprs_sw l
  have hl : (swL l).length = l.length := by rw [swL_map, zlm]
  by_cases h : k = 43
  ·have e : ∀ (q : List Tr), exprB (.mk k n s q) = false := fun q => by
    unfold exprB
    rw [if_neg (by omega), if_neg (by omega), if_neg (by omega), if_neg (by omega), if_neg (by omega)]
   rw [swT, e, e]
  ·rw [swT, swK_no h]
   simp only [exprB, lenB, hl, h1]
theorem exprs_sw : ∀ l, exprsB (swL l) = exprsB l
 | [] => rfl
 | t :: r => by rw [swL, exprsB, exprsB, expr_sw t, exprs_sw r]
end
theorem place_sw (t : Tr) : placeB (swT t) = placeB t := by unfold placeB; rw [expr_sw, swT_kind]
theorem var_sw (t : Tr) : varB (swT t) = varB t := by unfold varB; rw [expr_sw, swT_kind]
theorem cats_two : ∀ l : List Tr, catsB [1, 1] (swK 43 l) = catsB [1, 1] l
 | [] => rfl
 | [_] => rfl
 | [a, b] => by
  show catsB [1, 1] [b, a] = catsB [1, 1] [a, b]
  simp only [catsB]
  simp [Bool.and_comm]
 | _ :: _ :: _ :: _ => rfl
mutual
theorem stmt_sw : ∀ t, stmtB (swT t) = stmtB t
 | .mk k n s l => by
  have h1 := fun xs => cats_sw xs l
  have hl : (swL l).length = l.length := by rw [swL_map, zlm]
  by_cases h : k = 43
  ·subst h
   have e : ∀ q : List Tr, stmtB (.mk 43 n s q) = (plainB n s && catsB [1, 1] q) := fun q => by
    unfold stmtB
    rw [if_neg (by omega), if_pos rfl]
   rw [swT, e, e, cats_two, h1]
  ·rw [swT, swK_no h]
   simp only [stmtB, hl, h1]
theorem block_sw : ∀ t, blockB (swT t) = blockB t
 | .mk k n s l => by
  have h1 := stmts_sw l
  by_cases h : k = 57
  ·rw [swT, swK_no (by omega)]; simp only [blockB, h1]
  ·have e : (k == 57) = false := by simpa using h
   simp only [swT, blockB, e, Bool.false_and]
theorem cats_sw : ∀ xs l, catsB xs (swL l) = catsB xs l
 | [], [] => rfl
 | [], _ :: _ => by rw [swL, catsB, catsB]
 | _ :: _, [] => rfl
 | x :: xs, t :: ts => by
  have h1 := cats_sw xs ts
  have h2 := block_sw t
  rw [swL, catsB, catsB, h1, h2, expr_sw, place_sw, var_sw]
theorem stmts_sw : ∀ l, stmtsB (swL l) = stmtsB l
 | [] => rfl
 | t :: r => by rw [swL, stmtsB, stmtsB, stmt_sw t, stmts_sw r]
end
theorem body_sw (t : Tr) : bodyB (swT t) = bodyB t := by simp only [bodyB, (size_sw t).1, (size_sw t).2, block_sw]
theorem valid_sw (p : Pg) : validB (swP p) = validB p := by simp only [validB, swP, body_sw]; rfl

/-- scope's faults: where the procedures are the same -/
theorem sprocI (p : Pg) (s : ByteArray) : procI (swP p) s = procI p s := rfl
theorem sprmN (p : Pg) (s : ByteArray) : prmN (swP p) s = prmN p s := rfl
theorem sfault (p : Pg) (t : Tr) (vs : List Vd) : faultE (swP p) (swT t) vs = faultE p t vs := by
 simp only [faultE, swT_name, swT_kind, swT_len, sprocI, sprmN]
theorem sfault' (p : Pg) (t : Tr) (vs : List Vd) : faultE (swP p) t vs = faultE p t vs := rfl
theorem rep_nil {pr : Int} {path : List Int} {e : Int} {s : ByteArray} : rep pr path e s = [] ↔ e = 0 := by
 unfold rep
 split
 ·rename_i h; exact ⟨fun _ => h, fun _ => rfl⟩
 ·rename_i h; exact ⟨fun q => by simp at q, fun q => absurd q h⟩
theorem argsF_nil (p : Pg) (pr : Int) (t : Tr) (path : List Int) (vs : List Vd) : ∀ (l : List Tr) (i : Nat), argsF p pr t path vs l i = [] ↔ ∀ j, j < l.length → argE p t (i + j) vs = 0
 | [], _ => ⟨fun _ j h => absurd h (Nat.not_lt_zero _), fun _ => rfl⟩
 | c :: r, i => by
  rw [argsF, List.append_eq_nil_iff, rep_nil, argsF_nil p pr t path vs r (i + 1)]
  constructor
  ·rintro ⟨h1, h2⟩ j hj
   cases j with
   | zero => exact h1
   | succ j => have := h2 j (by simpa using hj); rw [show i + (j + 1) = i + 1 + j from by omega]; exact this
  ·intro h
   exact ⟨h 0 (by simp), fun j hj => by have := h (j + 1) (by simpa using hj); rw [show i + 1 + j = i + (j + 1) from by omega]; exact this⟩
theorem visL_nil (p : Pg) (pr : Int) (t : Tr) (path : List Int) (vs : List Vd) : ∀ (l : List Tr) (i : Nat), visL p pr t path vs l i = [] ↔ ∀ (j : Nat) (h : j < l.length), visF p pr l[j] (path ++ [((i + j : Nat) : Int)]) (innerV t ((i + j : Nat) : Int) vs) = []
 | [], _ => ⟨fun _ j h => absurd h (Nat.not_lt_zero _), fun _ => by simp only [visL]⟩
 | c :: r, i => by
  rw [visL, List.append_eq_nil_iff, visL_nil p pr t path vs r (i + 1)]
  constructor
  ·rintro ⟨h1, h2⟩ j hj
   cases j with
   | zero => exact h1
   | succ j => have := h2 j (by simpa using hj); rw [show i + (j + 1) = i + 1 + j from by omega]; exact this
  ·intro h
   exact ⟨h 0 (by simp), fun j hj => by have := h (j + 1) (by simpa using hj); rw [show i + 1 + j = i + (j + 1) from by omega]; exact this⟩
theorem sarg (p : Pg) (t : Tr) (i : Nat) (vs : List Vd) (h : ¬ t.kind = 43) : argE (swP p) (swT t) i vs = argE p t i vs := by
 unfold argE
 rw [swT_kids, swK_no h, List.getElem?_map]
 cases t.kids[i]? with
 | none => rfl
 | some x => simp only [zmo, swT_name, zlm, sprocI, sprmN]
theorem inner_sw (t : Tr) (i : Int) (vs : List Vd) : innerV (swT t) i vs = innerV t i vs := by simp only [innerV, swT_name, swT_kind]
theorem inner_43 {t : Tr} (h : t.kind = 43) (i : Int) (vs : List Vd) : innerV t i vs = vs := by
 unfold innerV
 rw [if_neg (by omega), if_neg (by omega)]
theorem vis_sw (p : Pg) (pr : Int) (t : Tr) : ∀ (path path' : List Int) (vs : List Vd), visF (swP p) pr (swT t) path' vs = [] ↔ visF p pr t path vs = [] := by
 induction t using Tr.ind with
 | h k n s l ih =>
  intro path path' vs
  rw [visF_eq, visF_eq, List.append_eq_nil_iff, List.append_eq_nil_iff, rep_nil, rep_nil, sfault, swT_kind]
  refine and_congr Iff.rfl ?_
  by_cases hc : (Tr.mk k n s l).kind = 50 ∨ (Tr.mk k n s l).kind = 51
  ·rw [if_pos hc, if_pos hc, argsF_nil, argsF_nil, swT_len]
   exact ⟨fun h j hj => by have := h j hj; rwa [sarg _ _ _ _ (by omega)] at this, fun h j hj => by rw [sarg _ _ _ _ (by omega)]; exact h j hj⟩
  ·rw [if_neg hc, if_neg hc, visL_nil, visL_nil]
   by_cases h3 : k = 43
   ·have hin : ∀ (i : Int), innerV (.mk k n s l) i vs = vs := fun i => inner_43 (t := .mk k n s l) h3 i vs
    have e : ∀ x ∈ l, ∀ a b, visF (swP p) pr (swT x) b vs = [] ↔ visF p pr x a vs = [] := fun x hx a b => ih x hx a b vs
    simp only [inner_sw, hin]
    constructor
    ·intro h j hj
     have hx : l[j] ∈ l := List.getElem_mem hj
     have hm : swT l[j] ∈ (swT (.mk k n s l)).kids := by rw [swT_kids, swK_mem]; exact List.mem_map_of_mem hx
     obtain ⟨i, hi, he⟩ := List.getElem_of_mem hm
     have := h i hi
     rw [he] at this
     exact (e _ hx _ _).1 this
    ·intro h i hi
     have key : ∀ y, y ∈ (swT (.mk k n s l)).kids → ∃ x, x ∈ l ∧ swT x = y := fun y hy => by
      rw [swT_kids, swK_mem, List.mem_map] at hy
      exact hy
     obtain ⟨x, hx, he⟩ := key _ (List.getElem_mem hi)
     obtain ⟨j, hj, rfl⟩ := List.getElem_of_mem hx
     rw [← he]
     exact (e _ hx _ _).2 (h j hj)
   ·have hk : (swT (.mk k n s l)).kids = l.map swT := by rw [swT_kids]; exact swK_no h3 _
    simp only [hk, List.getElem_map, zlm, inner_sw]
    exact ⟨fun h j hj => (ih _ (List.getElem_mem hj) _ _ _).1 (h j hj), fun h j hj => (ih _ (List.getElem_mem hj) _ _ _).2 (h j hj)⟩
mutual
theorem vis_same (p : Pg) (pr : Int) : ∀ (t : Tr) (path : List Int) (vs : List Vd), visF (swP p) pr t path vs = visF p pr t path vs
 | .mk k n s l, path, vs => by rw [visF, visF, args_same p pr _ path vs l 0, visL_same p pr (.mk k n s l) path vs l 0, sfault']
theorem visL_same (p : Pg) (pr : Int) (t : Tr) (path : List Int) (vs : List Vd) : ∀ (l : List Tr) (i : Nat), visL (swP p) pr t path vs l i = visL p pr t path vs l i
 | [], _ => rfl
 | x :: r, i => by rw [visL, visL, vis_same p pr x, visL_same p pr t path vs r (i + 1)]
theorem args_same (p : Pg) (pr : Int) (t : Tr) (path : List Int) (vs : List Vd) : ∀ (l : List Tr) (i : Nat), argsF (swP p) pr t path vs l i = argsF p pr t path vs l i
 | [], _ => rfl
 | x :: r, i => by rw [argsF, argsF, args_same p pr t path vs r (i + 1)]; rfl
end
theorem procs_same (p : Pg) : ∀ (l : List Pr) (i : Nat), procsF (swP p) l i = procsF p l i
 | [], _ => rfl
 | q :: r, i => by rw [procsF, procsF, procs_same p r (i + 1), procF, procF, vis_same]; rfl
theorem checkF_sw (p : Pg) : checkF (swP p) = [] ↔ checkF p = [] := by
 unfold checkF
 rw [List.append_eq_nil_iff, List.append_eq_nil_iff, List.append_eq_nil_iff, List.append_eq_nil_iff]
 show vrF (-1) true p.vars p.vars 0 = [] ∧ procsF (swP p) p.procs 0 = [] ∧ visF (swP p) p.procs.length (swT p.main) [] p.vars = [] ↔ _
 rw [procs_same, vis_sw p p.procs.length p.main [] [] p.vars]

theorem mentEs_sn (s : ByteArray) : ∀ c : List Tr, mentEs s c = c.any (mentE s)
 | [] => rfl
 | t :: r => by simp only [mentEs, List.any_cons, mentEs_sn s r]
theorem rejT_sn {t : Tr} (h : t.kind < 40 ∨ 56 < t.kind) : rejT t = (emS, 0) := by
 unfold rejT
 rw [if_neg (by omega), if_neg (by omega), if_neg (by omega), if_neg (by omega), if_neg (by omega), if_neg (by omega), if_neg (by omega), if_neg (by omega)]
/-- rejections without their names -/
def clr (f : Ft) : Ft := ⟨f.proc, f.path, f.err, emS⟩
mutual
theorem ment_sw (s : ByteArray) : ∀ t, mentE s (swT t) = mentE s t
 | .mk k n nm l => by
  have h := ments_sw s l
  rw [mentEs_sn, mentEs_sn] at h
  simp only [swT, mentE, mentEs_sn, swK_any, h]
theorem ments_sw (s : ByteArray) : ∀ l, mentEs s (swL l) = mentEs s l
 | [] => rfl
 | t :: r => by rw [swL, mentEs, mentEs, ment_sw s t, ments_sw s r]
end
theorem swT_noT : swT noT = noT := by
 unfold noT
 simp [swT, swL, swK]
theorem kid_sw {t : Tr} (h : ¬ t.kind = 43) (i : Nat) : kidN (swT t) i = swT (kidN t i) := by
 unfold kidN
 rw [swT_kids, swK_no h, List.getElem?_map]
 cases t.kids[i]? with
 | none => exact swT_noT.symm
 | some x => rfl
theorem idxE_sw (t : Tr) (s : ByteArray) : idxE (swT t) s = idxE t s := by
 unfold idxE
 rw [swT_kind]
 by_cases h : t.kind = 3
 ·rw [kid_sw (by omega), ment_sw]
 ·have : (t.kind == 3) = false := by simpa using h
  simp only [this, Bool.false_and]
theorem al1_sw (t : Tr) : ∀ l, al1 (swT t) l = al1 t l
 | [] => rfl
 | s :: r => by rw [al1, al1, idxE_sw, al1_sw t r]
theorem al2_sw (nm : List ByteArray) : ∀ l : List Tr, al2 (l.map swT) nm = al2 l nm
 | [] => rfl
 | t :: r => by rw [zmc, al2, al2, al1_sw, al2_sw nm r]
theorem hasN_sw (l : List Tr) (s : ByteArray) : hasN (l.map swT) s = hasN l s := by
 unfold hasN
 rw [List.any_map]; congr 1; funext x; simp only [Function.comp, swT_name]
theorem dup_sw (l : List Tr) : ∀ n i, dupN (l.map swT) i n = dupN l i n
 | 0, _ => rfl
 | n + 1, i => by
  have ih := dup_sw l n (i + 1)
  simp only [dupN, List.getElem?_map, ← List.map_take, hasN_sw, ih]
  cases l[i]? with
  | none => rfl
  | some x => simp only [zmo, swT_name]
mutual
theorem sw_id : ∀ t, exprB t = true → swT t = t
 | .mk k n s l, h => by
  have hk : ¬ k = 43 := fun q => by
   unfold exprB at h
   rw [if_neg (by omega), if_neg (by omega), if_neg (by omega), if_neg (by omega), if_neg (by omega)] at h
   cases h
  rw [swT, swK_no hk, sws_id l (by
   have := (expr_parts h).2.1
   exact this)]
theorem sws_id : ∀ l, exprsB l = true → swL l = l
 | [], _ => rfl
 | t :: r, h => by
  simp only [exprsB, zat] at h
  rw [swL, sw_id t h.1, sws_id r h.2]
end
theorem const_sw (t : Tr) : constT (swT t) = constT t := by
 by_cases h : exprB t = true
 ·rw [sw_id t h]
 ·have h2 : ¬ exprB (swT t) = true := by rw [expr_sw]; exact h
  unfold constT
  rw [if_neg h, if_neg h2]
theorem nmE_err (o : Option ByteArray) : (nmE o).2 = if o.isSome = true then 8 else 0 := by cases o <;> rfl
theorem al1_some (t : Tr) : ∀ l, (al1 t l).isSome = l.any (idxE t)
 | [] => rfl
 | s :: r => by
  rw [al1, List.any_cons]
  cases h : idxE t s with
  | true => rfl
  | false => rw [if_neg (by decide), al1_some t r]; rfl
theorem al2_some (nm : List ByteArray) : ∀ l : List Tr, (al2 l nm).isSome = l.any (fun t => nm.any (idxE t))
 | [] => rfl
 | t :: r => by
  have h := al1_some t nm
  rw [al2, List.any_cons]
  cases q : al1 t nm with
  | some s => rw [q] at h; rw [← h]; rfl
  | none => rw [q] at h; rw [← h, al2_some nm r]; rfl
/-- the error of a node does not see the swap -/
theorem rej_sw (t : Tr) : (rejT (swT t)).2 = (rejT t).2 := by
 by_cases h3 : t.kind = 43
 ·have e1 : rejT t = nmE (al2 t.kids [(kidN t 0).name, (kidN t 1).name]) := by
   unfold rejT; rw [if_neg (by omega), if_neg (by omega), if_pos h3]
  have e2 : rejT (swT t) = nmE (al2 (swT t).kids [(kidN (swT t) 0).name, (kidN (swT t) 1).name]) := by
   unfold rejT; rw [swT_kind, if_neg (by omega), if_neg (by omega), if_pos h3]
  rw [e1, e2, nmE_err, nmE_err, al2_some, al2_some]
  have key : ∀ l : List Tr, t.kids = l → (swT t).kids.any (fun x => [(kidN (swT t) 0).name, (kidN (swT t) 1).name].any (idxE x)) = t.kids.any (fun x => [(kidN t 0).name, (kidN t 1).name].any (idxE x)) := by
   intro l hl
   have hs : (swT t).kids = swK 43 (l.map swT) := by rw [swT_kids, h3, hl]
   match l, hl, hs with
   | [], hl, hs => rw [hl, hs]; rfl
   | [a], hl, hs =>
    have hs' : (swT t).kids = [swT a] := hs
    simp only [kidN, hs', hl, List.any_cons, List.any_nil, idxE_sw, zg0, zg1, List.getElem?_nil, zgd, Option.getD_none, swT_name]
   | [a, b], hl, hs =>
    have hs' : (swT t).kids = [swT b, swT a] := hs
    simp only [kidN, hs', hl, List.any_cons, List.any_nil, idxE_sw, zg0, zg1, zgd, swT_name, Bool.or_false]
    generalize idxE b b.name = x1; generalize idxE b a.name = x2; generalize idxE a b.name = x3; generalize idxE a a.name = x4
    cases x1 <;> cases x2 <;> cases x3 <;> cases x4 <;> rfl
   | a :: b :: c :: r, hl, hs =>
    have hs' : (swT t).kids = (a :: b :: c :: r).map swT := hs
    rw [hs', hl, List.any_map]
    simp only [kidN, hs', hl, zmc, zg0, zg1, zgd, swT_name]
    congr 1
    funext x
    simp only [Function.comp, List.any_cons, List.any_nil, idxE_sw]
  rw [key t.kids rfl]
 ·have e : rejT (swT t) = rejT t := by
   unfold rejT
   simp only [kid_sw h3, swT_name, swT_kind, swT_len, idxE_sw, ment_sw, const_sw]
   rw [swT_kids, swK_no h3]
   simp only [al2_sw, dup_sw]
  rw [e]
/-- what is rejected, without names -/
def rejG (pr : Int) (x : List Int × Tr) : List Ft := rep pr x.1 (rejT x.2).2 emS
theorem rejG_clr (pr : Int) (x : List Int × Tr) : (rejF pr x).map clr = rejG pr x := by
 unfold rejF rejG rep
 split <;> rfl
theorem flat_clr (pr : Int) : ∀ l : List (List Int × Tr), (l.flatMap (rejF pr)).map clr = l.flatMap (rejG pr)
 | [] => rfl
 | x :: r => by rw [List.flatMap_cons, List.flatMap_cons, List.map_append, rejG_clr, flat_clr pr r]
theorem expr_none (pr : Int) {t : Tr} (h : exprB t = true) : ∀ (p : List Int), (walkL p t).flatMap (rejG pr) = [] := by
 induction t using Tr.ind with
 | h k n s l ih =>
  intro p
  have hk := expr_kind h
  have h0 : rejG pr (p, .mk k n s l) = [] := by
   unfold rejG
   rw [show rejT (p, Tr.mk k n s l).2 = (emS, 0) from rejT_sn (.inl hk)]
   rfl
  rw [walkL, List.flatMap_cons, h0, zna]
  have he := (expr_parts h).2.1
  rw [exprsB_all, List.all_eq_true] at he
  have key : ∀ (c : List Tr), (∀ x ∈ c, x ∈ l) → ∀ i, (walksL p i c).flatMap (rejG pr) = [] := by
   intro c
   induction c with
   | nil => intro _ i; rfl
   | cons x r ihc =>
    intro hc i
    have hx := hc x (by simp)
    rw [walksL, List.flatMap_append, ih x hx (he x hx), ihc (fun y hy => hc y (by simp [hy]))]; rfl
  exact key l (fun x hx => hx) 0
theorem walks_eq (pr : Int) (p : List Int) : ∀ (c : List Tr) (i : Nat), (∀ x ∈ c, ∀ q, (walkL q (swT x)).flatMap (rejG pr) = (walkL q x).flatMap (rejG pr)) → (walksL p i (c.map swT)).flatMap (rejG pr) = (walksL p i c).flatMap (rejG pr)
 | [], _, _ => rfl
 | x :: r, i, h => by
  rw [zmc, walksL, walksL, List.flatMap_append, List.flatMap_append, h x (by simp), walks_eq pr p r (i + 1) (fun y hy => h y (by simp [hy]))]
theorem walks_none (pr : Int) (p : List Int) : ∀ (c : List Tr) (i : Nat), (∀ x ∈ c, exprB x = true) → (walksL p i c).flatMap (rejG pr) = []
 | [], _, _ => rfl
 | x :: r, i, h => by
  rw [walksL, List.flatMap_append, expr_none pr (h x (by simp)), walks_none pr p r (i + 1) (fun y hy => h y (by simp [hy]))]; rfl
theorem swap_kids {n : Int} {s : ByteArray} {l : List Tr} (h : okN (.mk 43 n s l)) : ∀ x ∈ l, exprB x = true := by
 rcases h with h | h | h
 ·have := expr_kind h; simp only [Tr.kind] at this; omega
 ·have e : stmtB (.mk 43 n s l) = (plainB n s && catsB [1, 1] l) := by
   unfold stmtB
   rw [if_neg (by omega), if_pos rfl]
  rw [e, zat] at h
  match l, h.2 with
  | [], q => cases q
  | [_], q => simp [catsB] at q
  | [a, b], q =>
   simp only [catsB, placeB, zat] at q
   simp only [if_neg (show ¬ (1 : Nat) = 0 by decide), if_true, zat] at q
   intro x hx
   simp only [List.mem_cons, List.not_mem_nil, or_false] at hx
   rcases hx with rfl | rfl
   ·exact q.1.2
   ·exact q.2.1.2
  | _ :: _ :: _ :: _, q => simp [catsB] at q
 ·have := block_kind h; simp only [Tr.kind] at this; omega
theorem walk_sw (pr : Int) {t : Tr} : okN t → ∀ p : List Int, (walkL p (swT t)).flatMap (rejG pr) = (walkL p t).flatMap (rejG pr) := by
 induction t using Tr.ind with
 | h k n s l ih =>
  intro ho p
  have h0 : rejG pr (p, swT (.mk k n s l)) = rejG pr (p, .mk k n s l) := by
   unfold rejG; simp only [rej_sw]
  have hsw : swT (.mk k n s l) = .mk k n s (swK k (l.map swT)) := by rw [swT, swL_map]
  rw [hsw] at h0 ⊢
  rw [walkL, walkL, List.flatMap_cons, List.flatMap_cons, h0]
  congr 1
  by_cases h3 : k = 43
  ·subst h3
   have he := swap_kids ho
   rw [walks_none pr p l 0 he, walks_none pr p _ 0 (fun x hx => by
    rw [swK_mem, List.mem_map] at hx
    obtain ⟨y, hy, rfl⟩ := hx
    rw [expr_sw]; exact he y hy)]
  ·rw [swK_no h3]
   exact walks_eq pr p l 0 fun x hx q => ih x hx (okN_kids ho x hx) q
theorem bodyF_clr (pr : Int) {t : Tr} (h : okN t) : (bodyF pr (swT t)).map clr = (bodyF pr t).map clr := by
 unfold bodyF
 rw [flat_clr, flat_clr, walk_sw pr h]
theorem chkF_sw (p : Pg) : (chkF (swP p)).map clr = (chkF p).map clr := by
 unfold chkF
 rw [valid_sw]
 by_cases hv : validB p = true ∧ checkF p = []
 ·rw [if_pos hv, if_pos ⟨hv.1, (checkF_sw p).2 hv.2⟩]
  show (rejsF p.procs 0 ++ bodyF (-1) (swT p.main)).map clr = _
  have hb : okN p.main := by
   have h := hv.1
   simp only [validB, bodyB, zat] at h
   exact .inr (.inr h.2.2)
  rw [List.map_append, List.map_append, bodyF_clr (-1) hb]
 ·rw [if_neg hv, if_neg (fun h => hv ⟨h.1, (checkF_sw p).1 h.2⟩)]

end Go.Proofs.Ytmglacjcefajlaa
