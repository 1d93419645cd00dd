import Derived.Test.YtmglacjcefajlaaCk0
/- The law CheckerUpdates: plain facts. -/
namespace Go.Proofs.Ytmglacjcefajlaa
open Go.RowKit

/-- an update -/
def updK (k : Int) : Bool := k == 40 || k == 41 || k == 42
mutual
def trT (c : Int) : Tr → Tr
 | .mk k n s l => .mk (if updK k = true then c else k) n s (trL c l)
def trL (c : Int) : List Tr → List Tr
 | [] => []
 | t :: r => trT c t :: trL c r
end
def trQ (c : Int) (q : Pr) : Pr := ⟨q.name, q.params, trT c q.body⟩
def trP (c : Int) (p : Pg) : Pg := ⟨p.vars, p.procs.map (trQ c), trT c p.main⟩
theorem upd_rng {k : Int} (h : updK k = true) : 40 ≤ k ∧ k ≤ 42 := by
 simp only [updK, Bool.or_eq_true, beq_iff_eq] at h; omega
section
variable {c : Int}
theorem trL_map : ∀ l : List Tr, trL c l = l.map (trT c)
 | [] => rfl
 | t :: r => by rw [trL, trL_map r]; rfl
theorem trT_kind (t : Tr) : (trT c t).kind = if updK t.kind = true then c else t.kind := by cases t; rfl
theorem trT_num (t : Tr) : (trT c t).num = t.num := by cases t; rfl
theorem trT_name (t : Tr) : (trT c t).name = t.name := by cases t; rfl
theorem trT_kids (t : Tr) : (trT c t).kids = t.kids.map (trT c) := by cases t; simp only [trT, Tr.kids, trL_map]
theorem kid_tr (t : Tr) (i : Nat) : kidN (trT c t) i = trT c (kidN t i) := by
 unfold kidN
 rw [trT_kids, List.getElem?_map]
 cases t.kids[i]? with
 | none => rfl
 | some x => rfl
/-- a test of the kind that no update passes sees no difference -/
theorem kind_eq (hc : updK c = true) {a : Int} (ha : a < 40 ∨ 42 < a) (k : Int) : ((if updK k = true then c else k) = a) = (k = a) := by
 have hr := upd_rng hc
 by_cases h : updK k = true
 ·have hk := upd_rng h
  rw [if_pos h]
  exact propext ⟨fun e => by omega, fun e => by omega⟩
 ·rw [if_neg h]
theorem kind_upd (hc : updK c = true) (k : Int) : ((if updK k = true then c else k) = 40 ∨ (if updK k = true then c else k) = 41 ∨ (if updK k = true then c else k) = 42) = (k = 40 ∨ k = 41 ∨ k = 42) := by
 have hr := upd_rng hc
 by_cases h : updK k = true
 ·have hk := upd_rng h
  rw [if_pos h]
  exact propext ⟨fun _ => by omega, fun _ => by omega⟩
 ·rw [if_neg h]
theorem kind_beq (hc : updK c = true) {a : Int} (ha : a < 40 ∨ 42 < a) (k : Int) : ((if updK k = true then c else k) == a) = (k == a) := by
 have := kind_eq hc ha k
 by_cases h : k = a
 ·rw [beq_iff_eq.2 h, beq_iff_eq.2 (this.mpr h)]
 ·rw [beq_eq_false_iff_ne.2 h, beq_eq_false_iff_ne.2 (fun e => h (this.mp e))]
mutual
theorem expr_tr (hc : updK c = true) : ∀ t, exprB (trT c t) = exprB t
 | .mk k n s l => by
  have h1 := exprs_tr hc l
  have hl : (trL c l).length = l.length := by rw [trL_map, zlm]
  by_cases h : updK k = true
  ·have hr := upd_rng hc
   have hk := upd_rng h
   have e : ∀ (x : Int) (m : Int) (w : ByteArray) (q : List Tr), 40 ≤ x → exprB (.mk x m w q) = false := fun x m w q hx => by
    unfold exprB
    rw [if_neg (by omega), if_neg (by omega), if_neg (by omega), if_neg (by omega), if_neg (by omega)]
   rw [trT, if_pos h, e c n s _ (by omega), e k n s l (by omega)]
  ·rw [trT, if_neg h]
   simp only [exprB, lenB, hl, h1]
theorem exprs_tr (hc : updK c = true) : ∀ l, exprsB (trL c l) = exprsB l
 | [] => rfl
 | t :: r => by rw [trL, exprsB, exprsB, expr_tr hc t, exprs_tr hc r]
end
theorem place_tr (hc : updK c = true) (t : Tr) : placeB (trT c t) = placeB t := by
 unfold placeB
 rw [expr_tr hc, trT_kind, kind_beq hc (by omega), kind_beq hc (by omega)]
theorem var_tr (hc : updK c = true) (t : Tr) : varB (trT c t) = varB t := by
 unfold varB
 rw [expr_tr hc, trT_kind, kind_beq hc (by omega)]
mutual
theorem stmt_tr (hc : updK c = true) : ∀ t, stmtB (trT c t) = stmtB t
 | .mk k n s l => by
  have h1 := fun xs => cats_tr hc xs l
  have hl : (trL c l).length = l.length := by rw [trL_map, zlm]
  by_cases h : updK k = true
  ·have hr := upd_rng hc
   have hk := upd_rng h
   have e : ∀ (x : Int) (m : Int) (w : ByteArray) (q : List Tr), 40 ≤ x → x ≤ 42 → stmtB (.mk x m w q) = (plainB m w && catsB [1, 0] q) := fun x m w q h1 h2 => by
    unfold stmtB
    rw [if_pos (by omega)]
   rw [trT, if_pos h, e c n s _ (by omega) (by omega), e k n s l (by omega) (by omega), h1]
  ·rw [trT, if_neg h]
   simp only [stmtB, hl, h1]
theorem block_tr (hc : updK c = true) : ∀ t, blockB (trT c t) = blockB t
 | .mk k n s l => by
  have h1 := stmts_tr hc l
  simp only [trT, blockB, h1, kind_beq hc (show (57 : Int) < 40 ∨ 42 < (57 : Int) from .inr (by omega))]
theorem cats_tr (hc : updK c = true) : ∀ xs l, catsB xs (trL c l) = catsB xs l
 | [], [] => rfl
 | [], _ :: _ => by rw [trL, catsB, catsB]
 | _ :: _, [] => rfl
 | x :: xs, t :: ts => by
  have h1 := cats_tr hc xs ts
  have h2 := block_tr hc t
  rw [trL, catsB, catsB, h1, h2, expr_tr hc, place_tr hc, var_tr hc]
theorem stmts_tr (hc : updK c = true) : ∀ l, stmtsB (trL c l) = stmtsB l
 | [] => rfl
 | t :: r => by rw [trL, stmtsB, stmtsB, stmt_tr hc t, stmts_tr hc r]
end
mutual
theorem size_tr : ∀ t : Tr, (trT c t).size = t.size ∧ (trT c t).depth = t.depth
 | .mk k n s l => by
  have h := sizes_tr l
  simp only [trT, Tr.size, Tr.depth, h.1, h.2]; exact ⟨trivial, trivial⟩
theorem sizes_tr : ∀ l : List Tr, Tr.sizes (trL c l) = Tr.sizes l ∧ Tr.depths (trL c l) = Tr.depths l
 | [] => ⟨rfl, rfl⟩
 | t :: r => by
  have h := size_tr t
  have h2 := sizes_tr r
  simp only [trL, Tr.sizes, Tr.depths, h.1, h.2, h2.1, h2.2]; exact ⟨trivial, trivial⟩
end
theorem body_tr (hc : updK c = true) (t : Tr) : bodyB (trT c t) = bodyB t := by simp only [bodyB, (size_tr t).1, (size_tr t).2, block_tr hc]
theorem valid_tr (hc : updK c = true) (p : Pg) : validB (trP c p) = validB p := by
 have h1 : (p.procs.map (trQ c)).all procB = p.procs.all procB := by
  rw [List.all_map]; congr 1; funext q; simp only [Function.comp, procB, trQ, body_tr hc]; rfl
 simp only [validB, trP, zlm, h1, body_tr hc]; rfl
theorem idx_tr (l : List Pr) (s : ByteArray) : ∀ (n i : Nat), idxN (l.map (trQ c)) s i n = idxN l s i n
 | 0, _ => rfl
 | n + 1, i => by
  have ih := idx_tr l s n (i + 1)
  simp only [idxN, List.getElem?_map]
  cases l[i]? with
  | none => rfl
  | some q => simp only [zmo, trQ, ih]
theorem procI_tr (p : Pg) (s : ByteArray) : procI (trP c p) s = procI p s := by
 unfold procI trP
 rw [zlm, idx_tr]
theorem prm_tr (p : Pg) (s : ByteArray) : prmN (trP c p) s = prmN p s := by
 unfold prmN
 rw [procI_tr]
 simp only [trP, List.getElem?_map]
 cases p.procs[(procI p s).toNat]? <;> rfl
theorem fault_tr (hc : updK c = true) (p : Pg) (t : Tr) (vs : List Vd) : faultE (trP c p) (trT c t) vs = faultE p t vs := by
 have hl : (trT c t).kids.length = t.kids.length := by rw [trT_kids, zlm]
 have e : ∀ a : Int, (a < 40 ∨ 42 < a) → ((trT c t).kind = a) = (t.kind = a) := fun a ha => by rw [trT_kind]; exact kind_eq hc ha _
 simp only [faultE, trT_name, hl, procI_tr, prm_tr, e 2 (by omega), e 3 (by omega), e 4 (by omega), e 5 (by omega), e 44 (by omega), e 45 (by omega), e 54 (by omega), e 55 (by omega), e 50 (by omega), e 51 (by omega)]
theorem arg_tr (p : Pg) (t : Tr) (i : Nat) (vs : List Vd) : argE (trP c p) (trT c t) i vs = argE p t i vs := by
 have hl : (trT c t).kids.length = t.kids.length := by rw [trT_kids, zlm]
 unfold argE
 rw [trT_kids, List.getElem?_map]
 cases t.kids[i]? with
 | none => rfl
 | some x => simp only [zmo, trT_name, zlm, procI_tr, prm_tr]
theorem inner_tr (hc : updK c = true) (t : Tr) (i : Int) (vs : List Vd) : innerV (trT c t) i vs = innerV t i vs := by
 have e : ∀ a : Int, (a < 40 ∨ 42 < a) → ((trT c t).kind = a) = (t.kind = a) := fun a ha => by rw [trT_kind]; exact kind_eq hc ha _
 simp only [innerV, trT_name, e 54 (by omega), e 55 (by omega)]
theorem args_tr (p : Pg) (pr : Int) (t : Tr) (path : List Int) (vs : List Vd) : ∀ (l : List Tr) (i : Nat), argsF (trP c p) pr (trT c t) path vs (trL c l) i = argsF p pr t path vs l i
 | [], _ => rfl
 | x :: r, i => by rw [trL, argsF, argsF, args_tr p pr t path vs r (i + 1), arg_tr, trT_name]
mutual
theorem vis_tr (hc : updK c = true) (p : Pg) (pr : Int) : ∀ (t : Tr) (path : List Int) (vs : List Vd), visF (trP c p) pr (trT c t) path vs = visF p pr t path vs
 | .mk k n s l, path, vs => by
  have e : ∀ a : Int, (a < 40 ∨ 42 < a) → ((trT c (.mk k n s l)).kind = a) = ((Tr.mk k n s l).kind = a) := fun a ha => by rw [trT_kind]; exact kind_eq hc ha _
  have hk : (trT c (.mk k n s l)).kids = trL c l := by rw [trT_kids, trL_map]; rfl
  rw [visF_eq, visF_eq, fault_tr hc, trT_name, hk, args_tr]
  simp only [e 50 (by omega), e 51 (by omega)]
  rw [visL_tr hc p pr (.mk k n s l) path vs l 0]
  rfl
theorem visL_tr (hc : updK c = true) (p : Pg) (pr : Int) (t : Tr) (path : List Int) (vs : List Vd) : ∀ (l : List Tr) (i : Nat), visL (trP c p) pr (trT c t) path vs (trL c l) i = visL p pr t path vs l i
 | [], _ => rfl
 | x :: r, i => by rw [trL, visL, visL, inner_tr hc, vis_tr hc p pr x, visL_tr hc p pr t path vs r (i + 1)]
end
theorem procs_tr (hc : updK c = true) (p : Pg) : ∀ (l : List Pr) (i : Nat), procsF (trP c p) (l.map (trQ c)) i = procsF p l i
 | [], _ => rfl
 | q :: r, i => by
  rw [zmc, procsF, procsF, procs_tr hc p r (i + 1), procF, procF, procI_tr]
  show _ ++ (vrF i false q.params q.params 0 ++ visF (trP c p) i (trT c q.body) [] q.params) ++ _ = _
  rw [vis_tr hc]; rfl
theorem checkF_tr (hc : updK c = true) (p : Pg) : checkF (trP c p) = checkF p := by
 unfold checkF
 show vrF (-1) true p.vars p.vars 0 ++ (procsF (trP c p) (p.procs.map (trQ c)) 0 ++ visF (trP c p) ((p.procs.map (trQ c)).length) (trT c p.main) [] p.vars) = _
 rw [procs_tr hc, vis_tr hc, zlm]
mutual
theorem ment_tr (hc : updK c = true) (s : ByteArray) : ∀ t, mentE s (trT c t) = mentE s t
 | .mk k n nm l => by
  have h := ments_tr hc s l
  simp only [trT, mentE, h, kind_beq hc (show (2 : Int) < 40 ∨ 42 < (2 : Int) from .inl (by omega)), kind_beq hc (show (3 : Int) < 40 ∨ 42 < (3 : Int) from .inl (by omega)), kind_beq hc (show (4 : Int) < 40 ∨ 42 < (4 : Int) from .inl (by omega)), kind_beq hc (show (5 : Int) < 40 ∨ 42 < (5 : Int) from .inl (by omega))]
theorem ments_tr (hc : updK c = true) (s : ByteArray) : ∀ l, mentEs s (trL c l) = mentEs s l
 | [] => rfl
 | t :: r => by rw [trL, mentEs, mentEs, ment_tr hc s t, ments_tr hc s r]
end
theorem idxE_tr (hc : updK c = true) (t : Tr) (s : ByteArray) : idxE (trT c t) s = idxE t s := by
 unfold idxE
 rw [kid_tr, ment_tr hc, trT_kind, kind_beq hc (by omega)]
theorem al1_tr (hc : updK c = true) (t : Tr) : ∀ l, al1 (trT c t) l = al1 t l
 | [] => rfl
 | s :: r => by rw [al1, al1, idxE_tr hc, al1_tr hc t r]
theorem al2_tr (hc : updK c = true) (nm : List ByteArray) : ∀ l : List Tr, al2 (l.map (trT c)) nm = al2 l nm
 | [] => rfl
 | t :: r => by rw [zmc, al2, al2, al1_tr hc, al2_tr hc nm r]
theorem hasN_tr (l : List Tr) (s : ByteArray) : hasN (l.map (trT c)) s = hasN l s := by
 unfold hasN
 rw [List.any_map]; congr 1; funext x; simp only [Function.comp, trT_name]
theorem dup_tr (l : List Tr) : ∀ n i, dupN (l.map (trT c)) i n = dupN l i n
 | 0, _ => rfl
 | n + 1, i => by
  have ih := dup_tr l n (i + 1)
  simp only [dupN, List.getElem?_map, ← List.map_take, hasN_tr, ih]
  cases l[i]? with
  | none => rfl
  | some x => simp only [zmo, trT_name]
mutual
theorem tr_id : ∀ t, exprB t = true → trT c t = t
 | .mk k n s l, h => by
  have hk : ¬ updK k = true := fun q => by
   have := upd_rng q
   unfold exprB at h
   rw [if_neg (by omega), if_neg (by omega), if_neg (by omega), if_neg (by omega), if_neg (by omega)] at h
   cases h
  rw [trT, if_neg hk, trs_id l (by rw [exprsB_all, List.all_eq_true]; exact expr_kids h)]
theorem trs_id : ∀ l, exprsB l = true → trL c l = l
 | [], _ => rfl
 | t :: r, h => by
  simp only [exprsB, zat] at h
  rw [trL, tr_id t h.1, trs_id r h.2]
end
theorem const_tr (hc : updK c = true) (t : Tr) : constT (trT c t) = constT t := by
 by_cases h : exprB t = true
 ·rw [tr_id t h]
 ·have h2 : ¬ exprB (trT c t) = true := by rw [expr_tr hc]; exact h
  unfold constT
  rw [if_neg h, if_neg h2]
theorem rej_tr (hc : updK c = true) (t : Tr) : rejT (trT c t) = rejT t := by
 have e : ∀ a : Int, (a < 40 ∨ 42 < a) → ((trT c t).kind = a) = (t.kind = a) := fun a ha => by rw [trT_kind]; exact kind_eq hc ha _
 have e3 : ((trT c t).kind = 40 ∨ (trT c t).kind = 41 ∨ (trT c t).kind = 42) = (t.kind = 40 ∨ t.kind = 41 ∨ t.kind = 42) := by rw [trT_kind]; exact kind_upd hc _
 have hl : (trT c t).kids.length = t.kids.length := by rw [trT_kids, zlm]
 unfold rejT
 rw [hl]
 simp only [kid_tr, trT_name, idxE_tr hc, ment_tr hc, const_tr hc]
 rw [trT_kids]
 simp only [al2_tr hc, dup_tr, e3, e 56 (by omega), e 43 (by omega), e 44 (by omega), e 45 (by omega), e 46 (by omega), e 47 (by omega), e 48 (by omega), e 49 (by omega), e 50 (by omega), e 51 (by omega), e 52 (by omega), e 53 (by omega)]
mutual
theorem walk_tr (f : List Int × Tr → List Ft) (hf : ∀ p t, f (p, trT c t) = f (p, t)) : ∀ (t : Tr) (p : List Int), (walkL p (trT c t)).flatMap f = (walkL p t).flatMap f
 | .mk k n s l, p => by
  have h := walks_tr f hf l p 0
  have h0 := hf p (.mk k n s l)
  simp only [trT] at h0 ⊢
  simp only [walkL, List.flatMap_cons, h, h0]
theorem walks_tr (f : List Int × Tr → List Ft) (hf : ∀ p t, f (p, trT c t) = f (p, t)) : ∀ (l : List Tr) (p : List Int) (i : Nat), (walksL p i (trL c l)).flatMap f = (walksL p i l).flatMap f
 | [], _, _ => rfl
 | t :: r, p, i => by simp only [trL, walksL, List.flatMap_append, walk_tr f hf t, walks_tr f hf r]
end
theorem bodyF_tr (hc : updK c = true) (pr : Int) (t : Tr) : bodyF pr (trT c t) = bodyF pr t := walk_tr (rejF pr) (fun p t => by simp only [rejF, rej_tr hc]) t []
theorem rejsF_tr (hc : updK c = true) : ∀ (l : List Pr) (i : Nat), rejsF (l.map (trQ c)) i = rejsF l i
 | [], _ => rfl
 | q :: r, i => by
  rw [zmc, rejsF, rejsF, rejsF_tr hc r (i + 1)]
  show bodyF i (trT c q.body) ++ _ = _
  rw [bodyF_tr hc]
theorem chkF_tr (hc : updK c = true) (p : Pg) : chkF (trP c p) = chkF p := by
 unfold chkF
 rw [valid_tr hc, checkF_tr hc]
 show (if _ then rejsF (p.procs.map (trQ c)) 0 ++ bodyF (-1) (trT c p.main) else []) = _
 rw [rejsF_tr hc, bodyF_tr hc]
end
end Go.Proofs.Ytmglacjcefajlaa
