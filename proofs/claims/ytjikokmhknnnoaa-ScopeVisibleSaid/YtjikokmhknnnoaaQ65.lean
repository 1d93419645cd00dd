/- The law ScopeVisible: its walk. -/
import Derived.Test.YtjikokmhknnnoaaVs2
namespace Go.Proofs.Ytjikokmhknnnoaa
open Go.RowKit

theorem awake_ok : fn EV 12 [] = some (.bool true) := fn_of (n := 200) (by kernel_rfl)
theorem dN_inj {t u : Tr} (h : dN t = dN u) : t = u := by
 have := toTr_of t
 rw [h, toTr_of u] at this
 exact (Option.some.inj this).symm
theorem map_inj {α : Type} {f : α → D} (hf : ∀ a b, f a = f b → a = b) : ∀ (p q : List α), p.map f = q.map f → p = q
 | [], [], _ => rfl
 | [], _ :: _, h => by cases h
 | _ :: _, [], h => by cases h
 | a :: r, b :: q, h => by
  simp only [zmc, List.cons.injEq] at h
  rw [hf a b h.1, map_inj hf r q h.2]
theorem sl_inj {n : Nat} {l m : List D} (h : sl n l = sl n m) : l = m := by
 simp only [sl, D.slice.injEq] at h; exact h.2.2
theorem node_of {t u : Tr} (h1 : t.kind = u.kind) (h2 : t.num = u.num) (h3 : t.name = u.name) (h4 : t.kids = u.kids) : t = u := by
 cases t; cases u; simp only [Tr.kind, Tr.num, Tr.name, Tr.kids] at h1 h2 h3 h4; subst h1 h2 h3 h4; rfl
theorem dV_inj {a b : Vd} (h : dV a = dV b) : a = b := by
 cases a; cases b; simp only [dV, D.agg.injEq, List.cons.injEq, D.str.injEq, D.int.injEq, true_and, and_true] at h; obtain ⟨rfl, rfl, rfl⟩ := h; rfl
theorem dP_inj {a b : Pr} (h : dP a = dP b) : a = b := by
 simp only [dP, D.agg.injEq, List.cons.injEq, D.str.injEq, D.int.injEq, true_and, and_true] at h
 obtain ⟨h1, h2, h3, h4, h5, h6⟩ := h
 cases a; cases b
 simp only at h1 h2 h3 h4 h5 h6
 have e1 := map_inj (fun _ _ => dV_inj) _ _ (sl_inj h2)
 have e2 := node_of h3 h4 h5 (map_inj (fun _ _ => dN_inj) _ _ (sl_inj h6))
 rw [h1, e1, e2]
theorem dG_inj {a b : Pg} (h : dG a = dG b) : a = b := by
 simp only [dG, D.agg.injEq, List.cons.injEq, D.str.injEq, D.int.injEq, true_and, and_true] at h
 obtain ⟨h1, h2, h3, h4, h5, h6⟩ := h
 cases a; cases b
 simp only at h1 h2 h3 h4 h5 h6
 have e1 := map_inj (fun _ _ => dV_inj) _ _ (sl_inj h1)
 have e3 := map_inj (fun _ _ => dP_inj) _ _ (sl_inj h2)
 have e2 := node_of h3 h4 h5 (map_inj (fun _ _ => dN_inj) _ _ (sl_inj h6))
 rw [e1, e2, e3]
theorem visW_len : ∀ (l : List Int) (t : Tr) (vs w : List Vd), visW l t vs = some w → w.length ≤ vs.length + l.length
 | [], t, vs, w, h => by cases h; simp
 | i :: r, t, vs, w, h => by
  unfold visW at h
  split at h
  ·split at h
   ·have := visW_len r _ _ w h
    have := innerV_le t i vs
    simp only [zlc]; omega
   ·cases h
  ·cases h
theorem bdV_len {p : Pg} (hv : validB p = true) (q : Int) : (bdV p q).length ≤ 64 := by
 obtain ⟨bv, _, bq, _⟩ := valid_bd hv
 unfold bdV
 split
 ·have := (bq _ (List.getElem_mem (l := p.procs) (n := q.toNat) (by omega))).1; omega
 ·omega
theorem visA_is {p : Pg} (hv : validB p = true) (q : Int) (path : List Int) : ∃ (l : List Vd) (e : Int), visA p q path = .tup [sl 3 (l.map dV), .int .i64 e] ∧ l.length ≤ 64 + path.length := by
 unfold visA
 split
 ·cases h : visW path (bdT p q) (bdV p q) with
  | none => exact ⟨[], 21, rfl, by simp⟩
  | some w => exact ⟨w, 0, rfl, by have := visW_len _ _ _ _ h; have := bdV_len hv q; omega⟩
 ·exact ⟨[], 2, rfl, by simp⟩
def VisC : Nat → List D → D → Prop := fun k a d => k = 33 ∧ ∃ p q path, path.length ≤ 100000 ∧ a = [dG p, .int .i64 q, sl 1 (path.map dI)] ∧ d = (if validB p = true then visA p q path else visD 3 none)
theorem visA_u (p : Pg) (q : Int) (path : List Int) : (visA p q path).under 0 = true ∧ (visA p q path).strip = visA p q path := by
 unfold visA
 split
 ·exact ⟨visD_u _ _, visD_s _ _⟩
 ·exact ⟨visD_u _ _, visD_s _ _⟩
noncomputable def EVv : Env := EV.by VisC
theorem EVvP : EVv.P = Try.prog := rfl
theorem EVv_ok : EVv.Ok := by_ok EV_ok fun k a d h => by
 obtain ⟨hk, p, q, path, h1, ha, hd⟩ := h
 subst hk ha hd
 refine ⟨?_, ?_, vis_any p q path h1⟩
 ·split
  ·exact (visA_u p q path).1
  ·exact visD_u _ _
 ·split
  ·exact (visA_u p q path).2
  ·exact visD_s _ _
theorem vis_fv (p : Pg) (q : Int) (path : List Int) (h1 : path.length ≤ 100000) : fn EVv 33 [dG p, .int .i64 q, sl 1 (path.map dI)] = some (if validB p = true then visA p q path else visD 3 none) := by
 refine by_fn (by simp only [plain, List.all_cons, List.all_nil, sl_pl (f := dI) (fun _ _ => rfl), int_pl, dG_pl, Bool.and_true]) (by simp only [zmc, zmn, sl_strip (map_strip (f := dI) (fun _ => rfl) _), dG_strip, D.strip]) rfl rfl ⟨rfl, p, q, path, h1, rfl, rfl⟩ ?_
 rintro d' ⟨_, p', q', path', _, ha, rfl⟩
 simp only [List.cons.injEq, and_true] at ha
 obtain ⟨e1, e2, e3⟩ := ha
 cases e2
 rw [dG_inj e1, map_inj (fun a b h => by cases h; rfl) _ _ (sl_inj e3)]
theorem awake_v : fn EVv 12 [] = some (.bool true) := by_up awake_ok
set_option maxRecDepth 100000 in
set_option maxHeartbeats 4000000 in
theorem law5_ok (p : Pg) (q : Int) (path : List Int) (l : List Vd) (e : Int) (hv : validB p = true) (hA : visA p q path = .tup [sl 3 (l.map dV), .int .i64 e]) (hl : l.length ≤ 64 + path.length) : fn EVv 10 [dG p, .int .i64 q, sl 1 (path.map dI)] = some (.bool true) := by
 refine fn_X rfl Try.func10 rfl (by simp only [plain, List.all_cons, List.all_nil, sl_pl (f := dI) (fun _ _ => rfl), int_pl, dG_pl, Bool.and_true]) (rfl) (rfl) (rfl) ?_
 simp only [zmc, zmn, D.strip, sl_strip (map_strip (f := dI) (fun _ => rfl) _), dG_strip]
 simp only [enterSt, Try.ntmps10, zlc, zln, Nat.reduceAdd, Nat.reduceSub, zr1, zr0, zca, zna]
 refine X_seq ?_
 refine X_rg fun R hR => ?_
 simp only [aops, astep, awant, aeff, aop, ev, ofValue, St.put, zg0, zgd, zmo, if_true, zs1, zs0, zln, zna, sl, dG_cells, dG_good]
 with_reducible refine hR _ ?_
 clear hR R
 show X _ _ _ _
 refine X_seq ?_
 refine X_seq ?_
 refine X_rg fun R hR => ?_
 simp only [EVvP, aops, astep, awant, aeff, aop, ev, St.put, pcall, zmn, zg1, zg0, zgd, zmo, if_true, zs1, zs0, zna, Bool.not_true, any12, awake_v]
 with_reducible refine hR _ ?_
 clear hR R
 show X _ _ _ _
 refine X_false (by simp only [ev, zg1, zg0, zgd]) ?_
 refine X_skip ?_
 show X _ _ _ _
 refine X_seq ?_
 refine X_seq ?_
 refine X_y ?_
 refine Y_k 4 fun R hR => ?_
 simp only [EVvP, inr_i64, Int.reduceLE, Int.reduceNeg, aops, astep, awant, aeff, aop, abin, aint, ev, ofValue, St.put, zg1, zg0, zgd, zmo, if_true, zs1, zs0, zlm, zt1, zt0, and_self, und_int]
 with_reducible refine hR _ ?_
 clear hR R
 simp only [zd1, zd0]
 refine Y_if 16 (by simp only [ev, zg1, zg0, zgd]; exact rfl) ?_ ?_
 ·intro b1
  have c1 := b1
  try simp only [decide_eq_true_eq, gt_iff_lt] at c1
  refine Y_end fun R hR => ?_
  simp only [EVvP, inr_i64, Int.reduceLE, Int.reduceNeg, aops, astep, awant, aeff, aop, abin, ev, ofValue, St.put, zg1, zg0, zgd, zmo, Option.map_none, zbs, if_true, zs1, zs0, Nat.zero_add, Nat.add_zero, zft, if_false, and_self, reduceCtorEq, bq_tf, ty_s_api_VarDecl, ty_s_api_Proc, ty_api_Program, und_api_VarDecl, und_api_Proc, b1]
  with_reducible refine hR _ ?_
  clear hR R
  show X _ _ _ _
  refine X_true (by simp only [ev, zg1, zg0, zgd]) ?_
  refine X_seq ?_
  refine X_rg fun R hR => ?_
  simp only [aops, astep, awant, aeff, aop, ev, ofValue, St.put, zgd, zmo, if_true, zs1, zs0]
  with_reducible refine hR _ ?_
  clear hR R
  show X _ _ _ _
  refine X_ret ?_
  show resD _ _ _ = some _
  simp only [resD, resAll, resOne, resTup, Try.results10, EVvP, zg1, zg0, D.good, if_true, zmo] <;> (first | (rfl; done) | (simp_all; done) | (exfalso; simp_all; done))
 ·intro b2
  have c2 := b2
  try simp only [decide_eq_false_iff_not, Int.not_lt, gt_iff_lt] at c2
  refine Y_k 6 fun R hR => ?_
  simp only [EVvP, inr_i64, Int.reduceLE, Int.reduceNeg, aops, astep, awant, aeff, aop, abin, aint, mkD, ev, ofValue, St.put, ia_slice, zg1, zg0, zgd, zmo, zbs, if_true, zs1, zs0, zlm, zlc, zln, zd1, zd0, zt1, zt0, Nat.reduceAdd, Nat.reduceLeDiff, Nat.zero_add, zft, if_false, and_self, reduceCtorEq, beq_self_eq_true, ty_s_api_Proc, ty_api_Program, und_api_Proc, b2]
  with_reducible refine hR _ ?_
  clear hR R
  simp only [zd1, zd0]
  refine Y_if 22 (by simp only [ev, zg1, zg0, zgd]; exact rfl) ?_ ?_
  ·intro b3
   have c3 := b3
   try simp only [decide_eq_true_eq, gt_iff_lt] at c3
   refine Y_end fun R hR => ?_
   simp only [EVvP, inr_i64, Int.reduceLE, Int.reduceNeg, aops, astep, awant, aeff, aop, abin, ev, ofValue, St.put, zg1, zg0, zgd, zmo, Option.map_none, zbs, if_true, zs1, zs0, Nat.add_zero, zft, if_false, and_self, reduceCtorEq, bq_tf, ty_s_api_VarDecl, ty_api_Program, und_api_VarDecl, b3]
   with_reducible refine hR _ ?_
   clear hR R
   show X _ _ _ _
   refine X_true (by simp only [ev, zg1, zg0, zgd]) ?_
   refine X_seq ?_
   refine X_rg fun R hR => ?_
   simp only [aops, astep, awant, aeff, aop, ev, ofValue, St.put, zgd, zmo, if_true, zs1, zs0]
   with_reducible refine hR _ ?_
   clear hR R
   show X _ _ _ _
   refine X_ret ?_
   show resD _ _ _ = some _
   simp only [resD, resAll, resOne, resTup, Try.results10, EVvP, zg1, zg0, D.good, if_true, zmo] <;> (first | (rfl; done) | (simp_all; done) | (exfalso; simp_all; done))
  ·intro b4
   have c4 := b4
   try simp only [decide_eq_false_iff_not, Int.not_lt, gt_iff_lt] at c4
   refine Y_end fun R hR => ?_
   simp only [EVvP, inr_i64, Int.reduceLE, Int.reduceNeg, aops, astep, awant, aeff, aop, abin, aint, mkD, ev, ofValue, St.put, ia_slice, zg1, zg0, zgd, zmo, zbs, if_true, zs1, zs0, zlm, zlc, zln, zd0, zt1, zt0, Nat.reduceAdd, Nat.reduceLeDiff, Nat.zero_add, Nat.add_zero, zft, if_false, and_self, reduceCtorEq, beq_self_eq_true, ty_s_api_VarDecl, ty_api_Program, und_api_VarDecl, b4]
   with_reducible refine hR _ ?_
   clear hR R
   show X _ _ _ _
   refine X_ite (by simp only [ev, zg1, zg0, zgd]; exact rfl) ?_ ?_
   ·intro b5
    have c5 := b5
    try simp only [decide_eq_true_eq, gt_iff_lt] at c5
    refine X_seq ?_
    refine X_rg fun R hR => ?_
    simp only [aops, astep, awant, aeff, aop, ev, ofValue, St.put, zgd, zmo, if_true, zs1, zs0, b5]
    with_reducible refine hR _ ?_
    clear hR R
    show X _ _ _ _
    refine X_ret ?_
    show resD _ _ _ = some _
    simp only [resD, resAll, resOne, resTup, Try.results10, EVvP, zg1, zg0, D.good, if_true, zmo] <;> (first | (rfl; done) | (simp_all; done) | (exfalso; simp_all; done))
   ·intro b6
    have c6 := b6
    try simp only [decide_eq_false_iff_not, Int.not_lt, gt_iff_lt] at c6
    refine X_skip ?_
    show X _ _ _ _
    refine X_seq ?_
    have hpl : path.length ≤ 40 := by first | omega | (simp_all; done) | (simp_all; omega)
    have hvi := vis_fv p q path (by omega)
    rw [hv] at hvi
    rw [if_pos rfl, hA] at hvi
    simp only [sl] at hvi
    refine X_rg fun R hR => ?_
    simp only [EVvP, aops, astep, awant, aeff, aop, mkD, ev, St.put, pcall, zmc, zmn, zg1, zg0, zgd, zmo, if_true, zs1, zs0, zlc, zln, zd0, zt1, zt0, zca, zna, Nat.reduceAdd, Nat.reduceLeDiff, Nat.zero_add, ty_api_Program, any33, dG_agg, b6, hvi]
    with_reducible refine hR _ ?_
    clear hR R
    show X _ _ _ _
    refine X_seq ?_
    refine X_seq ?_
    have hva : fn EVv _ _ = _ := by_up (valid_fn p)
    rw [hv] at hva
    refine X_rg fun R hR => ?_
    simp only [EVvP, aops, astep, awant, aeff, aop, mkD, ev, St.put, pcall, zmc, zmn, zg1, zg0, zgd, zmo, if_true, zs1, zs0, zlc, zln, zd0, zt1, zt0, zca, zna, Nat.reduceAdd, Nat.reduceLeDiff, Nat.zero_add, Bool.not_true, ty_api_Program, any17, dG_agg, hva]
    with_reducible refine hR _ ?_
    clear hR R
    show X _ _ _ _
    refine X_false (by simp only [ev, zg1, zg0, zgd]) ?_
    refine X_skip ?_
    show X _ _ _ _
    refine X_seq ?_
    have hrv : fn EVv _ _ = _ := by_up (rvis_fn p q path hv (by omega))
    rw [hA] at hrv
    simp only [sl] at hrv
    refine X_rg fun R hR => ?_
    simp only [EVvP, aops, astep, awant, aeff, aop, mkD, ev, St.put, pcall, zmc, zmn, zg1, zg0, zgd, zmo, if_true, zs1, zs0, zlc, zln, zd0, zt1, zt0, zca, zna, Nat.reduceAdd, Nat.reduceLeDiff, Nat.zero_add, ty_api_Program, any34, dG_agg, hrv]
    with_reducible refine hR _ ?_
    clear hR R
    show X _ _ _ _
    refine X_seq ?_
    have hdc : fn EVv _ _ = _ := by_up (decls_fn l (by omega))
    simp only [sl] at hdc
    refine X_rg fun R hR => ?_
    simp only [EVvP, aops, astep, awant, aeff, aop, abin, aint, ev, ofValue, St.put, pcall, zmc, zmn, zg1, zg0, zgd, zmo, zbs, if_true, zs1, zs0, zca, zna, beq_self_eq_true, any35, hdc, beq_self_eq_true]
    with_reducible refine hR _ ?_
    clear hR R
    show X _ _ _ _
    refine X_ret ?_
    show resD _ _ _ = some _
    simp only [resD, resAll, resOne, resTup, Try.results10, EVvP, zg1, zg0, D.good, if_true, zmo] <;> (first | (rfl; done) | (simp_all; done) | (exfalso; simp_all; done))
set_option maxRecDepth 100000 in
set_option maxHeartbeats 4000000 in
theorem law5_bad (p : Pg) (q : Int) (path : List Int) (hv : validB p = false) : fn EVv 10 [dG p, .int .i64 q, sl 1 (path.map dI)] = some (.bool true) := by
 refine fn_X rfl Try.func10 rfl (by simp only [plain, List.all_cons, List.all_nil, sl_pl (f := dI) (fun _ _ => rfl), int_pl, dG_pl, Bool.and_true]) (rfl) (rfl) (rfl) ?_
 simp only [zmc, zmn, D.strip, sl_strip (map_strip (f := dI) (fun _ => rfl) _), dG_strip]
 simp only [enterSt, Try.ntmps10, zlc, zln, Nat.reduceAdd, Nat.reduceSub, zr1, zr0, zca, zna]
 refine X_seq ?_
 refine X_rg fun R hR => ?_
 simp only [aops, astep, awant, aeff, aop, ev, ofValue, St.put, zg0, zgd, zmo, if_true, zs1, zs0, zln, zna, sl, dG_cells, dG_good]
 with_reducible refine hR _ ?_
 clear hR R
 show X _ _ _ _
 refine X_seq ?_
 refine X_seq ?_
 refine X_rg fun R hR => ?_
 simp only [EVvP, aops, astep, awant, aeff, aop, ev, St.put, pcall, zmn, zg1, zg0, zgd, zmo, if_true, zs1, zs0, zna, Bool.not_true, any12, awake_v]
 with_reducible refine hR _ ?_
 clear hR R
 show X _ _ _ _
 refine X_false (by simp only [ev, zg1, zg0, zgd]) ?_
 refine X_skip ?_
 show X _ _ _ _
 refine X_seq ?_
 refine X_seq ?_
 refine X_y ?_
 refine Y_k 4 fun R hR => ?_
 simp only [EVvP, inr_i64, Int.reduceLE, Int.reduceNeg, aops, astep, awant, aeff, aop, abin, aint, ev, ofValue, St.put, zg1, zg0, zgd, zmo, if_true, zs1, zs0, zlm, zt1, zt0, and_self, und_int]
 with_reducible refine hR _ ?_
 clear hR R
 simp only [zd1, zd0]
 refine Y_if 16 (by simp only [ev, zg1, zg0, zgd]; exact rfl) ?_ ?_
 ·intro b1
  have c1 := b1
  try simp only [decide_eq_true_eq, gt_iff_lt] at c1
  refine Y_end fun R hR => ?_
  simp only [EVvP, inr_i64, Int.reduceLE, Int.reduceNeg, aops, astep, awant, aeff, aop, abin, ev, ofValue, St.put, zg1, zg0, zgd, zmo, Option.map_none, zbs, if_true, zs1, zs0, Nat.zero_add, Nat.add_zero, zft, if_false, and_self, reduceCtorEq, bq_tf, ty_s_api_VarDecl, ty_s_api_Proc, ty_api_Program, und_api_VarDecl, und_api_Proc, b1]
  with_reducible refine hR _ ?_
  clear hR R
  show X _ _ _ _
  refine X_true (by simp only [ev, zg1, zg0, zgd]) ?_
  refine X_seq ?_
  refine X_rg fun R hR => ?_
  simp only [aops, astep, awant, aeff, aop, ev, ofValue, St.put, zgd, zmo, if_true, zs1, zs0]
  with_reducible refine hR _ ?_
  clear hR R
  show X _ _ _ _
  refine X_ret ?_
  show resD _ _ _ = some _
  simp only [resD, resAll, resOne, resTup, Try.results10, EVvP, zg1, zg0, D.good, if_true, zmo] <;> (first | (rfl; done) | (simp_all; done) | (exfalso; simp_all; done))
 ·intro b2
  have c2 := b2
  try simp only [decide_eq_false_iff_not, Int.not_lt, gt_iff_lt] at c2
  refine Y_k 6 fun R hR => ?_
  simp only [EVvP, inr_i64, Int.reduceLE, Int.reduceNeg, aops, astep, awant, aeff, aop, abin, aint, mkD, ev, ofValue, St.put, ia_slice, zg1, zg0, zgd, zmo, zbs, if_true, zs1, zs0, zlm, zlc, zln, zd1, zd0, zt1, zt0, Nat.reduceAdd, Nat.reduceLeDiff, Nat.zero_add, zft, if_false, and_self, reduceCtorEq, beq_self_eq_true, ty_s_api_Proc, ty_api_Program, und_api_Proc, b2]
  with_reducible refine hR _ ?_
  clear hR R
  simp only [zd1, zd0]
  refine Y_if 22 (by simp only [ev, zg1, zg0, zgd]; exact rfl) ?_ ?_
  ·intro b3
   have c3 := b3
   try simp only [decide_eq_true_eq, gt_iff_lt] at c3
   refine Y_end fun R hR => ?_
   simp only [EVvP, inr_i64, Int.reduceLE, Int.reduceNeg, aops, astep, awant, aeff, aop, abin, ev, ofValue, St.put, zg1, zg0, zgd, zmo, Option.map_none, zbs, if_true, zs1, zs0, Nat.add_zero, zft, if_false, and_self, reduceCtorEq, bq_tf, ty_s_api_VarDecl, ty_api_Program, und_api_VarDecl, b3]
   with_reducible refine hR _ ?_
   clear hR R
   show X _ _ _ _
   refine X_true (by simp only [ev, zg1, zg0, zgd]) ?_
   refine X_seq ?_
   refine X_rg fun R hR => ?_
   simp only [aops, astep, awant, aeff, aop, ev, ofValue, St.put, zgd, zmo, if_true, zs1, zs0]
   with_reducible refine hR _ ?_
   clear hR R
   show X _ _ _ _
   refine X_ret ?_
   show resD _ _ _ = some _
   simp only [resD, resAll, resOne, resTup, Try.results10, EVvP, zg1, zg0, D.good, if_true, zmo] <;> (first | (rfl; done) | (simp_all; done) | (exfalso; simp_all; done))
  ·intro b4
   have c4 := b4
   try simp only [decide_eq_false_iff_not, Int.not_lt, gt_iff_lt] at c4
   refine Y_end fun R hR => ?_
   simp only [EVvP, inr_i64, Int.reduceLE, Int.reduceNeg, aops, astep, awant, aeff, aop, abin, aint, mkD, ev, ofValue, St.put, ia_slice, zg1, zg0, zgd, zmo, zbs, if_true, zs1, zs0, zlm, zlc, zln, zd0, zt1, zt0, Nat.reduceAdd, Nat.reduceLeDiff, Nat.zero_add, Nat.add_zero, zft, if_false, and_self, reduceCtorEq, beq_self_eq_true, ty_s_api_VarDecl, ty_api_Program, und_api_VarDecl, b4]
   with_reducible refine hR _ ?_
   clear hR R
   show X _ _ _ _
   refine X_ite (by simp only [ev, zg1, zg0, zgd]; exact rfl) ?_ ?_
   ·intro b5
    have c5 := b5
    try simp only [decide_eq_true_eq, gt_iff_lt] at c5
    refine X_seq ?_
    refine X_rg fun R hR => ?_
    simp only [aops, astep, awant, aeff, aop, ev, ofValue, St.put, zgd, zmo, if_true, zs1, zs0, b5]
    with_reducible refine hR _ ?_
    clear hR R
    show X _ _ _ _
    refine X_ret ?_
    show resD _ _ _ = some _
    simp only [resD, resAll, resOne, resTup, Try.results10, EVvP, zg1, zg0, D.good, if_true, zmo] <;> (first | (rfl; done) | (simp_all; done) | (exfalso; simp_all; done))
   ·intro b6
    have c6 := b6
    try simp only [decide_eq_false_iff_not, Int.not_lt, gt_iff_lt] at c6
    refine X_skip ?_
    show X _ _ _ _
    refine X_seq ?_
    have hpl : path.length ≤ 40 := by first | omega | (simp_all; done) | (simp_all; omega)
    have hvi := vis_fv p q path (by omega)
    rw [hv] at hvi
    rw [if_neg (by simp)] at hvi
    simp only [sl, visD] at hvi
    refine X_rg fun R hR => ?_
    simp only [EVvP, aops, astep, awant, aeff, aop, mkD, ev, St.put, pcall, zmc, zmn, zg1, zg0, zgd, zmo, if_true, zs1, zs0, zlc, zln, zd0, zt1, zt0, zca, zna, Nat.reduceAdd, Nat.reduceLeDiff, Nat.zero_add, List.isEmpty_nil, ty_api_Program, any33, dG_agg, b6, hvi]
    with_reducible refine hR _ ?_
    clear hR R
    show X _ _ _ _
    refine X_seq ?_
    refine X_seq ?_
    have hva : fn EVv _ _ = _ := by_up (valid_fn p)
    rw [hv] at hva
    refine X_rg fun R hR => ?_
    simp only [EVvP, aops, astep, awant, aeff, aop, mkD, ev, St.put, pcall, zmc, zmn, zg1, zg0, zgd, zmo, if_true, zs1, zs0, zlc, zln, zd0, zt1, zt0, zca, zna, Nat.reduceAdd, Nat.reduceLeDiff, Nat.zero_add, Bool.not_false, ty_api_Program, any17, dG_agg, hva]
    with_reducible refine hR _ ?_
    clear hR R
    show X _ _ _ _
    refine X_true (by simp only [ev, zg1, zg0, zgd]) ?_
    refine X_seq ?_
    refine X_y ?_
    refine Y_k 4 fun R hR => ?_
    simp only [EVvP, inr_i64, Int.reduceLE, Int.reduceNeg, aops, astep, awant, aeff, aop, abin, aint, ev, ofValue, St.put, zg1, zg0, zgd, zmo, if_true, zs1, zs0, zln, zt1, zt0, and_self, und_api_VarDecl]
    with_reducible refine hR _ ?_
    clear hR R
    simp only [zd1, zd0]
    refine Y_if 41 (by simp only [ev, zg1, zg0, zgd]; exact rfl) ?_ ?_
    ·intro b7
     have c7 := b7
     try simp only [beq_iff_eq] at c7
     refine Y_end fun R hR => ?_
     simp only [inr_i64, Int.reduceLE, Int.reduceNeg, aops, astep, awant, aeff, aop, abin, aint, ev, ofValue, St.put, zg1, zg0, zgd, zmo, zbs, if_true, zs1, zs0, and_self, beq_self_eq_true, b7]
     with_reducible refine hR _ ?_
     clear hR R
     show X _ _ _ _
     refine X_ret ?_
     show resD _ _ _ = some _
     simp only [resD, resAll, resOne, resTup, Try.results10, EVvP, zg1, zg0, D.good, if_true, zmo] <;> (first | (rfl; done) | (simp_all; done) | (exfalso; simp_all; done))
    ·intro b8
     have c8 := b8
     try simp only [ne_eq, beq_eq_false_iff_ne] at c8
     refine Y_end fun R hR => ?_
     simp only [inr_i64, Int.reduceLE, Int.reduceNeg, aops, astep, awant, aeff, aop, abin, ev, ofValue, St.put, zg1, zg0, zgd, zmo, Option.map_none, zbs, if_true, zs1, zs0, zft, if_false, and_self, bq_ft, b8]
     with_reducible refine hR _ ?_
     clear hR R
     show X _ _ _ _
     refine X_ret ?_
     show resD _ _ _ = some _
     simp only [resD, resAll, resOne, resTup, Try.results10, EVvP, zg1, zg0, D.good, if_true, zmo] <;> (first | (rfl; done) | (simp_all; done) | (exfalso; simp_all; done))
theorem law5_fn (p : Pg) (q : Int) (path : List Int) (_ : -9223372036854775808 ≤ q) (_ : q ≤ 9223372036854775807) : fn EVv 10 [dG p, .int .i64 q, sl 1 (path.map dI)] = some (.bool true) := by
 cases hv : validB p with
 | false => exact law5_bad p q path hv
 | true =>
  obtain ⟨l, e, h1, h2⟩ := visA_is hv q path
  exact law5_ok p q path l e hv h1 h2

end Go.Proofs.Ytjikokmhknnnoaa
