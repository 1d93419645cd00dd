/- The law LayoutCovers: its walk. -/
import Derived.Test.YthgdibdapjaljaaLa11
import Derived.Test.YthgdibdapjaljaaLcv
namespace Go.Proofs.Ythgdibdapjaljaa
open Go.RowKit

theorem dN_inj {t u : Tr} (h : dN t = dN u) : t = u := by
 have := toTr_of t
 rw [h, toTr_of u] at this
 exact (Option.some.inj this).symm
theorem map_inj {α : Type} {f : α → D} (hf : ∀ a b, f a = f b → a = b) : ∀ (p q : List α), p.map f = q.map f → p = q
 | [], [], _ => rfl
 | [], _ :: _, h => by cases h
 | _ :: _, [], h => by cases h
 | a :: r, b :: q, h => by
  simp only [zmc, List.cons.injEq] at h
  rw [hf a b h.1, map_inj hf r q h.2]
theorem sl_inj {n : Nat} {l m : List D} (h : sl n l = sl n m) : l = m := by
 simp only [sl, D.slice.injEq] at h; exact h.2.2
theorem node_of {t u : Tr} (h1 : t.kind = u.kind) (h2 : t.num = u.num) (h3 : t.name = u.name) (h4 : t.kids = u.kids) : t = u := by
 cases t; cases u; simp only [Tr.kind, Tr.num, Tr.name, Tr.kids] at h1 h2 h3 h4; subst h1 h2 h3 h4; rfl
theorem dV_inj {a b : Vd} (h : dV a = dV b) : a = b := by
 cases a; cases b; simp only [dV, D.agg.injEq, List.cons.injEq, D.str.injEq, D.int.injEq, true_and, and_true] at h; obtain ⟨rfl, rfl, rfl⟩ := h; rfl
theorem dP_inj {a b : Pr} (h : dP a = dP b) : a = b := by
 simp only [dP, D.agg.injEq, List.cons.injEq, D.str.injEq, D.int.injEq, true_and, and_true] at h
 obtain ⟨h1, h2, h3, h4, h5, h6⟩ := h
 cases a; cases b
 simp only at h1 h2 h3 h4 h5 h6
 have e1 := map_inj (fun _ _ => dV_inj) _ _ (sl_inj h2)
 have e2 := node_of h3 h4 h5 (map_inj (fun _ _ => dN_inj) _ _ (sl_inj h6))
 rw [h1, e1, e2]
theorem dG_inj {a b : Pg} (h : dG a = dG b) : a = b := by
 simp only [dG, D.agg.injEq, List.cons.injEq, D.str.injEq, D.int.injEq, true_and, and_true] at h
 obtain ⟨h1, h2, h3, h4, h5, h6⟩ := h
 cases a; cases b
 simp only at h1 h2 h3 h4 h5 h6
 have e1 := map_inj (fun _ _ => dV_inj) _ _ (sl_inj h1)
 have e3 := map_inj (fun _ _ => dP_inj) _ _ (sl_inj h2)
 have e2 := node_of h3 h4 h5 (map_inj (fun _ _ => dN_inj) _ _ (sl_inj h6))
 rw [e1, e2, e3]
theorem visW_len : ∀ (l : List Int) (t : Tr) (vs w : List Vd), visW l t vs = some w → w.length ≤ vs.length + l.length
 | [], t, vs, w, h => by cases h; simp
 | i :: r, t, vs, w, h => by
  unfold visW at h
  split at h
  ·split at h
   ·have := visW_len r _ _ w h
    have := innerV_le t i vs
    simp only [zlc]; omega
   ·cases h
  ·cases h
theorem bdV_len {p : Pg} (hv : validB p = true) (q : Int) : (bdV p q).length ≤ 64 := by
 obtain ⟨bv, _, bq, _⟩ := valid_bd hv
 unfold bdV
 split
 ·have := (bq _ (List.getElem_mem (l := p.procs) (n := q.toNat) (by omega))).1; omega
 ·omega
def VisC : Nat → List D → D → Prop := fun k a d => k = 24 ∧ ∃ p q path, path.length ≤ 100000 ∧ a = [dG p, .int .i64 q, sl 1 (path.map dI)] ∧ d = (if validB p = true then visA p q path else visD 3 none)
theorem visA_u (p : Pg) (q : Int) (path : List Int) : (visA p q path).under 0 = true ∧ (visA p q path).strip = visA p q path := by
 unfold visA
 split
 ·exact ⟨visD_u _ _, visD_s _ _⟩
 ·exact ⟨visD_u _ _, visD_s _ _⟩
noncomputable def EVv : Env := EV.by VisC
theorem EVvP : EVv.P = Try.prog := rfl
theorem EVv_ok : EVv.Ok := by_ok EV_ok fun k a d h => by
 obtain ⟨hk, p, q, path, h1, ha, hd⟩ := h
 subst hk ha hd
 refine ⟨?_, ?_, vis_any p q path h1⟩
 ·split
  ·exact (visA_u p q path).1
  ·exact visD_u _ _
 ·split
  ·exact (visA_u p q path).2
  ·exact visD_s _ _
theorem vis_fv (p : Pg) (q : Int) (path : List Int) (h1 : path.length ≤ 100000) : fn EVv 24 [dG p, .int .i64 q, sl 1 (path.map dI)] = some (if validB p = true then visA p q path else visD 3 none) := by
 refine by_fn (by simp only [plain, List.all_cons, List.all_nil, sl_pl (f := dI) (fun _ _ => rfl), int_pl, dG_pl, Bool.and_true]) (by simp only [zmc, zmn, sl_strip (map_strip (f := dI) (fun _ => rfl) _), dG_strip, D.strip]) rfl rfl ⟨rfl, p, q, path, h1, rfl, rfl⟩ ?_
 rintro d' ⟨_, p', q', path', _, ha, rfl⟩
 simp only [List.cons.injEq, and_true] at ha
 obtain ⟨e1, e2, e3⟩ := ha
 cases e2
 rw [dG_inj e1, map_inj (fun a b h => by cases h; rfl) _ _ (sl_inj e3)]
theorem awake_v : fn EVv 10 [] = some (.bool true) := by_up awake_ok
set_option maxRecDepth 100000 in
set_option maxHeartbeats 4000000 in
theorem lawC_v (p : Pg) (hv : validB p = false) : fn EVv 8 [dG p] = some (.bool true) := by
 refine fn_X rfl Try.func8 rfl (by simp only [plain, List.all_cons, List.all_nil, dG_pl, Bool.and_true]) (rfl) (rfl) (rfl) ?_
 simp only [zmc, zmn, dG_strip]
 simp only [enterSt, Try.ntmps8, zlc, zln, Nat.reduceAdd, Nat.reduceSub, zr1, zr0, zca, zna]
 refine X_seq ?_
 refine X_rg fun R hR => ?_
 simp only [EVvP, aops, astep, awant, aeff, ev, St.put, zg0, zgd, zmo, zbs, if_true, zs1, zs0, zlc, zln, zca, zna, Nat.zero_add, ty_bool, dG_cells, dG_good]
 with_reducible refine hR _ ?_
 clear hR R
 show X _ _ _ _
 refine X_seq ?_
 refine X_seq ?_
 refine X_rg fun R hR => ?_
 simp only [EVvP, aops, astep, awant, aeff, aop, ev, St.put, pcall, zmn, zg1, zg0, zgd, zmo, if_true, zs1, zs0, zna, Bool.not_true, any10, awake_v]
 with_reducible refine hR _ ?_
 clear hR R
 show X _ _ _ _
 refine X_false (by simp only [ev, zg1, zg0, zgd]) ?_
 refine X_skip ?_
 show X _ _ _ _
 refine X_seq ?_
 refine X_seq ?_
 have hva : fn EVv _ _ = _ := by_up (valid_fn p)
 rw [hv] at hva
 refine X_rg fun R hR => ?_
 simp only [EVvP, inr_i64, Int.reduceLE, Int.reduceNeg, aops, astep, awant, aeff, aop, abin, mkD, ev, ofValue, St.put, pcall, zmc, zmn, zg1, zg0, zgd, zmo, Option.map_none, zbs, if_true, zs1, zs0, zlc, zln, zd0, zt1, zt0, zca, zna, Nat.reduceAdd, Nat.reduceLeDiff, Nat.zero_add, Bool.not_false, zft, if_false, and_self, reduceCtorEq, bq_tf, ty_s_api_Proc, ty_api_Program, und_api_Proc, und_scope_Fault, any20, any21, dG_agg, hva]
 with_reducible refine hR _ ?_
 clear hR R
 show X _ _ _ _
 refine X_true (by simp only [ev, zg1, zg0, zgd]) ?_
 refine X_seq ?_
 refine X_rg fun R hR => ?_
 simp only [EVvP, aops, astep, awant, aeff, astore, ev, ofValue, St.put, gd_bool, cl_bool, zg1, zg0, zgd, zmo, if_true, zs1, zs0, zlc, zln, zd1, zd0, zt0, zca, zna, Nat.reduceLeDiff, Nat.zero_add, and_self, ty_bool]
 with_reducible refine hR _ ?_
 clear hR R
 show X _ _ _ _
 refine X_ret ?_
 show resD _ _ _ = some _
 simp only [resD, resAll, resOne, resTup, Try.results8, EVvP, mkD, ty_bool, zg1, zg0, zd0, zt1, zt0, zlc, zln, Nat.reduceLeDiff, Nat.zero_add, if_true, zft, if_false, D.isAgg, zmo] <;> (first | (rfl; done) | (simp_all; done) | (exfalso; simp_all; done))
set_option maxRecDepth 100000 in
set_option maxHeartbeats 4000000 in
theorem lawC_c (p : Pg) (hv : validB p = true) (hc : checkF p ≠ []) : fn EVv 8 [dG p] = some (.bool true) := by
 obtain ⟨bv, bp, bq, bm, _⟩ := valid_bd hv
 refine fn_X rfl Try.func8 rfl (by simp only [plain, List.all_cons, List.all_nil, dG_pl, Bool.and_true]) (rfl) (rfl) (rfl) ?_
 simp only [zmc, zmn, dG_strip]
 simp only [enterSt, Try.ntmps8, zlc, zln, Nat.reduceAdd, Nat.reduceSub, zr1, zr0, zca, zna]
 refine X_seq ?_
 refine X_rg fun R hR => ?_
 simp only [EVvP, aops, astep, awant, aeff, ev, St.put, zg0, zgd, zmo, zbs, if_true, zs1, zs0, zlc, zln, zca, zna, Nat.zero_add, ty_bool, dG_cells, dG_good]
 with_reducible refine hR _ ?_
 clear hR R
 show X _ _ _ _
 refine X_seq ?_
 refine X_seq ?_
 refine X_rg fun R hR => ?_
 simp only [EVvP, aops, astep, awant, aeff, aop, ev, St.put, pcall, zmn, zg1, zg0, zgd, zmo, if_true, zs1, zs0, zna, Bool.not_true, any10, awake_v]
 with_reducible refine hR _ ?_
 clear hR R
 show X _ _ _ _
 refine X_false (by simp only [ev, zg1, zg0, zgd]) ?_
 refine X_skip ?_
 show X _ _ _ _
 refine X_seq ?_
 refine X_seq ?_
 have hva : fn EVv _ _ = _ := by_up (valid_fn p)
 rw [hv] at hva
 have hch : fn EVv _ _ = _ := by_up (check_fn p)
 rw [if_pos hv] at hch
 have hcl : (decide (((checkF p).length : Int) > 0)) = true := by have := List.length_pos_iff.2 hc; simp; omega
 simp only [sl] at hch
 refine X_y ?_
 refine Y_k 10 fun R hR => ?_
 simp only [EVvP, inr_i64, Int.reduceLE, Int.reduceNeg, aops, astep, awant, aeff, aop, abin, aint, mkD, ev, ofValue, St.put, pcall, ia_slice, zmc, zmn, zg1, zg0, zgd, zmo, zbs, if_true, zs1, zs0, zlm, zlc, zln, zd1, zd0, zt1, zt0, zca, zna, Nat.reduceAdd, Nat.reduceLeDiff, Nat.zero_add, Bool.not_true, zft, if_false, and_self, reduceCtorEq, beq_self_eq_true, ty_s_api_Proc, ty_api_Program, und_api_Proc, any20, dG_agg, hva]
 with_reducible refine hR _ ?_
 clear hR R
 simp only [zd1, zd0]
 refine Y_if 25 (by simp only [ev, zg1, zg0, zgd]; exact rfl) ?_ ?_
 ·intro b1
  have c1 := b1
  try simp only [decide_eq_true_eq, gt_iff_lt] at c1
  refine Y_end fun R hR => ?_
  simp only [EVvP, inr_i64, Int.reduceLE, Int.reduceNeg, aops, astep, awant, aeff, aop, abin, mkD, ev, ofValue, St.put, pcall, zmc, zmn, zg1, zg0, zgd, zmo, Option.map_none, zbs, if_true, zs1, zs0, zlc, zln, zd0, zt1, zt0, zca, zna, Nat.reduceAdd, Nat.reduceLeDiff, Nat.zero_add, zft, if_false, and_self, bq_tf, ty_api_Program, und_scope_Fault, any21, dG_agg, b1]
  with_reducible refine hR _ ?_
  clear hR R
  show X _ _ _ _
  refine X_true (by simp only [ev, zg1, zg0, zgd]) ?_
  refine X_seq ?_
  refine X_rg fun R hR => ?_
  simp only [EVvP, aops, astep, awant, aeff, astore, ev, ofValue, St.put, gd_bool, cl_bool, zg1, zg0, zgd, zmo, if_true, zs1, zs0, zlc, zln, zd1, zd0, zt0, zca, zna, Nat.reduceLeDiff, Nat.zero_add, and_self, ty_bool]
  with_reducible refine hR _ ?_
  clear hR R
  show X _ _ _ _
  refine X_ret ?_
  show resD _ _ _ = some _
  simp only [resD, resAll, resOne, resTup, Try.results8, EVvP, mkD, ty_bool, zg1, zg0, zd0, zt1, zt0, zlc, zln, Nat.reduceLeDiff, Nat.zero_add, if_true, zft, if_false, D.isAgg, zmo] <;> (first | (rfl; done) | (simp_all; done) | (exfalso; simp_all; done))
 ·intro b2
  have c2 := b2
  try simp only [decide_eq_false_iff_not, Int.not_lt, gt_iff_lt] at c2
  refine Y_end fun R hR => ?_
  simp only [EVvP, inr_i64, Int.reduceLE, Int.reduceNeg, aops, astep, awant, aeff, aop, abin, aint, mkD, ev, ofValue, St.put, pcall, zmc, zmn, zg1, zg0, zgd, zmo, zbs, if_true, zs1, zs0, zlm, zlc, zln, zd0, zt1, zt0, zca, zna, Nat.reduceAdd, Nat.reduceLeDiff, Nat.zero_add, zft, if_false, and_self, beq_self_eq_true, ty_api_Program, und_scope_Fault, any21, dG_agg, b2, hch, hcl]
  with_reducible refine hR _ ?_
  clear hR R
  show X _ _ _ _
  refine X_true (by simp only [ev, zg1, zg0, zgd]) ?_
  refine X_seq ?_
  refine X_rg fun R hR => ?_
  simp only [EVvP, aops, astep, awant, aeff, astore, ev, ofValue, St.put, gd_bool, cl_bool, zg1, zg0, zgd, zmo, if_true, zs1, zs0, zlc, zln, zd1, zd0, zt0, zca, zna, Nat.reduceLeDiff, Nat.zero_add, and_self, ty_bool]
  with_reducible refine hR _ ?_
  clear hR R
  show X _ _ _ _
  refine X_ret ?_
  show resD _ _ _ = some _
  simp only [resD, resAll, resOne, resTup, Try.results8, EVvP, mkD, ty_bool, zg1, zg0, zd0, zt1, zt0, zlc, zln, Nat.reduceLeDiff, Nat.zero_add, if_true, zft, if_false, D.isAgg, zmo] <;> (first | (rfl; done) | (simp_all; done) | (exfalso; simp_all; done))
set_option maxRecDepth 100000 in
set_option maxHeartbeats 4000000 in
theorem lawC_y (p : Pg) (hv : validB p = true) (hc : checkF p = []) : fn EVv 8 [dG p] = some (.bool true) := by
 obtain ⟨bv, bp, bq, bm, _⟩ := valid_bd hv
 refine fn_X rfl Try.func8 rfl (by simp only [plain, List.all_cons, List.all_nil, dG_pl, Bool.and_true]) (rfl) (rfl) (rfl) ?_
 simp only [zmc, zmn, dG_strip]
 simp only [enterSt, Try.ntmps8, zlc, zln, Nat.reduceAdd, Nat.reduceSub, zr1, zr0, zca, zna]
 refine X_seq ?_
 refine X_rg fun R hR => ?_
 simp only [EVvP, aops, astep, awant, aeff, ev, St.put, zg0, zgd, zmo, zbs, if_true, zs1, zs0, zlc, zln, zca, zna, Nat.zero_add, ty_bool, dG_cells, dG_good]
 with_reducible refine hR _ ?_
 clear hR R
 show X _ _ _ _
 refine X_seq ?_
 refine X_seq ?_
 refine X_rg fun R hR => ?_
 simp only [EVvP, aops, astep, awant, aeff, aop, ev, St.put, pcall, zmn, zg1, zg0, zgd, zmo, if_true, zs1, zs0, zna, Bool.not_true, any10, awake_v]
 with_reducible refine hR _ ?_
 clear hR R
 show X _ _ _ _
 refine X_false (by simp only [ev, zg1, zg0, zgd]) ?_
 refine X_skip ?_
 show X _ _ _ _
 refine X_seq ?_
 refine X_seq ?_
 have hva : fn EVv _ _ = _ := by_up (valid_fn p)
 rw [hv] at hva
 have hch : fn EVv _ _ = _ := by_up (check_fn p)
 rw [if_pos hv] at hch
 rw [hc] at hch
 simp only [sl, zmn] at hch
 have hz0 : (decide (((0 : Nat) : Int) > 0)) = false := by decide
 refine X_y ?_
 refine Y_k 10 fun R hR => ?_
 simp only [EVvP, inr_i64, Int.reduceLE, Int.reduceNeg, aops, astep, awant, aeff, aop, abin, aint, mkD, ev, ofValue, St.put, pcall, ia_slice, zmc, zmn, zg1, zg0, zgd, zmo, zbs, if_true, zs1, zs0, zlm, zlc, zln, zd1, zd0, zt1, zt0, zca, zna, Nat.reduceAdd, Nat.reduceLeDiff, Nat.zero_add, Bool.not_true, zft, if_false, and_self, reduceCtorEq, beq_self_eq_true, ty_s_api_Proc, ty_api_Program, und_api_Proc, any20, dG_agg, hva]
 with_reducible refine hR _ ?_
 clear hR R
 simp only [zd1, zd0]
 refine Y_if 25 (by simp only [ev, zg1, zg0, zgd]; exact rfl) ?_ ?_
 ·intro b1
  have c1 := b1
  try simp only [decide_eq_true_eq, gt_iff_lt] at c1
  refine Y_end fun R hR => ?_
  simp only [EVvP, inr_i64, Int.reduceLE, Int.reduceNeg, aops, astep, awant, aeff, aop, abin, mkD, ev, ofValue, St.put, pcall, zmc, zmn, zg1, zg0, zgd, zmo, Option.map_none, zbs, if_true, zs1, zs0, zlc, zln, zd0, zt1, zt0, zca, zna, Nat.reduceAdd, Nat.reduceLeDiff, Nat.zero_add, zft, if_false, and_self, bq_tf, ty_api_Program, und_scope_Fault, any21, dG_agg, b1]
  with_reducible refine hR _ ?_
  clear hR R
  show X _ _ _ _
  refine X_true (by simp only [ev, zg1, zg0, zgd]) ?_
  refine X_seq ?_
  refine X_rg fun R hR => ?_
  simp only [EVvP, aops, astep, awant, aeff, astore, ev, ofValue, St.put, gd_bool, cl_bool, zg1, zg0, zgd, zmo, if_true, zs1, zs0, zlc, zln, zd1, zd0, zt0, zca, zna, Nat.reduceLeDiff, Nat.zero_add, and_self, ty_bool]
  with_reducible refine hR _ ?_
  clear hR R
  show X _ _ _ _
  refine X_ret ?_
  show resD _ _ _ = some _
  simp only [resD, resAll, resOne, resTup, Try.results8, EVvP, mkD, ty_bool, zg1, zg0, zd0, zt1, zt0, zlc, zln, Nat.reduceLeDiff, Nat.zero_add, if_true, zft, if_false, D.isAgg, zmo] <;> (first | (rfl; done) | (simp_all; done) | (exfalso; simp_all; done))
 ·intro b2
  have c2 := b2
  try simp only [decide_eq_false_iff_not, Int.not_lt, gt_iff_lt] at c2
  refine Y_end fun R hR => ?_
  simp only [EVvP, inr_i64, Int.reduceLE, Int.reduceNeg, aops, astep, awant, aeff, aop, abin, aint, mkD, ev, ofValue, St.put, pcall, zmc, zmn, zg1, zg0, zgd, zmo, zbs, if_true, zs1, zs0, zlc, zln, zd0, zt1, zt0, zca, zna, Nat.reduceAdd, Nat.reduceLeDiff, Nat.zero_add, zft, if_false, and_self, beq_self_eq_true, List.isEmpty_nil, ty_api_Program, und_scope_Fault, any21, dG_agg, b2, hch, hz0]
  with_reducible refine hR _ ?_
  clear hR R
  show X _ _ _ _
  refine X_false (by simp only [ev, zg1, zg0, zgd]) ?_
  refine X_skip ?_
  show X _ _ _ _
  refine X_seq ?_
  refine X_seq ?_
  refine X_rg fun R hR => ?_
  simp only [EVvP, inr_i64, Int.reduceLE, Int.reduceNeg, aops, astep, awant, aeff, astore, ev, ofValue, St.put, gd_int, cl_int, zg1, zg0, zgd, zmo, zbs, if_true, zs1, zs0, zlc, zln, zd1, zd0, zt0, zca, zna, Nat.reduceAdd, Nat.reduceLeDiff, Nat.zero_add, and_self, ty_int]
  with_reducible refine hR _ ?_
  clear hR R
  show X _ _ _ _
  refine X_block ?_
  refine X_loop (fun m σ => ∃ (k : Nat) (q : Nat) (r : List (List D)) (nx : Nat) (lv : List Nat), σ = ⟨[slotOf σ 0, .ptr 0 0, .ptr 1 0, .ptr (q + 1 + 1) 0, slotOf σ 4, slotOf σ 5, slotOf σ 6, slotOf σ 7, slotOf σ 8, slotOf σ 9, slotOf σ 10, slotOf σ 11, slotOf σ 12, slotOf σ 13, slotOf σ 14, slotOf σ 15, slotOf σ 16, slotOf σ 17, slotOf σ 18, slotOf σ 19, slotOf σ 20, slotOf σ 21, slotOf σ 22, slotOf σ 23, slotOf σ 24, slotOf σ 25, slotOf σ 26, slotOf σ 27, slotOf σ 28, slotOf σ 29, slotOf σ 30, slotOf σ 31, slotOf σ 32, slotOf σ 33, slotOf σ 34, slotOf σ 35, slotOf σ 36, slotOf σ 37, slotOf σ 38, slotOf σ 39, slotOf σ 40, slotOf σ 41, slotOf σ 42, slotOf σ 43, slotOf σ 44, slotOf σ 45, slotOf σ 46, slotOf σ 47, slotOf σ 48, slotOf σ 49, slotOf σ 50, slotOf σ 51, slotOf σ 52, slotOf σ 53, slotOf σ 54, slotOf σ 55, slotOf σ 56, slotOf σ 57, slotOf σ 58, slotOf σ 59, slotOf σ 60, slotOf σ 61, slotOf σ 62, slotOf σ 63, slotOf σ 64, slotOf σ 65, slotOf σ 66, slotOf σ 67, slotOf σ 68, slotOf σ 69, slotOf σ 70, slotOf σ 71, slotOf σ 72, slotOf σ 73, slotOf σ 74, slotOf σ 75, slotOf σ 76, slotOf σ 77, slotOf σ 78, slotOf σ 79, slotOf σ 80, slotOf σ 81, slotOf σ 82, slotOf σ 83, slotOf σ 84, slotOf σ 85, slotOf σ 86, slotOf σ 87, slotOf σ 88, slotOf σ 89, slotOf σ 90, slotOf σ 91, slotOf σ 92, slotOf σ 93, slotOf σ 94, slotOf σ 95, slotOf σ 96, slotOf σ 97, slotOf σ 98, slotOf σ 99, slotOf σ 100, slotOf σ 101, slotOf σ 102, slotOf σ 103, slotOf σ 104, slotOf σ 105, slotOf σ 106, slotOf σ 107, slotOf σ 108, slotOf σ 109, slotOf σ 110, slotOf σ 111, slotOf σ 112, slotOf σ 113, slotOf σ 114, slotOf σ 115, slotOf σ 116], [.slice .imm (if (p.vars.map dV).isEmpty = true then 0 else 3) (p.vars.map dV), .slice .imm (if (p.procs.map dP).isEmpty = true then 0 else 6) (p.procs.map dP), .int .u8 p.main.kind, .int .i64 p.main.num, .str p.main.name, .slice .imm (if (p.main.kids.map dN).isEmpty = true then 0 else 4) (p.main.kids.map dN)] :: [.bool false] :: r, nx, lv⟩ ∧ m = p.procs.length + 1 - k ∧ k ≤ p.procs.length + 1 ∧ r[q]? = some [.int .i64 (k : Int)] ∧ (∀ X : List (List D), (r ++ X)[q]? = some [.int .i64 (k : Int)])) ?_ (p.procs.length + 1) _ ?_
  rotate_left
  ·exact ⟨0, 0, _, _, _, rfl, rfl, Nat.zero_le _, rfl, fun X => rfl⟩
  rintro m σ ⟨k, q, r, nx, lv, hσ, rfl, hkle, hq, hqa⟩
  generalize slotOf σ = x at hσ
  subst hσ
  refine X_seq ?_
  refine X_seq ?_
  have hqq : q < r.length := (List.getElem?_eq_some_iff.1 hq).1
  refine X_rg fun R hR => ?_
  simp only [EVvP, aops, astep, awant, aeff, aop, abin, aint, mkD, ev, St.put, ia_int, ia_slice, zg1, zg0, zgd, zmo, if_true, zs1, zs0, zlm, zlc, zln, zd1, zd0, zt1, zt0, Nat.reduceAdd, Nat.reduceLeDiff, Nat.zero_add, zft, if_false, reduceCtorEq, ty_int, ty_s_api_Proc, ty_api_Program, und_api_Proc, hq]
  with_reducible refine hR _ ?_
  clear hR R
  show X _ _ _ _
  refine X_ite (by simp only [ev, zg1, zg0, zgd]; exact rfl) ?_ ?_
  ·intro b3
   have c3 := b3
   try simp only [decide_eq_true_eq] at c3
   refine X_skip ?_
   show X _ _ _ _
   refine X_seq ?_
   refine X_block ?_
   refine X_seq ?_
   have hkle : k ≤ p.procs.length := by first | (simp_all; done) | (simp at *; omega)
   refine X_rg fun R hR => ?_
   simp only [EVvP, app_get0, app_set0, aops, astep, awant, aeff, aop, mkD, astore, ev, St.put, ia_slice, zg1, zg0, zgd, zmo, zbs, if_true, zs1, zs0, zlc, zln, zd1, zd0, zt1, zt0, zca, zna, Nat.reduceAdd, Nat.reduceLeDiff, Nat.zero_add, Nat.add_zero, zft, if_false, and_self, reduceCtorEq, ty_s_api_VarDecl, ty_api_Node, ty_api_Program, dN_agg, dN_cells, dN_good, sl, b3]
   with_reducible refine hR _ ?_
   clear hR R
   show X _ _ _ _
   refine X_seq ?_
   refine X_seq ?_
   refine X_rg fun R hR => ?_
   simp only [EVvP, nat_lt, aops, astep, awant, aeff, aop, abin, aint, mkD, ev, St.put, ia_int, ia_slice, zg1, zg0, zgd, zmo, if_true, zs1, zs0, zlm, zlc, zln, zd1, zd0, zt1, zt0, Nat.reduceAdd, Nat.reduceLeDiff, Nat.zero_add, zft, if_false, reduceCtorEq, ty_int, ty_s_api_Proc, ty_api_Program, und_api_Proc, hqa]
   with_reducible refine hR _ ?_
   clear hR R
   show X _ _ _ _
   refine X_ite (by simp only [ev, zg1, zg0, zgd]; exact rfl) ?_ ?_
   ·intro b4
    have c4 := b4
    try simp only [decide_eq_true_eq] at c4
    have hkp : k < p.procs.length := by first | assumption | omega | (simp_all; done)
    have hn6 : ((if (p.procs.map dP).isEmpty = true then 0 else 6) = 6) = True := eq_true (sl_n (j := k) (by simpa using hkp))
    have e6 : (p.procs.map dP)[k]? = some (.agg [.str p.procs[k].name, .slice .imm (if (p.procs[k].params.map dV).isEmpty = true then 0 else 3) (p.procs[k].params.map dV), .int .u8 p.procs[k].body.kind, .int .i64 p.procs[k].body.num, .str p.procs[k].body.name, .slice .imm (if (p.procs[k].body.kids.map dN).isEmpty = true then 0 else 4) (p.procs[k].body.kids.map dN)]) := by rw [List.getElem?_map, List.getElem?_eq_getElem hkp]; rfl
    have hkl : ((k : Int) < (p.procs.length : Int)) = True := eq_true (by omega)
    have hk0 : (0 ≤ (k : Int)) = True := eq_true (by omega)
    have hkn : ((k : Int)).toNat = k := Int.toNat_natCast k
    refine X_rg fun R hR => ?_
    simp only [EVvP, app_get0, app_set0, aops, astep, awant, aeff, aop, mkD, astore, ev, St.put, ia_int, ia_slice, cl_slice, zg1, zg0, zgd, zmo, if_true, zs1, zs0, zlm, zlc, zln, zd1, zd0, zt1, zt0, zca, zna, Nat.reduceAdd, Nat.reduceLeDiff, Nat.zero_add, zft, if_false, and_self, reduceCtorEq, decide_true, zis, ty_int, ty_s_api_VarDecl, ty_s_api_Proc, ty_api_Node, ty_api_Proc, ty_api_Program, und_api_Proc, siz_api_Proc, inf_api_Proc_eq, dN_agg, dN_cells, dN_isAgg, dN_good, sl, hn6, e6, hkl, hk0, hkn, hkp, hqa]
    with_reducible refine hR _ ?_
    clear hR R
    show X _ _ _ _
    refine X_seq ?_
    refine X_seq ?_
    have hkp : k < p.procs.length := by first | assumption | omega | (simp_all; done)
    have eT : (bdT p (k : Int)) = p.procs[k].body := by unfold bdT; rw [dif_pos (by omega)]; rfl
    have eV : (bdV p (k : Int)) = p.procs[k].params := by unfold bdV; rw [dif_pos (by omega)]; rfl
    obtain ⟨hof, hcv, hsz⟩ := cov_body hv hc hkle
    rw [eT, eV] at hof hcv
    rw [eT] at hsz
    have hss : fn EVv _ _ = _ := by_up (o_ast_Size p.procs[k].body (by omega))
    have hO : fn EVv _ _ = _ := by_up (of_fn p.procs[k].params p.procs[k].body (by omega))
    rw [hof] at hO
    have hW : fn EVv _ _ = _ := by_up (o_ast_Walk p.procs[k].body (by omega))
    simp only [dFm, sl] at hO
    refine X_rg fun R hR => ?_
    simp only [EVvP, inr_i64, Int.reduceLE, Int.reduceNeg, app_get0, aops, astep, awant, aeff, aop, abin, aint, mkD, ev, ofValue, St.put, pcall, zmc, zmn, zg1, zg0, zgd, zmo, if_true, zs1, zs0, zlc, zln, zd0, zt1, zt0, zca, zna, Nat.reduceAdd, Nat.reduceLeDiff, Nat.zero_add, and_self, ty_api_Node, any22, dN_agg, hss]
    with_reducible refine hR _ ?_
    clear hR R
    show X _ _ _ _
    refine X_ite (by simp only [ev, zg1, zg0, zgd]; exact rfl) ?_ ?_
    ·intro b5
     have c5 := b5
     try simp only [decide_eq_true_eq, gt_iff_lt] at c5
     refine X_seq ?_
     refine X_rg fun R hR => ?_
     simp only [EVvP, aops, astep, awant, aeff, astore, ev, ofValue, St.put, gd_bool, cl_bool, zg1, zg0, zgd, zmo, if_true, zs1, zs0, zlc, zln, zd1, zd0, zt0, zca, zna, Nat.reduceLeDiff, Nat.zero_add, and_self, ty_bool, b5]
     with_reducible refine hR _ ?_
     clear hR R
     show X _ _ _ _
     refine X_ret ?_
     show resD _ _ _ = some _
     simp only [resD, resAll, resOne, resTup, Try.results8, EVvP, mkD, ty_bool, zg1, zg0, zd0, zt1, zt0, zlc, zln, Nat.reduceLeDiff, Nat.zero_add, if_true, zft, if_false, D.isAgg, zmo] <;> (first | (rfl; done) | (simp_all; done) | (exfalso; simp_all; done))
    ·intro b6
     have c6 := b6
     try simp only [decide_eq_false_iff_not, Int.not_lt, gt_iff_lt] at c6
     refine X_skip ?_
     show X _ _ _ _
     refine X_seq ?_
     refine X_rg fun R hR => ?_
     simp only [EVvP, app_get0, app_get1, app_set1, aops, astep, awant, aeff, aop, mkD, astore, ev, St.put, pcall, gd_agg, cl_agg, zmc, zmn, zg1, zg0, zgd, zmo, zbs, if_true, zs1, zs0, zlc, zln, zd1, zd0, zt1, zt0, zca, zna, zaa, Nat.reduceAdd, Nat.reduceLeDiff, Nat.zero_add, and_self, ty_api_Node, ty_layout_Frame, any14, dN_agg, b6, hO, zla, zlc, zln]
     with_reducible refine hR _ ?_
     clear hR R
     show X _ _ _ _
     refine X_seq ?_
     refine X_seq ?_
     refine X_rg fun R hR => ?_
     simp only [inr_i64, Int.reduceLE, Int.reduceNeg, aops, astep, awant, aeff, aop, abin, aint, ev, ofValue, St.put, zg1, zg0, zgd, zmo, if_true, zs1, zs0, and_self, bne_self_eq_false, bne_self_eq_false]
     with_reducible refine hR _ ?_
     clear hR R
     show X _ _ _ _
     refine X_false (by simp only [ev, zg1, zg0, zgd]) ?_
     refine X_skip ?_
     show X _ _ _ _
     refine X_seq ?_
     refine X_rg fun R hR => ?_
     simp only [EVvP, app_get0, aops, astep, awant, aeff, aop, mkD, ev, St.put, pcall, zmc, zmn, zg1, zg0, zgd, zmo, if_true, zs1, zs0, zlc, zln, zd0, zt1, zt0, zca, zna, Nat.reduceAdd, Nat.reduceLeDiff, Nat.zero_add, ty_api_Node, any23, dN_agg, hW]
     with_reducible refine hR _ ?_
     clear hR R
     show X _ _ _ _
     refine X_block ?_
     refine X_range (L := walkD p.procs[k].body) (by simp only [ev, zg1, zg0, zgd]) ?_
     refine XR_inv (fun L σ => ∃ (fr : List D) (r2 : List (List D)) (W : List (List Int × Tr)) (nx : Nat) (lv : List Nat), σ = ⟨fr, [.slice .imm (if (p.vars.map dV).isEmpty = true then 0 else 3) (p.vars.map dV), .slice .imm (if (p.procs.map dP).isEmpty = true then 0 else 6) (p.procs.map dP), .int .u8 p.main.kind, .int .i64 p.main.num, .str p.main.name, .slice .imm (if (p.main.kids.map dN).isEmpty = true then 0 else 4) (p.main.kids.map dN)] :: [.bool false] :: r2, nx, lv⟩ ∧ L = W.map (fun x : List Int × Tr => [sl 1 (x.1.map dI), dN x.2]) ∧ (∀ x ∈ W, x ∈ walkL [] p.procs[k].body) ∧ r2[q]? = some [.int .i64 (k : Int)] ∧ (∀ X : List (List D), (r2 ++ X)[q]? = some [.int .i64 (k : Int)]) ∧ r2[r.length + 1]? = some [.slice .imm (if ((ofF p.procs[k].params p.procs[k].body).1.slots.map dSl).isEmpty = true then 0 else 4) ((ofF p.procs[k].params p.procs[k].body).1.slots.map dSl), .int .i64 (ofF p.procs[k].params p.procs[k].body).1.cells, .int .i64 (ofF p.procs[k].params p.procs[k].body).1.stacks] ∧ (∀ X : List (List D), (r2 ++ X)[r.length + 1]? = some [.slice .imm (if ((ofF p.procs[k].params p.procs[k].body).1.slots.map dSl).isEmpty = true then 0 else 4) ((ofF p.procs[k].params p.procs[k].body).1.slots.map dSl), .int .i64 (ofF p.procs[k].params p.procs[k].body).1.cells, .int .i64 (ofF p.procs[k].params p.procs[k].body).1.stacks])) ?_ ?_ _ _ ?_
     rotate_right
     ·refine ⟨_, r ++ [[.int .u8 p.procs[k].body.kind, .int .i64 p.procs[k].body.num, .str p.procs[k].body.name, .slice .imm (if (p.procs[k].body.kids.map dN).isEmpty = true then 0 else 4) (p.procs[k].body.kids.map dN)], [.slice .imm (if ((ofF p.procs[k].params p.procs[k].body).1.slots.map dSl).isEmpty = true then 0 else 4) ((ofF p.procs[k].params p.procs[k].body).1.slots.map dSl), .int .i64 (ofF p.procs[k].params p.procs[k].body).1.cells, .int .i64 (ofF p.procs[k].params p.procs[k].body).1.stacks]], walkL [] p.procs[k].body, _, _, by first | rfl | (simp only [zaa, zca, zna]; rfl), rfl, fun x h => h, hqa _, fun X => by rw [zaa]; exact hqa _, by simp, fun X => by simp⟩
     ·rintro σ ⟨fr, r2, W, nx, lv, rfl, hL, hWm, g1, g2, g3, g4⟩
      have hW0 : W = [] := by cases W with | nil => rfl | cons a b => cases hL
      subst hW0
      show X _ _ _ _
      refine X_seq ?_
      refine X_seq ?_
      refine X_rg fun R hR => ?_
      simp only [EVvP, aops, astep, awant, aeff, aop, mkD, ev, St.put, ia_int, zg1, zg0, zgd, zmo, if_true, zs1, zs0, zlc, zln, zd0, zt1, zt0, Nat.reduceLeDiff, Nat.zero_add, zft, if_false, ty_int, g1]
      with_reducible refine hR _ ?_
      clear hR R
      show X _ _ _ _
      refine X_rg fun R hR => ?_
      simp only [EVvP, app_get0, app_set0, aops, astep, awant, aeff, astore, ev, St.put, gd_int, cl_int, zg1, zg0, zgd, zmo, zbs, if_true, zs1, zs0, zlc, zln, zd1, zd0, zt0, zca, zna, Nat.reduceLeDiff, Nat.zero_add, and_self, ty_int]
      with_reducible refine hR _ ?_
      clear hR R
      show X _ _ _ _
      have hbk : k < 9223372036854775807 := by omega
      refine X_rg fun R hR => ?_
      simp only [EVvP, inr_i64, Int.reduceLE, Int.reduceNeg, app_get0, app_set0, aops, astep, awant, aeff, aop, abin, aint, mkD, astore, ev, ofValue, St.put, gd_int, ia_int, cl_int, zg1, zg0, zgd, zmo, if_true, zs1, zs0, zlc, zln, zd1, zd0, zt1, zt0, zca, zna, Nat.reduceLeDiff, Nat.zero_add, zft, if_false, and_self, ty_int, nat_succ hbk]
      with_reducible refine hR _ ?_
      clear hR R
      show ∃ m, m < _ ∧ _
      exact ⟨p.procs.length + 1 - (k + 1), by omega, k + 1, r2.length, _, _, _, by first | rfl | (simp; done), rfl, by omega, by first | (simp; done) | rfl, fun X => by first | (simp; done) | rfl⟩
     ·rintro row L σ ⟨fr, r2, W, nx, lv, rfl, hL, hWm, g1, g2, g3, g4⟩
      obtain ⟨x, W2, rfl⟩ : ∃ x W2, W = x :: W2 := by cases W with | nil => cases hL | cons a b => exact ⟨a, b, rfl⟩
      simp only [zmc, List.cons.injEq] at hL
      obtain ⟨rfl, rfl⟩ := hL
      obtain ⟨px, m⟩ := x
      refine ⟨by simp only [zlc, zln], ?_⟩
      simp only [setPs, zs1, zs0]
      refine X_rg fun R hR => ?_
      simp only [aops, astep, awant, aeff, aop, ev, St.put, zg1, zg0, zgd, zmo, if_true, zs1, zs0, sl]
      with_reducible refine hR _ ?_
      clear hR R
      refine ⟨rfl, ?_⟩
      refine X_block ?_
      refine X_seq ?_
      obtain ⟨px2, hpx, hpl, hsm⟩ := visW_walk p.procs[k].body [] p.procs[k].params (px, m) (hWm _ List.mem_cons_self)
      simp only [zna] at hpx
      subst hpx
      obtain ⟨w, hw⟩ := Option.isSome_iff_exists.1 hsm
      have hvi := vis_fv p (k : Int) px (by omega)
      rw [if_pos hv] at hvi
      rw [show visA p (k : Int) px = .tup [sl 3 (w.map dV), .int .i64 0] from by unfold visA; rw [if_pos (by omega), eT, eV, hw]; rfl] at hvi
      simp only [sl] at hvi
      have hwl := visW_len px _ _ _ hw
      have hbl := bdV_len hv (k : Int)
      rw [eV] at hbl
      refine X_rg fun R hR => ?_
      simp only [EVvP, aops, astep, awant, aeff, aop, mkD, ev, St.put, pcall, ia_int, zmc, zmn, zg1, zg0, zgd, zmo, if_true, zs1, zs0, zlc, zln, zd0, zt1, zt0, zca, zna, Nat.reduceAdd, Nat.reduceLeDiff, Nat.zero_add, zft, if_false, ty_int, ty_api_Program, any24, dG_agg, hvi, g1]
      with_reducible refine hR _ ?_
      clear hR R
      show X _ _ _ _
      refine X_seq ?_
      refine X_seq ?_
      refine X_rg fun R hR => ?_
      simp only [inr_i64, Int.reduceLE, Int.reduceNeg, aops, astep, awant, aeff, aop, abin, aint, ev, ofValue, St.put, zg1, zg0, zgd, zmo, if_true, zs1, zs0, and_self, bne_self_eq_false, bne_self_eq_false]
      with_reducible refine hR _ ?_
      clear hR R
      show X _ _ _ _
      refine X_false (by simp only [ev, zg1, zg0, zgd]) ?_
      refine X_skip ?_
      show X _ _ _ _
      refine X_seq ?_
      refine X_rg fun R hR => ?_
      simp only [inr_i64, Int.reduceLE, Int.reduceNeg, aops, astep, awant, aeff, aop, ev, ofValue, St.put, zgd, zmo, if_true, zs1, zs0, and_self]
      with_reducible refine hR _ ?_
      clear hR R
      show X _ _ _ _
      refine X_block ?_
      refine X_loop (fun m σ => ∃ (i : Nat) (r3 : List (List D)) (nx : Nat) (lv : List Nat), σ = ⟨[slotOf σ 0, .ptr 0 0, .ptr 1 0, .ptr (q + 1 + 1) 0, slotOf σ 4, slotOf σ 5, .ptr (r.length + 1 + 1 + 1) 0, slotOf σ 7, slotOf σ 8, .slice .imm (if (w.map dV).isEmpty = true then 0 else 3) (w.map dV), slotOf σ 10, .int .i64 i, slotOf σ 12, slotOf σ 13, slotOf σ 14, slotOf σ 15, slotOf σ 16, slotOf σ 17, slotOf σ 18, slotOf σ 19, slotOf σ 20, slotOf σ 21, slotOf σ 22, slotOf σ 23, slotOf σ 24, slotOf σ 25, slotOf σ 26, slotOf σ 27, slotOf σ 28, slotOf σ 29, slotOf σ 30, slotOf σ 31, slotOf σ 32, slotOf σ 33, slotOf σ 34, slotOf σ 35, slotOf σ 36, slotOf σ 37, slotOf σ 38, slotOf σ 39, slotOf σ 40, slotOf σ 41, slotOf σ 42, slotOf σ 43, slotOf σ 44, slotOf σ 45, slotOf σ 46, slotOf σ 47, slotOf σ 48, slotOf σ 49, slotOf σ 50, slotOf σ 51, slotOf σ 52, slotOf σ 53, slotOf σ 54, slotOf σ 55, slotOf σ 56, slotOf σ 57, slotOf σ 58, slotOf σ 59, slotOf σ 60, slotOf σ 61, slotOf σ 62, slotOf σ 63, slotOf σ 64, slotOf σ 65, slotOf σ 66, slotOf σ 67, slotOf σ 68, slotOf σ 69, slotOf σ 70, slotOf σ 71, slotOf σ 72, slotOf σ 73, slotOf σ 74, slotOf σ 75, slotOf σ 76, slotOf σ 77, slotOf σ 78, slotOf σ 79, slotOf σ 80, slotOf σ 81, slotOf σ 82, slotOf σ 83, slotOf σ 84, slotOf σ 85, slotOf σ 86, slotOf σ 87, slotOf σ 88, slotOf σ 89, slotOf σ 90, slotOf σ 91, slotOf σ 92, slotOf σ 93, slotOf σ 94, slotOf σ 95, slotOf σ 96, slotOf σ 97, slotOf σ 98, slotOf σ 99, slotOf σ 100, slotOf σ 101, slotOf σ 102, slotOf σ 103, slotOf σ 104, slotOf σ 105, slotOf σ 106, slotOf σ 107, slotOf σ 108, slotOf σ 109, slotOf σ 110, slotOf σ 111, slotOf σ 112, slotOf σ 113, slotOf σ 114, slotOf σ 115, slotOf σ 116], [.slice .imm (if (p.vars.map dV).isEmpty = true then 0 else 3) (p.vars.map dV), .slice .imm (if (p.procs.map dP).isEmpty = true then 0 else 6) (p.procs.map dP), .int .u8 p.main.kind, .int .i64 p.main.num, .str p.main.name, .slice .imm (if (p.main.kids.map dN).isEmpty = true then 0 else 4) (p.main.kids.map dN)] :: [.bool false] :: r3, nx, lv⟩ ∧ m = w.length - i ∧ i ≤ w.length ∧ r3[q]? = some [.int .i64 (k : Int)] ∧ (∀ X : List (List D), (r3 ++ X)[q]? = some [.int .i64 (k : Int)]) ∧ r3[r.length + 1]? = some [.slice .imm (if ((ofF p.procs[k].params p.procs[k].body).1.slots.map dSl).isEmpty = true then 0 else 4) ((ofF p.procs[k].params p.procs[k].body).1.slots.map dSl), .int .i64 (ofF p.procs[k].params p.procs[k].body).1.cells, .int .i64 (ofF p.procs[k].params p.procs[k].body).1.stacks] ∧ (∀ X : List (List D), (r3 ++ X)[r.length + 1]? = some [.slice .imm (if ((ofF p.procs[k].params p.procs[k].body).1.slots.map dSl).isEmpty = true then 0 else 4) ((ofF p.procs[k].params p.procs[k].body).1.slots.map dSl), .int .i64 (ofF p.procs[k].params p.procs[k].body).1.cells, .int .i64 (ofF p.procs[k].params p.procs[k].body).1.stacks])) ?_ (w.length) _ ?_
      rotate_left
      ·exact ⟨0, r2, _, _, rfl, rfl, Nat.zero_le _, g1, g2, g3, g4⟩
      rintro m σ ⟨i, r3, nx, lv, hσ, rfl, hi, k1, k2, k3, k4⟩
      generalize slotOf σ = x at hσ
      subst hσ
      refine X_seq ?_
      refine X_seq ?_
      refine X_rg fun R hR => ?_
      simp only [EVvP, nat_lt, aops, astep, awant, aeff, aop, abin, aint, ev, St.put, zg1, zg0, zgd, zmo, if_true, zs1, zs0, zlm, und_api_VarDecl]
      with_reducible refine hR _ ?_
      clear hR R
      show X _ _ _ _
      refine X_ite (by simp only [ev, zg1, zg0, zgd]; exact rfl) ?_ ?_
      ·intro b7
       have c7 := b7
       try simp only [decide_eq_true_eq] at c7
       refine X_skip ?_
       show X _ _ _ _
       refine X_seq ?_
       refine X_block ?_
       refine X_seq ?_
       have hlt : i < w.length := by first | assumption | omega
       have hn3 : ((if (w.map dV).isEmpty = true then 0 else 3) = 3) = True := eq_true (sl_n (j := i) (by simpa using hlt))
       have e3 : (w.map dV)[i]? = some (.agg [.str w[i].name, .int .u8 w[i].kind, .int .i64 w[i].len]) := by simp [hlt, dV]
       obtain ⟨c1, c2⟩ := hcv px w hw w[i] (List.getElem_mem hlt)
       have hfd : fn EVv _ _ = _ := by_up (lfind_fn (ofF p.procs[k].params p.procs[k].body).1 w[i].name w[i].kind (by have := ofF_len p.procs[k].params p.procs[k].body; omega))
       rw [c1] at hfd
       simp only [dFm, sl] at hfd
       refine X_rg fun R hR => ?_
       simp only [EVvP, app_get0, app_set0, nat_lt, nat_0, nat_to, aops, astep, awant, aeff, aop, mkD, astore, ev, St.put, pcall, ia_int, cl_int, ia_str, cl_str, zmc, zmn, zg1, zg0, zgd, zmo, zbs, if_true, zs1, zs0, zlm, zlc, zln, zd1, zd0, zt1, zt0, zca, zna, Nat.reduceAdd, Nat.reduceLeDiff, Nat.zero_add, zft, if_false, and_self, reduceCtorEq, decide_true, zis, ty_uint8, ty_string, ty_api_VarDecl, und_api_VarDecl, siz_api_VarDecl, inf_api_VarDecl_eq, ty_layout_Slot, ty_layout_Frame, any11, dSl_cells, dSl_good, hlt, hn3, e3, k3, hfd]
       with_reducible refine hR _ ?_
       clear hR R
       show X _ _ _ _
       refine X_seq ?_
       refine X_rg fun R hR => ?_
       simp only [EVvP, app_get0, nat_lt, nat_0, nat_to, aops, astep, awant, aeff, aop, abin, aint, mkD, ev, ofValue, St.put, ia_int, cl_int, zg1, zg0, zgd, zmo, zbs, if_true, zs1, zs0, zlm, zlc, zln, zd1, zd0, zt1, zt0, Nat.reduceAdd, Nat.reduceLeDiff, Nat.zero_add, Bool.not_true, zft, if_false, and_self, reduceCtorEq, beq_self_eq_true, bne_self_eq_false, zis, ty_int, ty_api_VarDecl, und_api_VarDecl, siz_api_VarDecl, inf_api_VarDecl_eq, ty_layout_Slot, hlt, hn3, e3, c2, bne_self_eq_false]
       with_reducible refine hR _ ?_
       clear hR R
       show X _ _ _ _
       refine X_false (by simp only [ev, zg1, zg0, zgd]) ?_
       refine X_skip ?_
       show X _ _ _ _
       have hbig : i < 9223372036854775807 := by omega
       refine X_rg fun R hR => ?_
       simp only [inr_i64, Int.reduceLE, Int.reduceNeg, aops, astep, awant, aeff, aop, abin, aint, ev, ofValue, St.put, zg1, zg0, zgd, zmo, if_true, zs1, zs0, and_self, nat_succ hbig]
       with_reducible refine hR _ ?_
       clear hR R
       show ∃ m, m < _ ∧ _
       exact ⟨w.length - (i + 1), by omega, i + 1, _, _, _, rfl, rfl, by omega, k2 _, fun X => by rw [zaa]; exact k2 _, k4 _, fun X => by rw [zaa]; exact k4 _⟩
      ·intro b8
       have c8 := b8
       try simp only [decide_eq_false_iff_not] at c8
       refine X_exit ?_
       skip
       exact ⟨_, _, W2, _, _, rfl, rfl, fun x h => hWm x (List.mem_cons_of_mem _ h), k1, k2, k3, k4⟩
   ·intro b9
    have c9 := b9
    try simp only [decide_eq_false_iff_not] at c9
    refine X_skip ?_
    show X _ _ _ _
    refine X_seq ?_
    refine X_seq ?_
    have hkp : ¬ k < p.procs.length := by first | assumption | omega | (simp_all; done)
    have eT : (bdT p (k : Int)) = p.main := by unfold bdT; rw [dif_neg (by omega)]
    have eV : (bdV p (k : Int)) = p.vars := by unfold bdV; rw [dif_neg (by omega)]
    obtain ⟨hof, hcv, hsz⟩ := cov_body hv hc hkle
    rw [eT, eV] at hof hcv
    rw [eT] at hsz
    have hss : fn EVv _ _ = _ := by_up (o_ast_Size p.main (by omega))
    have hO : fn EVv _ _ = _ := by_up (of_fn p.vars p.main (by omega))
    rw [hof] at hO
    have hW : fn EVv _ _ = _ := by_up (o_ast_Walk p.main (by omega))
    simp only [dFm, sl] at hO
    refine X_rg fun R hR => ?_
    simp only [EVvP, inr_i64, Int.reduceLE, Int.reduceNeg, app_get0, aops, astep, awant, aeff, aop, abin, aint, mkD, ev, ofValue, St.put, pcall, zmc, zmn, zg1, zg0, zgd, zmo, if_true, zs1, zs0, zlc, zln, zd0, zt1, zt0, zca, zna, Nat.reduceAdd, Nat.reduceLeDiff, Nat.zero_add, and_self, ty_api_Node, any22, dN_agg, b9, hss]
    with_reducible refine hR _ ?_
    clear hR R
    show X _ _ _ _
    refine X_ite (by simp only [ev, zg1, zg0, zgd]; exact rfl) ?_ ?_
    ·intro b10
     have c10 := b10
     try simp only [decide_eq_true_eq, gt_iff_lt] at c10
     refine X_seq ?_
     refine X_rg fun R hR => ?_
     simp only [EVvP, aops, astep, awant, aeff, astore, ev, ofValue, St.put, gd_bool, cl_bool, zg1, zg0, zgd, zmo, if_true, zs1, zs0, zlc, zln, zd1, zd0, zt0, zca, zna, Nat.reduceLeDiff, Nat.zero_add, and_self, ty_bool, b10]
     with_reducible refine hR _ ?_
     clear hR R
     show X _ _ _ _
     refine X_ret ?_
     show resD _ _ _ = some _
     simp only [resD, resAll, resOne, resTup, Try.results8, EVvP, mkD, ty_bool, zg1, zg0, zd0, zt1, zt0, zlc, zln, Nat.reduceLeDiff, Nat.zero_add, if_true, zft, if_false, D.isAgg, zmo] <;> (first | (rfl; done) | (simp_all; done) | (exfalso; simp_all; done))
    ·intro b11
     have c11 := b11
     try simp only [decide_eq_false_iff_not, Int.not_lt, gt_iff_lt] at c11
     refine X_skip ?_
     show X _ _ _ _
     refine X_seq ?_
     refine X_rg fun R hR => ?_
     simp only [EVvP, app_get0, app_get1, app_set1, aops, astep, awant, aeff, aop, mkD, astore, ev, St.put, pcall, gd_agg, cl_agg, zmc, zmn, zg1, zg0, zgd, zmo, zbs, if_true, zs1, zs0, zlc, zln, zd1, zd0, zt1, zt0, zca, zna, zaa, Nat.reduceAdd, Nat.reduceLeDiff, Nat.zero_add, and_self, ty_api_Node, ty_layout_Frame, any14, dN_agg, b11, hO, zla, zlc, zln]
     with_reducible refine hR _ ?_
     clear hR R
     show X _ _ _ _
     refine X_seq ?_
     refine X_seq ?_
     refine X_rg fun R hR => ?_
     simp only [inr_i64, Int.reduceLE, Int.reduceNeg, aops, astep, awant, aeff, aop, abin, aint, ev, ofValue, St.put, zg1, zg0, zgd, zmo, if_true, zs1, zs0, and_self, bne_self_eq_false, bne_self_eq_false]
     with_reducible refine hR _ ?_
     clear hR R
     show X _ _ _ _
     refine X_false (by simp only [ev, zg1, zg0, zgd]) ?_
     refine X_skip ?_
     show X _ _ _ _
     refine X_seq ?_
     refine X_rg fun R hR => ?_
     simp only [EVvP, app_get0, aops, astep, awant, aeff, aop, mkD, ev, St.put, pcall, zmc, zmn, zg1, zg0, zgd, zmo, if_true, zs1, zs0, zlc, zln, zd0, zt1, zt0, zca, zna, Nat.reduceAdd, Nat.reduceLeDiff, Nat.zero_add, ty_api_Node, any23, dN_agg, hW]
     with_reducible refine hR _ ?_
     clear hR R
     show X _ _ _ _
     refine X_block ?_
     refine X_range (L := walkD p.main) (by simp only [ev, zg1, zg0, zgd]) ?_
     refine XR_inv (fun L σ => ∃ (fr : List D) (r2 : List (List D)) (W : List (List Int × Tr)) (nx : Nat) (lv : List Nat), σ = ⟨fr, [.slice .imm (if (p.vars.map dV).isEmpty = true then 0 else 3) (p.vars.map dV), .slice .imm (if (p.procs.map dP).isEmpty = true then 0 else 6) (p.procs.map dP), .int .u8 p.main.kind, .int .i64 p.main.num, .str p.main.name, .slice .imm (if (p.main.kids.map dN).isEmpty = true then 0 else 4) (p.main.kids.map dN)] :: [.bool false] :: r2, nx, lv⟩ ∧ L = W.map (fun x : List Int × Tr => [sl 1 (x.1.map dI), dN x.2]) ∧ (∀ x ∈ W, x ∈ walkL [] p.main) ∧ r2[q]? = some [.int .i64 (k : Int)] ∧ (∀ X : List (List D), (r2 ++ X)[q]? = some [.int .i64 (k : Int)]) ∧ r2[r.length + 1]? = some [.slice .imm (if ((ofF p.vars p.main).1.slots.map dSl).isEmpty = true then 0 else 4) ((ofF p.vars p.main).1.slots.map dSl), .int .i64 (ofF p.vars p.main).1.cells, .int .i64 (ofF p.vars p.main).1.stacks] ∧ (∀ X : List (List D), (r2 ++ X)[r.length + 1]? = some [.slice .imm (if ((ofF p.vars p.main).1.slots.map dSl).isEmpty = true then 0 else 4) ((ofF p.vars p.main).1.slots.map dSl), .int .i64 (ofF p.vars p.main).1.cells, .int .i64 (ofF p.vars p.main).1.stacks])) ?_ ?_ _ _ ?_
     rotate_right
     ·refine ⟨_, r ++ [[.int .u8 p.main.kind, .int .i64 p.main.num, .str p.main.name, .slice .imm (if (p.main.kids.map dN).isEmpty = true then 0 else 4) (p.main.kids.map dN)], [.slice .imm (if ((ofF p.vars p.main).1.slots.map dSl).isEmpty = true then 0 else 4) ((ofF p.vars p.main).1.slots.map dSl), .int .i64 (ofF p.vars p.main).1.cells, .int .i64 (ofF p.vars p.main).1.stacks]], walkL [] p.main, _, _, by first | rfl | (simp only [zaa, zca, zna]; rfl), rfl, fun x h => h, hqa _, fun X => by rw [zaa]; exact hqa _, by simp, fun X => by simp⟩
     ·rintro σ ⟨fr, r2, W, nx, lv, rfl, hL, hWm, g1, g2, g3, g4⟩
      have hW0 : W = [] := by cases W with | nil => rfl | cons a b => cases hL
      subst hW0
      show X _ _ _ _
      refine X_seq ?_
      refine X_seq ?_
      refine X_rg fun R hR => ?_
      simp only [EVvP, aops, astep, awant, aeff, aop, mkD, ev, St.put, ia_int, zg1, zg0, zgd, zmo, if_true, zs1, zs0, zlc, zln, zd0, zt1, zt0, Nat.reduceLeDiff, Nat.zero_add, zft, if_false, ty_int, g1]
      with_reducible refine hR _ ?_
      clear hR R
      show X _ _ _ _
      refine X_rg fun R hR => ?_
      simp only [EVvP, app_get0, app_set0, aops, astep, awant, aeff, astore, ev, St.put, gd_int, cl_int, zg1, zg0, zgd, zmo, zbs, if_true, zs1, zs0, zlc, zln, zd1, zd0, zt0, zca, zna, Nat.reduceLeDiff, Nat.zero_add, and_self, ty_int]
      with_reducible refine hR _ ?_
      clear hR R
      show X _ _ _ _
      have hbk : k < 9223372036854775807 := by omega
      refine X_rg fun R hR => ?_
      simp only [EVvP, inr_i64, Int.reduceLE, Int.reduceNeg, app_get0, app_set0, aops, astep, awant, aeff, aop, abin, aint, mkD, astore, ev, ofValue, St.put, gd_int, ia_int, cl_int, zg1, zg0, zgd, zmo, if_true, zs1, zs0, zlc, zln, zd1, zd0, zt1, zt0, zca, zna, Nat.reduceLeDiff, Nat.zero_add, zft, if_false, and_self, ty_int, nat_succ hbk]
      with_reducible refine hR _ ?_
      clear hR R
      show ∃ m, m < _ ∧ _
      exact ⟨p.procs.length + 1 - (k + 1), by omega, k + 1, r2.length, _, _, _, by first | rfl | (simp; done), rfl, by omega, by first | (simp; done) | rfl, fun X => by first | (simp; done) | rfl⟩
     ·rintro row L σ ⟨fr, r2, W, nx, lv, rfl, hL, hWm, g1, g2, g3, g4⟩
      obtain ⟨x, W2, rfl⟩ : ∃ x W2, W = x :: W2 := by cases W with | nil => cases hL | cons a b => exact ⟨a, b, rfl⟩
      simp only [zmc, List.cons.injEq] at hL
      obtain ⟨rfl, rfl⟩ := hL
      obtain ⟨px, m⟩ := x
      refine ⟨by simp only [zlc, zln], ?_⟩
      simp only [setPs, zs1, zs0]
      refine X_rg fun R hR => ?_
      simp only [aops, astep, awant, aeff, aop, ev, St.put, zg1, zg0, zgd, zmo, if_true, zs1, zs0, sl]
      with_reducible refine hR _ ?_
      clear hR R
      refine ⟨rfl, ?_⟩
      refine X_block ?_
      refine X_seq ?_
      obtain ⟨px2, hpx, hpl, hsm⟩ := visW_walk p.main [] p.vars (px, m) (hWm _ List.mem_cons_self)
      simp only [zna] at hpx
      subst hpx
      obtain ⟨w, hw⟩ := Option.isSome_iff_exists.1 hsm
      have hvi := vis_fv p (k : Int) px (by omega)
      rw [if_pos hv] at hvi
      rw [show visA p (k : Int) px = .tup [sl 3 (w.map dV), .int .i64 0] from by unfold visA; rw [if_pos (by omega), eT, eV, hw]; rfl] at hvi
      simp only [sl] at hvi
      have hwl := visW_len px _ _ _ hw
      have hbl := bdV_len hv (k : Int)
      rw [eV] at hbl
      refine X_rg fun R hR => ?_
      simp only [EVvP, aops, astep, awant, aeff, aop, mkD, ev, St.put, pcall, ia_int, zmc, zmn, zg1, zg0, zgd, zmo, if_true, zs1, zs0, zlc, zln, zd0, zt1, zt0, zca, zna, Nat.reduceAdd, Nat.reduceLeDiff, Nat.zero_add, zft, if_false, ty_int, ty_api_Program, any24, dG_agg, hvi, g1]
      with_reducible refine hR _ ?_
      clear hR R
      show X _ _ _ _
      refine X_seq ?_
      refine X_seq ?_
      refine X_rg fun R hR => ?_
      simp only [inr_i64, Int.reduceLE, Int.reduceNeg, aops, astep, awant, aeff, aop, abin, aint, ev, ofValue, St.put, zg1, zg0, zgd, zmo, if_true, zs1, zs0, and_self, bne_self_eq_false, bne_self_eq_false]
      with_reducible refine hR _ ?_
      clear hR R
      show X _ _ _ _
      refine X_false (by simp only [ev, zg1, zg0, zgd]) ?_
      refine X_skip ?_
      show X _ _ _ _
      refine X_seq ?_
      refine X_rg fun R hR => ?_
      simp only [inr_i64, Int.reduceLE, Int.reduceNeg, aops, astep, awant, aeff, aop, ev, ofValue, St.put, zgd, zmo, if_true, zs1, zs0, and_self]
      with_reducible refine hR _ ?_
      clear hR R
      show X _ _ _ _
      refine X_block ?_
      refine X_loop (fun m σ => ∃ (i : Nat) (r3 : List (List D)) (nx : Nat) (lv : List Nat), σ = ⟨[slotOf σ 0, .ptr 0 0, .ptr 1 0, .ptr (q + 1 + 1) 0, slotOf σ 4, slotOf σ 5, .ptr (r.length + 1 + 1 + 1) 0, slotOf σ 7, slotOf σ 8, .slice .imm (if (w.map dV).isEmpty = true then 0 else 3) (w.map dV), slotOf σ 10, .int .i64 i, slotOf σ 12, slotOf σ 13, slotOf σ 14, slotOf σ 15, slotOf σ 16, slotOf σ 17, slotOf σ 18, slotOf σ 19, slotOf σ 20, slotOf σ 21, slotOf σ 22, slotOf σ 23, slotOf σ 24, slotOf σ 25, slotOf σ 26, slotOf σ 27, slotOf σ 28, slotOf σ 29, slotOf σ 30, slotOf σ 31, slotOf σ 32, slotOf σ 33, slotOf σ 34, slotOf σ 35, slotOf σ 36, slotOf σ 37, slotOf σ 38, slotOf σ 39, slotOf σ 40, slotOf σ 41, slotOf σ 42, slotOf σ 43, slotOf σ 44, slotOf σ 45, slotOf σ 46, slotOf σ 47, slotOf σ 48, slotOf σ 49, slotOf σ 50, slotOf σ 51, slotOf σ 52, slotOf σ 53, slotOf σ 54, slotOf σ 55, slotOf σ 56, slotOf σ 57, slotOf σ 58, slotOf σ 59, slotOf σ 60, slotOf σ 61, slotOf σ 62, slotOf σ 63, slotOf σ 64, slotOf σ 65, slotOf σ 66, slotOf σ 67, slotOf σ 68, slotOf σ 69, slotOf σ 70, slotOf σ 71, slotOf σ 72, slotOf σ 73, slotOf σ 74, slotOf σ 75, slotOf σ 76, slotOf σ 77, slotOf σ 78, slotOf σ 79, slotOf σ 80, slotOf σ 81, slotOf σ 82, slotOf σ 83, slotOf σ 84, slotOf σ 85, slotOf σ 86, slotOf σ 87, slotOf σ 88, slotOf σ 89, slotOf σ 90, slotOf σ 91, slotOf σ 92, slotOf σ 93, slotOf σ 94, slotOf σ 95, slotOf σ 96, slotOf σ 97, slotOf σ 98, slotOf σ 99, slotOf σ 100, slotOf σ 101, slotOf σ 102, slotOf σ 103, slotOf σ 104, slotOf σ 105, slotOf σ 106, slotOf σ 107, slotOf σ 108, slotOf σ 109, slotOf σ 110, slotOf σ 111, slotOf σ 112, slotOf σ 113, slotOf σ 114, slotOf σ 115, slotOf σ 116], [.slice .imm (if (p.vars.map dV).isEmpty = true then 0 else 3) (p.vars.map dV), .slice .imm (if (p.procs.map dP).isEmpty = true then 0 else 6) (p.procs.map dP), .int .u8 p.main.kind, .int .i64 p.main.num, .str p.main.name, .slice .imm (if (p.main.kids.map dN).isEmpty = true then 0 else 4) (p.main.kids.map dN)] :: [.bool false] :: r3, nx, lv⟩ ∧ m = w.length - i ∧ i ≤ w.length ∧ r3[q]? = some [.int .i64 (k : Int)] ∧ (∀ X : List (List D), (r3 ++ X)[q]? = some [.int .i64 (k : Int)]) ∧ r3[r.length + 1]? = some [.slice .imm (if ((ofF p.vars p.main).1.slots.map dSl).isEmpty = true then 0 else 4) ((ofF p.vars p.main).1.slots.map dSl), .int .i64 (ofF p.vars p.main).1.cells, .int .i64 (ofF p.vars p.main).1.stacks] ∧ (∀ X : List (List D), (r3 ++ X)[r.length + 1]? = some [.slice .imm (if ((ofF p.vars p.main).1.slots.map dSl).isEmpty = true then 0 else 4) ((ofF p.vars p.main).1.slots.map dSl), .int .i64 (ofF p.vars p.main).1.cells, .int .i64 (ofF p.vars p.main).1.stacks])) ?_ (w.length) _ ?_
      rotate_left
      ·exact ⟨0, r2, _, _, rfl, rfl, Nat.zero_le _, g1, g2, g3, g4⟩
      rintro m σ ⟨i, r3, nx, lv, hσ, rfl, hi, k1, k2, k3, k4⟩
      generalize slotOf σ = x at hσ
      subst hσ
      refine X_seq ?_
      refine X_seq ?_
      refine X_rg fun R hR => ?_
      simp only [EVvP, nat_lt, aops, astep, awant, aeff, aop, abin, aint, ev, St.put, zg1, zg0, zgd, zmo, if_true, zs1, zs0, zlm, und_api_VarDecl]
      with_reducible refine hR _ ?_
      clear hR R
      show X _ _ _ _
      refine X_ite (by simp only [ev, zg1, zg0, zgd]; exact rfl) ?_ ?_
      ·intro b12
       have c12 := b12
       try simp only [decide_eq_true_eq] at c12
       refine X_skip ?_
       show X _ _ _ _
       refine X_seq ?_
       refine X_block ?_
       refine X_seq ?_
       have hlt : i < w.length := by first | assumption | omega
       have hn3 : ((if (w.map dV).isEmpty = true then 0 else 3) = 3) = True := eq_true (sl_n (j := i) (by simpa using hlt))
       have e3 : (w.map dV)[i]? = some (.agg [.str w[i].name, .int .u8 w[i].kind, .int .i64 w[i].len]) := by simp [hlt, dV]
       obtain ⟨c1, c2⟩ := hcv px w hw w[i] (List.getElem_mem hlt)
       have hfd : fn EVv _ _ = _ := by_up (lfind_fn (ofF p.vars p.main).1 w[i].name w[i].kind (by have := ofF_len p.vars p.main; omega))
       rw [c1] at hfd
       simp only [dFm, sl] at hfd
       refine X_rg fun R hR => ?_
       simp only [EVvP, app_get0, app_set0, nat_lt, nat_0, nat_to, aops, astep, awant, aeff, aop, mkD, astore, ev, St.put, pcall, ia_int, cl_int, ia_str, cl_str, zmc, zmn, zg1, zg0, zgd, zmo, zbs, if_true, zs1, zs0, zlm, zlc, zln, zd1, zd0, zt1, zt0, zca, zna, Nat.reduceAdd, Nat.reduceLeDiff, Nat.zero_add, zft, if_false, and_self, reduceCtorEq, decide_true, zis, ty_uint8, ty_string, ty_api_VarDecl, und_api_VarDecl, siz_api_VarDecl, inf_api_VarDecl_eq, ty_layout_Slot, ty_layout_Frame, any11, dSl_cells, dSl_good, hlt, hn3, e3, k3, hfd]
       with_reducible refine hR _ ?_
       clear hR R
       show X _ _ _ _
       refine X_seq ?_
       refine X_rg fun R hR => ?_
       simp only [EVvP, app_get0, nat_lt, nat_0, nat_to, aops, astep, awant, aeff, aop, abin, aint, mkD, ev, ofValue, St.put, ia_int, cl_int, zg1, zg0, zgd, zmo, zbs, if_true, zs1, zs0, zlm, zlc, zln, zd1, zd0, zt1, zt0, Nat.reduceAdd, Nat.reduceLeDiff, Nat.zero_add, Bool.not_true, zft, if_false, and_self, reduceCtorEq, beq_self_eq_true, bne_self_eq_false, zis, ty_int, ty_api_VarDecl, und_api_VarDecl, siz_api_VarDecl, inf_api_VarDecl_eq, ty_layout_Slot, hlt, hn3, e3, c2, bne_self_eq_false]
       with_reducible refine hR _ ?_
       clear hR R
       show X _ _ _ _
       refine X_false (by simp only [ev, zg1, zg0, zgd]) ?_
       refine X_skip ?_
       show X _ _ _ _
       have hbig : i < 9223372036854775807 := by omega
       refine X_rg fun R hR => ?_
       simp only [inr_i64, Int.reduceLE, Int.reduceNeg, aops, astep, awant, aeff, aop, abin, aint, ev, ofValue, St.put, zg1, zg0, zgd, zmo, if_true, zs1, zs0, and_self, nat_succ hbig]
       with_reducible refine hR _ ?_
       clear hR R
       show ∃ m, m < _ ∧ _
       exact ⟨w.length - (i + 1), by omega, i + 1, _, _, _, rfl, rfl, by omega, k2 _, fun X => by rw [zaa]; exact k2 _, k4 _, fun X => by rw [zaa]; exact k4 _⟩
      ·intro b13
       have c13 := b13
       try simp only [decide_eq_false_iff_not] at c13
       refine X_exit ?_
       skip
       exact ⟨_, _, W2, _, _, rfl, rfl, fun x h => hWm x (List.mem_cons_of_mem _ h), k1, k2, k3, k4⟩
  ·intro b14
   have c14 := b14
   try simp only [decide_eq_false_iff_not, Int.not_le] at c14
   refine X_exit ?_
   show X _ _ _ _
   refine X_seq ?_
   refine X_rg fun R hR => ?_
   simp only [EVvP, aops, astep, awant, aeff, astore, ev, ofValue, St.put, gd_bool, cl_bool, zg1, zg0, zgd, zmo, if_true, zs1, zs0, zlc, zln, zd1, zd0, zt0, zca, zna, Nat.reduceLeDiff, Nat.zero_add, and_self, ty_bool, b14]
   with_reducible refine hR _ ?_
   clear hR R
   show X _ _ _ _
   refine X_ret ?_
   show resD _ _ _ = some _
   simp only [resD, resAll, resOne, resTup, Try.results8, EVvP, mkD, ty_bool, zg1, zg0, zd0, zt1, zt0, zlc, zln, Nat.reduceLeDiff, Nat.zero_add, if_true, zft, if_false, D.isAgg, zmo] <;> (first | (rfl; done) | (simp_all; done) | (exfalso; simp_all; done))
theorem lawC_fn (p : Pg) : fn EVv 8 [dG p] = some (.bool true) := by
 cases hv : validB p with
 | false => exact lawC_v p hv
 | true =>
  by_cases hc : checkF p = []
  ·exact lawC_y p hv hc
  ·exact lawC_c p hv hc

end Go.Proofs.Ythgdibdapjaljaa
