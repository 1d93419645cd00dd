/- The law ConstfoldTwice: its walk. -/
import Derived.Test.YtlpgapmbajblmaaQ8g
namespace Go.Proofs.Ytlpgapmbajblmaa
open Go.RowKit

theorem exprT_idem (t : Tr) : exprT (exprT t) = exprT t := by
 unfold exprT
 cases h : exprB t with
 | true => simp only [if_true]; rw [if_pos (fold_expr t h), fold_idem t h]
 | false => simp [h]
set_option maxRecDepth 100000 in
set_option maxHeartbeats 4000000 in
theorem law10_0 (p : Pg) (t : Tr) (hbp : bigP p = true) : fn EVp 10 [dG p, dN t] = some (.bool true) := by
 refine fn_X rfl Try.func10 rfl (by simp only [plain, List.all_cons, List.all_nil, dG_pl, dN_pl, Bool.and_true]) (rfl) (rfl) (rfl) ?_
 simp only [zmc, zmn, dG_strip, dN_strip]
 simp only [enterSt, Try.ntmps10, zlc, zln, Nat.reduceAdd, Nat.reduceSub, zr1, zr0, zca, zna]
 refine X_seq ?_
 refine X_rg fun R hR => ?_
 simp only [aops, astep, awant, aeff, aop, ev, ofValue, St.put, zg1, zg0, zgd, zmo, if_true, zs1, zs0, zlc, zln, zca, zna, Nat.zero_add, dG_cells, dG_good, dN_cells, dN_good, sl]
 with_reducible refine hR _ ?_
 clear hR R
 show X _ _ _ _
 refine X_seq ?_
 refine X_seq ?_
 refine X_rg fun R hR => ?_
 simp only [EVpP, aops, astep, awant, aeff, aop, ev, St.put, pcall, zmn, zg1, zg0, zgd, zmo, if_true, zs1, zs0, zna, Bool.not_true, any11, awake_p]
 with_reducible refine hR _ ?_
 clear hR R
 show X _ _ _ _
 refine X_false (by simp only [ev, zg1, zg0, zgd]) ?_
 refine X_skip ?_
 show X _ _ _ _
 refine X_seq ?_
 refine X_seq ?_
 have hb : fn EVp _ _ = _ := by_up (bigP_fn p)
 rw [hbp] at hb
 refine X_rg fun R hR => ?_
 simp only [EVpP, aops, astep, awant, aeff, aop, mkD, ev, ofValue, St.put, pcall, zmc, zmn, zg1, zg0, zgd, zmo, zbs, if_true, zs1, zs0, zlc, zln, zd0, zt1, zt0, zca, zna, Nat.reduceAdd, Nat.reduceLeDiff, Nat.zero_add, zft, if_false, bq_tf, ty_api_Node, ty_api_Program, any12, any29, dG_agg, dN_agg, hb]
 with_reducible refine hR _ ?_
 clear hR R
 show X _ _ _ _
 refine X_true (by simp only [ev, zg1, zg0, zgd]) ?_
 refine X_seq ?_
 refine X_rg fun R hR => ?_
 simp only [aops, astep, awant, aeff, aop, ev, ofValue, St.put, zgd, zmo, if_true, zs1, zs0]
 with_reducible refine hR _ ?_
 clear hR R
 show X _ _ _ _
 refine X_ret ?_
 show resD _ _ _ = some _
 simp only [resD, resAll, resOne, resTup, Try.results10, EVpP, zg1, zg0, D.good, if_true, zmo] <;> (first | (rfl; done) | (simp_all; done) | (exfalso; simp_all; done))
set_option maxRecDepth 100000 in
set_option maxHeartbeats 4000000 in
theorem law10_1 (p : Pg) (t : Tr) (hbp : bigP p = false) (hbt : bigB t = true) : fn EVp 10 [dG p, dN t] = some (.bool true) := by
 refine fn_X rfl Try.func10 rfl (by simp only [plain, List.all_cons, List.all_nil, dG_pl, dN_pl, Bool.and_true]) (rfl) (rfl) (rfl) ?_
 simp only [zmc, zmn, dG_strip, dN_strip]
 simp only [enterSt, Try.ntmps10, zlc, zln, Nat.reduceAdd, Nat.reduceSub, zr1, zr0, zca, zna]
 refine X_seq ?_
 refine X_rg fun R hR => ?_
 simp only [aops, astep, awant, aeff, aop, ev, ofValue, St.put, zg1, zg0, zgd, zmo, if_true, zs1, zs0, zlc, zln, zca, zna, Nat.zero_add, dG_cells, dG_good, dN_cells, dN_good, sl]
 with_reducible refine hR _ ?_
 clear hR R
 show X _ _ _ _
 refine X_seq ?_
 refine X_seq ?_
 refine X_rg fun R hR => ?_
 simp only [EVpP, aops, astep, awant, aeff, aop, ev, St.put, pcall, zmn, zg1, zg0, zgd, zmo, if_true, zs1, zs0, zna, Bool.not_true, any11, awake_p]
 with_reducible refine hR _ ?_
 clear hR R
 show X _ _ _ _
 refine X_false (by simp only [ev, zg1, zg0, zgd]) ?_
 refine X_skip ?_
 show X _ _ _ _
 refine X_seq ?_
 refine X_seq ?_
 have hb : fn EVp _ _ = _ := by_up (bigP_fn p)
 rw [hbp] at hb
 have hb2 : fn EVp _ _ = _ := by_up (o_backstepref03_Big t)
 rw [hbt] at hb2
 refine X_rg fun R hR => ?_
 simp only [EVpP, aops, astep, awant, aeff, aop, mkD, ev, ofValue, St.put, pcall, zmc, zmn, zg1, zg0, zgd, zmo, zbs, if_true, zs1, zs0, zlc, zln, zd0, zt1, zt0, zca, zna, Nat.reduceAdd, Nat.reduceLeDiff, Nat.zero_add, zft, if_false, beq_self_eq_true, ty_api_Node, ty_api_Program, any12, any29, dG_agg, dN_agg, hb, hb2]
 with_reducible refine hR _ ?_
 clear hR R
 show X _ _ _ _
 refine X_true (by simp only [ev, zg1, zg0, zgd]) ?_
 refine X_seq ?_
 refine X_rg fun R hR => ?_
 simp only [aops, astep, awant, aeff, aop, ev, ofValue, St.put, zgd, zmo, if_true, zs1, zs0]
 with_reducible refine hR _ ?_
 clear hR R
 show X _ _ _ _
 refine X_ret ?_
 show resD _ _ _ = some _
 simp only [resD, resAll, resOne, resTup, Try.results10, EVpP, zg1, zg0, D.good, if_true, zmo] <;> (first | (rfl; done) | (simp_all; done) | (exfalso; simp_all; done))
set_option maxRecDepth 100000 in
set_option maxHeartbeats 4000000 in
theorem law10_2 (p : Pg) (t : Tr) (hbp : bigP p = false) (hbt : bigB t = false) (hh : hiG p) : fn EVp 10 [dG p, dN t] = some (.bool true) := by
 refine fn_X rfl Try.func10 rfl (by simp only [plain, List.all_cons, List.all_nil, dG_pl, dN_pl, Bool.and_true]) (rfl) (rfl) (rfl) ?_
 simp only [zmc, zmn, dG_strip, dN_strip]
 simp only [enterSt, Try.ntmps10, zlc, zln, Nat.reduceAdd, Nat.reduceSub, zr1, zr0, zca, zna]
 refine X_seq ?_
 refine X_rg fun R hR => ?_
 simp only [aops, astep, awant, aeff, aop, ev, ofValue, St.put, zg1, zg0, zgd, zmo, if_true, zs1, zs0, zlc, zln, zca, zna, Nat.zero_add, dG_cells, dG_good, dN_cells, dN_good, sl]
 with_reducible refine hR _ ?_
 clear hR R
 show X _ _ _ _
 refine X_seq ?_
 refine X_seq ?_
 refine X_rg fun R hR => ?_
 simp only [EVpP, aops, astep, awant, aeff, aop, ev, St.put, pcall, zmn, zg1, zg0, zgd, zmo, if_true, zs1, zs0, zna, Bool.not_true, any11, awake_p]
 with_reducible refine hR _ ?_
 clear hR R
 show X _ _ _ _
 refine X_false (by simp only [ev, zg1, zg0, zgd]) ?_
 refine X_skip ?_
 show X _ _ _ _
 refine X_seq ?_
 refine X_seq ?_
 have hb : fn EVp _ _ = _ := by_up (bigP_fn p)
 rw [hbp] at hb
 have hb2 : fn EVp _ _ = _ := by_up (o_backstepref03_Big t)
 rw [hbt] at hb2
 refine X_rg fun R hR => ?_
 simp only [EVpP, aops, astep, awant, aeff, aop, mkD, ev, ofValue, St.put, pcall, zmc, zmn, zg1, zg0, zgd, zmo, zbs, if_true, zs1, zs0, zlc, zln, zd0, zt1, zt0, zca, zna, Nat.reduceAdd, Nat.reduceLeDiff, Nat.zero_add, zft, if_false, beq_self_eq_true, ty_api_Node, ty_api_Program, any12, any29, dG_agg, dN_agg, hb, hb2]
 with_reducible refine hR _ ?_
 clear hR R
 show X _ _ _ _
 refine X_false (by simp only [ev, zg1, zg0, zgd]) ?_
 refine X_skip ?_
 show X _ _ _ _
 refine X_seq ?_
 obtain ⟨ho, q1, q2, q3, q4⟩ := bigP_ok hbp
 have hP := prog_fn p ho
 have ht := (bigB_no hbt).1
 have hE : fn EVp _ _ = _ := by_up (expr_fn t (by omega))
 have hes := exprT_size t
 refine X_rg fun R hR => ?_
 simp only [EVpP, aops, astep, awant, aeff, aop, mkD, astore, ev, St.put, pcall, zmc, zmn, zg1, zg0, zgd, zmo, zbs, if_true, zs1, zs0, zlc, zln, zd1, zd0, zt1, zt0, zca, zna, Nat.reduceAdd, Nat.reduceLeDiff, Nat.zero_add, and_self, ty_api_Node, ty_api_Program, any16, any31, dG_agg, dG_cells, dG_good, dN_agg, dN_cells, dN_good, sl, hP, hE]
 with_reducible refine hR _ ?_
 clear hR R
 show X _ _ _ _
 refine X_seq ?_
 obtain ⟨ho2, r1, r2, r4⟩ := progT_ok hbp hh
 have hP2 := prog_fn (progT p) ho2
 rw [progT_idem hh] at hP2
 have hS : fn EVp _ _ = _ := by_up (same_fn (progT p) (progT p) (by omega) (by omega) (fun q hq => by have := (r4 q hq).1; omega))
 rw [sameB_refl] at hS
 have hE2 : fn EVp _ _ = _ := by_up (expr_fn (exprT t) (by omega))
 rw [exprT_idem] at hE2
 have hQ : fn EVp _ _ = _ := by_up (o_ast_Equal (exprT t) (exprT t))
 rw [eqB_refl] at hQ
 refine X_rg fun R hR => ?_
 simp only [EVpP, aops, astep, awant, aeff, aop, mkD, ev, ofValue, St.put, pcall, zmc, zmn, zg1, zg0, zgd, zmo, zbs, if_true, zs1, zs0, zlc, zln, zd0, zt1, zt0, zca, zna, Nat.reduceAdd, Nat.reduceLeDiff, Nat.zero_add, beq_self_eq_true, ty_api_Node, ty_api_Program, any16, any26, any31, any36, dG_agg, dN_agg, hP2, hS, hE2, hQ]
 with_reducible refine hR _ ?_
 clear hR R
 show X _ _ _ _
 refine X_ret ?_
 show resD _ _ _ = some _
 simp only [resD, resAll, resOne, resTup, Try.results10, EVpP, zg1, zg0, D.good, if_true, zmo] <;> (first | (rfl; done) | (simp_all; done) | (exfalso; simp_all; done))
theorem law10_fn (p : Pg) (t : Tr) (hh : hiG p) : fn EVp 10 [dG p, dN t] = some (.bool true) := by
 cases h : bigP p with
 | true => exact law10_0 p t h
 | false =>
 cases h2 : bigB t with
 | true => exact law10_1 p t h h2
 | false => exact law10_2 p t h h2 hh

end Go.Proofs.Ytlpgapmbajblmaa
