/- The law EffectsIndependent: its walk. -/
import Derived.Test.YtkkhjpkkjpcbmaaE9
namespace Go.Proofs.Ytkkhjpkkjpcbmaa
open Go.RowKit

set_option maxRecDepth 100000 in
set_option maxHeartbeats 4000000 in
theorem lawEffectsIndependent_00 (t w : Tr) (h1 : fewB t = false) : fn EVe 5 [dN t, dN w] = some (.bool true) := by
 refine fn_X rfl Try.func5 rfl (by simp only [plain, List.all_cons, List.all_nil, dN_under, dN_good, Bool.and_self]) (rfl) (rfl) (rfl) ?_
 simp only [zmc, zmn, dN_strip]
 simp only [enterSt, Try.ntmps5, zlc, zln, Nat.reduceAdd, Nat.reduceSub, zr1, zr0, zca, zna]
 refine X_seq ?_
 refine X_rg fun R hR => ?_
 simp only [aops, astep, awant, aeff, aop, ev, ofValue, St.put, zg1, zg0, zgd, zmo, if_true, zs1, zs0, zlc, zln, zca, zna, Nat.zero_add, dN_cells, dN_good, sl]
 with_reducible refine hR _ ?_
 clear hR R
 show X _ _ _ _
 refine X_seq ?_
 refine X_seq ?_
 have hw := few_e t
 rw [h1] at hw
 refine X_rg fun R hR => ?_
 simp only [EVeP, aops, astep, awant, aeff, aop, mkD, ev, ofValue, St.put, pcall, zmc, zmn, zg1, zg0, zgd, zmo, Option.map_none, zbs, if_true, zs1, zs0, zlc, zln, zd0, zt1, zt0, zca, zna, Nat.reduceAdd, Nat.reduceLeDiff, Nat.zero_add, Bool.not_true, Bool.not_false, zft, if_false, beq_self_eq_true, bq_tf, ty_api_Node, any11, any12, dN_agg, awake_e, hw]
 with_reducible refine hR _ ?_
 clear hR R
 show X _ _ _ _
 refine X_true (by simp only [ev, zg1, zg0, zgd]) ?_
 refine X_seq ?_
 refine X_rg fun R hR => ?_
 simp only [EVeP, aops, astep, awant, aeff, aop, ev, St.put, pcall, zmn, zg1, zg0, zgd, zmo, if_true, zs1, zs0, zna, any11, awake_e]
 with_reducible refine hR _ ?_
 clear hR R
 show X _ _ _ _
 refine X_ret ?_
 show resD _ _ _ = some _
 simp only [resD, resAll, resOne, resTup, Try.results5, EVeP, zg1, zg0, D.good, if_true, zmo] <;> (first | (rfl; done) | (simp_all; done) | (exfalso; simp_all; done))
set_option maxRecDepth 100000 in
set_option maxHeartbeats 4000000 in
theorem lawEffectsIndependent_10 (t w : Tr) (h1 : fewB t = true) (h2 : fewB w = false) : fn EVe 5 [dN t, dN w] = some (.bool true) := by
 refine fn_X rfl Try.func5 rfl (by simp only [plain, List.all_cons, List.all_nil, dN_under, dN_good, Bool.and_self]) (rfl) (rfl) (rfl) ?_
 simp only [zmc, zmn, dN_strip]
 simp only [enterSt, Try.ntmps5, zlc, zln, Nat.reduceAdd, Nat.reduceSub, zr1, zr0, zca, zna]
 refine X_seq ?_
 refine X_rg fun R hR => ?_
 simp only [aops, astep, awant, aeff, aop, ev, ofValue, St.put, zg1, zg0, zgd, zmo, if_true, zs1, zs0, zlc, zln, zca, zna, Nat.zero_add, dN_cells, dN_good, sl]
 with_reducible refine hR _ ?_
 clear hR R
 show X _ _ _ _
 refine X_seq ?_
 refine X_seq ?_
 have hw := few_e t
 rw [h1] at hw
 have hw2 := few_e w
 rw [h2] at hw2
 refine X_rg fun R hR => ?_
 simp only [EVeP, aops, astep, awant, aeff, aop, mkD, ev, ofValue, St.put, pcall, zmc, zmn, zg1, zg0, zgd, zmo, zbs, if_true, zs1, zs0, zlc, zln, zd0, zt1, zt0, zca, zna, Nat.reduceAdd, Nat.reduceLeDiff, Nat.zero_add, Bool.not_true, Bool.not_false, zft, if_false, beq_self_eq_true, ty_api_Node, any11, any12, dN_agg, awake_e, hw, hw2]
 with_reducible refine hR _ ?_
 clear hR R
 show X _ _ _ _
 refine X_true (by simp only [ev, zg1, zg0, zgd]) ?_
 refine X_seq ?_
 refine X_rg fun R hR => ?_
 simp only [EVeP, aops, astep, awant, aeff, aop, ev, St.put, pcall, zmn, zg1, zg0, zgd, zmo, if_true, zs1, zs0, zna, any11, awake_e]
 with_reducible refine hR _ ?_
 clear hR R
 show X _ _ _ _
 refine X_ret ?_
 show resD _ _ _ = some _
 simp only [resD, resAll, resOne, resTup, Try.results5, EVeP, zg1, zg0, D.good, if_true, zmo] <;> (first | (rfl; done) | (simp_all; done) | (exfalso; simp_all; done))
set_option maxRecDepth 100000 in
set_option maxHeartbeats 4000000 in
theorem lawEffectsIndependent_11 (t w : Tr) (h1 : fewB t = true) (h2 : fewB w = true) : fn EVe 5 [dN t, dN w] = some (.bool true) := by
 refine fn_X rfl Try.func5 rfl (by simp only [plain, List.all_cons, List.all_nil, dN_under, dN_good, Bool.and_self]) (rfl) (rfl) (rfl) ?_
 simp only [zmc, zmn, dN_strip]
 simp only [enterSt, Try.ntmps5, zlc, zln, Nat.reduceAdd, Nat.reduceSub, zr1, zr0, zca, zna]
 refine X_seq ?_
 refine X_rg fun R hR => ?_
 simp only [aops, astep, awant, aeff, aop, ev, ofValue, St.put, zg1, zg0, zgd, zmo, if_true, zs1, zs0, zlc, zln, zca, zna, Nat.zero_add, dN_cells, dN_good, sl]
 with_reducible refine hR _ ?_
 clear hR R
 show X _ _ _ _
 refine X_seq ?_
 refine X_seq ?_
 have hw := few_e t
 rw [h1] at hw
 have hw2 := few_e w
 rw [h2] at hw2
 refine X_rg fun R hR => ?_
 simp only [EVeP, aops, astep, awant, aeff, aop, mkD, ev, ofValue, St.put, pcall, zmc, zmn, zg1, zg0, zgd, zmo, zbs, if_true, zs1, zs0, zlc, zln, zd0, zt1, zt0, zca, zna, Nat.reduceAdd, Nat.reduceLeDiff, Nat.zero_add, Bool.not_true, zft, if_false, beq_self_eq_true, ty_api_Node, any11, any12, dN_agg, awake_e, hw, hw2]
 with_reducible refine hR _ ?_
 clear hR R
 show X _ _ _ _
 refine X_false (by simp only [ev, zg1, zg0, zgd]) ?_
 refine X_skip ?_
 show X _ _ _ _
 refine X_seq ?_
 have hz := few_sz h1
 have hz2 := few_sz h2
 have g1 := ind_e t w (by omega) (by omega)
 refine X_rg fun R hR => ?_
 simp only [EVeP, aops, astep, awant, aeff, aop, mkD, ev, St.put, pcall, zmc, zmn, zg1, zg0, zgd, zmo, if_true, zs1, zs0, zlc, zln, zd0, zt1, zt0, zca, zna, Nat.reduceAdd, Nat.reduceLeDiff, Nat.zero_add, ty_api_Node, any20, dN_agg, g1]
 with_reducible refine hR _ ?_
 clear hR R
 show X _ _ _ _
 refine X_seq ?_
 have g2 : fn EVe _ _ = _ := fn_more (rind_fn t w (by omega) (by omega))
 have g3 := ind_e w t (by omega) (by omega)
 rw [← ind_comm] at g3
 refine X_rg fun R hR => ?_
 simp only [EVeP, aops, astep, awant, aeff, aop, abin, mkD, ev, ofValue, St.put, pcall, zmc, zmn, zg1, zg0, zgd, zmo, zbs, if_true, zs1, zs0, zlc, zln, zd0, zt1, zt0, zca, zna, Nat.reduceAdd, Nat.reduceLeDiff, Nat.zero_add, beq_self_eq_true, ty_api_Node, und_bool', any20, any21, dN_agg, g2, g3]
 with_reducible refine hR _ ?_
 clear hR R
 show X _ _ _ _
 refine X_ret ?_
 show resD _ _ _ = some _
 simp only [resD, resAll, resOne, resTup, Try.results5, EVeP, zg1, zg0, D.good, if_true, zmo] <;> (first | (rfl; done) | (simp_all; done) | (exfalso; simp_all; done))
theorem lawEffectsIndependent_fn (t w : Tr) : fn EVe 5 [dN t, dN w] = some (.bool true) := by
 cases h : fewB t
 ·exact lawEffectsIndependent_00 t w h
 ·cases h2 : fewB w
  ·exact lawEffectsIndependent_10 t w h h2
  ·exact lawEffectsIndependent_11 t w h h2

end Go.Proofs.Ytkkhjpkkjpcbmaa
