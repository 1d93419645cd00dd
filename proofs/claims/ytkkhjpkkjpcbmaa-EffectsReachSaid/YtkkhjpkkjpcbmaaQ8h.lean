/- The law EffectsReach: its walk. -/
import Derived.Test.YtkkhjpkkjpcbmaaG6
namespace Go.Proofs.Ytkkhjpkkjpcbmaa
open Go.RowKit

set_option maxRecDepth 100000 in
set_option maxHeartbeats 4000000 in
theorem lawReach_n (p : Pg) (q : Int) (ha : smallP p = false) : fn EVg 10 [dG p, .int .i64 q] = some (.bool true) := by
 refine fn_X rfl Try.func10 rfl (by simp only [plain, List.all_cons, List.all_nil, dG_pl, int_pl, Bool.and_true]) (rfl) (rfl) (rfl) ?_
 simp only [zmc, zmn, D.strip, dG_strip]
 simp only [enterSt, Try.ntmps10, zlc, zln, Nat.reduceAdd, Nat.reduceSub, zr1, zr0, zca, zna]
 refine X_seq ?_
 refine X_rg fun R hR => ?_
 simp only [aops, astep, awant, aeff, aop, ev, ofValue, St.put, zg0, zgd, zmo, if_true, zs1, zs0, zln, zna, dG_cells, dG_good]
 with_reducible refine hR _ ?_
 clear hR R
 show X _ _ _ _
 refine X_seq ?_
 refine X_seq ?_
 have hA := all_g p
 rw [ha] at hA
 refine X_rg fun R hR => ?_
 simp only [EVgP, inr_i64, Int.reduceLE, Int.reduceNeg, aops, astep, awant, aeff, aop, abin, mkD, ev, ofValue, St.put, pcall, zmc, zmn, zg1, zg0, zgd, zmo, Option.map_none, zbs, if_true, zs1, zs0, zlc, zln, zd0, zt1, zt0, zca, zna, Nat.reduceAdd, Nat.reduceLeDiff, Nat.zero_add, Bool.not_true, Bool.not_false, zft, if_false, and_self, reduceCtorEq, beq_self_eq_true, bq_tf, ty_s_api_Proc, ty_api_Program, und_api_Proc, any11, any24, dG_agg, awake_g, hA]
 with_reducible refine hR _ ?_
 clear hR R
 show X _ _ _ _
 refine X_true (by simp only [ev, zg1, zg0, zgd]) ?_
 refine X_seq ?_
 refine X_rg fun R hR => ?_
 simp only [EVgP, aops, astep, awant, aeff, aop, ev, St.put, pcall, zmn, zg1, zg0, zgd, zmo, if_true, zs1, zs0, zna, any11, awake_g]
 with_reducible refine hR _ ?_
 clear hR R
 show X _ _ _ _
 refine X_ret ?_
 show resD _ _ _ = some _
 simp only [resD, resAll, resOne, resTup, Try.results10, EVgP, zg1, zg0, D.good, if_true, zmo]
set_option maxRecDepth 100000 in
set_option maxHeartbeats 4000000 in
theorem lawReach_1 (p : Pg) (q : Int) (ha : smallP p = true) (hq : q < 0) : fn EVg 10 [dG p, .int .i64 q] = some (.bool true) := by
 refine fn_X rfl Try.func10 rfl (by simp only [plain, List.all_cons, List.all_nil, dG_pl, int_pl, Bool.and_true]) (rfl) (rfl) (rfl) ?_
 simp only [zmc, zmn, D.strip, dG_strip]
 simp only [enterSt, Try.ntmps10, zlc, zln, Nat.reduceAdd, Nat.reduceSub, zr1, zr0, zca, zna]
 refine X_seq ?_
 refine X_rg fun R hR => ?_
 simp only [aops, astep, awant, aeff, aop, ev, ofValue, St.put, zg0, zgd, zmo, if_true, zs1, zs0, zln, zna, dG_cells, dG_good]
 with_reducible refine hR _ ?_
 clear hR R
 show X _ _ _ _
 refine X_seq ?_
 refine X_seq ?_
 have hA := all_g p
 rw [ha] at hA
 have h1 : (decide (q < 0)) = true := by simpa using hq
 refine X_rg fun R hR => ?_
 simp only [EVgP, inr_i64, Int.reduceLE, Int.reduceNeg, aops, astep, awant, aeff, aop, abin, aint, mkD, ev, ofValue, St.put, pcall, zmc, zmn, zg1, zg0, zgd, zmo, Option.map_none, zbs, if_true, zs1, zs0, zlc, zln, zd0, zt1, zt0, zca, zna, Nat.reduceAdd, Nat.reduceLeDiff, Nat.zero_add, Bool.not_true, zft, if_false, and_self, reduceCtorEq, beq_self_eq_true, bq_tf, ty_s_api_Proc, ty_api_Program, und_api_Proc, any11, any24, dG_agg, awake_g, hA, h1]
 with_reducible refine hR _ ?_
 clear hR R
 show X _ _ _ _
 refine X_true (by simp only [ev, zg1, zg0, zgd]) ?_
 refine X_seq ?_
 refine X_rg fun R hR => ?_
 simp only [EVgP, aops, astep, awant, aeff, aop, ev, St.put, pcall, zmn, zg1, zg0, zgd, zmo, if_true, zs1, zs0, zna, any11, awake_g]
 with_reducible refine hR _ ?_
 clear hR R
 show X _ _ _ _
 refine X_ret ?_
 show resD _ _ _ = some _
 simp only [resD, resAll, resOne, resTup, Try.results10, EVgP, zg1, zg0, D.good, if_true, zmo]
set_option maxRecDepth 100000 in
set_option maxHeartbeats 4000000 in
theorem lawReach_2 (p : Pg) (q : Int) (ha : smallP p = true) (hq0 : ¬ q < 0) (hq : (p.procs.length : Int) ≤ q) : fn EVg 10 [dG p, .int .i64 q] = some (.bool true) := by
 refine fn_X rfl Try.func10 rfl (by simp only [plain, List.all_cons, List.all_nil, dG_pl, int_pl, Bool.and_true]) (rfl) (rfl) (rfl) ?_
 simp only [zmc, zmn, D.strip, dG_strip]
 simp only [enterSt, Try.ntmps10, zlc, zln, Nat.reduceAdd, Nat.reduceSub, zr1, zr0, zca, zna]
 refine X_seq ?_
 refine X_rg fun R hR => ?_
 simp only [aops, astep, awant, aeff, aop, ev, ofValue, St.put, zg0, zgd, zmo, if_true, zs1, zs0, zln, zna, dG_cells, dG_good]
 with_reducible refine hR _ ?_
 clear hR R
 show X _ _ _ _
 refine X_seq ?_
 refine X_seq ?_
 have hA := all_g p
 rw [ha] at hA
 have h1 : (decide (q < 0)) = false := by simpa using hq0
 have h2 : (decide (q ≥ (p.procs.length : Int))) = true := by simpa using hq
 refine X_rg fun R hR => ?_
 simp only [EVgP, inr_i64, Int.reduceLE, Int.reduceNeg, aops, astep, awant, aeff, aop, abin, aint, mkD, ev, ofValue, St.put, pcall, ia_slice, zmc, zmn, zg1, zg0, zgd, zmo, zbs, if_true, zs1, zs0, zlm, zlc, zln, zd1, zd0, zt1, zt0, zca, zna, Nat.reduceAdd, Nat.reduceLeDiff, Nat.zero_add, Bool.not_true, zft, if_false, and_self, reduceCtorEq, beq_self_eq_true, ty_s_api_Proc, ty_api_Program, und_api_Proc, any11, any24, dG_agg, awake_g, hA, h1, h2]
 with_reducible refine hR _ ?_
 clear hR R
 show X _ _ _ _
 refine X_true (by simp only [ev, zg1, zg0, zgd]) ?_
 refine X_seq ?_
 refine X_rg fun R hR => ?_
 simp only [EVgP, aops, astep, awant, aeff, aop, ev, St.put, pcall, zmn, zg1, zg0, zgd, zmo, if_true, zs1, zs0, zna, any11, awake_g]
 with_reducible refine hR _ ?_
 clear hR R
 show X _ _ _ _
 refine X_ret ?_
 show resD _ _ _ = some _
 simp only [resD, resAll, resOne, resTup, Try.results10, EVgP, zg1, zg0, D.good, if_true, zmo]
set_option maxRecDepth 100000 in
set_option maxHeartbeats 4000000 in
theorem lawReach_k (p : Pg) (k : Nat) (ha : smallP p = true) (hk : k < p.procs.length) : fn EVg 10 [dG p, .int .i64 (k : Int)] = some (.bool true) := by
 refine fn_X rfl Try.func10 rfl (by simp only [plain, List.all_cons, List.all_nil, dG_pl, int_pl, Bool.and_true]) (rfl) (rfl) (rfl) ?_
 simp only [zmc, zmn, D.strip, dG_strip]
 simp only [enterSt, Try.ntmps10, zlc, zln, Nat.reduceAdd, Nat.reduceSub, zr1, zr0, zca, zna]
 refine X_seq ?_
 refine X_rg fun R hR => ?_
 simp only [aops, astep, awant, aeff, aop, ev, ofValue, St.put, zg0, zgd, zmo, if_true, zs1, zs0, zln, zna, dG_cells, dG_good]
 with_reducible refine hR _ ?_
 clear hR R
 show X _ _ _ _
 refine X_seq ?_
 refine X_seq ?_
 have hA := all_g p
 rw [ha] at hA
 have h1 : (decide ((k : Int) < 0)) = false := by first | (simp; done) | (simp; omega)
 have h2 : (decide ((k : Int) ≥ (p.procs.length : Int))) = false := by first | (simp; done) | (simp; omega)
 refine X_rg fun R hR => ?_
 simp only [EVgP, inr_i64, Int.reduceLE, Int.reduceNeg, aops, astep, awant, aeff, aop, abin, aint, mkD, ev, ofValue, St.put, pcall, ia_slice, zmc, zmn, zg1, zg0, zgd, zmo, zbs, if_true, zs1, zs0, zlm, zlc, zln, zd1, zd0, zt1, zt0, zca, zna, Nat.reduceAdd, Nat.reduceLeDiff, Nat.zero_add, Bool.not_true, zft, if_false, and_self, reduceCtorEq, beq_self_eq_true, ty_s_api_Proc, ty_api_Program, und_api_Proc, any11, any24, dG_agg, awake_g, hA, h1, h2]
 with_reducible refine hR _ ?_
 clear hR R
 show X _ _ _ _
 refine X_false (by simp only [ev, zg1, zg0, zgd]) ?_
 refine X_skip ?_
 show X _ _ _ _
 refine X_seq ?_
 refine X_rg fun R hR => ?_
 simp only [EVgP, aops, astep, awant, aeff, astore, ev, St.put, gd_mref, cl_mref, zg1, zg0, zgd, zmo, zbs, if_true, zs1, zs0, zlc, zln, zd1, zd0, zt0, zca, zna, Nat.reduceAdd, Nat.reduceLeDiff, Nat.zero_add, and_self, Option.isNone_none, ty_mib]
 with_reducible refine hR _ ?_
 clear hR R
 show X _ _ _ _
 refine X_seq ?_
 refine X_rg fun R hR => ?_
 simp only [EVgP, aops, astep, awant, aeff, St.put, zmo, zbs, if_true, zs1, zs0, zlc, zln, zca, zna, Nat.reduceAdd, Nat.zero_add, ty_fI]
 with_reducible refine hR _ ?_
 clear hR R
 show X _ _ _ _
 refine X_seq ?_
 refine X_rg fun R hR => ?_
 simp only [EVgP, aops, astep, awant, aeff, aop, astore, ev, St.put, gd_ptr, ia_ptr, gd_fn, cl_fn, zmc, zmn, zg1, zg0, zgd, zmo, if_true, zs1, zs0, zlc, zln, zd1, zd0, zt0, zca, zna, Nat.reduceLeDiff, Nat.zero_add, Bool.and_true, Bool.not_false, and_self, List.all_cons, List.all_nil, Array.isEmpty_empty, ty_fI]
 with_reducible refine hR _ ?_
 clear hR R
 show X _ _ _ _
 refine X_seq ?_
 have hs := (all_sml ha).1
 obtain ⟨_, B3, nx3, lv3, hc3, rfl, hB3⟩ := vis_cal hs (p.procs.length + 1) (k : Int) [[.slice .imm (if (p.vars.map dV).isEmpty = true then 0 else 3) (p.vars.map dV), .slice .imm (if (p.procs.map dP).isEmpty = true then 0 else 6) (p.procs.map dP), .int .u8 p.main.kind, .int .i64 p.main.num, .str p.main.name, .slice .imm (if (p.main.kids.map dN).isEmpty = true then 0 else 4) (p.main.kids.map dN)], [], [.mref 1], [.fn 29 [.ptr 0 0, .ptr 2 0, .ptr 3 0]]] 0 [] [] rfl rfl rfl rfl (unB4v p []) (InN.nil _) (by simp)
 simp only [zs1, zs0] at hB3
 subst hB3
 refine X_rc fun R hR => ?_
 simp only [EVgP, aops, astep, awant, aeff, aop, mkD, ev, St.put, ia_fn, zmc, zmn, zg1, zg0, zgd, zmo, if_true, zs1, zs0, zlc, zln, zd0, zt1, zt0, zca, zna, Nat.reduceLeDiff, Nat.zero_add, zft, if_false, any29, hc3, ty_fI, any29]
 with_reducible refine hR _ ?_
 clear hR R
 show X _ _ _ _
 refine X_seq ?_
 have hRc := rec_fn p hs (k : Int)
 have hlk := fun bx hb => look_i 1 (visitR (clF p) (p.procs.length + 1) (k : Int) []) (k : Int) bx hb
 refine X_rg fun R hR => ?_
 simp only [EVgP, aops, astep, awant, aeff, aop, abin, mkD, ev, St.put, pcall, ia_mref, zmc, zmn, zg1, zg0, zgd, zmo, if_true, zs1, zs0, zlc, zln, zd0, zt1, zt0, zca, zna, Nat.reduceAdd, Nat.reduceLeDiff, Nat.zero_add, zft, if_false, ty_api_Program, und_bool', any27, dG_agg, hRc, hlk, ty_mib]
 with_reducible refine hR _ ?_
 clear hR R
 show X _ _ _ _
 refine X_ret ?_
 show resD _ _ _ = some _
 simp only [resD, resAll, resOne, resTup, Try.results10, EVgP, zg1, zg0, D.good, if_true, zmo]
 have hrv := rec_visit p (k : Int) (by omega)
 rw [hrv]; simp
theorem lawReach_fn (p : Pg) (q : Int) : fn EVg 10 [dG p, .int .i64 q] = some (.bool true) := by
 cases ha : smallP p with
 | false => exact lawReach_n p q ha
 | true =>
  by_cases h1 : q < 0
  ·exact lawReach_1 p q ha h1
  by_cases h2 : (p.procs.length : Int) ≤ q
  ·exact lawReach_2 p q ha h1 h2
  ·obtain ⟨k, rfl⟩ : ∃ k : Nat, q = (k : Int) := ⟨q.toNat, by omega⟩
   exact lawReach_k p k ha (by omega)

end Go.Proofs.Ytkkhjpkkjpcbmaa
