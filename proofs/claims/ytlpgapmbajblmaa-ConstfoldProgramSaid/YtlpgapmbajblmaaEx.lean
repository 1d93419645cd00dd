/- Folding of an expression; what the law on literals builds. -/
import Derived.Test.YtlpgapmbajblmaaCf
import Derived.Test.YtlpgapmbajblmaaCr
namespace Go.Proofs.Ytlpgapmbajblmaa
open Go.RowKit

noncomputable def fd0 : Field := (fs_constfold_folded.toList[0]?).getD default
theorem fd0_e : fs_constfold_folded.toList[0]? = some fd0 := by kernel_rfl
theorem fd0_t : fd0.type = 24 := by kernel_rfl
theorem fd0_o : fd0.offset = 0 := by kernel_rfl
def exprT (t : Tr) : Tr := if exprB t then (foldT t).1 else t
set_option maxRecDepth 100000 in
set_option maxHeartbeats 4000000 in
theorem expr_fn (t : Tr) (hs : t.size ≤ 1000000) : fn EV 16 [dN t] = some (dN (exprT t)) := by
 refine fn_X rfl Try.func16 rfl (by simp only [plain, List.all_cons, List.all_nil, dN_under, dN_good, Bool.and_self]) (rfl) (dN_under 0 _) (dN_strip _) ?_
 simp only [zmc, zmn, dN_strip]
 simp only [enterSt, Try.ntmps16, zlc, zln, Nat.reduceAdd, Nat.reduceSub, zr1, zr0, zca, zna]
 refine X_seq ?_
 refine X_rg fun R hR => ?_
 simp only [EVP, aops, astep, awant, aeff, ev, St.put, zg0, zgd, zmo, zbs, if_true, zs1, zs0, zlc, zln, zca, zna, Nat.zero_add, ty_api_Node, dN_cells, dN_good, sl]
 with_reducible refine hR _ ?_
 clear hR R
 show X _ _ _ _
 refine X_seq ?_
 refine X_seq ?_
 refine X_rg fun R hR => ?_
 simp only [EVP, aops, astep, awant, aeff, aop, mkD, ev, St.put, pcall, zmc, zmn, zg1, zg0, zgd, zmo, if_true, zs1, zs0, zlc, zln, zd0, zt1, zt0, zca, zna, Nat.reduceAdd, Nat.reduceLeDiff, Nat.zero_add, ty_api_Node, any27, dN_agg, o_ast_IsExpr]
 with_reducible refine hR _ ?_
 clear hR R
 show X _ _ _ _
 refine X_ite (by simp only [ev, zg1, zg0, zgd]; exact rfl) ?_ ?_
 ·intro b1
  have c1 := b1
  try simp only [znt] at c1
  refine X_seq ?_
  have hC := o_ast_Clone t hs
  refine X_rg fun R hR => ?_
  simp only [EVP, aops, astep, awant, aeff, aop, mkD, astore, ev, St.put, pcall, zmc, zmn, zg1, zg0, zgd, zmo, if_true, zs1, zs0, zlc, zln, zd1, zd0, zt1, zt0, zca, zna, Nat.reduceAdd, Nat.reduceLeDiff, Nat.zero_add, Bool.not_false, and_self, ty_api_Node, any40, dN_agg, dN_cells, dN_good, sl, c1, hC]
  with_reducible refine hR _ ?_
  clear hR R
  show X _ _ _ _
  refine X_ret ?_
  show resD _ _ _ = some _
  simp only [resD, resAll, resOne, resTup, Try.results16, EVP, mkD, ty_api_Node, zg1, zg0, zd0, zt1, zt0, zlc, zln, Nat.reduceAdd, Nat.reduceLeDiff, Nat.zero_add, if_true, zmo]
  first | (rw [dN_agg]; simp_all [exprT]; done) | (exfalso; simp_all; done)
 ·intro b2
  have c2 := b2
  try simp only [znf] at c2
  refine X_skip ?_
  show X _ _ _ _
  refine X_seq ?_
  have hF := fold_fn t hs (by simp_all)
  refine X_rg fun R hR => ?_
  simp only [EVP, aops, astep, awant, aeff, aop, mkD, astore, ev, St.put, pcall, zmc, zmn, zg1, zg0, zgd, zmo, if_true, zs1, zs0, zlc, zln, zd1, zd0, zt1, zt0, zca, zna, Nat.reduceAdd, Nat.reduceLeDiff, Nat.zero_add, Bool.not_true, and_self, ty_api_Node, st_constfold_folded, any38, dN_agg, dN_cells, dN_good, sl, dF, c2, hF, fd0_e, fd0_t, fd0_o]
  with_reducible refine hR _ ?_
  clear hR R
  show X _ _ _ _
  refine X_ret ?_
  show resD _ _ _ = some _
  simp only [resD, resAll, resOne, resTup, Try.results16, EVP, mkD, ty_api_Node, zg1, zg0, zd0, zt1, zt0, zlc, zln, Nat.reduceAdd, Nat.reduceLeDiff, Nat.zero_add, if_true, zmo]
  first | (rw [dN_agg]; simp_all [exprT]; done) | (exfalso; simp_all; done)
theorem awake_ok : fn EV 11 [] = some (.bool true) := fn_of (n := 200) (by kernel_rfl)

end Go.Proofs.Ytlpgapmbajblmaa
