/- Folding of an expression; what the law on literals builds. -/
import Derived.Test.YtlpgapmbajblmaaCf
import Derived.Test.YtlpgapmbajblmaaCr
namespace Go.Proofs.Ytlpgapmbajblmaa
open Go.RowKit

noncomputable def fd0 : Field := (fs_constfold_folded.toList[0]?).getD default
theorem fd0_e : fs_constfold_folded.toList[0]? = some fd0 := by kernel_rfl
theorem fd0_t : fd0.type = 24 := by kernel_rfl
theorem fd0_o : fd0.offset = 0 := by kernel_rfl
theorem fn_strip {E : Env} {k : Nat} {args args' : List D} (h : plain args = true) (h' : plain args' = true) (e : args.map D.strip = args'.map D.strip) : fn E k args = fn E k args' := by
  unfold fn pureWith
  unfold plain at h h'
  rw [if_pos h, if_pos h', e]
def exprT (t : Tr) : Tr := if exprB t then (foldT t).1 else t
set_option maxRecDepth 100000 in
set_option maxHeartbeats 4000000 in
theorem expr_fn (t : Tr) (hs : t.size ≤ 1000000) : fn EV 16 [dN t] = some (dN (exprT t)) := by
  refine fn_X rfl Try.func16 rfl (by simp only [plain, List.all_cons, List.all_nil, dN_under, dN_good, Bool.and_self]) rfl (dN_under 0 _) (dN_strip _) ?_
  simp only [List.map_cons, List.map_nil, dN_strip]
  simp only [enterSt, Try.ntmps16, List.length_cons, List.length_nil, Nat.reduceAdd, Nat.reduceSub, List.replicate_succ, List.replicate_zero, List.cons_append, List.nil_append]
  refine X_seq ?_
  refine X_rg fun R hR => ?_
  simp only [EVP, aops, astep, awant, aeff, ev, St.put, List.getElem?_cons_zero, Option.getD_some, Option.map_some, Option.bind_some, if_true, List.set_cons_succ, List.set_cons_zero, List.length_cons, List.length_nil, List.cons_append, List.nil_append, Nat.zero_add, ty_api_Node, dN_cells, dN_good, sl]
  with_reducible refine hR _ ?_
  clear hR R
  show X _ _ _ _
  refine X_seq ?_
  refine X_seq ?_
  refine X_rg fun R hR => ?_
  simp only [EVP, aops, astep, awant, aeff, aop, mkD, ev, St.put, pcall, List.map_cons, List.map_nil, List.getElem?_cons_succ, List.getElem?_cons_zero, Option.getD_some, Option.map_some, if_true, List.set_cons_succ, List.set_cons_zero, List.length_cons, List.length_nil, List.drop_zero, List.take_succ_cons, List.take_zero, List.cons_append, List.nil_append, Nat.reduceAdd, Nat.reduceLeDiff, Nat.zero_add, ty_api_Node, any27, dN_agg, o_ast_IsExpr]
  with_reducible refine hR _ ?_
  clear hR R
  show X _ _ _ _
  refine X_ite (by simp only [ev, List.getElem?_cons_succ, List.getElem?_cons_zero, Option.getD_some]; exact rfl) ?_ ?_
  · intro b1
    have c1 := b1
    try simp only [Bool.not_eq_true'] at c1
    refine X_seq ?_
    have hC := o_ast_Clone t hs
    refine X_rg fun R hR => ?_
    simp only [EVP, aops, astep, awant, aeff, aop, mkD, astore, ev, St.put, pcall, List.map_cons, List.map_nil, List.getElem?_cons_succ, List.getElem?_cons_zero, Option.getD_some, Option.map_some, if_true, List.set_cons_succ, List.set_cons_zero, List.length_cons, List.length_nil, List.drop_succ_cons, List.drop_zero, List.take_succ_cons, List.take_zero, List.cons_append, List.nil_append, Nat.reduceAdd, Nat.reduceLeDiff, Nat.zero_add, Bool.not_false, and_self, ty_api_Node, any40, dN_agg, dN_cells, dN_good, sl, c1, hC]
    with_reducible refine hR _ ?_
    clear hR R
    show X _ _ _ _
    refine X_ret ?_
    show resD _ _ _ = some _
    simp only [resD, resAll, resOne, resTup, Try.results16, EVP, mkD, ty_api_Node, List.getElem?_cons_succ, List.getElem?_cons_zero, List.drop_zero, List.take_succ_cons, List.take_zero, List.length_cons, List.length_nil, Nat.reduceAdd, Nat.reduceLeDiff, Nat.zero_add, if_true, Option.map_some]
    first | (rw [dN_agg]; simp_all [exprT]; done) | (exfalso; simp_all; done)
  · intro b2
    have c2 := b2
    try simp only [Bool.not_eq_false'] at c2
    refine X_skip ?_
    show X _ _ _ _
    refine X_seq ?_
    have hF := fold_fn t hs (by simp_all)
    refine X_rg fun R hR => ?_
    simp only [EVP, aops, astep, awant, aeff, aop, mkD, astore, ev, St.put, pcall, List.map_cons, List.map_nil, List.getElem?_cons_succ, List.getElem?_cons_zero, Option.getD_some, Option.map_some, if_true, List.set_cons_succ, List.set_cons_zero, List.length_cons, List.length_nil, List.drop_succ_cons, List.drop_zero, List.take_succ_cons, List.take_zero, List.cons_append, List.nil_append, Nat.reduceAdd, Nat.reduceLeDiff, Nat.zero_add, Bool.not_true, and_self, ty_api_Node, st_constfold_folded, any38, dN_agg, dN_cells, dN_good, sl, dF, c2, hF, fd0_e, fd0_t, fd0_o]
    with_reducible refine hR _ ?_
    clear hR R
    show X _ _ _ _
    refine X_ret ?_
    show resD _ _ _ = some _
    simp only [resD, resAll, resOne, resTup, Try.results16, EVP, mkD, ty_api_Node, List.getElem?_cons_succ, List.getElem?_cons_zero, List.drop_zero, List.take_succ_cons, List.take_zero, List.length_cons, List.length_nil, Nat.reduceAdd, Nat.reduceLeDiff, Nat.zero_add, if_true, Option.map_some]
    first | (rw [dN_agg]; simp_all [exprT]; done) | (exfalso; simp_all; done)
set_option maxRecDepth 100000 in
set_option maxHeartbeats 4000000 in
theorem num_fn (v : Int) : fn EV 23 [.int .i64 v] = some (dN (leafT v)) := by
  refine fn_Xs rfl Try.func23 rfl (rfl) rfl ?_
  simp only [List.map_cons, List.map_nil, D.strip]
  simp only [enterSt, Try.ntmps23, List.length_cons, List.length_nil, Nat.reduceAdd, Nat.reduceSub, List.replicate_succ, List.replicate_zero, List.cons_append, List.nil_append]
  refine X_seq ?_
  refine X_rg fun R hR => ?_
  simp only [EVP, aops, astep, awant, aeff, St.put, Option.map_some, Option.bind_some, if_true, List.set_cons_succ, List.set_cons_zero, List.length_nil, List.nil_append, ty_api_Node]
  with_reducible refine hR _ ?_
  clear hR R
  show X _ _ _ _
  refine X_seq ?_
  refine X_rg fun R hR => ?_
  simp only [EVP, inr_u8, Int.reduceLE, aops, astep, awant, aeff, aop, afill, astore, ev, ofValue, St.put, gd_int, cl_int, gd_agg, cl_agg, List.map_cons, List.map_nil, List.getElem?_cons_succ, List.getElem?_cons_zero, Option.getD_some, Option.map_some, if_true, List.set_cons_succ, List.set_cons_zero, List.length_cons, List.length_nil, List.drop_succ_cons, List.drop_zero, List.take_succ_cons, List.take_zero, List.cons_append, List.nil_append, Nat.reduceAdd, Nat.reduceLeDiff, Nat.zero_add, and_self, ty_api_Node, st_api_Node, sta_api_Node]
  with_reducible refine hR _ ?_
  clear hR R
  show X _ _ _ _
  refine X_ret ?_
  show ∃ d, resD _ _ _ = some d ∧ _ ∧ _
  refine ⟨_, by simp only [resD, resAll, resOne, resTup, Try.results23, EVP, mkD, ty_api_Node, List.getElem?_cons_succ, List.getElem?_cons_zero, List.drop_zero, List.take_succ_cons, List.take_zero, List.length_cons, List.length_nil, Nat.reduceAdd, Nat.reduceLeDiff, Nat.zero_add, if_true, Option.map_some]; exact rfl, ?_, ?_⟩
  · first | (simp [D.under, D.unders]; done) | (rw [dN_agg]; exact dN_under 0 _; done) | (exfalso; simp_all; done)
  · first | (simp [D.strip, D.strips, Own.st, leafT, dN, dNs, es]; done) | (rw [dN_agg, dN_strip, ltT, if_pos (by assumption)]; done) | (rw [dN_agg, dN_strip, ltT, if_neg (by omega)]; done) | (rw [ltT, if_neg (by omega)]; simp [D.strip, D.strips, Own.st, dN_strip, leafT, dN, dNs, es]; done) | (exfalso; simp_all; done)
set_option maxRecDepth 100000 in
set_option maxHeartbeats 4000000 in
theorem two_fn (k : Int) (a b : Tr) : fn EV 24 [.int .u8 k, dN a, dN b] = some (dN (.mk k 0 es [a, b])) := by
  refine fn_Xs rfl Try.func24 rfl (by simp [plain, D.under, dN_under, dN_good, gd_int]) rfl ?_
  simp only [List.map_cons, List.map_nil, D.strip, dN_strip]
  simp only [enterSt, Try.ntmps24, List.length_cons, List.length_nil, Nat.reduceAdd, Nat.reduceSub, List.replicate_succ, List.replicate_zero, List.cons_append, List.nil_append]
  refine X_seq ?_
  refine X_rg fun R hR => ?_
  simp only [EVP, aops, astep, awant, aeff, ev, St.put, List.getElem?_cons_succ, List.getElem?_cons_zero, Option.getD_some, Option.map_some, Option.bind_some, if_true, List.set_cons_succ, List.set_cons_zero, List.length_cons, List.length_nil, List.cons_append, List.nil_append, Nat.reduceAdd, Nat.zero_add, ty_api_Node, dN_cells, dN_good, sl]
  with_reducible refine hR _ ?_
  clear hR R
  show X _ _ _ _
  refine X_seq ?_
  refine X_rg fun R hR => ?_
  simp only [EVP, aops, astep, awant, aeff, aop, mkD, afill, abuild, astore, ev, ofValue, St.put, gd_int, cl_int, gd_agg, cl_agg, gd_slice, cl_slice, List.map_cons, List.map_nil, List.getElem?_cons_succ, List.getElem?_cons_zero, Option.getD_some, Option.map_some, if_true, List.set_cons_succ, List.set_cons_zero, List.length_cons, List.length_nil, List.drop_succ_cons, List.drop_zero, List.take_succ_cons, List.take_zero, List.cons_append, List.nil_append, Nat.reduceAdd, Nat.reduceLeDiff, Nat.reduceLT, Nat.zero_add, Bool.and_true, and_self, List.all_cons, List.all_nil, beq_self_eq_true, Nat.reduceMul, rng_2, ty_api_Node, st_api_Node, sta_api_Node, und_api_Node, inf_api_Node_eq, inf_api_Node_size, inf_api_Node_zero, dN_agg, dN_cells, dN_good, sl]
  with_reducible refine hR _ ?_
  clear hR R
  show X _ _ _ _
  refine X_ret ?_
  show ∃ d, resD _ _ _ = some d ∧ _ ∧ _
  refine ⟨_, by simp only [resD, resAll, resOne, resTup, Try.results24, EVP, mkD, ty_api_Node, List.getElem?_cons_succ, List.getElem?_cons_zero, List.drop_zero, List.take_succ_cons, List.take_zero, List.length_cons, List.length_nil, Nat.reduceAdd, Nat.reduceLeDiff, Nat.zero_add, if_true, Option.map_some]; exact rfl, ?_, ?_⟩
  · first | (simp [D.under, D.unders, dN_under]; done) | (rw [dN_agg]; exact dN_under 0 _; done) | (exfalso; simp_all; done)
  · first | (simp [D.strip, D.strips, Own.st, dN_strip, dN, dNs, es]; done) | (rw [dN_agg, dN_strip, ltT, if_pos (by assumption)]; done) | (rw [dN_agg, dN_strip, ltT, if_neg (by omega)]; done) | (rw [ltT, if_neg (by omega)]; simp [D.strip, D.strips, Own.st, dN_strip, leafT, dN, dNs, es]; done) | (exfalso; simp_all; done)
def ltT (v : Int) : Tr := if 0 ≤ v then leafT v else .mk 9 0 es [.mk 6 0 es [leafT (-(v + 1))], leafT 1]
theorem ltw {v : Int} (h : -9223372036854775808 ≤ v) (h' : v < 0) : IntKind.i64.wrap (0 - IntKind.i64.wrap (v + 1)) = -(v + 1) := by
  simp only [IntKind.wrap, IntKind.bits, IntKind.signed]; simp; omega
theorem two_n (k : Int) (v : Int) : fn EV 24 [.int .u8 k, dN (.mk 6 0 es [leafT v]), dN (leafT 1)] = some (dN (.mk k 0 es [.mk 6 0 es [leafT v], leafT 1])) := two_fn _ _ _
set_option maxRecDepth 100000 in
set_option maxHeartbeats 4000000 in
theorem lt_fn (v : Int) (h1 : -9223372036854775808 ≤ v) : fn EV 22 [.int .i64 v] = some (dN (ltT v)) := by
  refine fn_Xs rfl Try.func22 rfl (rfl) rfl ?_
  simp only [List.map_cons, List.map_nil, D.strip]
  simp only [enterSt, Try.ntmps22, List.length_cons, List.length_nil, Nat.reduceAdd, Nat.reduceSub, List.replicate_succ, List.replicate_zero, List.cons_append, List.nil_append]
  refine X_seq ?_
  refine X_rg fun R hR => ?_
  simp only [EVP, aops, astep, awant, aeff, St.put, Option.map_some, Option.bind_some, if_true, List.set_cons_succ, List.set_cons_zero, List.length_nil, List.nil_append, ty_api_Node]
  with_reducible refine hR _ ?_
  clear hR R
  show X _ _ _ _
  refine X_seq ?_
  refine X_seq ?_
  refine X_rg fun R hR => ?_
  simp only [inr_i64, Int.reduceLE, Int.reduceNeg, aops, astep, awant, aeff, aop, abin, aint, ev, ofValue, St.put, List.getElem?_cons_succ, List.getElem?_cons_zero, Option.getD_some, Option.map_some, if_true, List.set_cons_succ, List.set_cons_zero, and_self]
  with_reducible refine hR _ ?_
  clear hR R
  show X _ _ _ _
  refine X_ite (by simp only [ev, List.getElem?_cons_succ, List.getElem?_cons_zero, Option.getD_some]; exact rfl) ?_ ?_
  · intro b1
    have c1 := b1
    try simp only [decide_eq_true_eq, ge_iff_le] at c1
    refine X_seq ?_
    refine X_rg fun R hR => ?_
    simp only [EVP, aops, astep, awant, aeff, aop, astore, ev, St.put, pcall, List.map_cons, List.map_nil, List.getElem?_cons_succ, List.getElem?_cons_zero, Option.getD_some, Option.map_some, if_true, List.set_cons_succ, List.set_cons_zero, List.length_cons, List.length_nil, List.drop_succ_cons, List.drop_zero, List.take_zero, List.cons_append, List.nil_append, Nat.reduceAdd, Nat.reduceLeDiff, Nat.zero_add, and_self, decide_true, ty_api_Node, any23, dN_cells, dN_good, sl, num_fn, c1]
    with_reducible refine hR _ ?_
    clear hR R
    show X _ _ _ _
    refine X_ret ?_
    show ∃ d, resD _ _ _ = some d ∧ _ ∧ _
    refine ⟨_, by simp only [resD, resAll, resOne, resTup, Try.results22, EVP, mkD, ty_api_Node, List.getElem?_cons_succ, List.getElem?_cons_zero, List.drop_zero, List.take_succ_cons, List.take_zero, List.length_cons, List.length_nil, Nat.reduceAdd, Nat.reduceLeDiff, Nat.zero_add, if_true, Option.map_some]; exact rfl, ?_, ?_⟩
    · first | (simp [D.under, D.unders]; done) | (rw [dN_agg]; exact dN_under 0 _; done) | (exfalso; simp_all; done)
    · first | (simp [D.strip, D.strips, Own.st, leafT, es]; done) | (rw [dN_agg, dN_strip, ltT, if_pos (by assumption)]; done) | (rw [dN_agg, dN_strip, ltT, if_neg (by omega)]; done) | (rw [ltT, if_neg (by omega)]; simp [D.strip, D.strips, Own.st, dN_strip, leafT, dN, dNs, es]; done) | (exfalso; simp_all; done)
  · intro b2
    have c2 := b2
    try simp only [decide_eq_false_iff_not, Int.not_le, ge_iff_le] at c2
    refine X_skip ?_
    show X _ _ _ _
    refine X_seq ?_
    have hw := ltw h1 (by omega)
    have h2 := two_n 9 (-(v + 1))
    rw [← fn_strip (args := [.int .u8 9, .agg [.int .u8 6, .int .i64 0, .str ⟨#[]⟩, .slice (.own 0 24) 4 [dN (leafT (-(v + 1)))]], dN (leafT 1)]) (by simp [plain, D.under, D.unders, dN_under, dN_good, gd_int, gd_agg]) (by simp [plain, D.under, dN_under, dN_good, gd_int]) (by simp [D.strip, D.strips, dN_strip, Own.st, dN, dNs, es])] at h2
    refine X_rg fun R hR => ?_
    simp only [EVP, inr_i64, inr_u8, Int.reduceLE, Int.reduceNeg, aops, astep, awant, aeff, aop, abin, aint, afill, abuild, astore, ev, ofValue, St.put, pcall, gd_int, cl_int, gd_slice, cl_slice, List.map_cons, List.map_nil, List.getElem?_cons_succ, List.getElem?_cons_zero, Option.getD_some, Option.map_some, if_true, List.set_cons_succ, List.set_cons_zero, List.length_cons, List.length_nil, List.drop_succ_cons, List.drop_zero, List.take_succ_cons, List.take_zero, List.cons_append, List.nil_append, Nat.reduceAdd, Nat.reduceLeDiff, Nat.reduceLT, Nat.zero_add, Bool.and_true, and_self, List.all_cons, List.all_nil, beq_self_eq_true, Nat.reduceMul, rng_1, ty_api_Node, st_api_Node, sta_api_Node, und_api_Node, inf_api_Node_eq, inf_api_Node_size, inf_api_Node_zero, any23, any24, dN_cells, dN_good, sl, num_fn, b2, hw, h2]
    with_reducible refine hR _ ?_
    clear hR R
    show X _ _ _ _
    refine X_ret ?_
    show ∃ d, resD _ _ _ = some d ∧ _ ∧ _
    refine ⟨_, by simp only [resD, resAll, resOne, resTup, Try.results22, EVP, mkD, ty_api_Node, List.getElem?_cons_succ, List.getElem?_cons_zero, List.drop_zero, List.take_succ_cons, List.take_zero, List.length_cons, List.length_nil, Nat.reduceAdd, Nat.reduceLeDiff, Nat.zero_add, if_true, Option.map_some]; exact rfl, ?_, ?_⟩
    · first | (simp [D.under, D.unders]; done) | (rw [dN_agg]; exact dN_under 0 _; done) | (exfalso; simp_all; done)
    · first | (simp [D.strip, D.strips, Own.st, leafT, es]; done) | (rw [dN_agg, dN_strip, ltT, if_pos (by assumption)]; done) | (rw [dN_agg, dN_strip, ltT, if_neg (by omega)]; done) | (rw [ltT, if_neg (by omega)]; simp [D.strip, D.strips, Own.st, dN_strip, leafT, dN, dNs, es]; done) | (exfalso; simp_all; done)
theorem awake_ok : fn EV 11 [] = some (.bool true) := fn_of (n := 200) (by kernel_rfl)

end Go.Proofs.Ytlpgapmbajblmaa
