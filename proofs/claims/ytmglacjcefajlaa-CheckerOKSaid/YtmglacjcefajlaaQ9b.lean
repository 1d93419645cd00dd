/- The law CheckerOK: its walk. -/
import Derived.Test.YtmglacjcefajlaaAw9
namespace Go.Proofs.Ytmglacjcefajlaa
open Go.RowKit

set_option maxRecDepth 100000 in
set_option maxHeartbeats 4000000 in
theorem lawOK_fn (p : Pg) : fn EV 4 [dG p] = some (.bool true) := by
 refine fn_X rfl Try.func4 rfl (by simp only [plain, List.all_cons, List.all_nil, dG_pl, Bool.and_true]) (rfl) (rfl) (rfl) ?_
 simp only [List.map_cons, List.map_nil, dG_strip]
 simp only [enterSt, Try.ntmps4, List.length_cons, List.length_nil, Nat.reduceAdd, Nat.reduceSub, List.replicate_succ, List.replicate_zero, List.cons_append, List.nil_append]
 refine X_seq ?_
 refine X_rg fun R hR => ?_
 simp only [aops, astep, awant, aeff, aop, ev, ofValue, St.put, zg0, zgd, zmo, if_true, zs1, zs0, List.length_nil, List.nil_append, dG_cells, dG_good]
 with_reducible refine hR _ ?_
 clear hR R
 show X _ _ _ _
 refine X_seq ?_
 refine X_seq ?_
 have hV := valid_fn p
 have hF := check_fn p
 have hC := chk_fn p
 have hO := ok_fn p
 obtain ⟨dg, hG, g, rfl⟩ := great_p p
 have h0 : ∀ l : List Ft, ((l.length : Int) == 0) = l.isEmpty := fun l => by cases l with | nil => rfl | cons a r => (simp only [List.isEmpty_cons, beq_eq_false_iff_ne]; simp; omega)
 refine X_rg fun R hR => ?_
 simp only [EVP, aops, astep, awant, aeff, aop, ev, St.put, pcall, List.map_nil, zg1, zg0, zgd, zmo, if_true, zs1, zs0, List.nil_append, Bool.not_true, any11, awake_ok]
 with_reducible refine hR _ ?_
 clear hR R
 show X _ _ _ _
 refine X_ite (by simp only [ev, zg1, zg0, zgd]; exact rfl) ?_ ?_
 ·intro b1
  have c1 := b1
  try simp only [Bool.not_eq_true', Bool.not_eq_false', decide_eq_true_eq, decide_eq_false_iff_not, beq_iff_eq, Int.not_lt, Int.not_le, ge_iff_le, gt_iff_lt, bne_iff_ne, ne_eq, bne_eq_false_iff_eq, beq_eq_false_iff_ne, Bool.and_eq_true, Bool.or_eq_false_iff] at c1
  refine X_seq ?_
  refine X_rg fun R hR => ?_
  simp only [aops, astep, awant, aeff, aop, ev, ofValue, St.put, zgd, zmo, if_true, zs1, zs0, b1]
  with_reducible refine hR _ ?_
  clear hR R
  show X _ _ _ _
  refine X_ret ?_
  show resD _ _ _ = some _
  simp only [resD, resAll, resOne, resTup, Try.results4, EVP, zg1, zg0, D.good, if_true, zmo] <;> (first | (rfl; done) | (simp_all; done) | (cases hv : validB p <;> simp_all; done) | (exfalso; simp_all; done))
 ·intro b2
  have c2 := b2
  try simp only [] at c2
  refine X_skip ?_
  show X _ _ _ _
  refine X_seq ?_
  refine X_seq ?_
  refine X_rg fun R hR => ?_
  simp only [EVP, inr_i64, Int.reduceLE, Int.reduceNeg, aops, astep, awant, aeff, aop, abin, aint, mkD, ev, ofValue, St.put, pcall, List.map_cons, List.map_nil, zg1, zg0, zgd, zmo, if_true, zs1, zs0, List.length_cons, List.length_nil, List.drop_zero, List.take_succ_cons, List.take_zero, List.cons_append, List.nil_append, Nat.reduceAdd, Nat.reduceLeDiff, Nat.zero_add, and_self, ty_api_Program, any12, dG_agg, hG]
  with_reducible refine hR _ ?_
  clear hR R
  show X _ _ _ _
  refine X_ite (by simp only [ev, zg1, zg0, zgd]; exact rfl) ?_ ?_
  ·intro b3
   have c3 := b3
   try simp only [beq_iff_eq] at c3
   refine X_seq ?_
   refine X_rg fun R hR => ?_
   simp only [aops, astep, awant, aeff, aop, ev, ofValue, St.put, zgd, zmo, if_true, zs1, zs0, b3]
   with_reducible refine hR _ ?_
   clear hR R
   show X _ _ _ _
   refine X_ret ?_
   show resD _ _ _ = some _
   simp only [resD, resAll, resOne, resTup, Try.results4, EVP, zg1, zg0, D.good, if_true, zmo] <;> (first | (rfl; done) | (simp_all; done) | (cases hv : validB p <;> simp_all; done) | (exfalso; simp_all; done))
  ·intro b4
   have c4 := b4
   try simp only [ne_eq, beq_eq_false_iff_ne] at c4
   refine X_skip ?_
   show X _ _ _ _
   refine X_seq ?_
   refine X_y ?_
   refine Y_k 5 fun R hR => ?_
   simp only [EVP, aops, astep, awant, aeff, aop, mkD, ev, St.put, pcall, List.map_cons, List.map_nil, zg1, zg0, zgd, zmo, if_true, zs1, zs0, List.length_cons, List.length_nil, List.drop_zero, List.take_succ_cons, List.take_zero, List.cons_append, List.nil_append, Nat.reduceAdd, Nat.reduceLeDiff, Nat.zero_add, ty_api_Program, any14, any18, dG_agg, b4, hV, hO]
   with_reducible refine hR _ ?_
   clear hR R
   simp only [List.drop_succ_cons, List.drop_zero]
   refine Y_if 12 (by simp only [ev, zg1, zg0, zgd]; exact rfl) ?_ ?_
   ·intro b5
    have c5 := b5
    try simp only [Bool.not_eq_true', Bool.not_eq_false', decide_eq_true_eq, decide_eq_false_iff_not, beq_iff_eq, Int.not_lt, Int.not_le, ge_iff_le, gt_iff_lt, bne_iff_ne, ne_eq, bne_eq_false_iff_eq, beq_eq_false_iff_ne, Bool.and_eq_true, Bool.or_eq_false_iff] at c5
    refine Y_k 6 fun R hR => ?_
    simp only [EVP, inr_i64, Int.reduceLE, Int.reduceNeg, aops, astep, awant, aeff, aop, abin, aint, mkD, ev, ofValue, St.put, pcall, List.map_cons, List.map_nil, zg1, zg0, zgd, zmo, Option.bind_some, if_true, zs1, zs0, List.length_map, List.length_cons, List.length_nil, List.drop_zero, List.take_succ_cons, List.take_zero, List.cons_append, List.nil_append, Nat.reduceAdd, Nat.reduceLeDiff, Nat.zero_add, Bool.true_and, and_self, beq_self_eq_true, ty_api_Program, und_scope_Fault, any15, sl, dG_agg, b5, hF, h0]
    with_reducible refine hR _ ?_
    clear hR R
    simp only [List.drop_succ_cons, List.drop_zero]
    refine Y_if 18 (by simp only [ev, zg1, zg0, zgd]; exact rfl) ?_ ?_
    ·intro b6
     have c6 := b6
     try simp only [Bool.not_eq_true', Bool.not_eq_false', decide_eq_true_eq, decide_eq_false_iff_not, beq_iff_eq, Int.not_lt, Int.not_le, ge_iff_le, gt_iff_lt, bne_iff_ne, ne_eq, bne_eq_false_iff_eq, beq_eq_false_iff_ne, Bool.and_eq_true, Bool.or_eq_false_iff] at c6
     refine Y_end fun R hR => ?_
     simp only [EVP, inr_i64, Int.reduceLE, Int.reduceNeg, aops, astep, awant, aeff, aop, abin, aint, mkD, ev, ofValue, St.put, pcall, List.map_cons, List.map_nil, zg1, zg0, zgd, zmo, Option.bind_some, if_true, zs1, zs0, List.length_map, List.length_cons, List.length_nil, List.drop_zero, List.take_succ_cons, List.take_zero, List.cons_append, List.nil_append, Nat.reduceAdd, Nat.reduceLeDiff, Nat.zero_add, Bool.true_and, and_self, beq_self_eq_true, ty_api_Program, und_bool', und_checker_Rejection, any13, sl, dG_agg, b6, hC, h0]
     with_reducible refine hR _ ?_
     clear hR R
     show X _ _ _ _
     refine X_ret ?_
     show resD _ _ _ = some _
     simp only [resD, resAll, resOne, resTup, Try.results4, EVP, zg1, zg0, D.good, if_true, zmo] <;> (first | (rfl; done) | (simp_all; done) | (cases hv : validB p <;> simp_all; done) | (exfalso; simp_all; done))
    ·intro b7
     have c7 := b7
     try simp only [Bool.not_eq_true', Bool.not_eq_false', decide_eq_true_eq, decide_eq_false_iff_not, beq_iff_eq, Int.not_lt, Int.not_le, ge_iff_le, gt_iff_lt, bne_iff_ne, ne_eq, bne_eq_false_iff_eq, beq_eq_false_iff_ne, Bool.and_eq_true, Bool.or_eq_false_iff] at c7
     refine Y_end fun R hR => ?_
     simp only [EVP, inr_i64, Int.reduceLE, Int.reduceNeg, aops, astep, awant, aeff, aop, abin, mkD, ev, ofValue, St.put, pcall, List.map_cons, List.map_nil, zg1, zg0, zgd, zmo, Option.map_none, Option.bind_some, if_true, zs1, zs0, List.length_cons, List.length_nil, List.drop_zero, List.take_succ_cons, List.take_zero, List.cons_append, List.nil_append, Nat.reduceAdd, Nat.reduceLeDiff, Nat.zero_add, Bool.false_eq_true, if_false, and_self, bq_ft, ty_api_Program, und_bool', und_checker_Rejection, any13, dG_agg, b7]
     with_reducible refine hR _ ?_
     clear hR R
     show X _ _ _ _
     refine X_ret ?_
     show resD _ _ _ = some _
     simp only [resD, resAll, resOne, resTup, Try.results4, EVP, zg1, zg0, D.good, if_true, zmo] <;> (first | (rfl; done) | (simp_all; done) | (cases hv : validB p <;> simp_all; done) | (exfalso; simp_all; done))
   ·intro b8
    have c8 := b8
    try simp only [Bool.not_eq_true', Bool.not_eq_false', decide_eq_true_eq, decide_eq_false_iff_not, beq_iff_eq, Int.not_lt, Int.not_le, ge_iff_le, gt_iff_lt, bne_iff_ne, ne_eq, bne_eq_false_iff_eq, beq_eq_false_iff_ne, Bool.and_eq_true, Bool.or_eq_false_iff] at c8
    refine Y_end fun R hR => ?_
    simp only [EVP, inr_i64, Int.reduceLE, Int.reduceNeg, aops, astep, awant, aeff, aop, abin, mkD, ev, ofValue, St.put, pcall, List.map_cons, List.map_nil, zg1, zg0, zgd, zmo, Option.map_none, Option.bind_some, if_true, zs1, zs0, List.length_cons, List.length_nil, List.drop_zero, List.take_succ_cons, List.take_zero, List.cons_append, List.nil_append, Nat.reduceAdd, Nat.reduceLeDiff, Nat.zero_add, Bool.false_eq_true, if_false, and_self, bq_ft, ty_api_Program, und_bool', und_checker_Rejection, und_scope_Fault, any13, any15, dG_agg, b8]
    with_reducible refine hR _ ?_
    clear hR R
    show X _ _ _ _
    refine X_ret ?_
    show resD _ _ _ = some _
    simp only [resD, resAll, resOne, resTup, Try.results4, EVP, zg1, zg0, D.good, if_true, zmo] <;> (first | (rfl; done) | (simp_all; done) | (cases hv : validB p <;> simp_all; done) | (exfalso; simp_all; done))

end Go.Proofs.Ytmglacjcefajlaa
