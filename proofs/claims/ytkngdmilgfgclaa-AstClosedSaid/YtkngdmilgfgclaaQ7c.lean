/- The law AstClosed: its walk. -/
import Derived.Test.YtkngdmilgfgclaaRe3
import Derived.Test.YtkngdmilgfgclaaCl
namespace Go.Proofs.Ytkngdmilgfgclaa
open Go.RowKit

theorem awake_r : fn EVr 13 [] = some (.bool true) := by_up awake_ok
theorem und_u16 : Try.prog.underlying 27 = some (.int .u16) := by kernel_rfl
theorem slJ_good (p : List Int) : (slJ p).good = true := rfl
theorem slJ_cells (p : List Int) : (slJ p).cells = [slJ p] := rfl
theorem slJ_isAgg (p : List Int) : (slJ p).isAgg = false := rfl
theorem tmod_nat {k : Int} (hk : 0 ≤ k) (n : Nat) : k.tmod (n : Int) = ((k.toNat % n : Nat) : Int) := by
  obtain ⟨m, rfl⟩ := Int.eq_ofNat_of_zero_le hk
  rw [Int.tmod_eq_emod_of_nonneg hk]; simp
theorem u16_conv {k : Int} (h0 : 0 ≤ k) (h1 : k ≤ 65535) : IntKind.i64.wrap k = k := by
  simp only [IntKind.wrap, IntKind.bits, IntKind.signed]; simp; omega
theorem acc_n {e : TypeId} {sz : Nat} {o : Own} {n : Nat} {L : List D} {nx : Nat} {lv : List Nat} (h : AccB e sz o n L nx lv) (hn : L ≠ []) : n = sz := by
  rcases h.a with ⟨_, q, _⟩ | ⟨_, _, _, q⟩
  · exact absurd q hn
  · exact q
theorem size_ge1 (t : Tr) : 0 < t.size := by cases t; simp only [Tr.size]; omega
theorem atT_some {t x : Tr} {p : List Int} (h : atT t p = (x, true)) : atO t p = some x := by
  rw [atO_eq] at h
  cases hq : atO t p with
  | none => rw [hq] at h; cases h
  | some y => rw [hq] at h; simp only [Prod.mk.injEq, and_true] at h; rw [h]
set_option maxRecDepth 100000 in
set_option maxHeartbeats 4000000 in
theorem law7_early0 (t e q : Tr) (sp : Int) (hbt : bigB t = true) : fn EVr 7 [dN t, dN e, dN q, .int .u16 sp] = some (.bool true) := by
  refine fn_X rfl Try.func7 rfl (by simp only [plain, List.all_cons, List.all_nil, dN_pl, int_pl, Bool.and_true]) (rfl) (rfl) (rfl) ?_
  simp only [List.map_cons, List.map_nil, D.strip, dN_strip]
  simp only [enterSt, Try.ntmps7, List.length_cons, List.length_nil, Nat.reduceAdd, Nat.reduceSub, List.replicate_succ, List.replicate_zero, List.cons_append, List.nil_append]
  refine X_seq ?_
  refine X_rg fun R hR => ?_
  simp only [EVrP, aops, astep, awant, aeff, ev, St.put, List.getElem?_cons_succ, List.getElem?_cons_zero, Option.getD_some, Option.map_some, Option.bind_some, if_true, List.set_cons_succ, List.set_cons_zero, List.length_cons, List.length_nil, List.cons_append, List.nil_append, Nat.reduceAdd, Nat.zero_add, ty_bool, dN_cells, dN_good, sl]
  with_reducible refine hR _ ?_
  clear hR R
  show X _ _ _ _
  refine X_seq ?_
  refine X_seq ?_
  refine X_rg fun R hR => ?_
  simp only [EVrP, aops, astep, awant, aeff, aop, ev, St.put, pcall, List.map_nil, List.getElem?_cons_succ, List.getElem?_cons_zero, Option.getD_some, Option.map_some, if_true, List.set_cons_succ, List.set_cons_zero, List.nil_append, Bool.not_true, any13, awake_r]
  with_reducible refine hR _ ?_
  clear hR R
  show X _ _ _ _
  refine X_false (by simp only [ev, List.getElem?_cons_succ, List.getElem?_cons_zero, Option.getD_some]) ?_
  refine X_skip ?_
  show X _ _ _ _
  refine X_seq ?_
  refine X_seq ?_
  have hf0 : fn EVr _ _ = _ := by_up (o_backstepref03_Big t)
  rw [hbt] at hf0
  refine X_rg fun R hR => ?_
  simp only [EVrP, aops, astep, awant, aeff, aop, mkD, ev, ofValue, St.put, pcall, List.map_cons, List.map_nil, List.getElem?_cons_succ, List.getElem?_cons_zero, Option.getD_some, Option.map_some, Option.map_none, Option.bind_some, if_true, List.set_cons_succ, List.set_cons_zero, List.length_cons, List.length_nil, List.drop_zero, List.take_succ_cons, List.take_zero, List.cons_append, List.nil_append, Nat.reduceAdd, Nat.reduceLeDiff, Nat.zero_add, Bool.false_eq_true, if_false, bq_tf, ty_api_Node, any14, any15, any19, any21, dN_agg, hf0]
  with_reducible refine hR _ ?_
  clear hR R
  show X _ _ _ _
  refine X_true (by simp only [ev, List.getElem?_cons_succ, List.getElem?_cons_zero, Option.getD_some]) ?_
  refine X_seq ?_
  refine X_rg fun R hR => ?_
  simp only [EVrP, aops, astep, awant, aeff, astore, ev, ofValue, St.put, gd_bool, cl_bool, List.getElem?_cons_succ, List.getElem?_cons_zero, Option.getD_some, Option.map_some, if_true, List.set_cons_succ, List.set_cons_zero, List.length_cons, List.length_nil, List.drop_succ_cons, List.drop_zero, List.take_zero, List.cons_append, List.nil_append, Nat.reduceLeDiff, Nat.zero_add, and_self, ty_bool]
  with_reducible refine hR _ ?_
  clear hR R
  show X _ _ _ _
  refine X_ret ?_
  show resD _ _ _ = some _
  simp only [resD, resAll, resOne, resTup, Try.results7, EVrP, mkD, ty_bool, List.getElem?_cons_succ, List.getElem?_cons_zero, List.drop_zero, List.take_succ_cons, List.take_zero, List.length_cons, List.length_nil, Nat.reduceLeDiff, Nat.zero_add, if_true, Bool.false_eq_true, if_false, D.isAgg, Option.map_some] <;> (first | (rfl; done) | (simp_all; done) | (exfalso; simp_all; done))

set_option maxRecDepth 100000 in
set_option maxHeartbeats 4000000 in
theorem law7_early1 (t e q : Tr) (sp : Int) (hbt : bigB t = false) (hbe : bigB e = true) : fn EVr 7 [dN t, dN e, dN q, .int .u16 sp] = some (.bool true) := by
  refine fn_X rfl Try.func7 rfl (by simp only [plain, List.all_cons, List.all_nil, dN_pl, int_pl, Bool.and_true]) (rfl) (rfl) (rfl) ?_
  simp only [List.map_cons, List.map_nil, D.strip, dN_strip]
  simp only [enterSt, Try.ntmps7, List.length_cons, List.length_nil, Nat.reduceAdd, Nat.reduceSub, List.replicate_succ, List.replicate_zero, List.cons_append, List.nil_append]
  refine X_seq ?_
  refine X_rg fun R hR => ?_
  simp only [EVrP, aops, astep, awant, aeff, ev, St.put, List.getElem?_cons_succ, List.getElem?_cons_zero, Option.getD_some, Option.map_some, Option.bind_some, if_true, List.set_cons_succ, List.set_cons_zero, List.length_cons, List.length_nil, List.cons_append, List.nil_append, Nat.reduceAdd, Nat.zero_add, ty_bool, dN_cells, dN_good, sl]
  with_reducible refine hR _ ?_
  clear hR R
  show X _ _ _ _
  refine X_seq ?_
  refine X_seq ?_
  refine X_rg fun R hR => ?_
  simp only [EVrP, aops, astep, awant, aeff, aop, ev, St.put, pcall, List.map_nil, List.getElem?_cons_succ, List.getElem?_cons_zero, Option.getD_some, Option.map_some, if_true, List.set_cons_succ, List.set_cons_zero, List.nil_append, Bool.not_true, any13, awake_r]
  with_reducible refine hR _ ?_
  clear hR R
  show X _ _ _ _
  refine X_false (by simp only [ev, List.getElem?_cons_succ, List.getElem?_cons_zero, Option.getD_some]) ?_
  refine X_skip ?_
  show X _ _ _ _
  refine X_seq ?_
  refine X_seq ?_
  have hf0 : fn EVr _ _ = _ := by_up (o_backstepref03_Big t)
  rw [hbt] at hf0
  have hf1 : fn EVr _ _ = _ := by_up (o_backstepref03_Big e)
  rw [hbe] at hf1
  refine X_rg fun R hR => ?_
  simp only [EVrP, aops, astep, awant, aeff, aop, mkD, ev, ofValue, St.put, pcall, List.map_cons, List.map_nil, List.getElem?_cons_succ, List.getElem?_cons_zero, Option.getD_some, Option.map_some, Option.map_none, Option.bind_some, if_true, List.set_cons_succ, List.set_cons_zero, List.length_cons, List.length_nil, List.drop_zero, List.take_succ_cons, List.take_zero, List.cons_append, List.nil_append, Nat.reduceAdd, Nat.reduceLeDiff, Nat.zero_add, Bool.false_eq_true, if_false, beq_self_eq_true, bq_tf, ty_api_Node, any14, any15, any19, any21, dN_agg, hf0, hf1]
  with_reducible refine hR _ ?_
  clear hR R
  show X _ _ _ _
  refine X_true (by simp only [ev, List.getElem?_cons_succ, List.getElem?_cons_zero, Option.getD_some]) ?_
  refine X_seq ?_
  refine X_rg fun R hR => ?_
  simp only [EVrP, aops, astep, awant, aeff, astore, ev, ofValue, St.put, gd_bool, cl_bool, List.getElem?_cons_succ, List.getElem?_cons_zero, Option.getD_some, Option.map_some, if_true, List.set_cons_succ, List.set_cons_zero, List.length_cons, List.length_nil, List.drop_succ_cons, List.drop_zero, List.take_zero, List.cons_append, List.nil_append, Nat.reduceLeDiff, Nat.zero_add, and_self, ty_bool]
  with_reducible refine hR _ ?_
  clear hR R
  show X _ _ _ _
  refine X_ret ?_
  show resD _ _ _ = some _
  simp only [resD, resAll, resOne, resTup, Try.results7, EVrP, mkD, ty_bool, List.getElem?_cons_succ, List.getElem?_cons_zero, List.drop_zero, List.take_succ_cons, List.take_zero, List.length_cons, List.length_nil, Nat.reduceLeDiff, Nat.zero_add, if_true, Bool.false_eq_true, if_false, D.isAgg, Option.map_some] <;> (first | (rfl; done) | (simp_all; done) | (exfalso; simp_all; done))

set_option maxRecDepth 100000 in
set_option maxHeartbeats 4000000 in
theorem law7_early2 (t e q : Tr) (sp : Int) (hbt : bigB t = false) (hbe : bigB e = false) (hbq : bigB q = true) : fn EVr 7 [dN t, dN e, dN q, .int .u16 sp] = some (.bool true) := by
  refine fn_X rfl Try.func7 rfl (by simp only [plain, List.all_cons, List.all_nil, dN_pl, int_pl, Bool.and_true]) (rfl) (rfl) (rfl) ?_
  simp only [List.map_cons, List.map_nil, D.strip, dN_strip]
  simp only [enterSt, Try.ntmps7, List.length_cons, List.length_nil, Nat.reduceAdd, Nat.reduceSub, List.replicate_succ, List.replicate_zero, List.cons_append, List.nil_append]
  refine X_seq ?_
  refine X_rg fun R hR => ?_
  simp only [EVrP, aops, astep, awant, aeff, ev, St.put, List.getElem?_cons_succ, List.getElem?_cons_zero, Option.getD_some, Option.map_some, Option.bind_some, if_true, List.set_cons_succ, List.set_cons_zero, List.length_cons, List.length_nil, List.cons_append, List.nil_append, Nat.reduceAdd, Nat.zero_add, ty_bool, dN_cells, dN_good, sl]
  with_reducible refine hR _ ?_
  clear hR R
  show X _ _ _ _
  refine X_seq ?_
  refine X_seq ?_
  refine X_rg fun R hR => ?_
  simp only [EVrP, aops, astep, awant, aeff, aop, ev, St.put, pcall, List.map_nil, List.getElem?_cons_succ, List.getElem?_cons_zero, Option.getD_some, Option.map_some, if_true, List.set_cons_succ, List.set_cons_zero, List.nil_append, Bool.not_true, any13, awake_r]
  with_reducible refine hR _ ?_
  clear hR R
  show X _ _ _ _
  refine X_false (by simp only [ev, List.getElem?_cons_succ, List.getElem?_cons_zero, Option.getD_some]) ?_
  refine X_skip ?_
  show X _ _ _ _
  refine X_seq ?_
  refine X_seq ?_
  have hf0 : fn EVr _ _ = _ := by_up (o_backstepref03_Big t)
  rw [hbt] at hf0
  have hf1 : fn EVr _ _ = _ := by_up (o_backstepref03_Big e)
  rw [hbe] at hf1
  have hf2 : fn EVr _ _ = _ := by_up (o_backstepref03_Big q)
  rw [hbq] at hf2
  refine X_rg fun R hR => ?_
  simp only [EVrP, aops, astep, awant, aeff, aop, mkD, ev, ofValue, St.put, pcall, List.map_cons, List.map_nil, List.getElem?_cons_succ, List.getElem?_cons_zero, Option.getD_some, Option.map_some, Option.map_none, Option.bind_some, if_true, List.set_cons_succ, List.set_cons_zero, List.length_cons, List.length_nil, List.drop_zero, List.take_succ_cons, List.take_zero, List.cons_append, List.nil_append, Nat.reduceAdd, Nat.reduceLeDiff, Nat.zero_add, Bool.false_eq_true, if_false, beq_self_eq_true, bq_tf, ty_api_Node, any14, any15, any19, any21, dN_agg, hf0, hf1, hf2]
  with_reducible refine hR _ ?_
  clear hR R
  show X _ _ _ _
  refine X_true (by simp only [ev, List.getElem?_cons_succ, List.getElem?_cons_zero, Option.getD_some]) ?_
  refine X_seq ?_
  refine X_rg fun R hR => ?_
  simp only [EVrP, aops, astep, awant, aeff, astore, ev, ofValue, St.put, gd_bool, cl_bool, List.getElem?_cons_succ, List.getElem?_cons_zero, Option.getD_some, Option.map_some, if_true, List.set_cons_succ, List.set_cons_zero, List.length_cons, List.length_nil, List.drop_succ_cons, List.drop_zero, List.take_zero, List.cons_append, List.nil_append, Nat.reduceLeDiff, Nat.zero_add, and_self, ty_bool]
  with_reducible refine hR _ ?_
  clear hR R
  show X _ _ _ _
  refine X_ret ?_
  show resD _ _ _ = some _
  simp only [resD, resAll, resOne, resTup, Try.results7, EVrP, mkD, ty_bool, List.getElem?_cons_succ, List.getElem?_cons_zero, List.drop_zero, List.take_succ_cons, List.take_zero, List.length_cons, List.length_nil, Nat.reduceLeDiff, Nat.zero_add, if_true, Bool.false_eq_true, if_false, D.isAgg, Option.map_some] <;> (first | (rfl; done) | (simp_all; done) | (exfalso; simp_all; done))

set_option maxRecDepth 100000 in
set_option maxHeartbeats 4000000 in
theorem law7_early3 (t e q : Tr) (sp : Int) (hbt : bigB t = false) (hbe : bigB e = false) (hbq : bigB q = false) (ht : blockB t = false) : fn EVr 7 [dN t, dN e, dN q, .int .u16 sp] = some (.bool true) := by
  refine fn_X rfl Try.func7 rfl (by simp only [plain, List.all_cons, List.all_nil, dN_pl, int_pl, Bool.and_true]) (rfl) (rfl) (rfl) ?_
  simp only [List.map_cons, List.map_nil, D.strip, dN_strip]
  simp only [enterSt, Try.ntmps7, List.length_cons, List.length_nil, Nat.reduceAdd, Nat.reduceSub, List.replicate_succ, List.replicate_zero, List.cons_append, List.nil_append]
  refine X_seq ?_
  refine X_rg fun R hR => ?_
  simp only [EVrP, aops, astep, awant, aeff, ev, St.put, List.getElem?_cons_succ, List.getElem?_cons_zero, Option.getD_some, Option.map_some, Option.bind_some, if_true, List.set_cons_succ, List.set_cons_zero, List.length_cons, List.length_nil, List.cons_append, List.nil_append, Nat.reduceAdd, Nat.zero_add, ty_bool, dN_cells, dN_good, sl]
  with_reducible refine hR _ ?_
  clear hR R
  show X _ _ _ _
  refine X_seq ?_
  refine X_seq ?_
  refine X_rg fun R hR => ?_
  simp only [EVrP, aops, astep, awant, aeff, aop, ev, St.put, pcall, List.map_nil, List.getElem?_cons_succ, List.getElem?_cons_zero, Option.getD_some, Option.map_some, if_true, List.set_cons_succ, List.set_cons_zero, List.nil_append, Bool.not_true, any13, awake_r]
  with_reducible refine hR _ ?_
  clear hR R
  show X _ _ _ _
  refine X_false (by simp only [ev, List.getElem?_cons_succ, List.getElem?_cons_zero, Option.getD_some]) ?_
  refine X_skip ?_
  show X _ _ _ _
  refine X_seq ?_
  refine X_seq ?_
  have hf0 : fn EVr _ _ = _ := by_up (o_backstepref03_Big t)
  rw [hbt] at hf0
  have hf1 : fn EVr _ _ = _ := by_up (o_backstepref03_Big e)
  rw [hbe] at hf1
  have hf2 : fn EVr _ _ = _ := by_up (o_backstepref03_Big q)
  rw [hbq] at hf2
  have hf3 : fn EVr _ _ = _ := by_up (o_ast_IsBlock t)
  rw [ht] at hf3
  refine X_rg fun R hR => ?_
  simp only [EVrP, aops, astep, awant, aeff, aop, mkD, ev, ofValue, St.put, pcall, List.map_cons, List.map_nil, List.getElem?_cons_succ, List.getElem?_cons_zero, Option.getD_some, Option.map_some, Option.map_none, Option.bind_some, if_true, List.set_cons_succ, List.set_cons_zero, List.length_cons, List.length_nil, List.drop_zero, List.take_succ_cons, List.take_zero, List.cons_append, List.nil_append, Nat.reduceAdd, Nat.reduceLeDiff, Nat.zero_add, Bool.not_false, Bool.false_eq_true, if_false, beq_self_eq_true, bq_tf, ty_api_Node, any14, any15, any19, any21, dN_agg, hf0, hf1, hf2, hf3]
  with_reducible refine hR _ ?_
  clear hR R
  show X _ _ _ _
  refine X_true (by simp only [ev, List.getElem?_cons_succ, List.getElem?_cons_zero, Option.getD_some]) ?_
  refine X_seq ?_
  refine X_rg fun R hR => ?_
  simp only [EVrP, aops, astep, awant, aeff, astore, ev, ofValue, St.put, gd_bool, cl_bool, List.getElem?_cons_succ, List.getElem?_cons_zero, Option.getD_some, Option.map_some, if_true, List.set_cons_succ, List.set_cons_zero, List.length_cons, List.length_nil, List.drop_succ_cons, List.drop_zero, List.take_zero, List.cons_append, List.nil_append, Nat.reduceLeDiff, Nat.zero_add, and_self, ty_bool]
  with_reducible refine hR _ ?_
  clear hR R
  show X _ _ _ _
  refine X_ret ?_
  show resD _ _ _ = some _
  simp only [resD, resAll, resOne, resTup, Try.results7, EVrP, mkD, ty_bool, List.getElem?_cons_succ, List.getElem?_cons_zero, List.drop_zero, List.take_succ_cons, List.take_zero, List.length_cons, List.length_nil, Nat.reduceLeDiff, Nat.zero_add, if_true, Bool.false_eq_true, if_false, D.isAgg, Option.map_some] <;> (first | (rfl; done) | (simp_all; done) | (exfalso; simp_all; done))

set_option maxRecDepth 100000 in
set_option maxHeartbeats 4000000 in
theorem law7_early4 (t e q : Tr) (sp : Int) (hbt : bigB t = false) (hbe : bigB e = false) (hbq : bigB q = false) (ht : blockB t = true) (he : exprB e = false) : fn EVr 7 [dN t, dN e, dN q, .int .u16 sp] = some (.bool true) := by
  refine fn_X rfl Try.func7 rfl (by simp only [plain, List.all_cons, List.all_nil, dN_pl, int_pl, Bool.and_true]) (rfl) (rfl) (rfl) ?_
  simp only [List.map_cons, List.map_nil, D.strip, dN_strip]
  simp only [enterSt, Try.ntmps7, List.length_cons, List.length_nil, Nat.reduceAdd, Nat.reduceSub, List.replicate_succ, List.replicate_zero, List.cons_append, List.nil_append]
  refine X_seq ?_
  refine X_rg fun R hR => ?_
  simp only [EVrP, aops, astep, awant, aeff, ev, St.put, List.getElem?_cons_succ, List.getElem?_cons_zero, Option.getD_some, Option.map_some, Option.bind_some, if_true, List.set_cons_succ, List.set_cons_zero, List.length_cons, List.length_nil, List.cons_append, List.nil_append, Nat.reduceAdd, Nat.zero_add, ty_bool, dN_cells, dN_good, sl]
  with_reducible refine hR _ ?_
  clear hR R
  show X _ _ _ _
  refine X_seq ?_
  refine X_seq ?_
  refine X_rg fun R hR => ?_
  simp only [EVrP, aops, astep, awant, aeff, aop, ev, St.put, pcall, List.map_nil, List.getElem?_cons_succ, List.getElem?_cons_zero, Option.getD_some, Option.map_some, if_true, List.set_cons_succ, List.set_cons_zero, List.nil_append, Bool.not_true, any13, awake_r]
  with_reducible refine hR _ ?_
  clear hR R
  show X _ _ _ _
  refine X_false (by simp only [ev, List.getElem?_cons_succ, List.getElem?_cons_zero, Option.getD_some]) ?_
  refine X_skip ?_
  show X _ _ _ _
  refine X_seq ?_
  refine X_seq ?_
  have hf0 : fn EVr _ _ = _ := by_up (o_backstepref03_Big t)
  rw [hbt] at hf0
  have hf1 : fn EVr _ _ = _ := by_up (o_backstepref03_Big e)
  rw [hbe] at hf1
  have hf2 : fn EVr _ _ = _ := by_up (o_backstepref03_Big q)
  rw [hbq] at hf2
  have hf3 : fn EVr _ _ = _ := by_up (o_ast_IsBlock t)
  rw [ht] at hf3
  have hf4 : fn EVr _ _ = _ := by_up (o_ast_IsExpr e)
  rw [he] at hf4
  refine X_rg fun R hR => ?_
  simp only [EVrP, aops, astep, awant, aeff, aop, mkD, ev, ofValue, St.put, pcall, List.map_cons, List.map_nil, List.getElem?_cons_succ, List.getElem?_cons_zero, Option.getD_some, Option.map_some, Option.map_none, Option.bind_some, if_true, List.set_cons_succ, List.set_cons_zero, List.length_cons, List.length_nil, List.drop_zero, List.take_succ_cons, List.take_zero, List.cons_append, List.nil_append, Nat.reduceAdd, Nat.reduceLeDiff, Nat.zero_add, Bool.not_true, Bool.not_false, Bool.false_eq_true, if_false, beq_self_eq_true, bq_tf, ty_api_Node, any14, any15, any19, any21, dN_agg, hf0, hf1, hf2, hf3, hf4]
  with_reducible refine hR _ ?_
  clear hR R
  show X _ _ _ _
  refine X_true (by simp only [ev, List.getElem?_cons_succ, List.getElem?_cons_zero, Option.getD_some]) ?_
  refine X_seq ?_
  refine X_rg fun R hR => ?_
  simp only [EVrP, aops, astep, awant, aeff, astore, ev, ofValue, St.put, gd_bool, cl_bool, List.getElem?_cons_succ, List.getElem?_cons_zero, Option.getD_some, Option.map_some, if_true, List.set_cons_succ, List.set_cons_zero, List.length_cons, List.length_nil, List.drop_succ_cons, List.drop_zero, List.take_zero, List.cons_append, List.nil_append, Nat.reduceLeDiff, Nat.zero_add, and_self, ty_bool]
  with_reducible refine hR _ ?_
  clear hR R
  show X _ _ _ _
  refine X_ret ?_
  show resD _ _ _ = some _
  simp only [resD, resAll, resOne, resTup, Try.results7, EVrP, mkD, ty_bool, List.getElem?_cons_succ, List.getElem?_cons_zero, List.drop_zero, List.take_succ_cons, List.take_zero, List.length_cons, List.length_nil, Nat.reduceLeDiff, Nat.zero_add, if_true, Bool.false_eq_true, if_false, D.isAgg, Option.map_some] <;> (first | (rfl; done) | (simp_all; done) | (exfalso; simp_all; done))

set_option maxRecDepth 100000 in
set_option maxHeartbeats 4000000 in
theorem law7_early5 (t e q : Tr) (sp : Int) (hbt : bigB t = false) (hbe : bigB e = false) (hbq : bigB q = false) (ht : blockB t = true) (he : exprB e = true) (hq : stmtB q = false) : fn EVr 7 [dN t, dN e, dN q, .int .u16 sp] = some (.bool true) := by
  refine fn_X rfl Try.func7 rfl (by simp only [plain, List.all_cons, List.all_nil, dN_pl, int_pl, Bool.and_true]) (rfl) (rfl) (rfl) ?_
  simp only [List.map_cons, List.map_nil, D.strip, dN_strip]
  simp only [enterSt, Try.ntmps7, List.length_cons, List.length_nil, Nat.reduceAdd, Nat.reduceSub, List.replicate_succ, List.replicate_zero, List.cons_append, List.nil_append]
  refine X_seq ?_
  refine X_rg fun R hR => ?_
  simp only [EVrP, aops, astep, awant, aeff, ev, St.put, List.getElem?_cons_succ, List.getElem?_cons_zero, Option.getD_some, Option.map_some, Option.bind_some, if_true, List.set_cons_succ, List.set_cons_zero, List.length_cons, List.length_nil, List.cons_append, List.nil_append, Nat.reduceAdd, Nat.zero_add, ty_bool, dN_cells, dN_good, sl]
  with_reducible refine hR _ ?_
  clear hR R
  show X _ _ _ _
  refine X_seq ?_
  refine X_seq ?_
  refine X_rg fun R hR => ?_
  simp only [EVrP, aops, astep, awant, aeff, aop, ev, St.put, pcall, List.map_nil, List.getElem?_cons_succ, List.getElem?_cons_zero, Option.getD_some, Option.map_some, if_true, List.set_cons_succ, List.set_cons_zero, List.nil_append, Bool.not_true, any13, awake_r]
  with_reducible refine hR _ ?_
  clear hR R
  show X _ _ _ _
  refine X_false (by simp only [ev, List.getElem?_cons_succ, List.getElem?_cons_zero, Option.getD_some]) ?_
  refine X_skip ?_
  show X _ _ _ _
  refine X_seq ?_
  refine X_seq ?_
  have hf0 : fn EVr _ _ = _ := by_up (o_backstepref03_Big t)
  rw [hbt] at hf0
  have hf1 : fn EVr _ _ = _ := by_up (o_backstepref03_Big e)
  rw [hbe] at hf1
  have hf2 : fn EVr _ _ = _ := by_up (o_backstepref03_Big q)
  rw [hbq] at hf2
  have hf3 : fn EVr _ _ = _ := by_up (o_ast_IsBlock t)
  rw [ht] at hf3
  have hf4 : fn EVr _ _ = _ := by_up (o_ast_IsExpr e)
  rw [he] at hf4
  have hf5 : fn EVr _ _ = _ := by_up (o_ast_IsStmt q)
  rw [hq] at hf5
  refine X_rg fun R hR => ?_
  simp only [EVrP, aops, astep, awant, aeff, aop, mkD, ev, ofValue, St.put, pcall, List.map_cons, List.map_nil, List.getElem?_cons_succ, List.getElem?_cons_zero, Option.getD_some, Option.map_some, Option.bind_some, if_true, List.set_cons_succ, List.set_cons_zero, List.length_cons, List.length_nil, List.drop_zero, List.take_succ_cons, List.take_zero, List.cons_append, List.nil_append, Nat.reduceAdd, Nat.reduceLeDiff, Nat.zero_add, Bool.not_true, Bool.not_false, Bool.false_eq_true, if_false, beq_self_eq_true, ty_api_Node, any14, any15, any19, any21, dN_agg, hf0, hf1, hf2, hf3, hf4, hf5]
  with_reducible refine hR _ ?_
  clear hR R
  show X _ _ _ _
  refine X_true (by simp only [ev, List.getElem?_cons_succ, List.getElem?_cons_zero, Option.getD_some]) ?_
  refine X_seq ?_
  refine X_rg fun R hR => ?_
  simp only [EVrP, aops, astep, awant, aeff, astore, ev, ofValue, St.put, gd_bool, cl_bool, List.getElem?_cons_succ, List.getElem?_cons_zero, Option.getD_some, Option.map_some, if_true, List.set_cons_succ, List.set_cons_zero, List.length_cons, List.length_nil, List.drop_succ_cons, List.drop_zero, List.take_zero, List.cons_append, List.nil_append, Nat.reduceLeDiff, Nat.zero_add, and_self, ty_bool]
  with_reducible refine hR _ ?_
  clear hR R
  show X _ _ _ _
  refine X_ret ?_
  show resD _ _ _ = some _
  simp only [resD, resAll, resOne, resTup, Try.results7, EVrP, mkD, ty_bool, List.getElem?_cons_succ, List.getElem?_cons_zero, List.drop_zero, List.take_succ_cons, List.take_zero, List.length_cons, List.length_nil, Nat.reduceLeDiff, Nat.zero_add, if_true, Bool.false_eq_true, if_false, D.isAgg, Option.map_some] <;> (first | (rfl; done) | (simp_all; done) | (exfalso; simp_all; done))
set_option maxRecDepth 100000 in
set_option maxHeartbeats 4000000 in
theorem law7_main (t e q : Tr) (sp : Int) (hk0 : 0 ≤ sp) (hk1 : sp ≤ 65535) (hbt : bigB t = false) (hbe : bigB e = false) (hbq : bigB q = false) (ht : blockB t = true) (he : exprB e = true) (hq : stmtB q = true) : fn EVr 7 [dN t, dN e, dN q, .int .u16 sp] = some (.bool true) := by
  refine fn_X rfl Try.func7 rfl (by simp only [plain, List.all_cons, List.all_nil, dN_pl, int_pl, Bool.and_true]) (rfl) (rfl) (rfl) ?_
  simp only [List.map_cons, List.map_nil, D.strip, dN_strip]
  simp only [enterSt, Try.ntmps7, List.length_cons, List.length_nil, Nat.reduceAdd, Nat.reduceSub, List.replicate_succ, List.replicate_zero, List.cons_append, List.nil_append]
  refine X_seq ?_
  refine X_rg fun R hR => ?_
  simp only [EVrP, aops, astep, awant, aeff, ev, St.put, List.getElem?_cons_succ, List.getElem?_cons_zero, Option.getD_some, Option.map_some, Option.bind_some, if_true, List.set_cons_succ, List.set_cons_zero, List.length_cons, List.length_nil, List.cons_append, List.nil_append, Nat.reduceAdd, Nat.zero_add, ty_bool, dN_cells, dN_good, sl]
  with_reducible refine hR _ ?_
  clear hR R
  show X _ _ _ _
  refine X_seq ?_
  refine X_seq ?_
  refine X_rg fun R hR => ?_
  simp only [EVrP, aops, astep, awant, aeff, aop, ev, St.put, pcall, List.map_nil, List.getElem?_cons_succ, List.getElem?_cons_zero, Option.getD_some, Option.map_some, if_true, List.set_cons_succ, List.set_cons_zero, List.nil_append, Bool.not_true, any13, awake_r]
  with_reducible refine hR _ ?_
  clear hR R
  show X _ _ _ _
  refine X_false (by simp only [ev, List.getElem?_cons_succ, List.getElem?_cons_zero, Option.getD_some]) ?_
  refine X_skip ?_
  show X _ _ _ _
  refine X_seq ?_
  refine X_seq ?_
  have hf0 : fn EVr _ _ = _ := by_up (o_backstepref03_Big t)
  rw [hbt] at hf0
  have hf1 : fn EVr _ _ = _ := by_up (o_backstepref03_Big e)
  rw [hbe] at hf1
  have hf2 : fn EVr _ _ = _ := by_up (o_backstepref03_Big q)
  rw [hbq] at hf2
  have hf3 : fn EVr _ _ = _ := by_up (o_ast_IsBlock t)
  rw [ht] at hf3
  have hf4 : fn EVr _ _ = _ := by_up (o_ast_IsExpr e)
  rw [he] at hf4
  have hf5 : fn EVr _ _ = _ := by_up (o_ast_IsStmt q)
  rw [hq] at hf5
  have hsz := (bigB_no hbt).1
  have hs0 : 0 < t.size := size_ge1 t
  refine X_rg fun R hR => ?_
  simp only [EVrP, aops, astep, awant, aeff, aop, mkD, ev, ofValue, St.put, pcall, List.map_cons, List.map_nil, List.getElem?_cons_succ, List.getElem?_cons_zero, Option.getD_some, Option.map_some, Option.bind_some, if_true, List.set_cons_succ, List.set_cons_zero, List.length_cons, List.length_nil, List.drop_zero, List.take_succ_cons, List.take_zero, List.cons_append, List.nil_append, Nat.reduceAdd, Nat.reduceLeDiff, Nat.zero_add, Bool.not_true, Bool.false_eq_true, if_false, beq_self_eq_true, ty_api_Node, any14, any15, any19, any21, dN_agg, hf0, hf1, hf2, hf3, hf4, hf5]
  with_reducible refine hR _ ?_
  clear hR R
  show X _ _ _ _
  refine X_false (by simp only [ev, List.getElem?_cons_succ, List.getElem?_cons_zero, Option.getD_some]) ?_
  refine X_skip ?_
  show X _ _ _ _
  refine X_seq ?_
  have hS0 : fn EVr _ _ = _ := by_up (o_ast_Size t (by omega))
  have hkc := u16_conv hk0 hk1
  obtain ⟨k, hk⟩ : ∃ k : Nat, sp.toNat % t.size = k := ⟨_, rfl⟩
  have hkl : k < t.size := by rw [← hk]; exact Nat.mod_lt _ hs0
  have htm := tmod_nat hk0 t.size
  rw [hk] at htm
  clear hk
  have hz : ((t.size : Int) = 0) = False := eq_false (by omega)
  refine X_rg fun R hR => ?_
  simp only [EVrP, aops, astep, awant, aeff, aop, abin, aint, mkD, astore, ev, St.put, pcall, gd_int, cl_int, List.map_cons, List.map_nil, List.getElem?_cons_succ, List.getElem?_cons_zero, Option.getD_some, Option.map_some, Option.bind_some, if_true, List.set_cons_succ, List.set_cons_zero, List.length_cons, List.length_nil, List.drop_succ_cons, List.drop_zero, List.take_succ_cons, List.take_zero, List.cons_append, List.nil_append, Nat.reduceAdd, Nat.reduceLeDiff, Nat.zero_add, if_false, and_self, ty_int, ty_api_Node, und_int', any31, dN_agg, und_u16, hS0, hkc, htm, hz]
  with_reducible refine hR _ ?_
  clear hR R
  show X _ _ _ _
  refine X_seq ?_
  refine X_rg fun R hR => ?_
  simp only [EVrP, inr_i64, Int.reduceLE, Int.reduceNeg, aops, astep, awant, aeff, astore, ev, ofValue, St.put, gd_int, cl_int, List.getElem?_cons_succ, List.getElem?_cons_zero, Option.getD_some, Option.map_some, Option.bind_some, if_true, List.set_cons_succ, List.set_cons_zero, List.length_cons, List.length_nil, List.drop_succ_cons, List.drop_zero, List.take_zero, List.cons_append, List.nil_append, Nat.reduceAdd, Nat.reduceLeDiff, Nat.zero_add, and_self, ty_int]
  with_reducible refine hR _ ?_
  clear hR R
  show X _ _ _ _
  refine X_seq ?_
  refine X_seq ?_
  have hW : fn EVr _ _ = _ := by_up (o_ast_Walk t (by omega))
  refine X_rg fun R hR => ?_
  simp only [EVrP, aops, astep, awant, aeff, aop, mkD, ev, St.put, pcall, List.map_cons, List.map_nil, List.getElem?_cons_succ, List.getElem?_cons_zero, Option.getD_some, Option.map_some, if_true, List.set_cons_succ, List.set_cons_zero, List.length_cons, List.length_nil, List.drop_zero, List.take_succ_cons, List.take_zero, List.cons_append, List.nil_append, Nat.reduceAdd, Nat.reduceLeDiff, Nat.zero_add, ty_api_Node, any24, dN_agg, hW]
  with_reducible refine hR _ ?_
  clear hR R
  show X _ _ _ _
  refine X_block ?_
  refine X_range (L := walkD t) (by simp only [ev, List.getElem?_cons_succ, List.getElem?_cons_zero, Option.getD_some]) ?_
  refine XR_inv (fun L σ => ∃ (fr : List D) (r : List (List D)) (W : List (List Int × Tr)) (i : Nat), σ = ⟨fr, [.int .u8 t.kind, .int .i64 t.num, .str t.name, .slice .imm (if (t.kids.map dN).isEmpty = true then 0 else 4) (t.kids.map dN)] :: [.int .u8 e.kind, .int .i64 e.num, .str e.name, .slice .imm (if (e.kids.map dN).isEmpty = true then 0 else 4) (e.kids.map dN)] :: [.int .u8 q.kind, .int .i64 q.num, .str q.name, .slice .imm (if (q.kids.map dN).isEmpty = true then 0 else 4) (q.kids.map dN)] :: [.bool false] :: [.int .i64 (k : Int)] :: [.int .i64 (i : Int)] :: r, 0, []⟩ ∧ L = W.map (fun x : List Int × Tr => [sl 1 (x.1.map dI), dN x.2]) ∧ i + W.length = t.size ∧ i ≤ k ∧ Hid (∀ x ∈ W, atO t x.1 = some x.2 ∧ x.1.length ≤ t.size)) ?_ ?_ _ _ ?_
  rotate_right
  · refine ⟨_, [], walkL [] t, 0, rfl, rfl, by rw [walkL_len]; omega, Nat.zero_le _, Lib.hid (fun x hx => ⟨?_, ?_⟩)⟩
    · obtain ⟨q, h1, h2⟩ := walk_at t [] x hx
      rw [List.nil_append] at h1; rw [← h1] at h2; exact atT_some h2
    · have := walk_plen t [] x hx
      simpa using this
  · rintro σ ⟨fr, r, W, i, rfl, hL, hi, hik, hAt⟩
    have hW0 : W = [] := by cases W with | nil => rfl | cons a b => cases hL
    subst hW0
    simp only [List.length_nil, Nat.add_zero] at hi
    show X _ _ _ _
    refine X_seq ?_
    refine X_rg fun R hR => ?_
    simp only [EVrP, aops, astep, awant, aeff, astore, ev, ofValue, St.put, gd_bool, cl_bool, List.getElem?_cons_succ, List.getElem?_cons_zero, Option.getD_some, Option.map_some, if_true, List.set_cons_succ, List.set_cons_zero, List.length_cons, List.length_nil, List.drop_succ_cons, List.drop_zero, List.take_zero, List.cons_append, List.nil_append, Nat.reduceLeDiff, Nat.zero_add, and_self, ty_bool, List.getElem?_cons_zero, List.set_cons_zero, List.getElem?_cons_succ, List.set_cons_succ, List.length_cons, List.length_nil]
    with_reducible refine hR _ ?_
    clear hR R
    show X _ _ _ _
    refine X_ret ?_
    show resD _ _ _ = some _
    exfalso
    omega
  · rintro row L σ ⟨fr, r, W, i, rfl, hL, hi, hik, hAt⟩
    obtain ⟨x, W2, rfl⟩ : ∃ x W2, W = x :: W2 := by cases W with | nil => cases hL | cons a b => exact ⟨a, b, rfl⟩
    simp only [List.map_cons, List.cons.injEq] at hL
    obtain ⟨rfl, rfl⟩ := hL
    obtain ⟨hx, hxl⟩ := hAt.out x (by simp)
    have hcl := closed_law ht he hq hx
    have hS : fn EVr _ _ = _ := by_up (o_ast_IsStmt x.2)
    have hB : fn EVr _ _ = _ := by_up (o_ast_IsBlock x.2)
    have hE : fn EVr _ _ = _ := by_up (o_ast_IsExpr x.2)
    have hP : fn EVr _ _ = _ := by_up (o_ast_IsPlace x.2)
    have hbigi : i < 9223372036854775807 := by omega
    have hkk : (((i : Nat) : Int) == (k : Int)) = decide (i = k) := by rw [Bool.eq_iff_iff, beq_iff_eq, decide_eq_true_eq]; omega
    refine ⟨by simp only [List.length_cons, List.length_nil], ?_⟩
    simp only [setPs, List.set_cons_succ, List.set_cons_zero]
    refine X_seq ?_
    refine X_rg fun R hR => ?_
    simp only [aops, astep, awant, aeff, aop, ev, St.put, List.getElem?_cons_succ, List.getElem?_cons_zero, Option.getD_some, Option.map_some, if_true, List.set_cons_succ, List.set_cons_zero, sl, List.getElem?_cons_zero, List.set_cons_zero, List.getElem?_cons_succ, List.set_cons_succ]
    with_reducible refine hR _ ?_
    clear hR R
    show X _ _ _ _
    refine X_rg fun R hR => ?_
    simp only [EVrP, app_get0, app_set0, aops, astep, awant, aeff, astore, ev, St.put, List.getElem?_cons_succ, List.getElem?_cons_zero, Option.getD_some, Option.map_some, Option.bind_some, if_true, List.set_cons_succ, List.set_cons_zero, List.length_cons, List.length_nil, List.drop_succ_cons, List.drop_zero, List.take_zero, List.cons_append, List.nil_append, Nat.reduceAdd, Nat.reduceLeDiff, Nat.zero_add, and_self, ty_api_Node, dN_cells, dN_good, sl, app_get0, app_set0, List.getElem?_cons_zero, List.set_cons_zero, List.getElem?_cons_succ, List.set_cons_succ, List.length_cons, List.length_nil]
    with_reducible refine hR _ ?_
    clear hR R
    refine ⟨rfl, ?_⟩
    refine X_block ?_
    refine X_seq ?_
    refine X_seq ?_
    refine X_rg fun R hR => ?_
    simp only [EVrP, aops, astep, awant, aeff, aop, abin, aint, mkD, ev, St.put, ia_int, List.getElem?_cons_succ, List.getElem?_cons_zero, Option.getD_some, Option.map_some, if_true, List.set_cons_succ, List.set_cons_zero, List.length_cons, List.length_nil, List.drop_zero, List.take_succ_cons, List.take_zero, Nat.reduceLeDiff, Nat.zero_add, Bool.false_eq_true, if_false, ty_int, hkk, List.getElem?_cons_zero, List.set_cons_zero, List.getElem?_cons_succ, List.set_cons_succ, List.length_cons, List.length_nil]
    with_reducible refine hR _ ?_
    clear hR R
    show X _ _ _ _
    refine X_ite (by simp only [ev, List.getElem?_cons_succ, List.getElem?_cons_zero, Option.getD_some]; exact rfl) ?_ ?_
    · intro b1
      have c1 := b1
      try simp only [decide_eq_true_eq] at c1
      refine X_seq ?_
      refine X_seq ?_
      refine X_rg fun R hR => ?_
      simp only [EVrP, app_get0, aops, astep, awant, aeff, aop, mkD, ev, St.put, pcall, List.map_cons, List.map_nil, List.getElem?_cons_succ, List.getElem?_cons_zero, Option.getD_some, Option.map_some, if_true, List.set_cons_succ, List.set_cons_zero, List.length_cons, List.length_nil, List.drop_zero, List.take_succ_cons, List.take_zero, List.cons_append, List.nil_append, Nat.reduceAdd, Nat.reduceLeDiff, Nat.zero_add, ty_api_Node, any19, dN_agg, b1, hS, app_get0, List.getElem?_cons_zero, List.set_cons_zero, List.getElem?_cons_succ, List.set_cons_succ, List.length_cons, List.length_nil]
      with_reducible refine hR _ ?_
      clear hR R
      show X _ _ _ _
      refine X_ite (by simp only [ev, List.getElem?_cons_succ, List.getElem?_cons_zero, Option.getD_some]; exact rfl) ?_ ?_
      · intro b2
        have c2 := b2
        try simp only [Bool.not_eq_true', Bool.not_eq_false', decide_eq_true_eq, decide_eq_false_iff_not, beq_iff_eq, Int.not_lt, Int.not_le, ge_iff_le, gt_iff_lt, bne_iff_ne, ne_eq, bne_eq_false_iff_eq, beq_eq_false_iff_ne, Bool.and_eq_true, Bool.or_eq_false_iff] at c2
        refine X_seq ?_
        have hst : stmtB x.2 = true := by first | assumption | (simp_all; done)
        obtain ⟨r1, hr1, hr2, hr3, hr4⟩ := hcl.1 hst
        have hrep := rep_fn t x.1 q (by omega) (by omega)
        rw [show repD t x.1 q = .tup [dN r1, .bool true] from by unfold repD; rw [hr1]] at hrep
        simp only [sl] at hrep
        refine X_rg fun R hR => ?_
        simp only [EVrP, app_get1, app_set1, aops, astep, awant, aeff, aop, mkD, astore, ev, St.put, pcall, List.map_cons, List.map_nil, List.getElem?_cons_succ, List.getElem?_cons_zero, Option.getD_some, Option.map_some, Option.bind_some, if_true, List.set_cons_succ, List.set_cons_zero, List.length_cons, List.length_nil, List.drop_succ_cons, List.drop_zero, List.take_succ_cons, List.take_zero, List.cons_append, List.nil_append, List.append_assoc, Nat.reduceAdd, Nat.reduceLeDiff, Nat.zero_add, and_self, ty_api_Node, any36, dN_agg, dN_cells, dN_good, sl, b2, hrep, app_get1, app_set1, List.getElem?_cons_zero, List.set_cons_zero, List.getElem?_cons_succ, List.set_cons_succ, List.length_append, List.length_cons, List.length_nil]
        with_reducible refine hR _ ?_
        clear hR R
        show X _ _ _ _
        refine X_seq ?_
        have hB1 : fn EVr _ _ = _ := by_up (o_ast_IsBlock r1)
        rw [hr2] at hB1
        rw [hr3] at hE
        rw [hr4] at hB
        refine X_rg fun R hR => ?_
        simp only [EVrP, app_get0, app_get1, aops, astep, awant, aeff, aop, mkD, astore, ev, ofValue, St.put, pcall, gd_bool, cl_bool, List.map_cons, List.map_nil, List.getElem?_cons_succ, List.getElem?_cons_zero, Option.getD_some, Option.map_some, Option.bind_some, if_true, List.set_cons_succ, List.set_cons_zero, List.length_cons, List.length_nil, List.drop_succ_cons, List.drop_zero, List.take_succ_cons, List.take_zero, List.cons_append, List.nil_append, Nat.reduceAdd, Nat.reduceLeDiff, Nat.zero_add, Bool.not_false, and_self, beq_self_eq_true, ty_bool, ty_api_Node, any15, any21, dN_agg, hB1, hE, hB, app_get0, app_get1, List.getElem?_cons_zero, List.set_cons_zero, List.getElem?_cons_succ, List.set_cons_succ, List.length_cons, List.length_nil]
        with_reducible refine hR _ ?_
        clear hR R
        show X _ _ _ _
        refine X_ret ?_
        show resD _ _ _ = some _
        simp only [resD, resAll, resOne, resTup, Try.results7, EVrP, mkD, ty_bool, List.getElem?_cons_succ, List.getElem?_cons_zero, List.drop_zero, List.take_succ_cons, List.take_zero, List.length_cons, List.length_nil, Nat.reduceLeDiff, Nat.zero_add, if_true, Bool.false_eq_true, if_false, D.isAgg, Option.map_some] <;> (first | (rfl; done) | (simp_all; done) | (exfalso; simp_all; done))
      · intro b3
        have c3 := b3
        try simp only [Bool.not_eq_true', Bool.not_eq_false', decide_eq_true_eq, decide_eq_false_iff_not, beq_iff_eq, Int.not_lt, Int.not_le, ge_iff_le, gt_iff_lt, bne_iff_ne, ne_eq, bne_eq_false_iff_eq, beq_eq_false_iff_ne, Bool.and_eq_true, Bool.or_eq_false_iff] at c3
        refine X_skip ?_
        show X _ _ _ _
        refine X_seq ?_
        refine X_seq ?_
        refine X_rg fun R hR => ?_
        simp only [EVrP, app_get0, aops, astep, awant, aeff, aop, mkD, ev, St.put, pcall, List.map_cons, List.map_nil, List.getElem?_cons_succ, List.getElem?_cons_zero, Option.getD_some, Option.map_some, if_true, List.set_cons_succ, List.set_cons_zero, List.length_cons, List.length_nil, List.drop_zero, List.take_succ_cons, List.take_zero, List.cons_append, List.nil_append, Nat.reduceAdd, Nat.reduceLeDiff, Nat.zero_add, ty_api_Node, any21, dN_agg, b3, hB, app_get0, List.getElem?_cons_zero, List.set_cons_zero, List.getElem?_cons_succ, List.set_cons_succ, List.length_cons, List.length_nil]
        with_reducible refine hR _ ?_
        clear hR R
        show X _ _ _ _
        refine X_ite (by simp only [ev, List.getElem?_cons_succ, List.getElem?_cons_zero, Option.getD_some]; exact rfl) ?_ ?_
        · intro b4
          have c4 := b4
          try simp only [Bool.not_eq_true', Bool.not_eq_false', decide_eq_true_eq, decide_eq_false_iff_not, beq_iff_eq, Int.not_lt, Int.not_le, ge_iff_le, gt_iff_lt, bne_iff_ne, ne_eq, bne_eq_false_iff_eq, beq_eq_false_iff_ne, Bool.and_eq_true, Bool.or_eq_false_iff] at c4
          refine X_seq ?_
          have hst : stmtB x.2 = false := by first | assumption | (simp_all; done)
          have hbl : blockB x.2 = true := by first | assumption | (simp_all; done)
          rw [hcl.2.1 hst hbl] at hE
          refine X_rg fun R hR => ?_
          simp only [EVrP, app_get0, aops, astep, awant, aeff, aop, mkD, astore, ev, St.put, pcall, gd_bool, cl_bool, List.map_cons, List.map_nil, List.getElem?_cons_succ, List.getElem?_cons_zero, Option.getD_some, Option.map_some, if_true, List.set_cons_succ, List.set_cons_zero, List.length_cons, List.length_nil, List.drop_succ_cons, List.drop_zero, List.take_succ_cons, List.take_zero, List.cons_append, List.nil_append, Nat.reduceAdd, Nat.reduceLeDiff, Nat.zero_add, Bool.not_false, and_self, ty_bool, ty_api_Node, any15, dN_agg, b4, hE, app_get0, List.getElem?_cons_zero, List.set_cons_zero, List.getElem?_cons_succ, List.set_cons_succ, List.length_cons, List.length_nil]
          with_reducible refine hR _ ?_
          clear hR R
          show X _ _ _ _
          refine X_ret ?_
          show resD _ _ _ = some _
          simp only [resD, resAll, resOne, resTup, Try.results7, EVrP, mkD, ty_bool, List.getElem?_cons_succ, List.getElem?_cons_zero, List.drop_zero, List.take_succ_cons, List.take_zero, List.length_cons, List.length_nil, Nat.reduceLeDiff, Nat.zero_add, if_true, Bool.false_eq_true, if_false, D.isAgg, Option.map_some] <;> (first | (rfl; done) | (simp_all; done) | (exfalso; simp_all; done))
        · intro b5
          have c5 := b5
          try simp only [Bool.not_eq_true', Bool.not_eq_false', decide_eq_true_eq, decide_eq_false_iff_not, beq_iff_eq, Int.not_lt, Int.not_le, ge_iff_le, gt_iff_lt, bne_iff_ne, ne_eq, bne_eq_false_iff_eq, beq_eq_false_iff_ne, Bool.and_eq_true, Bool.or_eq_false_iff] at c5
          refine X_skip ?_
          show X _ _ _ _
          refine X_seq ?_
          refine X_seq ?_
          have hst : stmtB x.2 = false := by first | assumption | (simp_all; done)
          have hbl : blockB x.2 = false := by first | assumption | (simp_all; done)
          obtain ⟨hex, r1, hr1, hr2⟩ := hcl.2.2 hst hbl
          rw [hex] at hE
          refine X_rg fun R hR => ?_
          simp only [EVrP, app_get0, aops, astep, awant, aeff, aop, mkD, ev, St.put, pcall, List.map_cons, List.map_nil, List.getElem?_cons_succ, List.getElem?_cons_zero, Option.getD_some, Option.map_some, if_true, List.set_cons_succ, List.set_cons_zero, List.length_cons, List.length_nil, List.drop_zero, List.take_succ_cons, List.take_zero, List.cons_append, List.nil_append, Nat.reduceAdd, Nat.reduceLeDiff, Nat.zero_add, Bool.not_true, ty_api_Node, any15, dN_agg, b5, hE, app_get0, List.getElem?_cons_zero, List.set_cons_zero, List.getElem?_cons_succ, List.set_cons_succ, List.length_cons, List.length_nil]
          with_reducible refine hR _ ?_
          clear hR R
          show X _ _ _ _
          refine X_false (by simp only [ev, List.getElem?_cons_succ, List.getElem?_cons_zero, Option.getD_some]) ?_
          refine X_skip ?_
          show X _ _ _ _
          refine X_seq ?_
          have hrep := rep_fn t x.1 e (by omega) (by omega)
          rw [show repD t x.1 e = .tup [dN r1, .bool true] from by unfold repD; rw [hr1]] at hrep
          simp only [sl] at hrep
          refine X_rg fun R hR => ?_
          simp only [EVrP, app_get1, app_set1, aops, astep, awant, aeff, aop, mkD, astore, ev, St.put, pcall, List.map_cons, List.map_nil, List.getElem?_cons_succ, List.getElem?_cons_zero, Option.getD_some, Option.map_some, Option.bind_some, if_true, List.set_cons_succ, List.set_cons_zero, List.length_cons, List.length_nil, List.drop_succ_cons, List.drop_zero, List.take_succ_cons, List.take_zero, List.cons_append, List.nil_append, List.append_assoc, Nat.reduceAdd, Nat.reduceLeDiff, Nat.zero_add, and_self, ty_api_Node, any36, dN_agg, dN_cells, dN_good, sl, hrep, app_get1, app_set1, List.getElem?_cons_zero, List.set_cons_zero, List.getElem?_cons_succ, List.set_cons_succ, List.length_append, List.length_cons, List.length_nil]
          with_reducible refine hR _ ?_
          clear hR R
          show X _ _ _ _
          refine X_seq ?_
          have hB1 : fn EVr _ _ = _ := by_up (o_ast_IsBlock r1)
          refine X_y ?_
          refine Y_k 5 fun R hR => ?_
          simp only [EVrP, app_get1, aops, astep, awant, aeff, aop, mkD, ev, St.put, pcall, List.map_cons, List.map_nil, List.getElem?_cons_succ, List.getElem?_cons_zero, Option.getD_some, Option.map_some, Option.bind_some, if_true, List.set_cons_succ, List.set_cons_zero, List.length_cons, List.length_nil, List.drop_zero, List.take_succ_cons, List.take_zero, List.cons_append, List.nil_append, Nat.reduceAdd, Nat.reduceLeDiff, Nat.zero_add, beq_self_eq_true, ty_api_Node, any21, dN_agg, hB1, app_get1, List.getElem?_cons_zero, List.set_cons_zero, List.getElem?_cons_succ, List.set_cons_succ, List.length_cons, List.length_nil]
          with_reducible refine hR _ ?_
          clear hR R
          simp only [List.drop_succ_cons, List.drop_zero]
          refine Y_if 99 (by simp only [ev, List.getElem?_cons_succ, List.getElem?_cons_zero, Option.getD_some]; exact rfl) ?_ ?_
          · intro b6
            have c6 := b6
            try simp only [Bool.not_eq_true', Bool.not_eq_false', decide_eq_true_eq, decide_eq_false_iff_not, beq_iff_eq, Int.not_lt, Int.not_le, ge_iff_le, gt_iff_lt, bne_iff_ne, ne_eq, bne_eq_false_iff_eq, beq_eq_false_iff_ne, Bool.and_eq_true, Bool.or_eq_false_iff] at c6
            refine Y_end fun R hR => ?_
            simp only [EVrP, app_get0, aops, astep, awant, aeff, aop, mkD, astore, ev, ofValue, St.put, pcall, gd_bool, cl_bool, List.map_cons, List.map_nil, List.getElem?_cons_succ, List.getElem?_cons_zero, Option.getD_some, Option.map_some, Option.bind_some, if_true, List.set_cons_succ, List.set_cons_zero, List.length_cons, List.length_nil, List.drop_succ_cons, List.drop_zero, List.take_succ_cons, List.take_zero, List.cons_append, List.nil_append, Nat.reduceAdd, Nat.reduceLeDiff, Nat.zero_add, Bool.false_eq_true, if_false, and_self, beq_self_eq_true, bq_tf, ty_bool, ty_api_Node, any17, dN_agg, b6, app_get0, List.getElem?_cons_zero, List.set_cons_zero, List.getElem?_cons_succ, List.set_cons_succ, List.length_cons, List.length_nil]
            with_reducible refine hR _ ?_
            clear hR R
            show X _ _ _ _
            refine X_ret ?_
            show resD _ _ _ = some _
            simp only [resD, resAll, resOne, resTup, Try.results7, EVrP, mkD, ty_bool, List.getElem?_cons_succ, List.getElem?_cons_zero, List.drop_zero, List.take_succ_cons, List.take_zero, List.length_cons, List.length_nil, Nat.reduceLeDiff, Nat.zero_add, if_true, Bool.false_eq_true, if_false, D.isAgg, Option.map_some] <;> (first | (rfl; done) | (simp_all; done) | (exfalso; simp_all; done))
          · intro b7
            have c7 := b7
            try simp only [Bool.not_eq_true', Bool.not_eq_false', decide_eq_true_eq, decide_eq_false_iff_not, beq_iff_eq, Int.not_lt, Int.not_le, ge_iff_le, gt_iff_lt, bne_iff_ne, ne_eq, bne_eq_false_iff_eq, beq_eq_false_iff_ne, Bool.and_eq_true, Bool.or_eq_false_iff] at c7
            refine Y_end fun R hR => ?_
            simp only [EVrP, app_get0, aops, astep, awant, aeff, aop, mkD, astore, ev, ofValue, St.put, pcall, gd_bool, cl_bool, List.map_cons, List.map_nil, List.getElem?_cons_succ, List.getElem?_cons_zero, Option.getD_some, Option.map_some, Option.bind_some, if_true, List.set_cons_succ, List.set_cons_zero, List.length_cons, List.length_nil, List.drop_succ_cons, List.drop_zero, List.take_succ_cons, List.take_zero, List.cons_append, List.nil_append, Nat.reduceAdd, Nat.reduceLeDiff, Nat.zero_add, Bool.false_eq_true, if_false, and_self, beq_self_eq_true, ty_bool, ty_api_Node, any17, dN_agg, b7, hP, app_get0, List.getElem?_cons_zero, List.set_cons_zero, List.getElem?_cons_succ, List.set_cons_succ, List.length_cons, List.length_nil]
            with_reducible refine hR _ ?_
            clear hR R
            show X _ _ _ _
            refine X_ret ?_
            show resD _ _ _ = some _
            simp only [resD, resAll, resOne, resTup, Try.results7, EVrP, mkD, ty_bool, List.getElem?_cons_succ, List.getElem?_cons_zero, List.drop_zero, List.take_succ_cons, List.take_zero, List.length_cons, List.length_nil, Nat.reduceLeDiff, Nat.zero_add, if_true, Bool.false_eq_true, if_false, D.isAgg, Option.map_some] <;> (first | (rfl; done) | (simp_all; done) | (exfalso; simp_all; done))
    · intro b8
      have c8 := b8
      try simp only [decide_eq_false_iff_not] at c8
      refine X_skip ?_
      show X _ _ _ _
      refine X_rg fun R hR => ?_
      simp only [EVrP, inr_i64, Int.reduceLE, Int.reduceNeg, aops, astep, awant, aeff, aop, abin, aint, mkD, astore, ev, ofValue, St.put, gd_int, ia_int, cl_int, List.getElem?_cons_succ, List.getElem?_cons_zero, Option.getD_some, Option.map_some, if_true, List.set_cons_succ, List.set_cons_zero, List.length_cons, List.length_nil, List.drop_succ_cons, List.drop_zero, List.take_succ_cons, List.take_zero, List.cons_append, List.nil_append, Nat.reduceLeDiff, Nat.zero_add, Bool.false_eq_true, if_false, and_self, ty_int, b8, nat_succ hbigi, List.getElem?_cons_zero, List.set_cons_zero, List.getElem?_cons_succ, List.set_cons_succ, List.length_cons, List.length_nil]
      with_reducible refine hR _ ?_
      clear hR R
      skip
      have hne : ¬ i = k := by first | assumption | (simp_all; done)
      exact ⟨_, _, W2, i + 1, rfl, rfl, by simp only [List.length_cons] at hi; omega, by omega, Lib.hid (fun y hy => hAt.out y (List.mem_cons_of_mem _ hy))⟩
theorem law7_fn (t e q : Tr) (sp : Int) (hk0 : 0 ≤ sp) (hk1 : sp ≤ 65535) : fn EVr 7 [dN t, dN e, dN q, .int .u16 sp] = some (.bool true) := by
  cases h0 : bigB t with
  | true => exact law7_early0 t e q sp h0
  | false =>
  cases h1 : bigB e with
  | true => exact law7_early1 t e q sp h0 h1
  | false =>
  cases h2 : bigB q with
  | true => exact law7_early2 t e q sp h0 h1 h2
  | false =>
  cases h3 : blockB t with
  | false => exact law7_early3 t e q sp h0 h1 h2 h3
  | true =>
  cases h4 : exprB e with
  | false => exact law7_early4 t e q sp h0 h1 h2 h3 h4
  | true =>
  cases h5 : stmtB q with
  | false => exact law7_early5 t e q sp h0 h1 h2 h3 h4 h5
  | true => exact law7_main t e q sp hk0 hk1 h0 h1 h2 h3 h4 h5

end Go.Proofs.Ytkngdmilgfgclaa
