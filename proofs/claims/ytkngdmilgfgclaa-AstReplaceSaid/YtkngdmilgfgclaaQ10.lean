/- The law AstReplace: its walk. -/
import Derived.Test.YtkngdmilgfgclaaRe3
namespace Go.Proofs.Ytkngdmilgfgclaa
open Go.RowKit

theorem atO_size : ∀ (p : List Int) (t x : Tr), atO t p = some x → x.size ≤ t.size
  | [], t, x, h => by cases h; exact Nat.le_refl _
  | i :: p, t, x, h => by
    obtain ⟨k, h0, hk, h2⟩ := atO_some h
    have h3 := atO_size p k x h2
    have h4 := Tr.size_le_of_mem (List.mem_of_getElem? hk)
    have h5 : Tr.sizes t.kids < t.size := by cases t; simp only [Tr.size, Tr.kids]; omega
    omega
theorem awake_r : fn EVr 13 [] = some (.bool true) := by_up awake_ok
theorem i64_nat {n : Nat} (h : n ≤ 9223372036854775807) : IntKind.i64.wrap (n : Int) = (n : Int) := by
  simp only [IntKind.wrap, IntKind.bits, IntKind.signed]; simp; omega
theorem big_len {p : List Int} (h : decide ((p.length : Int) > 100) = false) : p.length ≤ 100 := by
  rw [decide_eq_false_iff_not] at h; omega
set_option maxRecDepth 100000 in
set_option maxHeartbeats 4000000 in
theorem law10_no (t m : Tr) (p : List Int) (hbt : bigB t = false) (hbm : bigB m = false) (hpl : p.length ≤ 100) (hO : atO t p = none) : fn EVr 10 [dN t, dN m, sl 1 (p.map dI)] = some (.bool true) := by
  have ht := (bigB_no hbt).1
  have hm := (bigB_no hbm).1
  refine fn_X rfl Try.func10 rfl (by simp only [plain, List.all_cons, List.all_nil, dN_pl, sl_pl (f := dI) (fun _ _ => rfl), Bool.and_true]) (rfl) (rfl) (rfl) ?_
  simp only [List.map_cons, List.map_nil, dN_strip, sl_strip (map_strip (f := dI) (fun _ => rfl) _)]
  simp only [enterSt, Try.ntmps10, List.length_cons, List.length_nil, Nat.reduceAdd, Nat.reduceSub, List.replicate_succ, List.replicate_zero, List.cons_append, List.nil_append]
  refine X_seq ?_
  refine X_rg fun R hR => ?_
  simp only [aops, astep, awant, aeff, aop, ev, ofValue, St.put, List.getElem?_cons_succ, List.getElem?_cons_zero, Option.getD_some, Option.map_some, if_true, List.set_cons_succ, List.set_cons_zero, List.length_cons, List.length_nil, List.cons_append, List.nil_append, Nat.zero_add, dN_cells, dN_good, sl]
  with_reducible refine hR _ ?_
  clear hR R
  show X _ _ _ _
  refine X_seq ?_
  refine X_seq ?_
  refine X_rg fun R hR => ?_
  simp only [EVrP, aops, astep, awant, aeff, aop, ev, St.put, pcall, List.map_nil, List.getElem?_cons_succ, List.getElem?_cons_zero, Option.getD_some, Option.map_some, if_true, List.set_cons_succ, List.set_cons_zero, List.nil_append, Bool.not_true, any13, awake_r]
  with_reducible refine hR _ ?_
  clear hR R
  show X _ _ _ _
  refine X_false (by simp only [ev, List.getElem?_cons_succ, List.getElem?_cons_zero, Option.getD_some]) ?_
  refine X_skip ?_
  show X _ _ _ _
  refine X_seq ?_
  refine X_seq ?_
  have hb1 : fn EVr _ _ = _ := by_up (o_backstepref03_Big t)
  have hb2 : fn EVr _ _ = _ := by_up (o_backstepref03_Big m)
  rw [hbt] at hb1
  rw [hbm] at hb2
  have hp100 : decide ((100 : Int) < (p.length : Int)) = false := by rw [decide_eq_false_iff_not]; omega
  refine X_rg fun R hR => ?_
  simp only [EVrP, inr_i64, Int.reduceLE, Int.reduceNeg, aops, astep, awant, aeff, aop, abin, aint, mkD, ev, ofValue, St.put, pcall, List.map_cons, List.map_nil, List.getElem?_cons_succ, List.getElem?_cons_zero, Option.getD_some, Option.map_some, Option.bind_some, if_true, List.set_cons_succ, List.set_cons_zero, List.length_map, List.length_cons, List.length_nil, List.drop_zero, List.take_succ_cons, List.take_zero, List.cons_append, List.nil_append, Nat.reduceAdd, Nat.reduceLeDiff, Nat.zero_add, Bool.false_eq_true, if_false, and_self, beq_self_eq_true, ty_api_Node, und_int, any14, dN_agg, List.length_map, hb1, hb2, hp100, gt_iff_lt]
  with_reducible refine hR _ ?_
  clear hR R
  show X _ _ _ _
  refine X_false (by simp only [ev, List.getElem?_cons_succ, List.getElem?_cons_zero, Option.getD_some]) ?_
  refine X_skip ?_
  show X _ _ _ _
  refine X_seq ?_
  have hat : fn EVr _ _ = _ := by_up (at_fn t p (by omega))
  rw [atO_eq, hO] at hat
  simp only [sl] at hat
  refine X_rg fun R hR => ?_
  simp only [EVrP, aops, astep, awant, aeff, aop, mkD, astore, ev, St.put, pcall, List.map_cons, List.map_nil, List.getElem?_cons_succ, List.getElem?_cons_zero, Option.getD_some, Option.map_some, Option.bind_some, if_true, List.set_cons_succ, List.set_cons_zero, List.length_cons, List.length_nil, List.drop_succ_cons, List.drop_zero, List.take_succ_cons, List.take_zero, List.cons_append, List.nil_append, Nat.reduceAdd, Nat.reduceLeDiff, Nat.zero_add, and_self, ty_api_Node, any37, dN_agg, dN_cells, dN_good, sl, hat]
  with_reducible refine hR _ ?_
  clear hR R
  show X _ _ _ _
  refine X_seq ?_
  refine X_seq ?_
  refine X_rg fun R hR => ?_
  simp only [aops, astep, awant, aeff, aop, ev, St.put, List.getElem?_cons_succ, List.getElem?_cons_zero, Option.getD_some, Option.map_some, if_true, List.set_cons_succ, List.set_cons_zero, Bool.not_false]
  with_reducible refine hR _ ?_
  clear hR R
  show X _ _ _ _
  refine X_true (by simp only [ev, List.getElem?_cons_succ, List.getElem?_cons_zero, Option.getD_some]) ?_
  refine X_seq ?_
  refine X_rg fun R hR => ?_
  simp only [aops, astep, awant, aeff, aop, ev, ofValue, St.put, Option.getD_some, Option.map_some, if_true, List.set_cons_succ, List.set_cons_zero]
  with_reducible refine hR _ ?_
  clear hR R
  show X _ _ _ _
  refine X_ret ?_
  show resD _ _ _ = some _
  simp only [resD, resAll, resOne, resTup, Try.results10, EVrP, List.getElem?_cons_succ, List.getElem?_cons_zero, D.good, if_true, Option.map_some] <;> (first | (rfl; done) | (simp_all; done) | (exfalso; simp_all; done))

set_option maxRecDepth 100000 in
set_option maxHeartbeats 4000000 in
theorem law10_yes (t m x r : Tr) (p : List Int) (hbt : bigB t = false) (hbm : bigB m = false) (hpl : p.length ≤ 100) (hO : atO t p = some x) (hP : putO t p m = some r) : fn EVr 10 [dN t, dN m, sl 1 (p.map dI)] = some (.bool true) := by
  have ht := (bigB_no hbt).1
  have hm := (bigB_no hbm).1
  have hsz := putO_size p t r x hP hO
  have hxs := atO_size p t x hO
  refine fn_X rfl Try.func10 rfl (by simp only [plain, List.all_cons, List.all_nil, dN_pl, sl_pl (f := dI) (fun _ _ => rfl), Bool.and_true]) (rfl) (rfl) (rfl) ?_
  simp only [List.map_cons, List.map_nil, dN_strip, sl_strip (map_strip (f := dI) (fun _ => rfl) _)]
  simp only [enterSt, Try.ntmps10, List.length_cons, List.length_nil, Nat.reduceAdd, Nat.reduceSub, List.replicate_succ, List.replicate_zero, List.cons_append, List.nil_append]
  refine X_seq ?_
  refine X_rg fun R hR => ?_
  simp only [aops, astep, awant, aeff, aop, ev, ofValue, St.put, List.getElem?_cons_succ, List.getElem?_cons_zero, Option.getD_some, Option.map_some, if_true, List.set_cons_succ, List.set_cons_zero, List.length_cons, List.length_nil, List.cons_append, List.nil_append, Nat.zero_add, dN_cells, dN_good, sl]
  with_reducible refine hR _ ?_
  clear hR R
  show X _ _ _ _
  refine X_seq ?_
  refine X_seq ?_
  refine X_rg fun R hR => ?_
  simp only [EVrP, aops, astep, awant, aeff, aop, ev, St.put, pcall, List.map_nil, List.getElem?_cons_succ, List.getElem?_cons_zero, Option.getD_some, Option.map_some, if_true, List.set_cons_succ, List.set_cons_zero, List.nil_append, Bool.not_true, any13, awake_r]
  with_reducible refine hR _ ?_
  clear hR R
  show X _ _ _ _
  refine X_false (by simp only [ev, List.getElem?_cons_succ, List.getElem?_cons_zero, Option.getD_some]) ?_
  refine X_skip ?_
  show X _ _ _ _
  refine X_seq ?_
  refine X_seq ?_
  have hb1 : fn EVr _ _ = _ := by_up (o_backstepref03_Big t)
  have hb2 : fn EVr _ _ = _ := by_up (o_backstepref03_Big m)
  rw [hbt] at hb1
  rw [hbm] at hb2
  have hp100 : decide ((100 : Int) < (p.length : Int)) = false := by rw [decide_eq_false_iff_not]; omega
  refine X_rg fun R hR => ?_
  simp only [EVrP, inr_i64, Int.reduceLE, Int.reduceNeg, aops, astep, awant, aeff, aop, abin, aint, mkD, ev, ofValue, St.put, pcall, List.map_cons, List.map_nil, List.getElem?_cons_succ, List.getElem?_cons_zero, Option.getD_some, Option.map_some, Option.bind_some, if_true, List.set_cons_succ, List.set_cons_zero, List.length_map, List.length_cons, List.length_nil, List.drop_zero, List.take_succ_cons, List.take_zero, List.cons_append, List.nil_append, Nat.reduceAdd, Nat.reduceLeDiff, Nat.zero_add, Bool.false_eq_true, if_false, and_self, beq_self_eq_true, ty_api_Node, und_int, any14, dN_agg, List.length_map, hb1, hb2, hp100, gt_iff_lt]
  with_reducible refine hR _ ?_
  clear hR R
  show X _ _ _ _
  refine X_false (by simp only [ev, List.getElem?_cons_succ, List.getElem?_cons_zero, Option.getD_some]) ?_
  refine X_skip ?_
  show X _ _ _ _
  refine X_seq ?_
  have hat : fn EVr _ _ = _ := by_up (at_fn t p (by omega))
  rw [atO_eq, hO] at hat
  simp only [sl] at hat
  refine X_rg fun R hR => ?_
  simp only [EVrP, aops, astep, awant, aeff, aop, mkD, astore, ev, St.put, pcall, List.map_cons, List.map_nil, List.getElem?_cons_succ, List.getElem?_cons_zero, Option.getD_some, Option.map_some, Option.bind_some, if_true, List.set_cons_succ, List.set_cons_zero, List.length_cons, List.length_nil, List.drop_succ_cons, List.drop_zero, List.take_succ_cons, List.take_zero, List.cons_append, List.nil_append, Nat.reduceAdd, Nat.reduceLeDiff, Nat.zero_add, and_self, ty_api_Node, any37, dN_agg, dN_cells, dN_good, sl, hat]
  with_reducible refine hR _ ?_
  clear hR R
  show X _ _ _ _
  refine X_seq ?_
  refine X_seq ?_
  refine X_rg fun R hR => ?_
  simp only [aops, astep, awant, aeff, aop, ev, St.put, List.getElem?_cons_succ, List.getElem?_cons_zero, Option.getD_some, Option.map_some, if_true, List.set_cons_succ, List.set_cons_zero, Bool.not_true]
  with_reducible refine hR _ ?_
  clear hR R
  show X _ _ _ _
  refine X_false (by simp only [ev, List.getElem?_cons_succ, List.getElem?_cons_zero, Option.getD_some]) ?_
  refine X_skip ?_
  show X _ _ _ _
  refine X_seq ?_
  have hrep := rep_fn t p m (by omega) (by omega)
  rw [show repD t p m = .tup [dN r, .bool true] from by unfold repD; rw [hP]] at hrep
  simp only [sl] at hrep
  refine X_rg fun R hR => ?_
  simp only [EVrP, aops, astep, awant, aeff, aop, mkD, astore, ev, St.put, pcall, List.map_cons, List.map_nil, List.getElem?_cons_succ, List.getElem?_cons_zero, Option.getD_some, Option.map_some, Option.bind_some, if_true, List.set_cons_succ, List.set_cons_zero, List.length_cons, List.length_nil, List.drop_succ_cons, List.drop_zero, List.take_succ_cons, List.take_zero, List.cons_append, List.nil_append, Nat.reduceAdd, Nat.reduceLeDiff, Nat.zero_add, and_self, ty_api_Node, any36, dN_agg, dN_cells, dN_good, sl, hrep]
  with_reducible refine hR _ ?_
  clear hR R
  show X _ _ _ _
  refine X_seq ?_
  have hat2 : fn EVr _ _ = _ := by_up (at_fn r p (by omega))
  rw [atO_eq, atO_put p t r hP] at hat2
  simp only [sl] at hat2
  refine X_rg fun R hR => ?_
  simp only [EVrP, aops, astep, awant, aeff, aop, mkD, astore, ev, St.put, pcall, List.map_cons, List.map_nil, List.getElem?_cons_succ, List.getElem?_cons_zero, Option.getD_some, Option.map_some, Option.bind_some, if_true, List.set_cons_succ, List.set_cons_zero, List.length_cons, List.length_nil, List.drop_succ_cons, List.drop_zero, List.take_succ_cons, List.take_zero, List.cons_append, List.nil_append, Nat.reduceAdd, Nat.reduceLeDiff, Nat.zero_add, and_self, ty_api_Node, any37, dN_agg, dN_cells, dN_good, sl, hat2]
  with_reducible refine hR _ ?_
  clear hR R
  show X _ _ _ _
  refine X_seq ?_
  have hrep2 := rep_fn r p x (by omega) (by omega)
  rw [show repD r p x = .tup [dN t, .bool true] from by unfold repD; rw [putO_back p t r x hP hO]] at hrep2
  simp only [sl] at hrep2
  refine X_rg fun R hR => ?_
  simp only [EVrP, aops, astep, awant, aeff, aop, mkD, astore, ev, St.put, pcall, List.map_cons, List.map_nil, List.getElem?_cons_succ, List.getElem?_cons_zero, Option.getD_some, Option.map_some, Option.bind_some, if_true, List.set_cons_succ, List.set_cons_zero, List.length_cons, List.length_nil, List.drop_succ_cons, List.drop_zero, List.take_succ_cons, List.take_zero, List.cons_append, List.nil_append, Nat.reduceAdd, Nat.reduceLeDiff, Nat.zero_add, and_self, ty_api_Node, any36, dN_agg, dN_cells, dN_good, sl, hrep2]
  with_reducible refine hR _ ?_
  clear hR R
  show X _ _ _ _
  refine X_seq ?_
  have he1 : fn EVr _ _ = _ := by_up (o_ast_Equal m m)
  rw [eqB_refl] at he1
  have he2 : fn EVr _ _ = _ := by_up (o_ast_Equal t t)
  rw [eqB_refl] at he2
  have hs1 : fn EVr _ _ = _ := by_up (o_ast_Size r (by omega))
  have hs2 : fn EVr _ _ = _ := by_up (o_ast_Size t (by omega))
  have hs3 : fn EVr _ _ = _ := by_up (o_ast_Size x (by omega))
  have hs4 : fn EVr _ _ = _ := by_up (o_ast_Size m (by omega))
  have hsub : IntKind.i64.wrap ((t.size : Int) - (x.size : Int)) = ((t.size - x.size : Nat) : Int) := by rw [show ((t.size : Int) - (x.size : Int)) = ((t.size - x.size : Nat) : Int) from by omega]; exact i64_nat (by omega)
  have hadd : IntKind.i64.wrap (((t.size - x.size : Nat) : Int) + (m.size : Int)) = (r.size : Int) := by rw [show ((t.size - x.size : Nat) : Int) + (m.size : Int) = (r.size : Int) from by omega]; exact i64_nat (by omega)
  refine X_rg fun R hR => ?_
  simp only [EVrP, aops, astep, awant, aeff, aop, abin, aint, mkD, ev, ofValue, St.put, pcall, List.map_cons, List.map_nil, List.getElem?_cons_succ, List.getElem?_cons_zero, Option.getD_some, Option.map_some, Option.bind_some, if_true, List.set_cons_succ, List.set_cons_zero, List.length_cons, List.length_nil, List.drop_zero, List.take_succ_cons, List.take_zero, List.cons_append, List.nil_append, Nat.reduceAdd, Nat.reduceLeDiff, Nat.zero_add, beq_self_eq_true, ty_api_Node, any28, any31, dN_agg, he1, he2, hs1, hs2, hs3, hs4, hsub, hadd, beq_self_eq_true]
  with_reducible refine hR _ ?_
  clear hR R
  show X _ _ _ _
  refine X_ret ?_
  show resD _ _ _ = some _
  simp only [resD, resAll, resOne, resTup, Try.results10, EVrP, List.getElem?_cons_succ, List.getElem?_cons_zero, D.good, if_true, Option.map_some] <;> (first | (rfl; done) | (simp_all; done) | (exfalso; simp_all; done))

set_option maxRecDepth 100000 in
set_option maxHeartbeats 4000000 in
theorem law10_big1 (t m : Tr) (p : List Int) (hbt : bigB t = true) : fn EVr 10 [dN t, dN m, sl 1 (p.map dI)] = some (.bool true) := by
  refine fn_X rfl Try.func10 rfl (by simp only [plain, List.all_cons, List.all_nil, dN_pl, sl_pl (f := dI) (fun _ _ => rfl), Bool.and_true]) (rfl) (rfl) (rfl) ?_
  simp only [List.map_cons, List.map_nil, dN_strip, sl_strip (map_strip (f := dI) (fun _ => rfl) _)]
  simp only [enterSt, Try.ntmps10, List.length_cons, List.length_nil, Nat.reduceAdd, Nat.reduceSub, List.replicate_succ, List.replicate_zero, List.cons_append, List.nil_append]
  refine X_seq ?_
  refine X_rg fun R hR => ?_
  simp only [aops, astep, awant, aeff, aop, ev, ofValue, St.put, List.getElem?_cons_succ, List.getElem?_cons_zero, Option.getD_some, Option.map_some, if_true, List.set_cons_succ, List.set_cons_zero, List.length_cons, List.length_nil, List.cons_append, List.nil_append, Nat.zero_add, dN_cells, dN_good, sl]
  with_reducible refine hR _ ?_
  clear hR R
  show X _ _ _ _
  refine X_seq ?_
  refine X_seq ?_
  refine X_rg fun R hR => ?_
  simp only [EVrP, aops, astep, awant, aeff, aop, ev, St.put, pcall, List.map_nil, List.getElem?_cons_succ, List.getElem?_cons_zero, Option.getD_some, Option.map_some, if_true, List.set_cons_succ, List.set_cons_zero, List.nil_append, Bool.not_true, any13, awake_r]
  with_reducible refine hR _ ?_
  clear hR R
  show X _ _ _ _
  refine X_false (by simp only [ev, List.getElem?_cons_succ, List.getElem?_cons_zero, Option.getD_some]) ?_
  refine X_skip ?_
  show X _ _ _ _
  refine X_seq ?_
  refine X_seq ?_
  have hb1 : fn EVr _ _ = _ := by_up (o_backstepref03_Big t)
  rw [hbt] at hb1
  refine X_rg fun R hR => ?_
  simp only [EVrP, inr_i64, Int.reduceLE, Int.reduceNeg, aops, astep, awant, aeff, aop, abin, mkD, ev, ofValue, St.put, pcall, List.map_cons, List.map_nil, List.getElem?_cons_succ, List.getElem?_cons_zero, Option.getD_some, Option.map_some, Option.map_none, Option.bind_some, if_true, List.set_cons_succ, List.set_cons_zero, List.length_cons, List.length_nil, List.drop_zero, List.take_succ_cons, List.take_zero, List.cons_append, List.nil_append, Nat.reduceAdd, Nat.reduceLeDiff, Nat.zero_add, Bool.false_eq_true, if_false, and_self, bq_tf, ty_api_Node, und_int, any14, dN_agg, hb1]
  with_reducible refine hR _ ?_
  clear hR R
  show X _ _ _ _
  refine X_true (by simp only [ev, List.getElem?_cons_succ, List.getElem?_cons_zero, Option.getD_some]) ?_
  refine X_seq ?_
  refine X_rg fun R hR => ?_
  simp only [aops, astep, awant, aeff, aop, ev, ofValue, St.put, Option.getD_some, Option.map_some, if_true, List.set_cons_succ, List.set_cons_zero]
  with_reducible refine hR _ ?_
  clear hR R
  show X _ _ _ _
  refine X_ret ?_
  show resD _ _ _ = some _
  simp only [resD, resAll, resOne, resTup, Try.results10, EVrP, List.getElem?_cons_succ, List.getElem?_cons_zero, D.good, if_true, Option.map_some] <;> (first | (rfl; done) | (simp_all; done) | (exfalso; simp_all; done))

set_option maxRecDepth 100000 in
set_option maxHeartbeats 4000000 in
theorem law10_big2 (t m : Tr) (p : List Int) (hbt : bigB t = false) (hbm : bigB m = true) : fn EVr 10 [dN t, dN m, sl 1 (p.map dI)] = some (.bool true) := by
  refine fn_X rfl Try.func10 rfl (by simp only [plain, List.all_cons, List.all_nil, dN_pl, sl_pl (f := dI) (fun _ _ => rfl), Bool.and_true]) (rfl) (rfl) (rfl) ?_
  simp only [List.map_cons, List.map_nil, dN_strip, sl_strip (map_strip (f := dI) (fun _ => rfl) _)]
  simp only [enterSt, Try.ntmps10, List.length_cons, List.length_nil, Nat.reduceAdd, Nat.reduceSub, List.replicate_succ, List.replicate_zero, List.cons_append, List.nil_append]
  refine X_seq ?_
  refine X_rg fun R hR => ?_
  simp only [aops, astep, awant, aeff, aop, ev, ofValue, St.put, List.getElem?_cons_succ, List.getElem?_cons_zero, Option.getD_some, Option.map_some, if_true, List.set_cons_succ, List.set_cons_zero, List.length_cons, List.length_nil, List.cons_append, List.nil_append, Nat.zero_add, dN_cells, dN_good, sl]
  with_reducible refine hR _ ?_
  clear hR R
  show X _ _ _ _
  refine X_seq ?_
  refine X_seq ?_
  refine X_rg fun R hR => ?_
  simp only [EVrP, aops, astep, awant, aeff, aop, ev, St.put, pcall, List.map_nil, List.getElem?_cons_succ, List.getElem?_cons_zero, Option.getD_some, Option.map_some, if_true, List.set_cons_succ, List.set_cons_zero, List.nil_append, Bool.not_true, any13, awake_r]
  with_reducible refine hR _ ?_
  clear hR R
  show X _ _ _ _
  refine X_false (by simp only [ev, List.getElem?_cons_succ, List.getElem?_cons_zero, Option.getD_some]) ?_
  refine X_skip ?_
  show X _ _ _ _
  refine X_seq ?_
  refine X_seq ?_
  have hb1 : fn EVr _ _ = _ := by_up (o_backstepref03_Big t)
  rw [hbt] at hb1
  have hb2 : fn EVr _ _ = _ := by_up (o_backstepref03_Big m)
  rw [hbm] at hb2
  refine X_rg fun R hR => ?_
  simp only [EVrP, inr_i64, Int.reduceLE, Int.reduceNeg, aops, astep, awant, aeff, aop, abin, mkD, ev, ofValue, St.put, pcall, List.map_cons, List.map_nil, List.getElem?_cons_succ, List.getElem?_cons_zero, Option.getD_some, Option.map_some, Option.map_none, Option.bind_some, if_true, List.set_cons_succ, List.set_cons_zero, List.length_cons, List.length_nil, List.drop_zero, List.take_succ_cons, List.take_zero, List.cons_append, List.nil_append, Nat.reduceAdd, Nat.reduceLeDiff, Nat.zero_add, Bool.false_eq_true, if_false, and_self, beq_self_eq_true, bq_tf, ty_api_Node, und_int, any14, dN_agg, hb1, hb2]
  with_reducible refine hR _ ?_
  clear hR R
  show X _ _ _ _
  refine X_true (by simp only [ev, List.getElem?_cons_succ, List.getElem?_cons_zero, Option.getD_some]) ?_
  refine X_seq ?_
  refine X_rg fun R hR => ?_
  simp only [aops, astep, awant, aeff, aop, ev, ofValue, St.put, Option.getD_some, Option.map_some, if_true, List.set_cons_succ, List.set_cons_zero]
  with_reducible refine hR _ ?_
  clear hR R
  show X _ _ _ _
  refine X_ret ?_
  show resD _ _ _ = some _
  simp only [resD, resAll, resOne, resTup, Try.results10, EVrP, List.getElem?_cons_succ, List.getElem?_cons_zero, D.good, if_true, Option.map_some] <;> (first | (rfl; done) | (simp_all; done) | (exfalso; simp_all; done))

set_option maxRecDepth 100000 in
set_option maxHeartbeats 4000000 in
theorem law10_big3 (t m : Tr) (p : List Int) (hbt : bigB t = false) (hbm : bigB m = false) (hpl : 100 < p.length) : fn EVr 10 [dN t, dN m, sl 1 (p.map dI)] = some (.bool true) := by
  refine fn_X rfl Try.func10 rfl (by simp only [plain, List.all_cons, List.all_nil, dN_pl, sl_pl (f := dI) (fun _ _ => rfl), Bool.and_true]) (rfl) (rfl) (rfl) ?_
  simp only [List.map_cons, List.map_nil, dN_strip, sl_strip (map_strip (f := dI) (fun _ => rfl) _)]
  simp only [enterSt, Try.ntmps10, List.length_cons, List.length_nil, Nat.reduceAdd, Nat.reduceSub, List.replicate_succ, List.replicate_zero, List.cons_append, List.nil_append]
  refine X_seq ?_
  refine X_rg fun R hR => ?_
  simp only [aops, astep, awant, aeff, aop, ev, ofValue, St.put, List.getElem?_cons_succ, List.getElem?_cons_zero, Option.getD_some, Option.map_some, if_true, List.set_cons_succ, List.set_cons_zero, List.length_cons, List.length_nil, List.cons_append, List.nil_append, Nat.zero_add, dN_cells, dN_good, sl]
  with_reducible refine hR _ ?_
  clear hR R
  show X _ _ _ _
  refine X_seq ?_
  refine X_seq ?_
  refine X_rg fun R hR => ?_
  simp only [EVrP, aops, astep, awant, aeff, aop, ev, St.put, pcall, List.map_nil, List.getElem?_cons_succ, List.getElem?_cons_zero, Option.getD_some, Option.map_some, if_true, List.set_cons_succ, List.set_cons_zero, List.nil_append, Bool.not_true, any13, awake_r]
  with_reducible refine hR _ ?_
  clear hR R
  show X _ _ _ _
  refine X_false (by simp only [ev, List.getElem?_cons_succ, List.getElem?_cons_zero, Option.getD_some]) ?_
  refine X_skip ?_
  show X _ _ _ _
  refine X_seq ?_
  refine X_seq ?_
  have hb1 : fn EVr _ _ = _ := by_up (o_backstepref03_Big t)
  rw [hbt] at hb1
  have hb2 : fn EVr _ _ = _ := by_up (o_backstepref03_Big m)
  rw [hbm] at hb2
  have hp100 : decide ((100 : Int) < (p.length : Int)) = true := by rw [decide_eq_true_eq]; omega
  refine X_rg fun R hR => ?_
  simp only [EVrP, inr_i64, Int.reduceLE, Int.reduceNeg, aops, astep, awant, aeff, aop, abin, aint, mkD, ev, ofValue, St.put, pcall, List.map_cons, List.map_nil, List.getElem?_cons_succ, List.getElem?_cons_zero, Option.getD_some, Option.map_some, Option.bind_some, if_true, List.set_cons_succ, List.set_cons_zero, List.length_map, List.length_cons, List.length_nil, List.drop_zero, List.take_succ_cons, List.take_zero, List.cons_append, List.nil_append, Nat.reduceAdd, Nat.reduceLeDiff, Nat.zero_add, Bool.false_eq_true, if_false, and_self, beq_self_eq_true, ty_api_Node, und_int, any14, dN_agg, List.length_map, hb1, hb2, hp100, gt_iff_lt]
  with_reducible refine hR _ ?_
  clear hR R
  show X _ _ _ _
  refine X_true (by simp only [ev, List.getElem?_cons_succ, List.getElem?_cons_zero, Option.getD_some]) ?_
  refine X_seq ?_
  refine X_rg fun R hR => ?_
  simp only [aops, astep, awant, aeff, aop, ev, ofValue, St.put, Option.getD_some, Option.map_some, if_true, List.set_cons_succ, List.set_cons_zero]
  with_reducible refine hR _ ?_
  clear hR R
  show X _ _ _ _
  refine X_ret ?_
  show resD _ _ _ = some _
  simp only [resD, resAll, resOne, resTup, Try.results10, EVrP, List.getElem?_cons_succ, List.getElem?_cons_zero, D.good, if_true, Option.map_some] <;> (first | (rfl; done) | (simp_all; done) | (exfalso; simp_all; done))
theorem law10_fn (t m : Tr) (p : List Int) : fn EVr 10 [dN t, dN m, sl 1 (p.map dI)] = some (.bool true) := by
  cases h1 : bigB t with
  | true => exact law10_big1 t m p h1
  | false =>
  cases h2 : bigB m with
  | true => exact law10_big2 t m p h1 h2
  | false =>
  by_cases h3 : 100 < p.length
  · exact law10_big3 t m p h1 h2 h3
  · skip
    cases hO : atO t p with
    | none => exact law10_no t m p h1 h2 (by omega) hO
    | some x =>
      have h4 := putO_isSome m p t
      rw [hO] at h4
      obtain ⟨r, hr⟩ := Option.isSome_iff_exists.1 h4
      exact law10_yes t m x r p h1 h2 (by omega) hO hr

end Go.Proofs.Ytkngdmilgfgclaa
