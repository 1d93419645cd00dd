import Derived.Test.YtkngdmilgfgclaaCb
import Derived.Test.YtkngdmilgfgclaaRp
/- ast.Replace, over data. -/
namespace Go.Proofs.Ytkngdmilgfgclaa
open Go.RowKit

theorem rep_nil (t m : Tr) : PContract Try.prog 36 [dN t, sl 1 [], dN m] (.tup [dN m, .bool true]) := by
  refine S_pure (f := _) Try.func36 rfl (by simp only [List.all_cons, List.all_nil, dN_under, dN_good]; rfl) (by simp only [List.map_cons, List.map_nil, dN_strip]; rfl) ?_
  simp only [enterSt, Try.ntmps36, List.length_cons, List.length_nil, Nat.reduceAdd, Nat.reduceSub, List.replicate_succ, List.replicate_zero, List.cons_append, List.nil_append]
  refine S_seq ?_
  refine S_of_X EV_ok (by kernel_rfl) ?_
  refine X_rg fun R hR => ?_
  simp only [EVP, aops, astep, awant, aeff, ev, ofValue, St.put, ty_api_Node, dN_good, dN_cells, if_true, Option.map_some, Option.bind_some, List.getElem?_cons_succ, List.getElem?_cons_zero, Option.getD_some, List.set_cons_succ, List.set_cons_zero, List.nil_append, List.cons_append, List.length_nil, List.length_cons, aop, Nat.zero_add, Nat.reduceAdd]
  with_reducible refine hR _ ?_
  clear hR R
  show S _ _ _ _ _
  refine S_seq ?_
  refine S_seq ?_
  refine S_of_X EV_ok (by kernel_rfl) ?_
  refine X_rg fun R hR => ?_
  simp only [EVP, aops, astep, awant, aeff, ev, ofValue, St.put, sl, List.isEmpty_nil, und_int, abin, aint, inr_i64, if_true, Option.map_some, List.getElem?_cons_succ, List.getElem?_cons_zero, Option.getD_some, List.set_cons_succ, List.set_cons_zero, List.length_nil, aop, Int.reduceLE, Int.reduceNeg, and_self]
  with_reducible refine hR _ ?_
  clear hR R
  show S _ _ _ _ _
  refine S_true (by simp only [ev, List.getElem?_cons_succ, List.getElem?_cons_zero, Option.getD_some]; exact rfl) ?_
  refine S_seq ?_
  refine S_of_X EV_ok (by kernel_rfl) ?_
  refine X_rg fun R hR => ?_
  simp only [EVP, aops, astep, awant, aeff, astore, ev, ofValue, St.put, ty_api_Node, mkD, if_true, Option.map_some, List.getElem?_cons_succ, List.getElem?_cons_zero, Option.getD_some, List.set_cons_succ, List.set_cons_zero, List.nil_append, List.append_nil, List.length_nil, List.length_cons, aop, Nat.zero_add, Nat.reduceAdd, List.drop_zero, List.drop_succ_cons, List.take_succ_cons, List.take_zero, Nat.reduceLeDiff, D.good, D.cells, and_self, List.drop_nil]
  with_reducible refine hR _ ?_
  clear hR R
  show S _ _ _ _ _
  refine S_ret ⟨.inr rfl, .tup [dN m, .bool true], ?_, ?_, ?_⟩
  · simp only [resD, resAll, resOne, resTup, Try.f36, ty_api_Node, List.getElem?_cons_succ, List.getElem?_cons_zero, mkD, dN_eq, sl, if_true, List.drop_zero, List.take_succ_cons, Nat.reduceLeDiff, List.length_cons, List.length_nil, Nat.reduceAdd, Nat.zero_add, Option.map_some, D.good, List.take_nil]
  · simp only [D.under, D.unders, dN_under, Bool.and_true]
  · simp only [D.strip, D.strips, dN_strip]
theorem rep_bad0 (t m : Tr) (i : Int) (p : List Int) (hlt : i < 0) : PContract Try.prog 36 [dN t, sl 1 ((i :: p).map dI), dN m] (.tup [dN (.mk 0 0 ⟨#[]⟩ []), .bool false]) := by
  have hp : (0 : Int) < ((p.length + 1 : Nat) : Int) := by omega
  have hz : (((p.length + 1 : Nat) : Int) == 0) = false := by rw [beq_eq_false_iff_ne]; omega
  refine S_pure (f := _) Try.func36 rfl (by rw [List.all_cons, List.all_cons, List.all_cons, List.all_nil, dN_under, dN_good, sl_under (map_under (f := dI) (fun _ => rfl) (i :: p)), dN_under, dN_good]; try rfl) (by show [(dN t).strip, (sl 1 ((i :: p).map dI)).strip, (dN m).strip] = _; rw [dN_strip, dN_strip, sl_strip (map_strip (f := dI) (fun _ => rfl) (i :: p))]) ?_
  simp only [enterSt, Try.ntmps36, List.length_cons, List.length_nil, Nat.reduceAdd, Nat.reduceSub, List.replicate_succ, List.replicate_zero, List.cons_append, List.nil_append]
  refine S_seq ?_
  refine S_of_X EV_ok (by kernel_rfl) ?_
  refine X_rg fun R hR => ?_
  simp only [EVP, aops, astep, awant, aeff, aop, ev, ofValue, St.put, List.map_cons, List.getElem?_cons_succ, List.getElem?_cons_zero, Option.getD_some, Option.map_some, Option.bind_some, if_true, if_false, List.set_cons_succ, List.set_cons_zero, List.length_cons, List.length_nil, List.cons_append, List.nil_append, Nat.reduceAdd, Nat.zero_add, Bool.false_eq_true, List.isEmpty_cons, D.good, D.cells, sl, dI, ty_api_Node, dN_eq, Option.bind_some]
  with_reducible refine hR _ ?_
  clear hR R
  show S _ _ _ _ _
  refine S_seq ?_
  refine S_seq ?_
  refine S_of_X EV_ok (by kernel_rfl) ?_
  refine X_rg fun R hR => ?_
  simp only [EVP, inr_i64, Int.reduceLE, Int.reduceNeg, aops, astep, awant, aeff, aop, abin, aint, ev, ofValue, St.put, List.getElem?_cons_succ, List.getElem?_cons_zero, Option.getD_some, Option.map_some, if_true, List.set_cons_succ, List.set_cons_zero, List.length_map, List.length_cons, and_self, und_int, hz]
  with_reducible refine hR _ ?_
  clear hR R
  show S _ _ _ _ _
  refine S_false (by simp only [ev, List.getElem?_cons_succ, List.getElem?_cons_zero, Option.getD_some]; try exact rfl) ?_
  refine S_skip ?_
  show S _ _ _ _ _
  refine S_seq ?_
  refine S_of_X EV_ok (by kernel_rfl) ?_
  refine X_rg fun R hR => ?_
  simp only [EVP, inr_i64, Int.reduceLE, Int.reduceNeg, aops, astep, awant, aeff, aop, ev, ofValue, St.put, List.getElem?_cons_succ, List.getElem?_cons_zero, Option.getD_some, Option.map_some, if_true, List.set_cons_succ, List.set_cons_zero, List.length_map, List.length_cons, List.length_nil, Nat.zero_add, and_self, D.cells, D.isAgg, ty_int, und_int, siz_int, has_int, hp, Int.toNat_zero]
  with_reducible refine hR _ ?_
  clear hR R
  show S _ _ _ _ _
  refine S_seq ?_
  refine S_seq ?_
  refine S_of_X EV_ok (by kernel_rfl) ?_
  refine X_rg fun R hR => ?_
  simp only [EVP, inr_i64, Int.reduceLE, Int.reduceNeg, aops, astep, awant, aeff, aop, abin, aint, ev, ofValue, St.put, List.getElem?_cons_succ, List.getElem?_cons_zero, Option.getD_some, Option.map_some, Option.map_none, Option.bind_some, if_true, if_false, List.set_cons_succ, List.set_cons_zero, Nat.zero_add, Bool.false_eq_true, and_self, reduceCtorEq, ty_api_Node, ty_s_api_Node, und_api_Node, decide_eq_true hlt, Option.bind_some, bq_tf]
  with_reducible refine hR _ ?_
  clear hR R
  show S _ _ _ _ _
  refine S_true (by simp only [ev, List.getElem?_cons_succ, List.getElem?_cons_zero, Option.getD_some]; try exact rfl) ?_
  refine S_seq ?_
  refine S_of_X EV_ok (by kernel_rfl) ?_
  refine X_rg fun R hR => ?_
  simp only [EVP, aops, astep, awant, aeff, aop, afill, astore, ev, ofValue, St.put, List.map_nil, List.getElem?_cons_succ, List.getElem?_cons_zero, Option.getD_some, Option.map_some, if_true, List.set_cons_succ, List.set_cons_zero, List.length_cons, List.length_nil, List.drop_succ_cons, List.drop_zero, List.take_zero, List.nil_append, List.append_nil, Nat.reduceAdd, Nat.reduceLeDiff, Nat.zero_add, and_self, D.good, D.cells, ty_api_Node, st_api_Node, sta_api_Node]
  with_reducible refine hR _ ?_
  clear hR R
  show S _ _ _ _ _
  refine S_ret ⟨.inr rfl, .tup [.agg [.int .u8 0, .int .i64 0, .str ⟨#[]⟩, .slice .nil 0 []], .bool false], ?_, by rfl, by rfl⟩
  simp only [resD, resAll, resOne, resTup, Try.f36, ty_api_Node, List.getElem?_cons_succ, List.getElem?_cons_zero, mkD, if_true, List.drop_zero, List.take_succ_cons, Nat.reduceLeDiff, List.length_cons, List.length_nil, Nat.reduceAdd, Nat.zero_add, Option.map_some, D.good, List.take_nil]
theorem rep_bad1 (t m : Tr) (i : Int) (p : List Int) (h0 : 0 ≤ i) (hge : (t.kids.length : Int) ≤ i) : PContract Try.prog 36 [dN t, sl 1 ((i :: p).map dI), dN m] (.tup [dN (.mk 0 0 ⟨#[]⟩ []), .bool false]) := by
  have hlt : decide (i < 0) = false := by rw [decide_eq_false_iff_not]; omega
  have hgt : decide ((t.kids.length : Int) ≤ i) = true := by rw [decide_eq_true_eq]; exact hge
  have hp : (0 : Int) < ((p.length + 1 : Nat) : Int) := by omega
  have hz : (((p.length + 1 : Nat) : Int) == 0) = false := by rw [beq_eq_false_iff_ne]; omega
  refine S_pure (f := _) Try.func36 rfl (by rw [List.all_cons, List.all_cons, List.all_cons, List.all_nil, dN_under, dN_good, sl_under (map_under (f := dI) (fun _ => rfl) (i :: p)), dN_under, dN_good]; try rfl) (by show [(dN t).strip, (sl 1 ((i :: p).map dI)).strip, (dN m).strip] = _; rw [dN_strip, dN_strip, sl_strip (map_strip (f := dI) (fun _ => rfl) (i :: p))]) ?_
  simp only [enterSt, Try.ntmps36, List.length_cons, List.length_nil, Nat.reduceAdd, Nat.reduceSub, List.replicate_succ, List.replicate_zero, List.cons_append, List.nil_append]
  refine S_seq ?_
  refine S_of_X EV_ok (by kernel_rfl) ?_
  refine X_rg fun R hR => ?_
  simp only [EVP, aops, astep, awant, aeff, aop, ev, ofValue, St.put, List.map_cons, List.getElem?_cons_succ, List.getElem?_cons_zero, Option.getD_some, Option.map_some, Option.bind_some, if_true, if_false, List.set_cons_succ, List.set_cons_zero, List.length_cons, List.length_nil, List.cons_append, List.nil_append, Nat.reduceAdd, Nat.zero_add, Bool.false_eq_true, List.isEmpty_cons, D.good, D.cells, sl, dI, ty_api_Node, dN_eq, Option.bind_some]
  with_reducible refine hR _ ?_
  clear hR R
  show S _ _ _ _ _
  refine S_seq ?_
  refine S_seq ?_
  refine S_of_X EV_ok (by kernel_rfl) ?_
  refine X_rg fun R hR => ?_
  simp only [EVP, inr_i64, Int.reduceLE, Int.reduceNeg, aops, astep, awant, aeff, aop, abin, aint, ev, ofValue, St.put, List.getElem?_cons_succ, List.getElem?_cons_zero, Option.getD_some, Option.map_some, if_true, List.set_cons_succ, List.set_cons_zero, List.length_map, List.length_cons, and_self, und_int, hz]
  with_reducible refine hR _ ?_
  clear hR R
  show S _ _ _ _ _
  refine S_false (by simp only [ev, List.getElem?_cons_succ, List.getElem?_cons_zero, Option.getD_some]; try exact rfl) ?_
  refine S_skip ?_
  show S _ _ _ _ _
  refine S_seq ?_
  refine S_of_X EV_ok (by kernel_rfl) ?_
  refine X_rg fun R hR => ?_
  simp only [EVP, inr_i64, Int.reduceLE, Int.reduceNeg, aops, astep, awant, aeff, aop, ev, ofValue, St.put, List.getElem?_cons_succ, List.getElem?_cons_zero, Option.getD_some, Option.map_some, if_true, List.set_cons_succ, List.set_cons_zero, List.length_map, List.length_cons, List.length_nil, Nat.zero_add, and_self, D.cells, D.isAgg, ty_int, und_int, siz_int, has_int, hp, Int.toNat_zero]
  with_reducible refine hR _ ?_
  clear hR R
  show S _ _ _ _ _
  refine S_seq ?_
  refine S_seq ?_
  refine S_of_X EV_ok (by kernel_rfl) ?_
  refine X_rg fun R hR => ?_
  simp only [EVP, inr_i64, Int.reduceLE, Int.reduceNeg, aops, astep, awant, aeff, aop, abin, aint, mkD, ev, ofValue, St.put, List.getElem?_cons_succ, List.getElem?_cons_zero, Option.getD_some, Option.map_some, Option.bind_some, if_true, if_false, List.set_cons_succ, List.set_cons_zero, List.length_map, List.length_cons, List.length_nil, List.drop_succ_cons, List.drop_zero, List.take_succ_cons, List.take_zero, Nat.reduceAdd, Nat.reduceLeDiff, Nat.zero_add, Bool.false_eq_true, and_self, reduceCtorEq, beq_self_eq_true, D.isAgg, ty_api_Node, ty_s_api_Node, und_api_Node, hlt, hgt, ge_iff_le, Option.bind_some]
  with_reducible refine hR _ ?_
  clear hR R
  show S _ _ _ _ _
  refine S_true (by simp only [ev, List.getElem?_cons_succ, List.getElem?_cons_zero, Option.getD_some]; try exact rfl) ?_
  refine S_seq ?_
  refine S_of_X EV_ok (by kernel_rfl) ?_
  refine X_rg fun R hR => ?_
  simp only [EVP, aops, astep, awant, aeff, aop, afill, astore, ev, ofValue, St.put, List.map_nil, List.getElem?_cons_succ, List.getElem?_cons_zero, Option.getD_some, Option.map_some, if_true, List.set_cons_succ, List.set_cons_zero, List.length_cons, List.length_nil, List.drop_succ_cons, List.drop_zero, List.take_zero, List.nil_append, List.append_nil, Nat.reduceAdd, Nat.reduceLeDiff, Nat.zero_add, and_self, D.good, D.cells, ty_api_Node, st_api_Node, sta_api_Node]
  with_reducible refine hR _ ?_
  clear hR R
  show S _ _ _ _ _
  refine S_ret ⟨.inr rfl, .tup [.agg [.int .u8 0, .int .i64 0, .str ⟨#[]⟩, .slice .nil 0 []], .bool false], ?_, by rfl, by rfl⟩
  simp only [resD, resAll, resOne, resTup, Try.f36, ty_api_Node, List.getElem?_cons_succ, List.getElem?_cons_zero, mkD, if_true, List.drop_zero, List.take_succ_cons, Nat.reduceLeDiff, List.length_cons, List.length_nil, Nat.reduceAdd, Nat.zero_add, Option.map_some, D.good, List.take_nil]
end Go.Proofs.Ytkngdmilgfgclaa
