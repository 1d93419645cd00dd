/- The law LayoutFinds: its walk. -/
import Derived.Test.YthgdibdapjaljaaLa2
namespace Go.Proofs.Ythgdibdapjaljaa
open Go.RowKit

theorem awake_ok : fn EV 10 [] = some (.bool true) := fn_of (n := 300) (by kernel_rfl)
set_option maxRecDepth 100000 in
set_option maxHeartbeats 4000000 in
theorem law2_fn (f : Fm) (s : ByteArray) (k : Int) : fn EV 3 [dFm f, .str s, .int .u8 k] = some (.bool true) := by
 refine fn_X rfl Try.func3 rfl (by simp only [plain, List.all_cons, List.all_nil, dFm_pl, str_pl, int_pl, Bool.and_true]) (rfl) (rfl) (rfl) ?_
 simp only [List.map_cons, List.map_nil, D.strip, dFm_strip]
 simp only [enterSt, Try.ntmps3, List.length_cons, List.length_nil, Nat.reduceAdd, Nat.reduceSub, List.replicate_succ, List.replicate_zero, List.cons_append, List.nil_append]
 refine X_seq ?_
 refine X_rg fun R hR => ?_
 simp only [aops, astep, awant, aeff, aop, ev, ofValue, St.put, gd_agg, cl_agg, zg0, zgd, zmo, if_true, zs1, zs0, List.length_nil, List.nil_append, sl, dFm]
 with_reducible refine hR _ ?_
 clear hR R
 show X _ _ _ _
 refine X_seq ?_
 refine X_seq ?_
 refine X_rg fun R hR => ?_
 simp only [EVP, aops, astep, awant, aeff, aop, ev, St.put, pcall, List.map_nil, zg1, zg0, zgd, zmo, if_true, zs1, zs0, List.nil_append, Bool.not_true, any10, awake_ok]
 with_reducible refine hR _ ?_
 clear hR R
 show X _ _ _ _
 refine X_ite (by simp only [ev, zg1, zg0, zgd]; exact rfl) ?_ ?_
 ·intro b1
  have c1 := b1
  try simp only [Bool.not_eq_true', Bool.not_eq_false', decide_eq_true_eq, decide_eq_false_iff_not, beq_iff_eq, Int.not_lt, Int.not_le, ge_iff_le, gt_iff_lt, bne_iff_ne, ne_eq, bne_eq_false_iff_eq, beq_eq_false_iff_ne, Bool.and_eq_true, Bool.or_eq_false_iff] at c1
  refine X_seq ?_
  refine X_rg fun R hR => ?_
  simp only [aops, astep, awant, aeff, aop, ev, ofValue, St.put, zgd, zmo, if_true, zs1, zs0, b1]
  with_reducible refine hR _ ?_
  clear hR R
  show X _ _ _ _
  refine X_ret ?_
  show resD _ _ _ = some _
  simp only [resD, resAll, resOne, resTup, Try.results3, EVP, zg1, zg0, D.good, if_true, zmo] <;> (first | (rfl; done) | (simp_all; done) | (exfalso; simp_all; done))
 ·intro b2
  have c2 := b2
  try simp only [] at c2
  refine X_skip ?_
  show X _ _ _ _
  refine X_seq ?_
  refine X_seq ?_
  refine X_rg fun R hR => ?_
  simp only [EVP, inr_i64, Int.reduceLE, Int.reduceNeg, aops, astep, awant, aeff, aop, abin, aint, mkD, ev, ofValue, St.put, ia_slice, zg1, zg0, zgd, zmo, if_true, zs1, zs0, List.length_map, List.length_cons, List.length_nil, List.drop_zero, List.take_succ_cons, List.take_zero, Nat.reduceAdd, Nat.reduceLeDiff, Nat.zero_add, Nat.add_zero, Bool.false_eq_true, if_false, and_self, reduceCtorEq, ty_s_layout_Slot, ty_layout_Frame, und_layout_Slot]
  with_reducible refine hR _ ?_
  clear hR R
  show X _ _ _ _
  refine X_ite (by simp only [ev, zg1, zg0, zgd]; exact rfl) ?_ ?_
  ·intro b3
   have c3 := b3
   try simp only [decide_eq_true_eq, gt_iff_lt] at c3
   refine X_seq ?_
   refine X_rg fun R hR => ?_
   simp only [aops, astep, awant, aeff, aop, ev, ofValue, St.put, zgd, zmo, if_true, zs1, zs0, b3]
   with_reducible refine hR _ ?_
   clear hR R
   show X _ _ _ _
   refine X_ret ?_
   show resD _ _ _ = some _
   simp only [resD, resAll, resOne, resTup, Try.results3, EVP, zg1, zg0, D.good, if_true, zmo] <;> (first | (rfl; done) | (simp_all; done) | (exfalso; simp_all; done))
  ·intro b4
   have c4 := b4
   try simp only [decide_eq_false_iff_not, Int.not_lt, gt_iff_lt] at c4
   refine X_skip ?_
   show X _ _ _ _
   refine X_seq ?_
   have hll : f.slots.length ≤ 12 := by first | omega | (simp at *; omega)
   have hf := lfind_fn f s k (by omega)
   have hr := rlfind_fn f s k (by omega)
   have hp := plain_fn f (by omega)
   simp only [dFm, sl] at hf hr hp
   refine X_rg fun R hR => ?_
   simp only [EVP, aops, astep, awant, aeff, aop, mkD, astore, ev, St.put, pcall, List.map_cons, List.map_nil, zg1, zg0, zgd, zmo, Option.bind_some, if_true, zs1, zs0, List.length_cons, List.length_nil, List.drop_succ_cons, List.drop_zero, List.take_succ_cons, List.take_zero, List.cons_append, List.nil_append, Nat.reduceAdd, Nat.reduceLeDiff, Nat.zero_add, and_self, ty_layout_Slot, ty_layout_Frame, any11, dSl_cells, dSl_good, b4, hf]
   with_reducible refine hR _ ?_
   clear hR R
   show X _ _ _ _
   refine X_seq ?_
   refine X_rg fun R hR => ?_
   simp only [EVP, aops, astep, awant, aeff, aop, mkD, astore, ev, St.put, pcall, List.map_cons, List.map_nil, zg1, zg0, zgd, zmo, Option.bind_some, if_true, zs1, zs0, List.length_cons, List.length_nil, List.drop_succ_cons, List.drop_zero, List.take_succ_cons, List.take_zero, List.cons_append, List.nil_append, Nat.reduceAdd, Nat.reduceLeDiff, Nat.zero_add, and_self, ty_layout_Frame, ty_backstepref26_Slot, any12, any13, dSl_cells, dSl_good, hp, hr]
   with_reducible refine hR _ ?_
   clear hR R
   show X _ _ _ _
   refine X_seq ?_
   refine X_rg fun R hR => ?_
   simp only [EVP, aops, astep, awant, aeff, aop, abin, aint, astr, mkD, ev, ofValue, St.put, ia_int, ia_str, zg1, zg0, zgd, zmo, Option.bind_some, if_true, zs1, zs0, List.length_cons, List.length_nil, List.drop_succ_cons, List.drop_zero, List.take_succ_cons, List.take_zero, Nat.reduceAdd, Nat.reduceLeDiff, Nat.zero_add, Nat.add_zero, Bool.false_eq_true, if_false, reduceCtorEq, beq_self_eq_true, ty_int, ty_uint8, ty_string, und_bool', ty_layout_Slot, ty_backstepref26_Slot]
   with_reducible refine hR _ ?_
   clear hR R
   show X _ _ _ _
   refine X_ret ?_
   show resD _ _ _ = some _
   simp only [resD, resAll, resOne, resTup, Try.results3, EVP, zg1, zg0, D.good, if_true, zmo] <;> (first | (rfl; done) | (simp_all; done) | (exfalso; simp_all; done))
theorem law2_fn8 (f : Fm) (s : ByteArray) (k : Int) (_ : 0 ≤ k) (_ : k ≤ 255) : fn EV 3 [dFm f, dS s, .int .u8 k] = some (.bool true) := law2_fn f s k

end Go.Proofs.Ythgdibdapjaljaa
