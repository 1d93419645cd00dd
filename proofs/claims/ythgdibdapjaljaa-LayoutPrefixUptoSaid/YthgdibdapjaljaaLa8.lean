/- Layouts over data: small; of the reference: Valid, Locals, with. -/
import Derived.Test.YthgdibdapjaljaaLa7
namespace Go.Proofs.Ythgdibdapjaljaa
open Go.RowKit

def smB (l : List Vd) (t : Tr) : Bool := decide (l.length ≤ 40) && (blockB t && decide (t.size ≤ 100))
set_option maxRecDepth 100000 in
set_option maxHeartbeats 4000000 in
theorem small_fn (l : List Vd) (t : Tr) (hs : t.size ≤ 4611686018427387904) : fn EV 18 [sl 3 (l.map dV), dN t] = some (.int .i64 (if smB l t = true then 1 else 0)) := by
  refine fn_X rfl Try.func18 rfl (by simp only [plain, List.all_cons, List.all_nil, sl_pl (f := dV) (fun _ _ => rfl), dN_pl, Bool.and_true]) (rfl) (rfl) (rfl) ?_
  simp only [List.map_cons, List.map_nil, sl_strip (map_strip (f := dV) (fun _ => rfl) _), dN_strip]
  simp only [enterSt, Try.ntmps18, List.length_cons, List.length_nil, Nat.reduceAdd, Nat.reduceSub, List.replicate_succ, List.replicate_zero, List.cons_append, List.nil_append]
  refine X_seq ?_
  refine X_rg fun R hR => ?_
  simp only [inr_i64, Int.reduceLE, Int.reduceNeg, aops, astep, awant, aeff, aop, ev, ofValue, St.put, List.getElem?_cons_succ, List.getElem?_cons_zero, Option.getD_some, Option.map_some, if_true, List.set_cons_succ, List.set_cons_zero, List.length_nil, List.nil_append, and_self, dN_cells, dN_good, sl]
  with_reducible refine hR _ ?_
  clear hR R
  show X _ _ _ _
  refine X_seq ?_
  refine X_seq ?_
  have hib := o_ast_IsBlock t
  have hsz := o_ast_Size t hs
  refine X_y ?_
  refine Y_k 4 fun R hR => ?_
  simp only [EVP, inr_i64, Int.reduceLE, Int.reduceNeg, aops, astep, awant, aeff, aop, abin, aint, ev, ofValue, St.put, List.getElem?_cons_succ, List.getElem?_cons_zero, Option.getD_some, Option.map_some, if_true, List.set_cons_succ, List.set_cons_zero, List.length_map, List.take_succ_cons, List.take_zero, and_self, und_api_VarDecl]
  with_reducible refine hR _ ?_
  clear hR R
  simp only [List.drop_succ_cons, List.drop_zero]
  refine Y_if 8 (by simp only [ev, List.getElem?_cons_succ, List.getElem?_cons_zero, Option.getD_some]; exact rfl) ?_ ?_
  · intro b1
    have c1 := b1
    try simp only [decide_eq_true_eq, gt_iff_lt] at c1
    refine Y_end fun R hR => ?_
    simp only [EVP, inr_i64, Int.reduceLE, Int.reduceNeg, aops, astep, awant, aeff, aop, abin, mkD, ev, ofValue, St.put, pcall, List.map_cons, List.map_nil, List.getElem?_cons_succ, List.getElem?_cons_zero, Option.getD_some, Option.map_some, Option.map_none, Option.bind_some, if_true, List.set_cons_succ, List.set_cons_zero, List.length_cons, List.length_nil, List.drop_zero, List.take_succ_cons, List.take_zero, List.cons_append, List.nil_append, Nat.reduceAdd, Nat.reduceLeDiff, Nat.zero_add, Bool.false_eq_true, if_false, and_self, bq_tf, ty_api_Node, any16, any22, dN_agg, b1]
    with_reducible refine hR _ ?_
    clear hR R
    show X _ _ _ _
    refine X_true (by simp only [ev, List.getElem?_cons_succ, List.getElem?_cons_zero, Option.getD_some]) ?_
    refine X_seq ?_
    refine X_rg fun R hR => ?_
    simp only [inr_i64, Int.reduceLE, Int.reduceNeg, aops, astep, awant, aeff, aop, ev, ofValue, St.put, Option.getD_some, Option.map_some, if_true, List.set_cons_succ, List.set_cons_zero, and_self]
    with_reducible refine hR _ ?_
    clear hR R
    show X _ _ _ _
    refine X_ret ?_
    show resD _ _ _ = some _
    simp only [resD, resAll, resOne, resTup, Try.results18, EVP, List.getElem?_cons_succ, List.getElem?_cons_zero, D.good, if_true, Option.map_some] <;> (first | ((have hq : smB l t = false := by (unfold smB; first | (simp_all; done) | (simp_all; intros; omega) | (simp_all; omega) | (simp; omega) | (simp; intros; omega))); rw [hq]; rfl; done) | ((have hq : smB l t = true := by (unfold smB; first | (simp_all; done) | (simp_all; intros; omega) | (simp_all; omega) | (simp; omega) | (simp; intros; omega))); rw [hq]; rfl; done) | (exfalso; simp_all; done))
  · intro b2
    have c2 := b2
    try simp only [decide_eq_false_iff_not, Int.not_lt, gt_iff_lt] at c2
    refine Y_k 5 fun R hR => ?_
    simp only [EVP, aops, astep, awant, aeff, aop, mkD, ev, ofValue, St.put, pcall, List.map_cons, List.map_nil, List.getElem?_cons_succ, List.getElem?_cons_zero, Option.getD_some, Option.map_some, Option.bind_some, if_true, List.set_cons_succ, List.set_cons_zero, List.length_cons, List.length_nil, List.drop_zero, List.take_succ_cons, List.take_zero, List.cons_append, List.nil_append, Nat.reduceAdd, Nat.reduceLeDiff, Nat.zero_add, Bool.false_eq_true, if_false, beq_self_eq_true, ty_api_Node, any16, dN_agg, b2, hib]
    with_reducible refine hR _ ?_
    clear hR R
    simp only [List.drop_succ_cons, List.drop_zero]
    refine Y_if 13 (by simp only [ev, List.getElem?_cons_succ, List.getElem?_cons_zero, Option.getD_some]; exact rfl) ?_ ?_
    · intro b3
      have c3 := b3
      try simp only [Bool.not_eq_true'] at c3
      refine Y_end fun R hR => ?_
      simp only [EVP, inr_i64, Int.reduceLE, Int.reduceNeg, aops, astep, awant, aeff, aop, abin, mkD, ev, ofValue, St.put, pcall, List.map_cons, List.map_nil, List.getElem?_cons_succ, List.getElem?_cons_zero, Option.getD_some, Option.map_some, Option.map_none, Option.bind_some, if_true, List.set_cons_succ, List.set_cons_zero, List.length_cons, List.length_nil, List.drop_zero, List.take_succ_cons, List.take_zero, List.cons_append, List.nil_append, Nat.reduceAdd, Nat.reduceLeDiff, Nat.zero_add, Bool.false_eq_true, if_false, and_self, bq_tf, ty_api_Node, any22, dN_agg, b3]
      with_reducible refine hR _ ?_
      clear hR R
      show X _ _ _ _
      refine X_true (by simp only [ev, List.getElem?_cons_succ, List.getElem?_cons_zero, Option.getD_some]) ?_
      refine X_seq ?_
      refine X_rg fun R hR => ?_
      simp only [inr_i64, Int.reduceLE, Int.reduceNeg, aops, astep, awant, aeff, aop, ev, ofValue, St.put, Option.getD_some, Option.map_some, if_true, List.set_cons_succ, List.set_cons_zero, and_self]
      with_reducible refine hR _ ?_
      clear hR R
      show X _ _ _ _
      refine X_ret ?_
      show resD _ _ _ = some _
      simp only [resD, resAll, resOne, resTup, Try.results18, EVP, List.getElem?_cons_succ, List.getElem?_cons_zero, D.good, if_true, Option.map_some] <;> (first | ((have hq : smB l t = false := by (unfold smB; first | (simp_all; done) | (simp_all; intros; omega) | (simp_all; omega) | (simp; omega) | (simp; intros; omega))); rw [hq]; rfl; done) | ((have hq : smB l t = true := by (unfold smB; first | (simp_all; done) | (simp_all; intros; omega) | (simp_all; omega) | (simp; omega) | (simp; intros; omega))); rw [hq]; rfl; done) | (exfalso; simp_all; done))
    · intro b4
      have c4 := b4
      try simp only [Bool.not_eq_false'] at c4
      refine Y_end fun R hR => ?_
      simp only [EVP, inr_i64, Int.reduceLE, Int.reduceNeg, aops, astep, awant, aeff, aop, abin, aint, mkD, ev, ofValue, St.put, pcall, List.map_cons, List.map_nil, List.getElem?_cons_succ, List.getElem?_cons_zero, Option.getD_some, Option.map_some, Option.bind_some, if_true, List.set_cons_succ, List.set_cons_zero, List.length_cons, List.length_nil, List.drop_zero, List.take_succ_cons, List.take_zero, List.cons_append, List.nil_append, Nat.reduceAdd, Nat.reduceLeDiff, Nat.zero_add, Bool.false_eq_true, if_false, and_self, beq_self_eq_true, ty_api_Node, any22, dN_agg, b4, hsz]
      with_reducible refine hR _ ?_
      clear hR R
      show X _ _ _ _
      refine X_ite (by simp only [ev, List.getElem?_cons_succ, List.getElem?_cons_zero, Option.getD_some]; exact rfl) ?_ ?_
      · intro b5
        have c5 := b5
        try simp only [decide_eq_true_eq, gt_iff_lt] at c5
        refine X_seq ?_
        refine X_rg fun R hR => ?_
        simp only [inr_i64, Int.reduceLE, Int.reduceNeg, aops, astep, awant, aeff, aop, ev, ofValue, St.put, Option.getD_some, Option.map_some, if_true, List.set_cons_succ, List.set_cons_zero, and_self, b5]
        with_reducible refine hR _ ?_
        clear hR R
        show X _ _ _ _
        refine X_ret ?_
        show resD _ _ _ = some _
        simp only [resD, resAll, resOne, resTup, Try.results18, EVP, List.getElem?_cons_succ, List.getElem?_cons_zero, D.good, if_true, Option.map_some] <;> (first | ((have hq : smB l t = false := by (unfold smB; first | (simp_all; done) | (simp_all; intros; omega) | (simp_all; omega) | (simp; omega) | (simp; intros; omega))); rw [hq]; rfl; done) | ((have hq : smB l t = true := by (unfold smB; first | (simp_all; done) | (simp_all; intros; omega) | (simp_all; omega) | (simp; omega) | (simp; intros; omega))); rw [hq]; rfl; done) | (exfalso; simp_all; done))
      · intro b6
        have c6 := b6
        try simp only [decide_eq_false_iff_not, Int.not_lt, gt_iff_lt] at c6
        refine X_skip ?_
        show X _ _ _ _
        refine X_seq ?_
        refine X_rg fun R hR => ?_
        simp only [inr_i64, Int.reduceLE, Int.reduceNeg, aops, astep, awant, aeff, aop, ev, ofValue, St.put, Option.getD_some, Option.map_some, if_true, List.set_cons_succ, List.set_cons_zero, and_self, b6]
        with_reducible refine hR _ ?_
        clear hR R
        show X _ _ _ _
        refine X_ret ?_
        show resD _ _ _ = some _
        simp only [resD, resAll, resOne, resTup, Try.results18, EVP, List.getElem?_cons_succ, List.getElem?_cons_zero, D.good, if_true, Option.map_some] <;> (first | ((have hq : smB l t = false := by (unfold smB; first | (simp_all; done) | (simp_all; intros; omega) | (simp_all; omega) | (simp; omega) | (simp; intros; omega))); rw [hq]; rfl; done) | ((have hq : smB l t = true := by (unfold smB; first | (simp_all; done) | (simp_all; intros; omega) | (simp_all; omega) | (simp; omega) | (simp; intros; omega))); rw [hq]; rfl; done) | (exfalso; simp_all; done))
set_option maxRecDepth 100000 in
set_option maxHeartbeats 4000000 in
theorem rvalid_fn (l : List Vd) (hl : l.length ≤ 1000000) : fn EV 33 [sl 3 (l.map dV)] = some (.bool (dclsB l)) := by
  refine fn_X rfl Try.func33 rfl (by simp only [plain, List.all_cons, List.all_nil, sl_pl (f := dV) (fun _ _ => rfl), Bool.and_true]) (rfl) (rfl) (rfl) ?_
  simp only [List.map_cons, List.map_nil, sl_strip (map_strip (f := dV) (fun _ => rfl) _)]
  simp only [enterSt, Try.ntmps33, List.length_cons, List.length_nil, Nat.reduceAdd, Nat.reduceSub, List.replicate_succ, List.replicate_zero, List.cons_append, List.nil_append]
  refine X_seq ?_
  refine X_rg fun R hR => ?_
  simp only [aops, astep, awant, aeff, aop, ev, ofValue, St.put, Option.getD_some, Option.map_some, if_true, List.set_cons_succ, List.set_cons_zero, sl]
  with_reducible refine hR _ ?_
  clear hR R
  show X _ _ _ _
  refine X_seq ?_
  refine X_seq ?_
  refine X_rg fun R hR => ?_
  simp only [inr_i64, Int.reduceLE, Int.reduceNeg, aops, astep, awant, aeff, aop, ev, ofValue, St.put, Option.getD_some, Option.map_some, if_true, List.set_cons_succ, List.set_cons_zero, and_self]
  with_reducible refine hR _ ?_
  clear hR R
  show X _ _ _ _
  refine X_block ?_
  refine X_loop (fun m σ => ∃ (i : Nat) (r : List (List D)), σ = ⟨[.slice .imm (if (l.map dV).isEmpty = true then 0 else 3) (l.map dV), slotOf σ 1, slotOf σ 2, .int .i64 i, slotOf σ 4, slotOf σ 5, slotOf σ 6, slotOf σ 7, slotOf σ 8, slotOf σ 9, slotOf σ 10, slotOf σ 11, slotOf σ 12, slotOf σ 13, slotOf σ 14, slotOf σ 15, slotOf σ 16, slotOf σ 17, slotOf σ 18, slotOf σ 19, slotOf σ 20, slotOf σ 21, slotOf σ 22, slotOf σ 23, slotOf σ 24, slotOf σ 25, slotOf σ 26, slotOf σ 27, slotOf σ 28, slotOf σ 29, slotOf σ 30, slotOf σ 31, slotOf σ 32, slotOf σ 33, slotOf σ 34, slotOf σ 35, slotOf σ 36, slotOf σ 37, slotOf σ 38, slotOf σ 39, slotOf σ 40, slotOf σ 41, slotOf σ 42, slotOf σ 43, slotOf σ 44, slotOf σ 45, slotOf σ 46, slotOf σ 47, slotOf σ 48, slotOf σ 49, slotOf σ 50, slotOf σ 51], r, 0, []⟩ ∧ m = l.length - i ∧ i ≤ l.length ∧ Hid ((l.take i).all dclB = true)) ?_ (l.length) _ ?_
  rotate_left
  · exact ⟨0, _, rfl, rfl, Nat.zero_le _, Lib.hid rfl⟩
  rintro m σ ⟨i, r, hσ, rfl, hi, hall⟩
  generalize slotOf σ = x at hσ
  subst hσ
  refine X_seq ?_
  refine X_seq ?_
  refine X_rg fun R hR => ?_
  simp only [EVP, nat_lt, aops, astep, awant, aeff, aop, abin, aint, ev, St.put, List.getElem?_cons_succ, List.getElem?_cons_zero, Option.getD_some, Option.map_some, if_true, List.set_cons_succ, List.set_cons_zero, List.length_map, und_api_VarDecl]
  with_reducible refine hR _ ?_
  clear hR R
  show X _ _ _ _
  refine X_ite (by simp only [ev, List.getElem?_cons_succ, List.getElem?_cons_zero, Option.getD_some]; exact rfl) ?_ ?_
  · intro b1
    have c1 := b1
    try simp only [decide_eq_true_eq] at c1
    refine X_skip ?_
    show X _ _ _ _
    refine X_seq ?_
    refine X_block ?_
    refine X_seq ?_
    have hlt : i < l.length := by first | assumption | omega
    have hn1 : ((if (l.map dV).isEmpty = true then 0 else 3) = 3) = True := eq_true (sl_n (j := i) (by simpa using hlt))
    have e1 : (l.map dV)[i]? = some (.agg [.str l[i].name, .int .u8 l[i].kind, .int .i64 l[i].len]) := by rw [List.getElem?_map, List.getElem?_eq_getElem hlt]; rfl
    refine X_rg fun R hR => ?_
    simp only [EVP, app_get0, app_set0, nat_lt, nat_0, nat_to, aops, astep, awant, aeff, aop, astore, ev, St.put, gd_agg, ia_agg, cl_agg, List.getElem?_cons_succ, List.getElem?_cons_zero, Option.getD_some, Option.map_some, Option.bind_some, if_true, List.set_cons_succ, List.set_cons_zero, List.length_map, List.length_cons, List.length_nil, List.drop_succ_cons, List.drop_zero, List.take_zero, List.cons_append, List.nil_append, Nat.reduceAdd, Nat.reduceLeDiff, Nat.zero_add, and_self, decide_true, Option.isSome_some, ty_api_VarDecl, und_api_VarDecl, siz_api_VarDecl, inf_api_VarDecl_eq, hlt, hn1, e1]
    with_reducible refine hR _ ?_
    clear hR R
    show X _ _ _ _
    refine X_seq ?_
    refine X_y ?_
    refine Y_k 4 fun R hR => ?_
    simp only [EVP, inr_u8, Int.reduceLE, app_get0, aops, astep, awant, aeff, aop, abin, aint, mkD, ev, ofValue, St.put, ia_int, List.getElem?_cons_succ, List.getElem?_cons_zero, Option.getD_some, Option.map_some, if_true, List.set_cons_succ, List.set_cons_zero, List.length_cons, List.length_nil, List.drop_succ_cons, List.drop_zero, List.take_succ_cons, List.take_zero, Nat.reduceAdd, Nat.reduceLeDiff, Nat.zero_add, Bool.false_eq_true, if_false, and_self, reduceCtorEq, ty_uint8, ty_api_VarDecl]
    with_reducible refine hR _ ?_
    clear hR R
    simp only [List.drop_succ_cons, List.drop_zero]
    refine Y_if 20 (by simp only [ev, List.getElem?_cons_succ, List.getElem?_cons_zero, Option.getD_some]; exact rfl) ?_ ?_
    · intro b2
      have c2 := b2
      try simp only [beq_iff_eq] at c2
      refine Y_end fun R hR => ?_
      simp only [EVP, inr_i64, inr_u8, Int.reduceLE, Int.reduceNeg, app_get0, aops, astep, awant, aeff, aop, abin, aint, mkD, ev, ofValue, St.put, ia_int, List.getElem?_cons_succ, List.getElem?_cons_zero, Option.getD_some, Option.map_some, Option.map_none, Option.bind_some, if_true, List.set_cons_succ, List.set_cons_zero, List.length_cons, List.length_nil, List.drop_succ_cons, List.drop_zero, List.take_succ_cons, List.take_zero, Nat.reduceAdd, Nat.reduceLeDiff, Nat.zero_add, Bool.false_eq_true, if_false, and_self, reduceCtorEq, beq_self_eq_true, bq_tf, ty_int, ty_uint8, ty_api_VarDecl, b2]
      with_reducible refine hR _ ?_
      clear hR R
      show X _ _ _ _
      refine X_seq ?_
      refine X_y ?_
      refine Y_k 4 fun R hR => ?_
      simp only [EVP, inr_u8, Int.reduceLE, app_get0, aops, astep, awant, aeff, aop, abin, aint, mkD, ev, ofValue, St.put, ia_int, List.getElem?_cons_succ, List.getElem?_cons_zero, Option.getD_some, Option.map_some, if_true, List.set_cons_succ, List.set_cons_zero, List.length_cons, List.length_nil, List.drop_succ_cons, List.drop_zero, List.take_succ_cons, List.take_zero, Nat.reduceAdd, Nat.reduceLeDiff, Nat.zero_add, Bool.false_eq_true, if_false, and_self, reduceCtorEq, ty_uint8, ty_api_VarDecl]
      with_reducible refine hR _ ?_
      clear hR R
      simp only [List.drop_succ_cons, List.drop_zero]
      refine Y_if 33 (by simp only [ev, List.getElem?_cons_succ, List.getElem?_cons_zero, Option.getD_some]; exact rfl) ?_ ?_
      · intro b3
        have c3 := b3
        try simp only [beq_iff_eq] at c3
        refine Y_k 5 fun R hR => ?_
        simp only [EVP, inr_i64, Int.reduceLE, Int.reduceNeg, app_get0, aops, astep, awant, aeff, aop, abin, aint, mkD, ev, ofValue, St.put, ia_int, List.getElem?_cons_succ, List.getElem?_cons_zero, Option.getD_some, Option.map_some, Option.bind_some, if_true, List.set_cons_succ, List.set_cons_zero, List.length_cons, List.length_nil, List.drop_succ_cons, List.drop_zero, List.take_succ_cons, List.take_zero, Nat.reduceAdd, Nat.reduceLeDiff, Nat.zero_add, Bool.false_eq_true, if_false, and_self, reduceCtorEq, beq_self_eq_true, ty_int, ty_api_VarDecl, b3]
        with_reducible refine hR _ ?_
        clear hR R
        simp only [List.drop_succ_cons, List.drop_zero]
        refine Y_if 38 (by simp only [ev, List.getElem?_cons_succ, List.getElem?_cons_zero, Option.getD_some]; exact rfl) ?_ ?_
        · intro b4
          have c4 := b4
          try simp only [decide_eq_true_eq, ge_iff_le] at c4
          refine Y_end fun R hR => ?_
          simp only [EVP, inr_i64, Int.reduceLE, Int.reduceNeg, app_get0, aops, astep, awant, aeff, aop, abin, aint, mkD, ev, ofValue, St.put, ia_int, List.getElem?_cons_succ, List.getElem?_cons_zero, Option.getD_some, Option.map_some, Option.bind_some, if_true, List.set_cons_succ, List.set_cons_zero, List.length_cons, List.length_nil, List.drop_succ_cons, List.drop_zero, List.take_succ_cons, List.take_zero, Nat.reduceAdd, Nat.reduceLeDiff, Nat.zero_add, Bool.false_eq_true, if_false, and_self, reduceCtorEq, beq_self_eq_true, ty_int, ty_api_VarDecl, b4]
          with_reducible refine hR _ ?_
          clear hR R
          show X _ _ _ _
          refine X_seq ?_
          refine X_y ?_
          refine Y_k 3 fun R hR => ?_
          simp only [EVP, aops, astep, awant, aeff, aop, ev, St.put, List.getElem?_cons_succ, List.getElem?_cons_zero, Option.getD_some, Option.map_some, if_true, List.set_cons_succ, List.set_cons_zero, List.take_succ_cons, List.take_zero]
          with_reducible refine hR _ ?_
          clear hR R
          simp only [List.drop_succ_cons, List.drop_zero]
          refine Y_if 45 (by simp only [ev, List.getElem?_cons_succ, List.getElem?_cons_zero, Option.getD_some]; exact rfl) ?_ ?_
          · intro b5
            have c5 := b5
            try simp only [Bool.not_eq_true', ne_eq, beq_eq_false_iff_ne] at c5
            refine Y_end fun R hR => ?_
            simp only [aops, astep, awant, aeff, aop, ev, ofValue, St.put, List.getElem?_cons_succ, List.getElem?_cons_zero, Option.getD_some, Option.map_some, Option.bind_some, if_true, List.set_cons_succ, List.set_cons_zero, beq_self_eq_true, b5]
            with_reducible refine hR _ ?_
            clear hR R
            show X _ _ _ _
            refine X_ite (by simp only [ev, List.getElem?_cons_succ, List.getElem?_cons_zero, Option.getD_some]; exact rfl) ?_ ?_
            · intro b6
              have c6 := b6
              try simp only [Bool.not_eq_true', decide_eq_false_iff_not, Int.not_le] at c6
              refine X_seq ?_
              refine X_rg fun R hR => ?_
              simp only [aops, astep, awant, aeff, aop, ev, ofValue, St.put, Option.getD_some, Option.map_some, if_true, List.set_cons_succ, List.set_cons_zero, b6]
              with_reducible refine hR _ ?_
              clear hR R
              show X _ _ _ _
              refine X_ret ?_
              show resD _ _ _ = some _
              simp only [resD, resAll, resOne, resTup, Try.results33, EVP, List.getElem?_cons_succ, List.getElem?_cons_zero, D.good, if_true, Option.map_some]
              have hF : dclB l[i] = false := (by unfold dclB; first | (simp [c2, c5]; done) | (simp [c1, c2, c3, c4, c5, c6]; omega) | (simp; omega) | (exfalso; omega) | (simp_all; done) | (simp_all; omega) | (exfalso; simp_all; done) | (exfalso; simp_all; omega))
              rw [dclsB, all_false_at (p := dclB) hlt hF, Bool.and_false]
            · intro b7
              have c7 := b7
              try simp only [Bool.not_eq_false', decide_eq_true_eq] at c7
              refine X_skip ?_
              show X _ _ _ _
              have hbig : i < 9223372036854775807 := by omega
              refine X_rg fun R hR => ?_
              simp only [inr_i64, Int.reduceLE, Int.reduceNeg, aops, astep, awant, aeff, aop, abin, aint, ev, ofValue, St.put, List.getElem?_cons_succ, List.getElem?_cons_zero, Option.getD_some, Option.map_some, if_true, List.set_cons_succ, List.set_cons_zero, and_self, b7, nat_succ hbig]
              with_reducible refine hR _ ?_
              clear hR R
              show ∃ m, m < _ ∧ _
              have hok : dclB l[i] = true := (by unfold dclB; first | (simp [c2, c5]; done) | (simp [c2, c5]; omega) | (simp; omega) | (exfalso; omega) | (simp_all; done) | (simp_all; omega) | (exfalso; simp_all; done) | (exfalso; simp_all; omega))
              exact ⟨l.length - (i + 1), by omega, i + 1, _, rfl, rfl, by omega, Lib.hid (all_take_succ hlt hall.out hok)⟩
          · intro b8
            have c8 := b8
            try simp only [Bool.not_eq_false', beq_iff_eq] at c8
            refine Y_end fun R hR => ?_
            simp only [aops, astep, awant, aeff, aop, ev, ofValue, St.put, List.getElem?_cons_succ, List.getElem?_cons_zero, Option.getD_some, Option.map_some, Option.map_none, Option.bind_some, if_true, List.set_cons_succ, List.set_cons_zero, Bool.false_eq_true, if_false, bq_ft, b8]
            with_reducible refine hR _ ?_
            clear hR R
            show X _ _ _ _
            refine X_false (by simp only [ev, List.getElem?_cons_succ, List.getElem?_cons_zero, Option.getD_some]) ?_
            refine X_skip ?_
            show X _ _ _ _
            have hbig : i < 9223372036854775807 := by omega
            refine X_rg fun R hR => ?_
            simp only [inr_i64, Int.reduceLE, Int.reduceNeg, aops, astep, awant, aeff, aop, abin, aint, ev, ofValue, St.put, List.getElem?_cons_succ, List.getElem?_cons_zero, Option.getD_some, Option.map_some, if_true, List.set_cons_succ, List.set_cons_zero, and_self, nat_succ hbig]
            with_reducible refine hR _ ?_
            clear hR R
            show ∃ m, m < _ ∧ _
            have hok : dclB l[i] = true := (by unfold dclB; first | (simp [c2, c8]; done) | (simp [c1, c2, c3, c4, c8]; omega) | (simp; omega) | (exfalso; omega) | (simp_all; done) | (simp_all; omega) | (exfalso; simp_all; done) | (exfalso; simp_all; omega))
            exact ⟨l.length - (i + 1), by omega, i + 1, _, rfl, rfl, by omega, Lib.hid (all_take_succ hlt hall.out hok)⟩
        · intro b9
          have c9 := b9
          try simp only [decide_eq_false_iff_not, Int.not_le, ge_iff_le] at c9
          refine Y_end fun R hR => ?_
          simp only [EVP, inr_i64, Int.reduceLE, Int.reduceNeg, aops, astep, awant, aeff, aop, abin, ev, ofValue, St.put, List.getElem?_cons_succ, List.getElem?_cons_zero, Option.getD_some, Option.map_some, Option.map_none, Option.bind_some, if_true, List.set_cons_succ, List.set_cons_zero, Nat.zero_add, Bool.false_eq_true, if_false, and_self, reduceCtorEq, bq_ft, ty_int, ty_api_VarDecl, b9]
          with_reducible refine hR _ ?_
          clear hR R
          show X _ _ _ _
          refine X_seq ?_
          refine X_y ?_
          refine Y_k 3 fun R hR => ?_
          simp only [EVP, aops, astep, awant, aeff, aop, ev, St.put, List.getElem?_cons_succ, List.getElem?_cons_zero, Option.getD_some, Option.map_some, if_true, List.set_cons_succ, List.set_cons_zero, List.take_succ_cons, List.take_zero]
          with_reducible refine hR _ ?_
          clear hR R
          simp only [List.drop_succ_cons, List.drop_zero]
          refine Y_if 45 (by simp only [ev, List.getElem?_cons_succ, List.getElem?_cons_zero, Option.getD_some]; exact rfl) ?_ ?_
          · intro b10
            have c10 := b10
            try simp only [Bool.not_eq_true', ne_eq, beq_eq_false_iff_ne] at c10
            refine Y_end fun R hR => ?_
            simp only [aops, astep, awant, aeff, aop, ev, ofValue, St.put, List.getElem?_cons_succ, List.getElem?_cons_zero, Option.getD_some, Option.map_some, Option.bind_some, if_true, List.set_cons_succ, List.set_cons_zero, Bool.not_false, beq_self_eq_true, b10]
            with_reducible refine hR _ ?_
            clear hR R
            show X _ _ _ _
            refine X_true (by simp only [ev, List.getElem?_cons_succ, List.getElem?_cons_zero, Option.getD_some]) ?_
            refine X_seq ?_
            refine X_rg fun R hR => ?_
            simp only [aops, astep, awant, aeff, aop, ev, ofValue, St.put, Option.getD_some, Option.map_some, if_true, List.set_cons_succ, List.set_cons_zero]
            with_reducible refine hR _ ?_
            clear hR R
            show X _ _ _ _
            refine X_ret ?_
            show resD _ _ _ = some _
            simp only [resD, resAll, resOne, resTup, Try.results33, EVP, List.getElem?_cons_succ, List.getElem?_cons_zero, D.good, if_true, Option.map_some]
            have hF : dclB l[i] = false := (by unfold dclB; first | (simp [c2, c10]; done) | (simp [c1, c2, c3, c9, c10]; omega) | (simp; omega) | (exfalso; omega) | (simp_all; done) | (simp_all; omega) | (exfalso; simp_all; done) | (exfalso; simp_all; omega))
            rw [dclsB, all_false_at (p := dclB) hlt hF, Bool.and_false]
          · intro b11
            have c11 := b11
            try simp only [Bool.not_eq_false', beq_iff_eq] at c11
            refine Y_end fun R hR => ?_
            simp only [aops, astep, awant, aeff, aop, ev, ofValue, St.put, List.getElem?_cons_succ, List.getElem?_cons_zero, Option.getD_some, Option.map_some, Option.map_none, Option.bind_some, if_true, List.set_cons_succ, List.set_cons_zero, Bool.false_eq_true, if_false, bq_ft, b11]
            with_reducible refine hR _ ?_
            clear hR R
            show X _ _ _ _
            refine X_false (by simp only [ev, List.getElem?_cons_succ, List.getElem?_cons_zero, Option.getD_some]) ?_
            refine X_skip ?_
            show X _ _ _ _
            have hbig : i < 9223372036854775807 := by omega
            refine X_rg fun R hR => ?_
            simp only [inr_i64, Int.reduceLE, Int.reduceNeg, aops, astep, awant, aeff, aop, abin, aint, ev, ofValue, St.put, List.getElem?_cons_succ, List.getElem?_cons_zero, Option.getD_some, Option.map_some, if_true, List.set_cons_succ, List.set_cons_zero, and_self, nat_succ hbig]
            with_reducible refine hR _ ?_
            clear hR R
            show ∃ m, m < _ ∧ _
            have hok : dclB l[i] = true := (by unfold dclB; first | (simp [c2, c11]; done) | (simp [c1, c2, c3, c9, c11]; omega) | (simp; omega) | (exfalso; omega) | (simp_all; done) | (simp_all; omega) | (exfalso; simp_all; done) | (exfalso; simp_all; omega))
            exact ⟨l.length - (i + 1), by omega, i + 1, _, rfl, rfl, by omega, Lib.hid (all_take_succ hlt hall.out hok)⟩
      · intro b12
        have c12 := b12
        try simp only [ne_eq, beq_eq_false_iff_ne] at c12
        refine Y_end fun R hR => ?_
        simp only [EVP, inr_i64, Int.reduceLE, Int.reduceNeg, aops, astep, awant, aeff, aop, abin, ev, ofValue, St.put, List.getElem?_cons_succ, List.getElem?_cons_zero, Option.getD_some, Option.map_some, Option.map_none, Option.bind_some, if_true, List.set_cons_succ, List.set_cons_zero, Nat.zero_add, Bool.false_eq_true, if_false, and_self, reduceCtorEq, bq_ft, ty_int, ty_api_VarDecl, b12]
        with_reducible refine hR _ ?_
        clear hR R
        show X _ _ _ _
        refine X_seq ?_
        refine X_y ?_
        refine Y_k 3 fun R hR => ?_
        simp only [EVP, aops, astep, awant, aeff, aop, ev, St.put, List.getElem?_cons_succ, List.getElem?_cons_zero, Option.getD_some, Option.map_some, if_true, List.set_cons_succ, List.set_cons_zero, List.take_succ_cons, List.take_zero]
        with_reducible refine hR _ ?_
        clear hR R
        simp only [List.drop_succ_cons, List.drop_zero]
        refine Y_if 45 (by simp only [ev, List.getElem?_cons_succ, List.getElem?_cons_zero, Option.getD_some]; exact rfl) ?_ ?_
        · intro b13
          have c13 := b13
          try simp only [Bool.not_eq_true', ne_eq, beq_eq_false_iff_ne] at c13
          refine Y_end fun R hR => ?_
          simp only [aops, astep, awant, aeff, aop, ev, ofValue, St.put, List.getElem?_cons_succ, List.getElem?_cons_zero, Option.getD_some, Option.map_some, Option.bind_some, if_true, List.set_cons_succ, List.set_cons_zero, Bool.not_false, beq_self_eq_true, b13]
          with_reducible refine hR _ ?_
          clear hR R
          show X _ _ _ _
          refine X_true (by simp only [ev, List.getElem?_cons_succ, List.getElem?_cons_zero, Option.getD_some]) ?_
          refine X_seq ?_
          refine X_rg fun R hR => ?_
          simp only [aops, astep, awant, aeff, aop, ev, ofValue, St.put, Option.getD_some, Option.map_some, if_true, List.set_cons_succ, List.set_cons_zero]
          with_reducible refine hR _ ?_
          clear hR R
          show X _ _ _ _
          refine X_ret ?_
          show resD _ _ _ = some _
          simp only [resD, resAll, resOne, resTup, Try.results33, EVP, List.getElem?_cons_succ, List.getElem?_cons_zero, D.good, if_true, Option.map_some]
          have hF : dclB l[i] = false := (by unfold dclB; first | (simp [c2, c13]; done) | (simp [c1, c2, c12, c13]; omega) | (simp; omega) | (exfalso; omega) | (simp_all; done) | (simp_all; omega) | (exfalso; simp_all; done) | (exfalso; simp_all; omega))
          rw [dclsB, all_false_at (p := dclB) hlt hF, Bool.and_false]
        · intro b14
          have c14 := b14
          try simp only [Bool.not_eq_false', beq_iff_eq] at c14
          refine Y_end fun R hR => ?_
          simp only [aops, astep, awant, aeff, aop, ev, ofValue, St.put, List.getElem?_cons_succ, List.getElem?_cons_zero, Option.getD_some, Option.map_some, Option.map_none, Option.bind_some, if_true, List.set_cons_succ, List.set_cons_zero, Bool.false_eq_true, if_false, bq_ft, b14]
          with_reducible refine hR _ ?_
          clear hR R
          show X _ _ _ _
          refine X_false (by simp only [ev, List.getElem?_cons_succ, List.getElem?_cons_zero, Option.getD_some]) ?_
          refine X_skip ?_
          show X _ _ _ _
          have hbig : i < 9223372036854775807 := by omega
          refine X_rg fun R hR => ?_
          simp only [inr_i64, Int.reduceLE, Int.reduceNeg, aops, astep, awant, aeff, aop, abin, aint, ev, ofValue, St.put, List.getElem?_cons_succ, List.getElem?_cons_zero, Option.getD_some, Option.map_some, if_true, List.set_cons_succ, List.set_cons_zero, and_self, nat_succ hbig]
          with_reducible refine hR _ ?_
          clear hR R
          show ∃ m, m < _ ∧ _
          have hok : dclB l[i] = true := (by unfold dclB; first | (simp [c2, c14]; done) | (simp [c1, c2, c12, c14]; omega) | (simp; omega) | (exfalso; omega) | (simp_all; done) | (simp_all; omega) | (exfalso; simp_all; done) | (exfalso; simp_all; omega))
          exact ⟨l.length - (i + 1), by omega, i + 1, _, rfl, rfl, by omega, Lib.hid (all_take_succ hlt hall.out hok)⟩
    · intro b15
      have c15 := b15
      try simp only [ne_eq, beq_eq_false_iff_ne] at c15
      refine Y_k 5 fun R hR => ?_
      simp only [EVP, inr_u8, Int.reduceLE, app_get0, aops, astep, awant, aeff, aop, abin, aint, mkD, ev, ofValue, St.put, ia_int, List.getElem?_cons_succ, List.getElem?_cons_zero, Option.getD_some, Option.map_some, Option.bind_some, if_true, List.set_cons_succ, List.set_cons_zero, List.length_cons, List.length_nil, List.drop_succ_cons, List.drop_zero, List.take_succ_cons, List.take_zero, Nat.reduceAdd, Nat.reduceLeDiff, Nat.zero_add, Bool.false_eq_true, if_false, and_self, reduceCtorEq, beq_self_eq_true, ty_uint8, ty_api_VarDecl, b15]
      with_reducible refine hR _ ?_
      clear hR R
      simp only [List.drop_succ_cons, List.drop_zero]
      refine Y_if 25 (by simp only [ev, List.getElem?_cons_succ, List.getElem?_cons_zero, Option.getD_some]; exact rfl) ?_ ?_
      · intro b16
        have c16 := b16
        try simp only [beq_iff_eq] at c16
        refine Y_end fun R hR => ?_
        simp only [EVP, inr_i64, Int.reduceLE, Int.reduceNeg, app_get0, aops, astep, awant, aeff, aop, abin, aint, mkD, ev, ofValue, St.put, ia_int, List.getElem?_cons_succ, List.getElem?_cons_zero, Option.getD_some, Option.map_some, Option.bind_some, if_true, List.set_cons_succ, List.set_cons_zero, List.length_cons, List.length_nil, List.drop_succ_cons, List.drop_zero, List.take_succ_cons, List.take_zero, Nat.reduceAdd, Nat.reduceLeDiff, Nat.zero_add, Bool.false_eq_true, if_false, and_self, reduceCtorEq, beq_self_eq_true, ty_int, ty_api_VarDecl, b16]
        with_reducible refine hR _ ?_
        clear hR R
        show X _ _ _ _
        refine X_seq ?_
        refine X_y ?_
        refine Y_k 4 fun R hR => ?_
        simp only [EVP, inr_u8, Int.reduceLE, app_get0, aops, astep, awant, aeff, aop, abin, aint, mkD, ev, ofValue, St.put, ia_int, List.getElem?_cons_succ, List.getElem?_cons_zero, Option.getD_some, Option.map_some, if_true, List.set_cons_succ, List.set_cons_zero, List.length_cons, List.length_nil, List.drop_succ_cons, List.drop_zero, List.take_succ_cons, List.take_zero, Nat.reduceAdd, Nat.reduceLeDiff, Nat.zero_add, Bool.false_eq_true, if_false, and_self, reduceCtorEq, ty_uint8, ty_api_VarDecl]
        with_reducible refine hR _ ?_
        clear hR R
        simp only [List.drop_succ_cons, List.drop_zero]
        refine Y_if 33 (by simp only [ev, List.getElem?_cons_succ, List.getElem?_cons_zero, Option.getD_some]; exact rfl) ?_ ?_
        · intro b17
          have c17 := b17
          try simp only [beq_iff_eq] at c17
          refine Y_k 5 fun R hR => ?_
          simp only [EVP, inr_i64, Int.reduceLE, Int.reduceNeg, app_get0, aops, astep, awant, aeff, aop, abin, aint, mkD, ev, ofValue, St.put, ia_int, List.getElem?_cons_succ, List.getElem?_cons_zero, Option.getD_some, Option.map_some, Option.bind_some, if_true, List.set_cons_succ, List.set_cons_zero, List.length_cons, List.length_nil, List.drop_succ_cons, List.drop_zero, List.take_succ_cons, List.take_zero, Nat.reduceAdd, Nat.reduceLeDiff, Nat.zero_add, Bool.false_eq_true, if_false, and_self, reduceCtorEq, beq_self_eq_true, ty_int, ty_api_VarDecl, b17]
          with_reducible refine hR _ ?_
          clear hR R
          simp only [List.drop_succ_cons, List.drop_zero]
          refine Y_if 38 (by simp only [ev, List.getElem?_cons_succ, List.getElem?_cons_zero, Option.getD_some]; exact rfl) ?_ ?_
          · intro b18
            have c18 := b18
            try simp only [decide_eq_true_eq, ge_iff_le] at c18
            refine Y_end fun R hR => ?_
            simp only [EVP, inr_i64, Int.reduceLE, Int.reduceNeg, app_get0, aops, astep, awant, aeff, aop, abin, aint, mkD, ev, ofValue, St.put, ia_int, List.getElem?_cons_succ, List.getElem?_cons_zero, Option.getD_some, Option.map_some, Option.bind_some, if_true, List.set_cons_succ, List.set_cons_zero, List.length_cons, List.length_nil, List.drop_succ_cons, List.drop_zero, List.take_succ_cons, List.take_zero, Nat.reduceAdd, Nat.reduceLeDiff, Nat.zero_add, Bool.false_eq_true, if_false, and_self, reduceCtorEq, beq_self_eq_true, ty_int, ty_api_VarDecl, b18]
            with_reducible refine hR _ ?_
            clear hR R
            show X _ _ _ _
            refine X_seq ?_
            refine X_y ?_
            refine Y_k 3 fun R hR => ?_
            simp only [EVP, aops, astep, awant, aeff, aop, ev, St.put, List.getElem?_cons_succ, List.getElem?_cons_zero, Option.getD_some, Option.map_some, if_true, List.set_cons_succ, List.set_cons_zero, List.take_succ_cons, List.take_zero]
            with_reducible refine hR _ ?_
            clear hR R
            simp only [List.drop_succ_cons, List.drop_zero]
            refine Y_if 45 (by simp only [ev, List.getElem?_cons_succ, List.getElem?_cons_zero, Option.getD_some]; exact rfl) ?_ ?_
            · intro b19
              have c19 := b19
              try simp only [Bool.not_eq_true', ne_eq, beq_eq_false_iff_ne] at c19
              refine Y_end fun R hR => ?_
              simp only [aops, astep, awant, aeff, aop, ev, ofValue, St.put, List.getElem?_cons_succ, List.getElem?_cons_zero, Option.getD_some, Option.map_some, Option.bind_some, if_true, List.set_cons_succ, List.set_cons_zero, beq_self_eq_true, b19]
              with_reducible refine hR _ ?_
              clear hR R
              show X _ _ _ _
              refine X_ite (by simp only [ev, List.getElem?_cons_succ, List.getElem?_cons_zero, Option.getD_some]; exact rfl) ?_ ?_
              · intro b20
                have c20 := b20
                try simp only [Bool.not_eq_true', decide_eq_false_iff_not, Int.not_le] at c20
                refine X_seq ?_
                refine X_rg fun R hR => ?_
                simp only [aops, astep, awant, aeff, aop, ev, ofValue, St.put, Option.getD_some, Option.map_some, if_true, List.set_cons_succ, List.set_cons_zero, b20]
                with_reducible refine hR _ ?_
                clear hR R
                show X _ _ _ _
                refine X_ret ?_
                show resD _ _ _ = some _
                simp only [resD, resAll, resOne, resTup, Try.results33, EVP, List.getElem?_cons_succ, List.getElem?_cons_zero, D.good, if_true, Option.map_some]
                have hF : dclB l[i] = false := (by unfold dclB; first | (simp [c16, c19]; done) | (simp [c1, c15, c16, c17, c18, c19, c20]; omega) | (simp; omega) | (exfalso; omega) | (simp_all; done) | (simp_all; omega) | (exfalso; simp_all; done) | (exfalso; simp_all; omega))
                rw [dclsB, all_false_at (p := dclB) hlt hF, Bool.and_false]
              · intro b21
                have c21 := b21
                try simp only [Bool.not_eq_false', decide_eq_true_eq] at c21
                refine X_skip ?_
                show X _ _ _ _
                have hbig : i < 9223372036854775807 := by omega
                refine X_rg fun R hR => ?_
                simp only [inr_i64, Int.reduceLE, Int.reduceNeg, aops, astep, awant, aeff, aop, abin, aint, ev, ofValue, St.put, List.getElem?_cons_succ, List.getElem?_cons_zero, Option.getD_some, Option.map_some, if_true, List.set_cons_succ, List.set_cons_zero, and_self, b21, nat_succ hbig]
                with_reducible refine hR _ ?_
                clear hR R
                show ∃ m, m < _ ∧ _
                have hok : dclB l[i] = true := (by unfold dclB; first | (simp [c16, c19]; done) | (simp [c16, c19]; omega) | (simp; omega) | (exfalso; omega) | (simp_all; done) | (simp_all; omega) | (exfalso; simp_all; done) | (exfalso; simp_all; omega))
                exact ⟨l.length - (i + 1), by omega, i + 1, _, rfl, rfl, by omega, Lib.hid (all_take_succ hlt hall.out hok)⟩
            · intro b22
              have c22 := b22
              try simp only [Bool.not_eq_false', beq_iff_eq] at c22
              refine Y_end fun R hR => ?_
              simp only [aops, astep, awant, aeff, aop, ev, ofValue, St.put, List.getElem?_cons_succ, List.getElem?_cons_zero, Option.getD_some, Option.map_some, Option.map_none, Option.bind_some, if_true, List.set_cons_succ, List.set_cons_zero, Bool.false_eq_true, if_false, bq_ft, b22]
              with_reducible refine hR _ ?_
              clear hR R
              show X _ _ _ _
              refine X_false (by simp only [ev, List.getElem?_cons_succ, List.getElem?_cons_zero, Option.getD_some]) ?_
              refine X_skip ?_
              show X _ _ _ _
              have hbig : i < 9223372036854775807 := by omega
              refine X_rg fun R hR => ?_
              simp only [inr_i64, Int.reduceLE, Int.reduceNeg, aops, astep, awant, aeff, aop, abin, aint, ev, ofValue, St.put, List.getElem?_cons_succ, List.getElem?_cons_zero, Option.getD_some, Option.map_some, if_true, List.set_cons_succ, List.set_cons_zero, and_self, nat_succ hbig]
              with_reducible refine hR _ ?_
              clear hR R
              show ∃ m, m < _ ∧ _
              have hok : dclB l[i] = true := (by unfold dclB; first | (simp [c16, c22]; done) | (simp [c1, c15, c16, c17, c18, c22]; omega) | (simp; omega) | (exfalso; omega) | (simp_all; done) | (simp_all; omega) | (exfalso; simp_all; done) | (exfalso; simp_all; omega))
              exact ⟨l.length - (i + 1), by omega, i + 1, _, rfl, rfl, by omega, Lib.hid (all_take_succ hlt hall.out hok)⟩
          · intro b23
            have c23 := b23
            try simp only [decide_eq_false_iff_not, Int.not_le, ge_iff_le] at c23
            refine Y_end fun R hR => ?_
            simp only [EVP, inr_i64, Int.reduceLE, Int.reduceNeg, aops, astep, awant, aeff, aop, abin, ev, ofValue, St.put, List.getElem?_cons_succ, List.getElem?_cons_zero, Option.getD_some, Option.map_some, Option.map_none, Option.bind_some, if_true, List.set_cons_succ, List.set_cons_zero, Nat.zero_add, Bool.false_eq_true, if_false, and_self, reduceCtorEq, bq_ft, ty_int, ty_api_VarDecl, b23]
            with_reducible refine hR _ ?_
            clear hR R
            show X _ _ _ _
            refine X_seq ?_
            refine X_y ?_
            refine Y_k 3 fun R hR => ?_
            simp only [EVP, aops, astep, awant, aeff, aop, ev, St.put, List.getElem?_cons_succ, List.getElem?_cons_zero, Option.getD_some, Option.map_some, if_true, List.set_cons_succ, List.set_cons_zero, List.take_succ_cons, List.take_zero]
            with_reducible refine hR _ ?_
            clear hR R
            simp only [List.drop_succ_cons, List.drop_zero]
            refine Y_if 45 (by simp only [ev, List.getElem?_cons_succ, List.getElem?_cons_zero, Option.getD_some]; exact rfl) ?_ ?_
            · intro b24
              have c24 := b24
              try simp only [Bool.not_eq_true', ne_eq, beq_eq_false_iff_ne] at c24
              refine Y_end fun R hR => ?_
              simp only [aops, astep, awant, aeff, aop, ev, ofValue, St.put, List.getElem?_cons_succ, List.getElem?_cons_zero, Option.getD_some, Option.map_some, Option.bind_some, if_true, List.set_cons_succ, List.set_cons_zero, Bool.not_false, beq_self_eq_true, b24]
              with_reducible refine hR _ ?_
              clear hR R
              show X _ _ _ _
              refine X_true (by simp only [ev, List.getElem?_cons_succ, List.getElem?_cons_zero, Option.getD_some]) ?_
              refine X_seq ?_
              refine X_rg fun R hR => ?_
              simp only [aops, astep, awant, aeff, aop, ev, ofValue, St.put, Option.getD_some, Option.map_some, if_true, List.set_cons_succ, List.set_cons_zero]
              with_reducible refine hR _ ?_
              clear hR R
              show X _ _ _ _
              refine X_ret ?_
              show resD _ _ _ = some _
              simp only [resD, resAll, resOne, resTup, Try.results33, EVP, List.getElem?_cons_succ, List.getElem?_cons_zero, D.good, if_true, Option.map_some]
              have hF : dclB l[i] = false := (by unfold dclB; first | (simp [c16, c24]; done) | (simp [c1, c15, c16, c17, c23, c24]; omega) | (simp; omega) | (exfalso; omega) | (simp_all; done) | (simp_all; omega) | (exfalso; simp_all; done) | (exfalso; simp_all; omega))
              rw [dclsB, all_false_at (p := dclB) hlt hF, Bool.and_false]
            · intro b25
              have c25 := b25
              try simp only [Bool.not_eq_false', beq_iff_eq] at c25
              refine Y_end fun R hR => ?_
              simp only [aops, astep, awant, aeff, aop, ev, ofValue, St.put, List.getElem?_cons_succ, List.getElem?_cons_zero, Option.getD_some, Option.map_some, Option.map_none, Option.bind_some, if_true, List.set_cons_succ, List.set_cons_zero, Bool.false_eq_true, if_false, bq_ft, b25]
              with_reducible refine hR _ ?_
              clear hR R
              show X _ _ _ _
              refine X_false (by simp only [ev, List.getElem?_cons_succ, List.getElem?_cons_zero, Option.getD_some]) ?_
              refine X_skip ?_
              show X _ _ _ _
              have hbig : i < 9223372036854775807 := by omega
              refine X_rg fun R hR => ?_
              simp only [inr_i64, Int.reduceLE, Int.reduceNeg, aops, astep, awant, aeff, aop, abin, aint, ev, ofValue, St.put, List.getElem?_cons_succ, List.getElem?_cons_zero, Option.getD_some, Option.map_some, if_true, List.set_cons_succ, List.set_cons_zero, and_self, nat_succ hbig]
              with_reducible refine hR _ ?_
              clear hR R
              show ∃ m, m < _ ∧ _
              have hok : dclB l[i] = true := (by unfold dclB; first | (simp [c16, c25]; done) | (simp [c1, c15, c16, c17, c23, c25]; omega) | (simp; omega) | (exfalso; omega) | (simp_all; done) | (simp_all; omega) | (exfalso; simp_all; done) | (exfalso; simp_all; omega))
              exact ⟨l.length - (i + 1), by omega, i + 1, _, rfl, rfl, by omega, Lib.hid (all_take_succ hlt hall.out hok)⟩
        · intro b26
          have c26 := b26
          try simp only [ne_eq, beq_eq_false_iff_ne] at c26
          refine Y_end fun R hR => ?_
          simp only [EVP, inr_i64, Int.reduceLE, Int.reduceNeg, aops, astep, awant, aeff, aop, abin, ev, ofValue, St.put, List.getElem?_cons_succ, List.getElem?_cons_zero, Option.getD_some, Option.map_some, Option.map_none, Option.bind_some, if_true, List.set_cons_succ, List.set_cons_zero, Nat.zero_add, Bool.false_eq_true, if_false, and_self, reduceCtorEq, bq_ft, ty_int, ty_api_VarDecl, b26]
          with_reducible refine hR _ ?_
          clear hR R
          show X _ _ _ _
          refine X_seq ?_
          refine X_y ?_
          refine Y_k 3 fun R hR => ?_
          simp only [EVP, aops, astep, awant, aeff, aop, ev, St.put, List.getElem?_cons_succ, List.getElem?_cons_zero, Option.getD_some, Option.map_some, if_true, List.set_cons_succ, List.set_cons_zero, List.take_succ_cons, List.take_zero]
          with_reducible refine hR _ ?_
          clear hR R
          simp only [List.drop_succ_cons, List.drop_zero]
          refine Y_if 45 (by simp only [ev, List.getElem?_cons_succ, List.getElem?_cons_zero, Option.getD_some]; exact rfl) ?_ ?_
          · intro b27
            have c27 := b27
            try simp only [Bool.not_eq_true', ne_eq, beq_eq_false_iff_ne] at c27
            refine Y_end fun R hR => ?_
            simp only [aops, astep, awant, aeff, aop, ev, ofValue, St.put, List.getElem?_cons_succ, List.getElem?_cons_zero, Option.getD_some, Option.map_some, Option.bind_some, if_true, List.set_cons_succ, List.set_cons_zero, Bool.not_false, beq_self_eq_true, b27]
            with_reducible refine hR _ ?_
            clear hR R
            show X _ _ _ _
            refine X_true (by simp only [ev, List.getElem?_cons_succ, List.getElem?_cons_zero, Option.getD_some]) ?_
            refine X_seq ?_
            refine X_rg fun R hR => ?_
            simp only [aops, astep, awant, aeff, aop, ev, ofValue, St.put, Option.getD_some, Option.map_some, if_true, List.set_cons_succ, List.set_cons_zero]
            with_reducible refine hR _ ?_
            clear hR R
            show X _ _ _ _
            refine X_ret ?_
            show resD _ _ _ = some _
            simp only [resD, resAll, resOne, resTup, Try.results33, EVP, List.getElem?_cons_succ, List.getElem?_cons_zero, D.good, if_true, Option.map_some]
            have hF : dclB l[i] = false := (by unfold dclB; first | (simp [c16, c27]; done) | (simp [c1, c15, c16, c26, c27]; omega) | (simp; omega) | (exfalso; omega) | (simp_all; done) | (simp_all; omega) | (exfalso; simp_all; done) | (exfalso; simp_all; omega))
            rw [dclsB, all_false_at (p := dclB) hlt hF, Bool.and_false]
          · intro b28
            have c28 := b28
            try simp only [Bool.not_eq_false', beq_iff_eq] at c28
            refine Y_end fun R hR => ?_
            simp only [aops, astep, awant, aeff, aop, ev, ofValue, St.put, List.getElem?_cons_succ, List.getElem?_cons_zero, Option.getD_some, Option.map_some, Option.map_none, Option.bind_some, if_true, List.set_cons_succ, List.set_cons_zero, Bool.false_eq_true, if_false, bq_ft, b28]
            with_reducible refine hR _ ?_
            clear hR R
            show X _ _ _ _
            refine X_false (by simp only [ev, List.getElem?_cons_succ, List.getElem?_cons_zero, Option.getD_some]) ?_
            refine X_skip ?_
            show X _ _ _ _
            have hbig : i < 9223372036854775807 := by omega
            refine X_rg fun R hR => ?_
            simp only [inr_i64, Int.reduceLE, Int.reduceNeg, aops, astep, awant, aeff, aop, abin, aint, ev, ofValue, St.put, List.getElem?_cons_succ, List.getElem?_cons_zero, Option.getD_some, Option.map_some, if_true, List.set_cons_succ, List.set_cons_zero, and_self, nat_succ hbig]
            with_reducible refine hR _ ?_
            clear hR R
            show ∃ m, m < _ ∧ _
            have hok : dclB l[i] = true := (by unfold dclB; first | (simp [c16, c28]; done) | (simp [c1, c15, c16, c26, c28]; omega) | (simp; omega) | (exfalso; omega) | (simp_all; done) | (simp_all; omega) | (exfalso; simp_all; done) | (exfalso; simp_all; omega))
            exact ⟨l.length - (i + 1), by omega, i + 1, _, rfl, rfl, by omega, Lib.hid (all_take_succ hlt hall.out hok)⟩
      · intro b29
        have c29 := b29
        try simp only [ne_eq, beq_eq_false_iff_ne] at c29
        refine Y_end fun R hR => ?_
        simp only [EVP, inr_i64, Int.reduceLE, Int.reduceNeg, aops, astep, awant, aeff, aop, abin, ev, ofValue, St.put, List.getElem?_cons_succ, List.getElem?_cons_zero, Option.getD_some, Option.map_some, Option.map_none, Option.bind_some, if_true, List.set_cons_succ, List.set_cons_zero, Nat.zero_add, Bool.false_eq_true, if_false, and_self, reduceCtorEq, bq_ft, ty_int, ty_api_VarDecl, b29]
        with_reducible refine hR _ ?_
        clear hR R
        show X _ _ _ _
        refine X_seq ?_
        refine X_y ?_
        refine Y_k 4 fun R hR => ?_
        simp only [EVP, inr_u8, Int.reduceLE, app_get0, aops, astep, awant, aeff, aop, abin, aint, mkD, ev, ofValue, St.put, ia_int, List.getElem?_cons_succ, List.getElem?_cons_zero, Option.getD_some, Option.map_some, if_true, List.set_cons_succ, List.set_cons_zero, List.length_cons, List.length_nil, List.drop_succ_cons, List.drop_zero, List.take_succ_cons, List.take_zero, Nat.reduceAdd, Nat.reduceLeDiff, Nat.zero_add, Bool.false_eq_true, if_false, and_self, reduceCtorEq, ty_uint8, ty_api_VarDecl]
        with_reducible refine hR _ ?_
        clear hR R
        simp only [List.drop_succ_cons, List.drop_zero]
        refine Y_if 33 (by simp only [ev, List.getElem?_cons_succ, List.getElem?_cons_zero, Option.getD_some]; exact rfl) ?_ ?_
        · intro b30
          have c30 := b30
          try simp only [beq_iff_eq] at c30
          refine Y_k 5 fun R hR => ?_
          simp only [EVP, inr_i64, Int.reduceLE, Int.reduceNeg, app_get0, aops, astep, awant, aeff, aop, abin, aint, mkD, ev, ofValue, St.put, ia_int, List.getElem?_cons_succ, List.getElem?_cons_zero, Option.getD_some, Option.map_some, Option.bind_some, if_true, List.set_cons_succ, List.set_cons_zero, List.length_cons, List.length_nil, List.drop_succ_cons, List.drop_zero, List.take_succ_cons, List.take_zero, Nat.reduceAdd, Nat.reduceLeDiff, Nat.zero_add, Bool.false_eq_true, if_false, and_self, reduceCtorEq, beq_self_eq_true, ty_int, ty_api_VarDecl, b30]
          with_reducible refine hR _ ?_
          clear hR R
          simp only [List.drop_succ_cons, List.drop_zero]
          refine Y_if 38 (by simp only [ev, List.getElem?_cons_succ, List.getElem?_cons_zero, Option.getD_some]; exact rfl) ?_ ?_
          · intro b31
            have c31 := b31
            try simp only [decide_eq_true_eq, ge_iff_le] at c31
            refine Y_end fun R hR => ?_
            simp only [EVP, inr_i64, Int.reduceLE, Int.reduceNeg, app_get0, aops, astep, awant, aeff, aop, abin, aint, mkD, ev, ofValue, St.put, ia_int, List.getElem?_cons_succ, List.getElem?_cons_zero, Option.getD_some, Option.map_some, Option.bind_some, if_true, List.set_cons_succ, List.set_cons_zero, List.length_cons, List.length_nil, List.drop_succ_cons, List.drop_zero, List.take_succ_cons, List.take_zero, Nat.reduceAdd, Nat.reduceLeDiff, Nat.zero_add, Bool.false_eq_true, if_false, and_self, reduceCtorEq, beq_self_eq_true, ty_int, ty_api_VarDecl, b31]
            with_reducible refine hR _ ?_
            clear hR R
            show X _ _ _ _
            refine X_seq ?_
            refine X_rg fun R hR => ?_
            simp only [aops, astep, awant, aeff, aop, ev, ofValue, St.put, List.getElem?_cons_succ, List.getElem?_cons_zero, Option.getD_some, Option.map_some, Option.bind_some, if_true, List.set_cons_succ, List.set_cons_zero, Bool.not_false, beq_self_eq_true]
            with_reducible refine hR _ ?_
            clear hR R
            show X _ _ _ _
            refine X_ite (by simp only [ev, List.getElem?_cons_succ, List.getElem?_cons_zero, Option.getD_some]; exact rfl) ?_ ?_
            · intro b32
              have c32 := b32
              try simp only [Bool.not_eq_true', decide_eq_false_iff_not, Int.not_le] at c32
              refine X_seq ?_
              refine X_rg fun R hR => ?_
              simp only [aops, astep, awant, aeff, aop, ev, ofValue, St.put, Option.getD_some, Option.map_some, if_true, List.set_cons_succ, List.set_cons_zero, b32]
              with_reducible refine hR _ ?_
              clear hR R
              show X _ _ _ _
              refine X_ret ?_
              show resD _ _ _ = some _
              simp only [resD, resAll, resOne, resTup, Try.results33, EVP, List.getElem?_cons_succ, List.getElem?_cons_zero, D.good, if_true, Option.map_some]
              have hF : dclB l[i] = false := (by unfold dclB; first | (simp [c30, c31, c32]; done) | (simp [c1, c15, c29, c30, c31, c32]; omega) | (simp; omega) | (exfalso; omega) | (simp_all; done) | (simp_all; omega) | (exfalso; simp_all; done) | (exfalso; simp_all; omega))
              rw [dclsB, all_false_at (p := dclB) hlt hF, Bool.and_false]
            · intro b33
              have c33 := b33
              try simp only [Bool.not_eq_false', decide_eq_true_eq] at c33
              refine X_skip ?_
              show X _ _ _ _
              have hbig : i < 9223372036854775807 := by omega
              refine X_rg fun R hR => ?_
              simp only [inr_i64, Int.reduceLE, Int.reduceNeg, aops, astep, awant, aeff, aop, abin, aint, ev, ofValue, St.put, List.getElem?_cons_succ, List.getElem?_cons_zero, Option.getD_some, Option.map_some, if_true, List.set_cons_succ, List.set_cons_zero, and_self, b33, nat_succ hbig]
              with_reducible refine hR _ ?_
              clear hR R
              show ∃ m, m < _ ∧ _
              have hok : dclB l[i] = true := (by unfold dclB; first | (simp [c30, c31, c33]; done) | (simp [c1, c15, c29, c30, c31, c33]; omega) | (simp; omega) | (exfalso; omega) | (simp_all; done) | (simp_all; omega) | (exfalso; simp_all; done) | (exfalso; simp_all; omega))
              exact ⟨l.length - (i + 1), by omega, i + 1, _, rfl, rfl, by omega, Lib.hid (all_take_succ hlt hall.out hok)⟩
          · intro b34
            have c34 := b34
            try simp only [decide_eq_false_iff_not, Int.not_le, ge_iff_le] at c34
            refine Y_end fun R hR => ?_
            simp only [EVP, inr_i64, Int.reduceLE, Int.reduceNeg, aops, astep, awant, aeff, aop, abin, ev, ofValue, St.put, List.getElem?_cons_succ, List.getElem?_cons_zero, Option.getD_some, Option.map_some, Option.map_none, Option.bind_some, if_true, List.set_cons_succ, List.set_cons_zero, Nat.zero_add, Bool.false_eq_true, if_false, and_self, reduceCtorEq, bq_ft, ty_int, ty_api_VarDecl, b34]
            with_reducible refine hR _ ?_
            clear hR R
            show X _ _ _ _
            refine X_seq ?_
            refine X_rg fun R hR => ?_
            simp only [aops, astep, awant, aeff, aop, ev, ofValue, St.put, List.getElem?_cons_succ, List.getElem?_cons_zero, Option.getD_some, Option.map_some, Option.bind_some, if_true, List.set_cons_succ, List.set_cons_zero, Bool.not_false, beq_self_eq_true]
            with_reducible refine hR _ ?_
            clear hR R
            show X _ _ _ _
            refine X_true (by simp only [ev, List.getElem?_cons_succ, List.getElem?_cons_zero, Option.getD_some]) ?_
            refine X_seq ?_
            refine X_rg fun R hR => ?_
            simp only [aops, astep, awant, aeff, aop, ev, ofValue, St.put, Option.getD_some, Option.map_some, if_true, List.set_cons_succ, List.set_cons_zero]
            with_reducible refine hR _ ?_
            clear hR R
            show X _ _ _ _
            refine X_ret ?_
            show resD _ _ _ = some _
            simp only [resD, resAll, resOne, resTup, Try.results33, EVP, List.getElem?_cons_succ, List.getElem?_cons_zero, D.good, if_true, Option.map_some]
            have hF : dclB l[i] = false := (by unfold dclB; first | (simp [c30]; done) | (simp [c30]; omega) | (simp; omega) | (exfalso; omega) | (simp_all; done) | (simp_all; omega) | (exfalso; simp_all; done) | (exfalso; simp_all; omega))
            rw [dclsB, all_false_at (p := dclB) hlt hF, Bool.and_false]
        · intro b35
          have c35 := b35
          try simp only [ne_eq, beq_eq_false_iff_ne] at c35
          refine Y_end fun R hR => ?_
          simp only [EVP, inr_i64, Int.reduceLE, Int.reduceNeg, aops, astep, awant, aeff, aop, abin, ev, ofValue, St.put, List.getElem?_cons_succ, List.getElem?_cons_zero, Option.getD_some, Option.map_some, Option.map_none, Option.bind_some, if_true, List.set_cons_succ, List.set_cons_zero, Nat.zero_add, Bool.false_eq_true, if_false, and_self, reduceCtorEq, bq_ft, ty_int, ty_api_VarDecl, b35]
          with_reducible refine hR _ ?_
          clear hR R
          show X _ _ _ _
          refine X_seq ?_
          refine X_rg fun R hR => ?_
          simp only [aops, astep, awant, aeff, aop, ev, ofValue, St.put, List.getElem?_cons_succ, List.getElem?_cons_zero, Option.getD_some, Option.map_some, Option.bind_some, if_true, List.set_cons_succ, List.set_cons_zero, Bool.not_false, beq_self_eq_true]
          with_reducible refine hR _ ?_
          clear hR R
          show X _ _ _ _
          refine X_true (by simp only [ev, List.getElem?_cons_succ, List.getElem?_cons_zero, Option.getD_some]) ?_
          refine X_seq ?_
          refine X_rg fun R hR => ?_
          simp only [aops, astep, awant, aeff, aop, ev, ofValue, St.put, Option.getD_some, Option.map_some, if_true, List.set_cons_succ, List.set_cons_zero]
          with_reducible refine hR _ ?_
          clear hR R
          show X _ _ _ _
          refine X_ret ?_
          show resD _ _ _ = some _
          simp only [resD, resAll, resOne, resTup, Try.results33, EVP, List.getElem?_cons_succ, List.getElem?_cons_zero, D.good, if_true, Option.map_some]
          have hF : dclB l[i] = false := (by unfold dclB; first | (simp [c15, c29, c35]; done) | (simp [c1, c15, c29, c35]; omega) | (simp; omega) | (exfalso; omega) | (simp_all; done) | (simp_all; omega) | (exfalso; simp_all; done) | (exfalso; simp_all; omega))
          rw [dclsB, all_false_at (p := dclB) hlt hF, Bool.and_false]
  · intro b36
    have c36 := b36
    try simp only [decide_eq_false_iff_not] at c36
    refine X_exit ?_
    show X _ _ _ _
    refine X_seq ?_
    refine X_rg fun R hR => ?_
    simp only [EVP, inr_i64, Int.reduceLE, Int.reduceNeg, aops, astep, awant, aeff, aop, abin, aint, ev, ofValue, St.put, List.getElem?_cons_succ, List.getElem?_cons_zero, Option.getD_some, Option.map_some, if_true, List.set_cons_succ, List.set_cons_zero, List.length_map, and_self, und_api_VarDecl, b36]
    with_reducible refine hR _ ?_
    clear hR R
    show X _ _ _ _
    refine X_ret ?_
    show resD _ _ _ = some _
    simp only [resD, resAll, resOne, resTup, Try.results33, EVP, List.getElem?_cons_succ, List.getElem?_cons_zero, D.good, if_true, Option.map_some]
    have hA := hall.out
    rw [List.take_of_length_le (by omega)] at hA
    have h9 : decide ((l.length : Int) ≤ 32) = decide (l.length ≤ 32) := by rw [decide_eq_decide]; omega
    rw [dclsB, hA, Bool.and_true, h9]
def declV (t : Tr) : Vd × Bool := if t.kind = 54 then (⟨t.name, 1, 0⟩, true) else if t.kind = 55 then (⟨t.name, 3, 0⟩, true) else (noV, false)
theorem loc_decl (t : Tr) : locV t = if (declV t).2 then some (declV t).1 else none := by
  unfold locV declV
  split
  · rfl
  · split <;> rfl
set_option maxRecDepth 100000 in
set_option maxHeartbeats 4000000 in
theorem declared6_fn (t : Tr) : fn EV 60 [dN t] = some (.tup [dV (declV t).1, .bool (declV t).2]) := by
  refine fn_X rfl Try.func60 rfl (by simp only [plain, List.all_cons, List.all_nil, dN_pl, Bool.and_true]) (rfl) (rfl) (rfl) ?_
  simp only [List.map_cons, List.map_nil, dN_strip]
  simp only [enterSt, Try.ntmps60, List.length_cons, List.length_nil, Nat.reduceAdd, Nat.reduceSub, List.replicate_succ, List.replicate_zero, List.cons_append, List.nil_append]
  refine X_seq ?_
  refine X_rg fun R hR => ?_
  simp only [EVP, aops, astep, awant, aeff, aop, ev, ofValue, St.put, List.getElem?_cons_zero, Option.getD_some, Option.map_some, Option.bind_some, if_true, List.set_cons_succ, List.set_cons_zero, List.length_cons, List.length_nil, List.cons_append, List.nil_append, Nat.zero_add, ty_api_VarDecl, dN_cells, dN_good, sl]
  with_reducible refine hR _ ?_
  clear hR R
  show X _ _ _ _
  refine X_seq ?_
  refine X_seq ?_
  refine X_rg fun R hR => ?_
  simp only [EVP, inr_u8, Int.reduceLE, aops, astep, awant, aeff, aop, abin, aint, mkD, ev, ofValue, St.put, ia_int, List.getElem?_cons_succ, List.getElem?_cons_zero, Option.getD_some, Option.map_some, if_true, List.set_cons_succ, List.set_cons_zero, List.length_cons, List.length_nil, List.drop_zero, List.take_succ_cons, List.take_zero, Nat.reduceAdd, Nat.reduceLeDiff, Nat.zero_add, Nat.add_zero, Bool.false_eq_true, if_false, and_self, reduceCtorEq, ty_uint8, ty_api_Node]
  with_reducible refine hR _ ?_
  clear hR R
  show X _ _ _ _
  refine X_ite (by simp only [ev, List.getElem?_cons_succ, List.getElem?_cons_zero, Option.getD_some]; exact rfl) ?_ ?_
  · intro b1
    have c1 := b1
    try simp only [beq_iff_eq] at c1
    refine X_seq ?_
    refine X_rg fun R hR => ?_
    simp only [EVP, inr_u8, Int.reduceLE, aops, astep, awant, aeff, aop, mkD, afill, astore, ev, ofValue, St.put, gd_int, cl_int, gd_str, ia_str, cl_str, gd_agg, cl_agg, List.map_cons, List.map_nil, List.getElem?_cons_succ, List.getElem?_cons_zero, Option.getD_some, Option.map_some, if_true, List.set_cons_succ, List.set_cons_zero, List.length_cons, List.length_nil, List.drop_succ_cons, List.drop_zero, List.take_succ_cons, List.take_zero, List.cons_append, List.nil_append, Nat.reduceAdd, Nat.reduceLeDiff, Nat.zero_add, Bool.false_eq_true, if_false, and_self, reduceCtorEq, beq_self_eq_true, ty_string, ty_api_Node, ty_api_VarDecl, st_api_VarDecl, sta_api_VarDecl, c1]
    with_reducible refine hR _ ?_
    clear hR R
    show X _ _ _ _
    refine X_ret ?_
    show resD _ _ _ = some _
    simp only [resD, resAll, resOne, resTup, Try.results60, EVP, mkD, ty_api_VarDecl, List.getElem?_cons_succ, List.getElem?_cons_zero, List.drop_zero, List.take_succ_cons, List.take_zero, List.length_cons, List.length_nil, Nat.reduceAdd, Nat.reduceLeDiff, Nat.zero_add, D.good, if_true, Option.map_some] <;> (first | (rfl; done) | (simp_all [declV, dV]; done) | (simp_all [declV, noV, dV]; rfl; done) | (exfalso; simp_all; done))
  · intro b2
    have c2 := b2
    try simp only [ne_eq, beq_eq_false_iff_ne] at c2
    refine X_skip ?_
    show X _ _ _ _
    refine X_seq ?_
    refine X_seq ?_
    refine X_rg fun R hR => ?_
    simp only [EVP, inr_u8, Int.reduceLE, aops, astep, awant, aeff, aop, abin, aint, mkD, ev, ofValue, St.put, ia_int, List.getElem?_cons_succ, List.getElem?_cons_zero, Option.getD_some, Option.map_some, if_true, List.set_cons_succ, List.set_cons_zero, List.length_cons, List.length_nil, List.drop_zero, List.take_succ_cons, List.take_zero, Nat.reduceAdd, Nat.reduceLeDiff, Nat.zero_add, Nat.add_zero, Bool.false_eq_true, if_false, and_self, reduceCtorEq, ty_uint8, ty_api_Node, b2]
    with_reducible refine hR _ ?_
    clear hR R
    show X _ _ _ _
    refine X_ite (by simp only [ev, List.getElem?_cons_succ, List.getElem?_cons_zero, Option.getD_some]; exact rfl) ?_ ?_
    · intro b3
      have c3 := b3
      try simp only [beq_iff_eq] at c3
      refine X_seq ?_
      refine X_rg fun R hR => ?_
      simp only [EVP, inr_u8, Int.reduceLE, aops, astep, awant, aeff, aop, mkD, afill, astore, ev, ofValue, St.put, gd_int, cl_int, gd_str, ia_str, cl_str, gd_agg, cl_agg, List.map_cons, List.map_nil, List.getElem?_cons_succ, List.getElem?_cons_zero, Option.getD_some, Option.map_some, if_true, List.set_cons_succ, List.set_cons_zero, List.length_cons, List.length_nil, List.drop_succ_cons, List.drop_zero, List.take_succ_cons, List.take_zero, List.cons_append, List.nil_append, Nat.reduceAdd, Nat.reduceLeDiff, Nat.zero_add, Bool.false_eq_true, if_false, and_self, reduceCtorEq, beq_self_eq_true, ty_string, ty_api_Node, ty_api_VarDecl, st_api_VarDecl, sta_api_VarDecl, c3]
      with_reducible refine hR _ ?_
      clear hR R
      show X _ _ _ _
      refine X_ret ?_
      show resD _ _ _ = some _
      simp only [resD, resAll, resOne, resTup, Try.results60, EVP, mkD, ty_api_VarDecl, List.getElem?_cons_succ, List.getElem?_cons_zero, List.drop_zero, List.take_succ_cons, List.take_zero, List.length_cons, List.length_nil, Nat.reduceAdd, Nat.reduceLeDiff, Nat.zero_add, D.good, if_true, Option.map_some] <;> (first | (rfl; done) | (simp_all [declV, dV]; done) | (simp_all [declV, noV, dV]; rfl; done) | (exfalso; simp_all; done))
    · intro b4
      have c4 := b4
      try simp only [ne_eq, beq_eq_false_iff_ne] at c4
      refine X_skip ?_
      show X _ _ _ _
      refine X_seq ?_
      refine X_rg fun R hR => ?_
      simp only [EVP, aops, astep, awant, aeff, aop, afill, astore, ev, ofValue, St.put, gd_agg, cl_agg, List.map_nil, List.getElem?_cons_succ, List.getElem?_cons_zero, Option.getD_some, Option.map_some, if_true, List.set_cons_succ, List.set_cons_zero, List.length_cons, List.length_nil, List.drop_succ_cons, List.drop_zero, List.take_zero, List.cons_append, List.nil_append, Nat.reduceAdd, Nat.reduceLeDiff, Nat.zero_add, and_self, ty_api_VarDecl, st_api_VarDecl, sta_api_VarDecl, b4]
      with_reducible refine hR _ ?_
      clear hR R
      show X _ _ _ _
      refine X_ret ?_
      show resD _ _ _ = some _
      simp only [resD, resAll, resOne, resTup, Try.results60, EVP, mkD, ty_api_VarDecl, List.getElem?_cons_succ, List.getElem?_cons_zero, List.drop_zero, List.take_succ_cons, List.take_zero, List.length_cons, List.length_nil, Nat.reduceAdd, Nat.reduceLeDiff, Nat.zero_add, D.good, if_true, Option.map_some] <;> (first | (rfl; done) | (simp_all [declV, noV, dV]; done) | (simp_all [declV, noV, dV]; rfl; done) | (exfalso; simp_all; done))
mutual
/-- the declarations of all locals, in pre-order -/
def lcs : Tr → List Vd
  | .mk k n s c => (locV (.mk k n s c)).toList ++ lcss c
def lcss : List Tr → List Vd
  | [] => []
  | t :: r => lcs t ++ lcss r
end
theorem lcs_eq (t : Tr) : lcs t = (locV t).toList ++ lcss t.kids := by cases t; rfl
theorem opt_len (o : Option Vd) : o.toList.length ≤ 1 := by cases o <;> simp
mutual
theorem lcs_len : ∀ t : Tr, (lcs t).length ≤ t.size
  | .mk k n s c => by
    have h1 := opt_len (locV (.mk k n s c))
    have h2 := lcss_len c
    simp only [lcs, List.length_append, Tr.size]; omega
theorem lcss_len : ∀ c : List Tr, (lcss c).length ≤ Tr.sizes c
  | [] => Nat.le_refl _
  | t :: r => by
    have h1 := lcs_len t
    have h2 := lcss_len r
    simp only [lcss, List.length_append, Tr.sizes]; omega
end
theorem lcss_drop {c : List Tr} {i : Nat} (h : i < c.length) : lcss (c.drop i) = lcs c[i] ++ lcss (c.drop (i + 1)) := by
  rw [List.drop_eq_getElem_cons h]; rfl
mutual
theorem lcs_walk : ∀ (t : Tr) (p : List Int), ((walkL p t).map (·.2)).filterMap locV = lcs t
  | .mk k n s c, p => by
    have h := lcss_walk c p 0
    simp only [walkL, lcs, List.map_cons, List.filterMap_cons]
    cases hq : locV (.mk k n s c) with
    | none => simpa using h
    | some v => simpa using h
theorem lcss_walk : ∀ (c : List Tr) (p : List Int) (i : Nat), ((walksL p i c).map (·.2)).filterMap locV = lcss c
  | [], _, _ => rfl
  | t :: r, p, i => by simp only [walksL, lcss, List.map_append, List.filterMap_append, lcs_walk t, lcss_walk r]
end
set_option maxRecDepth 100000 in
set_option maxHeartbeats 4000000 in
theorem locals_fn : ∀ (N : Nat) (t : Tr), t.size ≤ N → N ≤ 1000000 → fn EV 35 [dN t] = some (sl 3 ((lcs t).map dV)) := by
  intro N
  induction N with
  | zero => intro t h; cases t; simp only [Tr.size] at h; omega
  | succ N IH =>
  intro t hN hNb
  have ih := fun (c : Tr) (hc : c.size < t.size) => IH c (by omega) (by omega)
  clear IH
  refine fn_Xs rfl Try.func35 rfl (by simp only [plain, List.all_cons, List.all_nil, dN_pl, Bool.and_true]) rfl ?_
  simp only [List.map_cons, List.map_nil, dN_strip]
  simp only [enterSt, Try.ntmps35, List.length_cons, List.length_nil, Nat.reduceAdd, Nat.reduceSub, List.replicate_succ, List.replicate_zero, List.cons_append, List.nil_append]
  refine X_seq ?_
  refine X_rg fun R hR => ?_
  simp only [aops, astep, awant, aeff, aop, ev, ofValue, St.put, List.getElem?_cons_zero, Option.getD_some, Option.map_some, if_true, List.set_cons_succ, List.set_cons_zero, List.length_nil, List.nil_append, dN_cells, dN_good, sl]
  with_reducible refine hR _ ?_
  clear hR R
  show X _ _ _ _
  refine X_seq ?_
  refine X_rg fun R hR => ?_
  simp only [aops, astep, awant, aeff, aop, ev, ofValue, St.put, Option.getD_some, Option.map_some, if_true, List.set_cons_succ, List.set_cons_zero]
  with_reducible refine hR _ ?_
  clear hR R
  show X _ _ _ _
  refine X_seq ?_
  refine X_seq ?_
  have hde := declared6_fn t
  simp only [dV] at hde
  refine X_rg fun R hR => ?_
  simp only [EVP, aops, astep, awant, aeff, aop, mkD, astore, ev, St.put, pcall, gd_agg, cl_agg, List.map_cons, List.map_nil, List.getElem?_cons_succ, List.getElem?_cons_zero, Option.getD_some, Option.map_some, Option.bind_some, if_true, List.set_cons_succ, List.set_cons_zero, List.length_cons, List.length_nil, List.drop_succ_cons, List.drop_zero, List.take_succ_cons, List.take_zero, List.cons_append, List.nil_append, Nat.reduceAdd, Nat.reduceLeDiff, Nat.zero_add, and_self, ty_api_Node, ty_api_VarDecl, any60, dN_agg, hde]
  with_reducible refine hR _ ?_
  clear hR R
  show X _ _ _ _
  refine X_seq ?_
  refine X_rg fun R hR => ?_
  simp only [aops, astep, awant, aeff, aop, ev, St.put, List.getElem?_cons_succ, List.getElem?_cons_zero, Option.getD_some, Option.map_some, if_true, List.set_cons_succ, List.set_cons_zero, dV_agg]
  with_reducible refine hR _ ?_
  clear hR R
  show X _ _ _ _
  refine X_ite (by simp only [ev, List.getElem?_cons_succ, List.getElem?_cons_zero, Option.getD_some]; exact rfl) ?_ ?_
  · intro b1
    have c1 := b1
    try simp only [Bool.not_eq_true', Bool.not_eq_false', decide_eq_true_eq, decide_eq_false_iff_not, beq_iff_eq, Int.not_lt, Int.not_le, ge_iff_le, gt_iff_lt, bne_iff_ne, ne_eq, bne_eq_false_iff_eq, beq_eq_false_iff_ne, Bool.and_eq_true, Bool.or_eq_false_iff] at c1
    obtain ⟨lv1, hacc, hap⟩ := (AccB.nil 46 3 0 []).app1 (P := Try.prog) (t := 38) und_api_VarDecl inf_api_VarDecl_eq inf_api_VarDecl_size (by omega) (by rw [inf_api_VarDecl_bytes]; omega) inf_api_VarDecl_zc (dV (declV t).1) (by simp)
    simp only [List.nil_append, Nat.zero_add] at hap hacc
    refine X_rg fun R hR => ?_
    simp only [EVP, aops, astep, awant, aeff, aop, mkD, abuild, ev, ofValue, St.put, List.map_cons, List.map_nil, List.getElem?_cons_succ, List.getElem?_cons_zero, Option.getD_some, Option.map_some, if_true, List.set_cons_succ, List.set_cons_zero, List.length_cons, List.length_nil, List.drop_zero, List.take_succ_cons, List.take_zero, Nat.reduceAdd, Nat.reduceLeDiff, Nat.reduceLT, Nat.zero_add, Bool.and_true, and_self, List.all_cons, List.all_nil, beq_self_eq_true, Nat.reduceMul, rng_1, ty_api_VarDecl, und_api_VarDecl, inf_api_VarDecl_eq, inf_api_VarDecl_size, inf_api_VarDecl_zero, dV_cells, dV_good, dV_agg, b1, hap]
    with_reducible refine hR _ ?_
    clear hR R
    show X _ _ _ _
    refine X_seq ?_
    refine X_seq ?_
    refine X_rg fun R hR => ?_
    simp only [inr_i64, Int.reduceLE, Int.reduceNeg, aops, astep, awant, aeff, aop, ev, ofValue, St.put, Option.getD_some, Option.map_some, if_true, List.set_cons_succ, List.set_cons_zero, and_self]
    with_reducible refine hR _ ?_
    clear hR R
    show X _ _ _ _
    refine X_block ?_
    have hde2 : (declV t).2 = true := by first | assumption | (simp_all; done)
    refine X_loop (fun m σ => ∃ (i : Nat) (o : Own) (n : Nat) (L : List Vd) (r : List (List D)) (nx : Nat) (lv : List Nat), σ = ⟨[slotOf σ 0, .ptr 0 0, slotOf σ 2, .slice o n (L.map dV), slotOf σ 4, slotOf σ 5, .int .i64 i, slotOf σ 7, slotOf σ 8, slotOf σ 9, slotOf σ 10, slotOf σ 11, slotOf σ 12, slotOf σ 13, slotOf σ 14, slotOf σ 15, slotOf σ 16, slotOf σ 17, slotOf σ 18, slotOf σ 19, slotOf σ 20, slotOf σ 21, slotOf σ 22, slotOf σ 23, slotOf σ 24, slotOf σ 25, slotOf σ 26, slotOf σ 27, slotOf σ 28, slotOf σ 29, slotOf σ 30, slotOf σ 31, slotOf σ 32], [.int .u8 t.kind, .int .i64 t.num, .str t.name, .slice .imm (if (t.kids.map dN).isEmpty = true then 0 else 4) (t.kids.map dN)] :: r, nx, lv⟩ ∧ m = t.kids.length - i ∧ i ≤ t.kids.length ∧ Hid (AccB 46 3 o n (L.map dV) nx lv) ∧ Hid (L ++ lcss (t.kids.drop i) = lcs t)) ?_ (t.kids.length) _ ?_
    rotate_left
    · exact ⟨0, _, _, [(declV t).1], _, _, _, rfl, rfl, Nat.zero_le _, Lib.hid hacc, Lib.hid (by rw [lcs_eq, loc_decl, hde2]; rfl)⟩
    rintro m σ ⟨i, o, n, L, r, nx, lv, hσ, rfl, hi, ha, hL⟩
    generalize slotOf σ = x at hσ
    subst hσ
    refine X_seq ?_
    refine X_seq ?_
    refine X_rg fun R hR => ?_
    simp only [EVP, nat_lt, aops, astep, awant, aeff, aop, abin, aint, mkD, ev, St.put, ia_slice, List.getElem?_cons_succ, List.getElem?_cons_zero, Option.getD_some, Option.map_some, if_true, List.set_cons_succ, List.set_cons_zero, List.length_map, List.length_cons, List.length_nil, List.drop_succ_cons, List.drop_zero, List.take_succ_cons, List.take_zero, Nat.reduceAdd, Nat.reduceLeDiff, Nat.zero_add, Bool.false_eq_true, if_false, reduceCtorEq, ty_s_api_Node, ty_api_Node, und_api_Node]
    with_reducible refine hR _ ?_
    clear hR R
    show X _ _ _ _
    refine X_ite (by simp only [ev, List.getElem?_cons_succ, List.getElem?_cons_zero, Option.getD_some]; exact rfl) ?_ ?_
    · intro b2
      have c2 := b2
      try simp only [decide_eq_true_eq] at c2
      refine X_skip ?_
      show X _ _ _ _
      refine X_seq ?_
      refine X_block ?_
      have hlt : i < t.kids.length := by first | assumption | omega
      have hn1 : ((if (t.kids.map dN).isEmpty = true then 0 else 4) = 4) = True := eq_true (sl_n (j := i) (by simpa using hlt))
      have ek : (t.kids.map dN)[i]? = some (dN t.kids[i]) := by simp [hlt]
      have hih := ih t.kids[i] (Tr.size_kid hlt)
      simp only [sl] at hih
      have hlL : L.length + (lcs t.kids[i]).length ≤ (lcs t).length := by rw [← hL.out, lcss_drop hlt]; simp only [List.length_append]; omega
      have hlt2 := lcs_len t
      obtain ⟨o5, n5, nx5, lv5, ha5, hap5⟩ := ha.out.appE (P := Try.prog) (t := 38) und_api_VarDecl inf_api_VarDecl_eq inf_api_VarDecl_size (by omega) (by rw [inf_api_VarDecl_bytes]; omega) inf_api_VarDecl_zc ((lcs t.kids[i]).map dV) (by simp; omega)
      refine X_rg fun R hR => ?_
      simp only [EVP, nat_lt, nat_0, nat_to, aops, astep, awant, aeff, aop, mkD, ev, St.put, pcall, ia_slice, List.map_cons, List.map_nil, List.getElem?_cons_succ, List.getElem?_cons_zero, Option.getD_some, Option.map_some, if_true, List.set_cons_succ, List.set_cons_zero, List.length_map, List.length_cons, List.length_nil, List.drop_succ_cons, List.drop_zero, List.take_succ_cons, List.take_zero, List.cons_append, List.nil_append, Nat.reduceAdd, Nat.reduceLeDiff, Nat.zero_add, Bool.false_eq_true, if_false, and_self, reduceCtorEq, decide_true, Option.isSome_some, ty_s_api_Node, ty_api_Node, und_api_Node, siz_api_Node, inf_api_Node_eq, any35, dN_cells, dN_isAgg, sl, hlt, hn1, ek, hih, hap5]
      with_reducible refine hR _ ?_
      clear hR R
      show X _ _ _ _
      have hbig : i < 9223372036854775807 := by have := Tr.length_kids t; omega
      refine X_rg fun R hR => ?_
      simp only [inr_i64, Int.reduceLE, Int.reduceNeg, aops, astep, awant, aeff, aop, abin, aint, ev, ofValue, St.put, List.getElem?_cons_succ, List.getElem?_cons_zero, Option.getD_some, Option.map_some, if_true, List.set_cons_succ, List.set_cons_zero, and_self, nat_succ hbig]
      with_reducible refine hR _ ?_
      clear hR R
      show ∃ m, m < _ ∧ _
      exact ⟨t.kids.length - (i + 1), by omega, i + 1, o5, n5, L ++ lcs t.kids[i], _, nx5, lv5, by rw [List.map_append]; rfl, rfl, by omega, Lib.hid (by rw [List.map_append]; exact ha5), Lib.hid (by rw [← hL.out, lcss_drop hlt, List.append_assoc])⟩
    · intro b3
      have c3 := b3
      try simp only [decide_eq_false_iff_not] at c3
      refine X_exit ?_
      show X _ _ _ _
      refine X_seq ?_
      refine X_rg fun R hR => ?_
      simp only [aops, astep, awant, aeff, aop, ev, St.put, List.getElem?_cons_succ, List.getElem?_cons_zero, Option.getD_some, Option.map_some, if_true, List.set_cons_succ, List.set_cons_zero, b3]
      with_reducible refine hR _ ?_
      clear hR R
      show X _ _ _ _
      refine X_ret ?_
      show ∃ d, resD _ _ _ = some d ∧ _ ∧ _
      simp only [resD, resAll, resOne, resTup, Try.results35, EVP, List.getElem?_cons_succ, List.getElem?_cons_zero, D.good, if_true, Option.map_some]
      have hT : L = lcs t := by have h1 := hL.out; rw [List.drop_of_length_le (by omega)] at h1; simpa only [lcss, List.append_nil] using h1
      have hst := ha.out.a.strip
      exact ⟨_, rfl, by simp only [D.under, unders_id (f := dV) (fun _ _ => rfl)], by rw [hst, List.map_map, show (D.strip ∘ dV) = dV from funext fun _ => rfl, hT]; rfl⟩
  · intro b4
    have c4 := b4
    try simp only [Bool.not_eq_true', Bool.not_eq_false', decide_eq_true_eq, decide_eq_false_iff_not, beq_iff_eq, Int.not_lt, Int.not_le, ge_iff_le, gt_iff_lt, bne_iff_ne, ne_eq, bne_eq_false_iff_eq, beq_eq_false_iff_ne, Bool.and_eq_true, Bool.or_eq_false_iff] at c4
    refine X_skip ?_
    show X _ _ _ _
    refine X_seq ?_
    refine X_seq ?_
    refine X_rg fun R hR => ?_
    simp only [inr_i64, Int.reduceLE, Int.reduceNeg, aops, astep, awant, aeff, aop, ev, ofValue, St.put, Option.getD_some, Option.map_some, if_true, List.set_cons_succ, List.set_cons_zero, and_self, b4]
    with_reducible refine hR _ ?_
    clear hR R
    show X _ _ _ _
    refine X_block ?_
    have hde2 : (declV t).2 = false := by first | assumption | (simp_all; done)
    refine X_loop (fun m σ => ∃ (i : Nat) (o : Own) (n : Nat) (L : List Vd) (r : List (List D)) (nx : Nat) (lv : List Nat), σ = ⟨[slotOf σ 0, .ptr 0 0, slotOf σ 2, .slice o n (L.map dV), slotOf σ 4, slotOf σ 5, .int .i64 i, slotOf σ 7, slotOf σ 8, slotOf σ 9, slotOf σ 10, slotOf σ 11, slotOf σ 12, slotOf σ 13, slotOf σ 14, slotOf σ 15, slotOf σ 16, slotOf σ 17, slotOf σ 18, slotOf σ 19, slotOf σ 20, slotOf σ 21, slotOf σ 22, slotOf σ 23, slotOf σ 24, slotOf σ 25, slotOf σ 26, slotOf σ 27, slotOf σ 28, slotOf σ 29, slotOf σ 30, slotOf σ 31, slotOf σ 32], [.int .u8 t.kind, .int .i64 t.num, .str t.name, .slice .imm (if (t.kids.map dN).isEmpty = true then 0 else 4) (t.kids.map dN)] :: r, nx, lv⟩ ∧ m = t.kids.length - i ∧ i ≤ t.kids.length ∧ Hid (AccB 46 3 o n (L.map dV) nx lv) ∧ Hid (L ++ lcss (t.kids.drop i) = lcs t)) ?_ (t.kids.length) _ ?_
    rotate_left
    · exact ⟨0, .nil, 0, [], _, 0, [], rfl, rfl, Nat.zero_le _, Lib.hid (.nil _ _ _ _), Lib.hid (by rw [lcs_eq, loc_decl, hde2]; rfl)⟩
    rintro m σ ⟨i, o, n, L, r, nx, lv, hσ, rfl, hi, ha, hL⟩
    generalize slotOf σ = x at hσ
    subst hσ
    refine X_seq ?_
    refine X_seq ?_
    refine X_rg fun R hR => ?_
    simp only [EVP, nat_lt, aops, astep, awant, aeff, aop, abin, aint, mkD, ev, St.put, ia_slice, List.getElem?_cons_succ, List.getElem?_cons_zero, Option.getD_some, Option.map_some, if_true, List.set_cons_succ, List.set_cons_zero, List.length_map, List.length_cons, List.length_nil, List.drop_succ_cons, List.drop_zero, List.take_succ_cons, List.take_zero, Nat.reduceAdd, Nat.reduceLeDiff, Nat.zero_add, Bool.false_eq_true, if_false, reduceCtorEq, ty_s_api_Node, ty_api_Node, und_api_Node]
    with_reducible refine hR _ ?_
    clear hR R
    show X _ _ _ _
    refine X_ite (by simp only [ev, List.getElem?_cons_succ, List.getElem?_cons_zero, Option.getD_some]; exact rfl) ?_ ?_
    · intro b5
      have c5 := b5
      try simp only [decide_eq_true_eq] at c5
      refine X_skip ?_
      show X _ _ _ _
      refine X_seq ?_
      refine X_block ?_
      have hlt : i < t.kids.length := by first | assumption | omega
      have hn1 : ((if (t.kids.map dN).isEmpty = true then 0 else 4) = 4) = True := eq_true (sl_n (j := i) (by simpa using hlt))
      have ek : (t.kids.map dN)[i]? = some (dN t.kids[i]) := by simp [hlt]
      have hih := ih t.kids[i] (Tr.size_kid hlt)
      simp only [sl] at hih
      have hlL : L.length + (lcs t.kids[i]).length ≤ (lcs t).length := by rw [← hL.out, lcss_drop hlt]; simp only [List.length_append]; omega
      have hlt2 := lcs_len t
      obtain ⟨o5, n5, nx5, lv5, ha5, hap5⟩ := ha.out.appE (P := Try.prog) (t := 38) und_api_VarDecl inf_api_VarDecl_eq inf_api_VarDecl_size (by omega) (by rw [inf_api_VarDecl_bytes]; omega) inf_api_VarDecl_zc ((lcs t.kids[i]).map dV) (by simp; omega)
      refine X_rg fun R hR => ?_
      simp only [EVP, nat_lt, nat_0, nat_to, aops, astep, awant, aeff, aop, mkD, ev, St.put, pcall, ia_slice, List.map_cons, List.map_nil, List.getElem?_cons_succ, List.getElem?_cons_zero, Option.getD_some, Option.map_some, if_true, List.set_cons_succ, List.set_cons_zero, List.length_map, List.length_cons, List.length_nil, List.drop_succ_cons, List.drop_zero, List.take_succ_cons, List.take_zero, List.cons_append, List.nil_append, Nat.reduceAdd, Nat.reduceLeDiff, Nat.zero_add, Bool.false_eq_true, if_false, and_self, reduceCtorEq, decide_true, Option.isSome_some, ty_s_api_Node, ty_api_Node, und_api_Node, siz_api_Node, inf_api_Node_eq, any35, dN_cells, dN_isAgg, sl, hlt, hn1, ek, hih, hap5]
      with_reducible refine hR _ ?_
      clear hR R
      show X _ _ _ _
      have hbig : i < 9223372036854775807 := by have := Tr.length_kids t; omega
      refine X_rg fun R hR => ?_
      simp only [inr_i64, Int.reduceLE, Int.reduceNeg, aops, astep, awant, aeff, aop, abin, aint, ev, ofValue, St.put, List.getElem?_cons_succ, List.getElem?_cons_zero, Option.getD_some, Option.map_some, if_true, List.set_cons_succ, List.set_cons_zero, and_self, nat_succ hbig]
      with_reducible refine hR _ ?_
      clear hR R
      show ∃ m, m < _ ∧ _
      exact ⟨t.kids.length - (i + 1), by omega, i + 1, o5, n5, L ++ lcs t.kids[i], _, nx5, lv5, by rw [List.map_append]; rfl, rfl, by omega, Lib.hid (by rw [List.map_append]; exact ha5), Lib.hid (by rw [← hL.out, lcss_drop hlt, List.append_assoc])⟩
    · intro b6
      have c6 := b6
      try simp only [decide_eq_false_iff_not] at c6
      refine X_exit ?_
      show X _ _ _ _
      refine X_seq ?_
      refine X_rg fun R hR => ?_
      simp only [aops, astep, awant, aeff, aop, ev, St.put, List.getElem?_cons_succ, List.getElem?_cons_zero, Option.getD_some, Option.map_some, if_true, List.set_cons_succ, List.set_cons_zero, b6]
      with_reducible refine hR _ ?_
      clear hR R
      show X _ _ _ _
      refine X_ret ?_
      show ∃ d, resD _ _ _ = some d ∧ _ ∧ _
      simp only [resD, resAll, resOne, resTup, Try.results35, EVP, List.getElem?_cons_succ, List.getElem?_cons_zero, D.good, if_true, Option.map_some]
      have hT : L = lcs t := by have h1 := hL.out; rw [List.drop_of_length_le (by omega)] at h1; simpa only [lcss, List.append_nil] using h1
      have hst := ha.out.a.strip
      exact ⟨_, rfl, by simp only [D.under, unders_id (f := dV) (fun _ _ => rfl)], by rw [hst, List.map_map, show (D.strip ∘ dV) = dV from funext fun _ => rfl, hT]; rfl⟩
theorem sl_ownX {l : List Slt} (_hne : l ≠ []) {o : Own} (ho : o.st = .imm) : D.slice o.st (if (l.map dSl).isEmpty = true then 0 else 4) (D.strips (l.map dSl)) = sl 4 (l.map dSl) := by
  rw [ho, strips_id (f := dSl) dSl_strip]; rfl
set_option maxRecDepth 100000 in
set_option maxHeartbeats 4000000 in
theorem with_fn (f : Fm) (v : Vd) (hv : dclB v = true) (h1 : 0 ≤ f.cells) (h2 : f.cells ≤ 100000000) (h3 : 0 ≤ f.stacks) (h4 : f.stacks ≤ 100000000) (h7 : f.slots.length ≤ 10000000) : fn EV 36 [dFm f, dV v] = some (dFm (addF f v)) := by
  have hlb := dcl_len hv
  have hw1 := wrap_ok (z := f.stacks + 1) (by omega) (by omega)
  have hw2 : IntKind.i64.wrap (f.cells + (if 1 > v.len then 1 else v.len)) = f.cells + (if 1 > v.len then 1 else v.len) := wrap_ok (z := f.cells + (if 1 > v.len then 1 else v.len)) (by split <;> omega) (by split <;> omega)
  have hcl : ¬ v.kind = 3 → f.cells + (if 1 > v.len then 1 else v.len) = if v.kind = 2 then f.cells + v.len else f.cells + 1 := fun hk => by
    unfold dclB at hv
    split at hv
    · have : v.len = 0 := by simpa using hv
      rw [if_neg (show ¬ v.kind = 2 by omega)]; split <;> omega
    · split at hv
      · simp at hv
        rw [if_pos (show v.kind = 2 by assumption)]; split <;> omega
      · cases hv
  refine fn_Xs rfl Try.func36 rfl (by simp only [plain, List.all_cons, List.all_nil, dFm_pl, Bool.and_true, Bool.true_and]; rfl) (rfl) ?_
  simp only [List.map_cons, List.map_nil, dFm_strip, dV_strip]
  simp only [enterSt, Try.ntmps36, List.length_cons, List.length_nil, Nat.reduceAdd, Nat.reduceSub, List.replicate_succ, List.replicate_zero, List.cons_append, List.nil_append]
  refine X_seq ?_
  refine X_rg fun R hR => ?_
  simp only [EVP, aops, astep, awant, aeff, ev, St.put, gd_agg, cl_agg, List.getElem?_cons_succ, List.getElem?_cons_zero, Option.getD_some, Option.map_some, Option.bind_some, if_true, List.set_cons_succ, List.set_cons_zero, List.length_cons, List.length_nil, List.cons_append, List.nil_append, Nat.reduceAdd, Nat.zero_add, ty_backstepref26_Frame, sl, dFm, dV_cells, dV_good]
  with_reducible refine hR _ ?_
  clear hR R
  show X _ _ _ _
  refine X_seq ?_
  refine X_rg fun R hR => ?_
  simp only [EVP, aops, astep, awant, aeff, aop, mkD, afill, astore, ev, ofValue, St.put, gd_int, ia_int, cl_int, gd_str, ia_str, cl_str, List.map_cons, List.map_nil, List.getElem?_cons_succ, List.getElem?_cons_zero, Option.getD_some, Option.map_some, Option.bind_some, if_true, List.set_cons_succ, List.set_cons_zero, List.length_cons, List.length_nil, List.drop_succ_cons, List.drop_zero, List.take_succ_cons, List.take_zero, List.cons_append, List.nil_append, Nat.reduceAdd, Nat.reduceLeDiff, Nat.zero_add, Nat.add_zero, Bool.false_eq_true, if_false, and_self, reduceCtorEq, ty_int, ty_uint8, ty_string, ty_api_VarDecl, ty_backstepref26_Slot, ty_backstepref26_Frame, st_backstepref26_Slot, sta_backstepref26_Slot, dSl_cells, dSl_agg, dSl_good]
  with_reducible refine hR _ ?_
  clear hR R
  show X _ _ _ _
  refine X_seq ?_
  refine X_seq ?_
  refine X_rg fun R hR => ?_
  simp only [EVP, inr_u8, Int.reduceLE, aops, astep, awant, aeff, aop, abin, aint, mkD, ev, ofValue, St.put, ia_int, List.getElem?_cons_succ, List.getElem?_cons_zero, Option.getD_some, Option.map_some, if_true, List.set_cons_succ, List.set_cons_zero, List.length_cons, List.length_nil, List.drop_succ_cons, List.drop_zero, List.take_succ_cons, List.take_zero, Nat.reduceAdd, Nat.reduceLeDiff, Nat.zero_add, Bool.false_eq_true, if_false, and_self, reduceCtorEq, ty_uint8, ty_api_VarDecl]
  with_reducible refine hR _ ?_
  clear hR R
  show X _ _ _ _
  refine X_ite (by simp only [ev, List.getElem?_cons_succ, List.getElem?_cons_zero, Option.getD_some]; exact rfl) ?_ ?_
  · intro b1
    have c1 := b1
    try simp only [beq_iff_eq] at c1
    refine X_seq ?_
    refine X_rg fun R hR => ?_
    simp only [EVP, inr_i64, Int.reduceLE, Int.reduceNeg, aops, astep, awant, aeff, aop, abin, aint, mkD, astore, ev, ofValue, St.put, gd_int, ia_int, cl_int, List.getElem?_cons_succ, List.getElem?_cons_zero, Option.getD_some, Option.map_some, if_true, List.set_cons_succ, List.set_cons_zero, List.length_cons, List.length_nil, List.drop_succ_cons, List.drop_zero, List.take_succ_cons, List.take_zero, List.cons_append, List.nil_append, Nat.reduceAdd, Nat.reduceLeDiff, Nat.zero_add, Bool.false_eq_true, if_false, and_self, reduceCtorEq, ty_int, ty_backstepref26_Frame, hw1, b1]
    with_reducible refine hR _ ?_
    clear hR R
    show X _ _ _ _
    refine X_rg fun R hR => ?_
    simp only [EVP, aops, astep, awant, aeff, aop, mkD, astore, ev, St.put, gd_int, ia_int, cl_int, List.getElem?_cons_succ, List.getElem?_cons_zero, Option.getD_some, Option.map_some, if_true, List.set_cons_succ, List.set_cons_zero, List.length_cons, List.length_nil, List.drop_succ_cons, List.drop_zero, List.take_succ_cons, List.take_zero, List.cons_append, List.nil_append, Nat.reduceAdd, Nat.reduceLeDiff, Nat.zero_add, Bool.false_eq_true, if_false, and_self, reduceCtorEq, ty_int, ty_backstepref26_Slot, ty_backstepref26_Frame]
    with_reducible refine hR _ ?_
    clear hR R
    show X _ _ _ _
    refine X_seq ?_
    have hk : v.kind = 3 := by first | assumption | (simp_all; done)
    have hat : atF f v = f.stacks + 1 := by simp [atF, hk]
    obtain ⟨o1, n1, nx1, lv1, o2, nx2, lv2, hap1, hap2, hkp, ho2⟩ := copy_app (P := Try.prog) (t := 33) 0 [] und_backstepref26_Slot inf_backstepref26_Slot_eq inf_backstepref26_Slot_size (by omega) (by rw [inf_backstepref26_Slot_bytes]; omega) inf_backstepref26_Slot_zc (f.slots.map dSl) (dSl ⟨v.name, v.kind, v.len, atF f v⟩) (by simp; omega)
    rw [hat] at hap2
    simp only [Nat.zero_add] at hap1
    refine X_rg fun R hR => ?_
    simp only [EVP, aops, astep, awant, aeff, aop, mkD, abuild, astore, ev, ofValue, St.put, gd_slice, ia_slice, cl_slice, List.map_cons, List.map_nil, List.getElem?_cons_succ, List.getElem?_cons_zero, Option.getD_some, Option.map_some, if_true, List.set_cons_succ, List.set_cons_zero, List.length_cons, List.length_nil, List.drop_succ_cons, List.drop_zero, List.take_succ_cons, List.take_zero, List.cons_append, List.nil_append, Nat.reduceAdd, Nat.reduceLeDiff, Nat.reduceLT, Nat.zero_add, Nat.add_zero, Bool.and_true, Bool.false_eq_true, if_false, and_self, reduceCtorEq, List.all_cons, List.all_nil, beq_self_eq_true, Nat.reduceMul, rng_0, rng_1, ty_backstepref26_Slot, ty_s_backstepref26_Slot, ty_backstepref26_Frame, und_backstepref26_Slot, inf_backstepref26_Slot_eq, inf_backstepref26_Slot_size, inf_backstepref26_Slot_zero, dSl_cells, dSl_agg, dSl_good, hap1, hap2]
    with_reducible refine hR _ ?_
    clear hR R
    show X _ _ _ _
    refine X_seq ?_
    refine X_rg fun R hR => ?_
    simp only [EVP, aops, astep, awant, aeff, aop, mkD, astore, ev, St.put, gd_agg, cl_agg, List.getElem?_cons_succ, List.getElem?_cons_zero, Option.getD_some, Option.map_some, if_true, List.set_cons_succ, List.set_cons_zero, List.length_cons, List.length_nil, List.drop_succ_cons, List.drop_zero, List.take_succ_cons, List.take_zero, List.cons_append, List.nil_append, Nat.reduceAdd, Nat.reduceLeDiff, Nat.zero_add, and_self, ty_backstepref26_Frame]
    with_reducible refine hR _ ?_
    clear hR R
    show X _ _ _ _
    refine X_ret ?_
    show ∃ d, resD _ _ _ = some d ∧ _ ∧ _
    refine ⟨_, by simp only [resD, resAll, resOne, resTup, Try.results36, EVP, mkD, ty_backstepref26_Frame, List.getElem?_cons_succ, List.getElem?_cons_zero, List.drop_zero, List.take_succ_cons, List.take_zero, List.length_cons, List.length_nil, Nat.reduceAdd, Nat.reduceLeDiff, Nat.zero_add, if_true, Option.map_some]; exact rfl, ?_, ?_⟩
    · have h0 : f.slots.map dSl ++ [dSl ⟨v.name, v.kind, v.len, f.stacks + 1⟩] = (addF f v).slots.map dSl := by simp [addF, hat]
      rw [h0]; simp only [D.under, D.unders, unders_id (f := dSl) dSl_under, Bool.and_true]
    · have h0 : f.slots.map dSl ++ [dSl ⟨v.name, v.kind, v.len, f.stacks + 1⟩] = (addF f v).slots.map dSl := by simp [addF, hat]
      have hne : (addF f v).slots ≠ [] := by simp [addF]
      rw [h0]; simp only [D.strip, D.strips, sl_ownX hne ho2]
      simp only [dFm, addF, hk, if_true]
  · intro b2
    have c2 := b2
    try simp only [ne_eq, beq_eq_false_iff_ne] at c2
    refine X_rg fun R hR => ?_
    simp only [EVP, inr_i64, Int.reduceLE, Int.reduceNeg, aops, astep, awant, aeff, aop, abin, aint, mkD, astore, ev, ofValue, St.put, gd_int, ia_int, cl_int, List.getElem?_cons_succ, List.getElem?_cons_zero, Option.getD_some, Option.map_some, if_true, List.set_cons_succ, List.set_cons_zero, List.length_cons, List.length_nil, List.drop_succ_cons, List.drop_zero, List.take_succ_cons, List.take_zero, List.cons_append, List.nil_append, Nat.reduceAdd, Nat.reduceLeDiff, Nat.zero_add, Bool.false_eq_true, if_false, and_self, reduceCtorEq, ty_int, ty_api_VarDecl, ty_backstepref26_Frame, hw2, b2]
    with_reducible refine hR _ ?_
    clear hR R
    show X _ _ _ _
    refine X_seq ?_
    have hk : ¬ v.kind = 3 := by first | assumption | (simp_all; done)
    have hat : atF f v = f.cells := by simp [atF, hk]
    obtain ⟨o1, n1, nx1, lv1, o2, nx2, lv2, hap1, hap2, hkp, ho2⟩ := copy_app (P := Try.prog) (t := 33) 0 [] und_backstepref26_Slot inf_backstepref26_Slot_eq inf_backstepref26_Slot_size (by omega) (by rw [inf_backstepref26_Slot_bytes]; omega) inf_backstepref26_Slot_zc (f.slots.map dSl) (dSl ⟨v.name, v.kind, v.len, atF f v⟩) (by simp; omega)
    rw [hat] at hap2
    simp only [Nat.zero_add] at hap1
    refine X_rg fun R hR => ?_
    simp only [EVP, aops, astep, awant, aeff, aop, mkD, abuild, astore, ev, ofValue, St.put, gd_slice, ia_slice, cl_slice, List.map_cons, List.map_nil, List.getElem?_cons_succ, List.getElem?_cons_zero, Option.getD_some, Option.map_some, if_true, List.set_cons_succ, List.set_cons_zero, List.length_cons, List.length_nil, List.drop_succ_cons, List.drop_zero, List.take_succ_cons, List.take_zero, List.cons_append, List.nil_append, Nat.reduceAdd, Nat.reduceLeDiff, Nat.reduceLT, Nat.zero_add, Nat.add_zero, Bool.and_true, Bool.false_eq_true, if_false, and_self, reduceCtorEq, List.all_cons, List.all_nil, beq_self_eq_true, Nat.reduceMul, rng_0, rng_1, ty_backstepref26_Slot, ty_s_backstepref26_Slot, ty_backstepref26_Frame, und_backstepref26_Slot, inf_backstepref26_Slot_eq, inf_backstepref26_Slot_size, inf_backstepref26_Slot_zero, dSl_cells, dSl_agg, dSl_good, hap1, hap2]
    with_reducible refine hR _ ?_
    clear hR R
    show X _ _ _ _
    refine X_seq ?_
    refine X_rg fun R hR => ?_
    simp only [EVP, aops, astep, awant, aeff, aop, mkD, astore, ev, St.put, gd_agg, cl_agg, List.getElem?_cons_succ, List.getElem?_cons_zero, Option.getD_some, Option.map_some, if_true, List.set_cons_succ, List.set_cons_zero, List.length_cons, List.length_nil, List.drop_succ_cons, List.drop_zero, List.take_succ_cons, List.take_zero, List.cons_append, List.nil_append, Nat.reduceAdd, Nat.reduceLeDiff, Nat.zero_add, and_self, ty_backstepref26_Frame]
    with_reducible refine hR _ ?_
    clear hR R
    show X _ _ _ _
    refine X_ret ?_
    show ∃ d, resD _ _ _ = some d ∧ _ ∧ _
    refine ⟨_, by simp only [resD, resAll, resOne, resTup, Try.results36, EVP, mkD, ty_backstepref26_Frame, List.getElem?_cons_succ, List.getElem?_cons_zero, List.drop_zero, List.take_succ_cons, List.take_zero, List.length_cons, List.length_nil, Nat.reduceAdd, Nat.reduceLeDiff, Nat.zero_add, if_true, Option.map_some]; exact rfl, ?_, ?_⟩
    · have h0 : f.slots.map dSl ++ [dSl ⟨v.name, v.kind, v.len, f.cells⟩] = (addF f v).slots.map dSl := by simp [addF, hat]
      rw [h0]; simp only [D.under, D.unders, unders_id (f := dSl) dSl_under, Bool.and_true]
    · have h0 : f.slots.map dSl ++ [dSl ⟨v.name, v.kind, v.len, f.cells⟩] = (addF f v).slots.map dSl := by simp [addF, hat]
      have hne : (addF f v).slots ≠ [] := by simp [addF]
      rw [h0]; simp only [D.strip, D.strips, sl_ownX hne ho2]
      simp only [dFm, addF, hk, if_false]; rw [hcl hk]

end Go.Proofs.Ythgdibdapjaljaa
