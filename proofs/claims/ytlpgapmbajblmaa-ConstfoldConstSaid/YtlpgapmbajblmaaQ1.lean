/- The law ConstfoldConst: its walk. -/
import Derived.Test.YtlpgapmbajblmaaL3
namespace Go.Proofs.Ytlpgapmbajblmaa
open Go.RowKit

set_option maxRecDepth 100000 in
set_option maxHeartbeats 4000000 in
theorem law1_fn (t : Tr) : fn EV 3 [dN t] = some (.bool true) := by
  refine fn_X rfl Try.func3 rfl (by simp only [plain, List.all_cons, List.all_nil, dN_under, dN_good, Bool.and_self]) rfl (rfl) (rfl) ?_
  simp only [List.map_cons, List.map_nil, dN_strip]
  simp only [enterSt, Try.ntmps3, List.length_cons, List.length_nil, Nat.reduceAdd, Nat.reduceSub, List.replicate_succ, List.replicate_zero, List.cons_append, List.nil_append]
  refine X_seq ?_
  refine X_rg fun R hR => ?_
  simp only [aops, astep, awant, aeff, aop, ev, ofValue, St.put, List.getElem?_cons_zero, Option.getD_some, Option.map_some, if_true, List.set_cons_succ, List.set_cons_zero, List.length_nil, List.nil_append, dN_cells, dN_good, sl]
  with_reducible refine hR _ ?_
  clear hR R
  show X _ _ _ _
  refine X_seq ?_
  refine X_seq ?_
  refine X_rg fun R hR => ?_
  simp only [EVP, aops, astep, awant, aeff, aop, ev, St.put, pcall, List.map_nil, List.getElem?_cons_succ, List.getElem?_cons_zero, Option.getD_some, Option.map_some, if_true, List.set_cons_succ, List.set_cons_zero, List.nil_append, Bool.not_true, any11, awake_fn]
  with_reducible refine hR _ ?_
  clear hR R
  show X _ _ _ _
  refine X_false (by simp only [ev, List.getElem?_cons_succ, List.getElem?_cons_zero, Option.getD_some]) ?_
  refine X_skip ?_
  show X _ _ _ _
  refine X_seq ?_
  refine X_seq ?_
  refine X_rg fun R hR => ?_
  simp only [EVP, aops, astep, awant, aeff, aop, mkD, ev, St.put, pcall, List.map_cons, List.map_nil, List.getElem?_cons_succ, List.getElem?_cons_zero, Option.getD_some, Option.map_some, if_true, List.set_cons_succ, List.set_cons_zero, List.length_cons, List.length_nil, List.drop_zero, List.take_succ_cons, List.take_zero, List.cons_append, List.nil_append, Nat.reduceAdd, Nat.reduceLeDiff, Nat.zero_add, ty_api_Node, any12, dN_agg, o_backstepref03_Big]
  with_reducible refine hR _ ?_
  clear hR R
  show X _ _ _ _
  refine X_ite (by simp only [ev, List.getElem?_cons_succ, List.getElem?_cons_zero, Option.getD_some]; exact rfl) ?_ ?_
  · intro b1
    have c1 := b1
    try simp only [Bool.not_eq_true', Bool.not_eq_false', decide_eq_true_eq, decide_eq_false_iff_not, beq_iff_eq, Int.not_lt, Int.not_le, ge_iff_le, gt_iff_lt, bne_iff_ne, ne_eq, bne_eq_false_iff_eq, beq_eq_false_iff_ne, Bool.and_eq_true, Bool.or_eq_false_iff] at c1
    refine X_seq ?_
    refine X_rg fun R hR => ?_
    simp only [aops, astep, awant, aeff, aop, ev, ofValue, St.put, Option.getD_some, Option.map_some, if_true, List.set_cons_succ, List.set_cons_zero, b1]
    with_reducible refine hR _ ?_
    clear hR R
    show X _ _ _ _
    refine X_ret ?_
    show resD _ _ _ = some _
    simp only [resD, resAll, resOne, resTup, Try.results3, EVP, List.getElem?_cons_succ, List.getElem?_cons_zero, D.good, if_true, Option.map_some] <;> (first | (rfl; done) | (rcases const_same t with h | ⟨h1, h2, h3⟩ <;> first | (exfalso; simp_all; done) | (simp_all; done); done) | (exfalso; rcases const_same t with h | ⟨h1, h2, h3⟩ <;> simp_all; done) | (exfalso; simp_all; done))
  · intro b2
    have c2 := b2
    try simp only [Bool.not_eq_true', Bool.not_eq_false', decide_eq_true_eq, decide_eq_false_iff_not, beq_iff_eq, Int.not_lt, Int.not_le, ge_iff_le, gt_iff_lt, bne_iff_ne, ne_eq, bne_eq_false_iff_eq, beq_eq_false_iff_ne, Bool.and_eq_true, Bool.or_eq_false_iff] at c2
    refine X_skip ?_
    show X _ _ _ _
    refine X_seq ?_
    have hs : t.size ≤ 1000000 := by have := (bigB_no c2).1; omega
    have hC := const_fn t hs
    have hD := rconst_fn t hs
    refine X_rg fun R hR => ?_
    simp only [EVP, aops, astep, awant, aeff, aop, mkD, ev, St.put, pcall, List.map_cons, List.map_nil, List.getElem?_cons_succ, List.getElem?_cons_zero, Option.getD_some, Option.map_some, if_true, List.set_cons_succ, List.set_cons_zero, List.length_cons, List.length_nil, List.drop_zero, List.take_succ_cons, List.take_zero, List.cons_append, List.nil_append, Nat.reduceAdd, Nat.reduceLeDiff, Nat.zero_add, ty_api_Node, any13, dN_agg, b2, hC]
    with_reducible refine hR _ ?_
    clear hR R
    show X _ _ _ _
    refine X_seq ?_
    refine X_rg fun R hR => ?_
    simp only [EVP, aops, astep, awant, aeff, aop, mkD, ev, St.put, pcall, List.map_cons, List.map_nil, List.getElem?_cons_succ, List.getElem?_cons_zero, Option.getD_some, Option.map_some, if_true, List.set_cons_succ, List.set_cons_zero, List.length_cons, List.length_nil, List.drop_zero, List.take_succ_cons, List.take_zero, List.cons_append, List.nil_append, Nat.reduceAdd, Nat.reduceLeDiff, Nat.zero_add, ty_api_Node, any14, dN_agg, hD]
    with_reducible refine hR _ ?_
    clear hR R
    show X _ _ _ _
    refine X_seq ?_
    refine X_y ?_
    refine Y_k 4 fun R hR => ?_
    simp only [EVP, aops, astep, awant, aeff, aop, abin, aint, ev, St.put, List.getElem?_cons_succ, List.getElem?_cons_zero, Option.getD_some, Option.map_some, if_true, List.set_cons_succ, List.set_cons_zero, List.take_succ_cons, List.take_zero]
    with_reducible refine hR _ ?_
    clear hR R
    simp only [List.drop_succ_cons, List.drop_zero]
    refine Y_if 24 (by simp only [ev, List.getElem?_cons_succ, List.getElem?_cons_zero, Option.getD_some]; exact rfl) ?_ ?_
    · intro b3
      have c3 := b3
      try simp only [beq_iff_eq] at c3
      refine Y_k 5 fun R hR => ?_
      simp only [EVP, aops, astep, awant, aeff, aop, abin, ev, ofValue, St.put, List.getElem?_cons_succ, List.getElem?_cons_zero, Option.getD_some, Option.map_some, Option.bind_some, if_true, List.set_cons_succ, List.set_cons_zero, List.take_succ_cons, List.take_zero, beq_self_eq_true, und_bool', c3]
      with_reducible refine hR _ ?_
      clear hR R
      simp only [List.drop_succ_cons, List.drop_zero]
      refine Y_if 29 (by simp only [ev, List.getElem?_cons_succ, List.getElem?_cons_zero, Option.getD_some]; exact rfl) ?_ ?_
      · intro b4
        have c4 := b4
        try simp only [beq_iff_eq] at c4
        refine Y_end fun R hR => ?_
        simp only [inr_i64, Int.reduceLE, Int.reduceNeg, aops, astep, awant, aeff, aop, abin, ev, ofValue, St.put, List.getElem?_cons_succ, List.getElem?_cons_zero, Option.getD_some, Option.map_some, Option.map_none, Option.bind_some, if_true, List.set_cons_succ, List.set_cons_zero, Bool.false_eq_true, if_false, and_self, beq_self_eq_true, bq_tf, c4]
        with_reducible refine hR _ ?_
        clear hR R
        show X _ _ _ _
        refine X_ret ?_
        show resD _ _ _ = some _
        simp only [resD, resAll, resOne, resTup, Try.results3, EVP, List.getElem?_cons_succ, List.getElem?_cons_zero, D.good, if_true, Option.map_some] <;> (first | (rfl; done) | (rcases const_same t with h | ⟨h1, h2, h3⟩ <;> first | (exfalso; simp_all; done) | (simp_all; done); done) | (exfalso; rcases const_same t with h | ⟨h1, h2, h3⟩ <;> simp_all; done) | (exfalso; simp_all; done))
      · intro b5
        have c5 := b5
        try simp only [ne_eq, beq_eq_false_iff_ne] at c5
        refine Y_k 3 fun R hR => ?_
        simp only [EVP, aops, astep, awant, aeff, aop, ev, St.put, List.getElem?_cons_succ, List.getElem?_cons_zero, Option.getD_some, Option.map_some, Option.bind_some, if_true, List.set_cons_succ, List.set_cons_zero, List.take_succ_cons, List.take_zero, beq_self_eq_true, b5]
        with_reducible refine hR _ ?_
        clear hR R
        simp only [List.drop_succ_cons, List.drop_zero]
        refine Y_if 32 (by simp only [ev, List.getElem?_cons_succ, List.getElem?_cons_zero, Option.getD_some]; exact rfl) ?_ ?_
        · intro b6
          have c6 := b6
          try simp only [Bool.not_eq_true'] at c6
          refine Y_k 4 fun R hR => ?_
          simp only [EVP, aops, astep, awant, aeff, aop, ev, ofValue, St.put, List.getElem?_cons_succ, List.getElem?_cons_zero, Option.getD_some, Option.map_some, Option.bind_some, if_true, List.set_cons_succ, List.set_cons_zero, List.take_succ_cons, List.take_zero, Bool.not_false, beq_self_eq_true, c6]
          with_reducible refine hR _ ?_
          clear hR R
          simp only [List.drop_succ_cons, List.drop_zero]
          refine Y_if 36 (by simp only [ev, List.getElem?_cons_succ, List.getElem?_cons_zero, Option.getD_some]; exact rfl) ?_ ?_
          · intro b7
            have c7 := b7
            try simp only [Bool.not_eq_true'] at c7
            refine Y_end fun R hR => ?_
            simp only [inr_i64, Int.reduceLE, Int.reduceNeg, aops, astep, awant, aeff, aop, abin, aint, ev, ofValue, St.put, List.getElem?_cons_succ, List.getElem?_cons_zero, Option.getD_some, Option.map_some, Option.bind_some, if_true, List.set_cons_succ, List.set_cons_zero, Bool.not_false, Bool.false_eq_true, if_false, and_self, beq_self_eq_true, c7]
            with_reducible refine hR _ ?_
            clear hR R
            show X _ _ _ _
            refine X_ret ?_
            show resD _ _ _ = some _
            simp only [resD, resAll, resOne, resTup, Try.results3, EVP, List.getElem?_cons_succ, List.getElem?_cons_zero, D.good, if_true, Option.map_some] <;> (first | (rfl; done) | (rcases const_same t with h | ⟨h1, h2, h3⟩ <;> first | (exfalso; simp_all; done) | (simp_all; done); done) | (exfalso; rcases const_same t with h | ⟨h1, h2, h3⟩ <;> simp_all; done) | (exfalso; simp_all; done))
          · intro b8
            have c8 := b8
            try simp only [Bool.not_eq_false'] at c8
            refine Y_end fun R hR => ?_
            simp only [inr_i64, Int.reduceLE, Int.reduceNeg, aops, astep, awant, aeff, aop, abin, ev, ofValue, St.put, List.getElem?_cons_succ, List.getElem?_cons_zero, Option.getD_some, Option.map_some, Option.map_none, Option.bind_some, if_true, List.set_cons_succ, List.set_cons_zero, Bool.not_true, Bool.false_eq_true, if_false, and_self, beq_self_eq_true, bq_ft, c8]
            with_reducible refine hR _ ?_
            clear hR R
            show X _ _ _ _
            refine X_ret ?_
            show resD _ _ _ = some _
            simp only [resD, resAll, resOne, resTup, Try.results3, EVP, List.getElem?_cons_succ, List.getElem?_cons_zero, D.good, if_true, Option.map_some] <;> (first | (rfl; done) | (rcases const_same t with h | ⟨h1, h2, h3⟩ <;> first | (exfalso; simp_all; done) | (simp_all; done); done) | (exfalso; rcases const_same t with h | ⟨h1, h2, h3⟩ <;> simp_all; done) | (exfalso; simp_all; done))
        · intro b9
          have c9 := b9
          try simp only [Bool.not_eq_false'] at c9
          refine Y_end fun R hR => ?_
          simp only [inr_i64, Int.reduceLE, Int.reduceNeg, aops, astep, awant, aeff, aop, abin, ev, ofValue, St.put, List.getElem?_cons_succ, List.getElem?_cons_zero, Option.getD_some, Option.map_some, Option.map_none, Option.bind_some, if_true, List.set_cons_succ, List.set_cons_zero, Bool.not_true, Bool.false_eq_true, if_false, and_self, beq_self_eq_true, bq_ft, c9]
          with_reducible refine hR _ ?_
          clear hR R
          show X _ _ _ _
          refine X_ret ?_
          show resD _ _ _ = some _
          simp only [resD, resAll, resOne, resTup, Try.results3, EVP, List.getElem?_cons_succ, List.getElem?_cons_zero, D.good, if_true, Option.map_some] <;> (first | (rfl; done) | (rcases const_same t with h | ⟨h1, h2, h3⟩ <;> first | (exfalso; simp_all; done) | (simp_all; done); done) | (exfalso; rcases const_same t with h | ⟨h1, h2, h3⟩ <;> simp_all; done) | (exfalso; simp_all; done))
    · intro b10
      have c10 := b10
      try simp only [ne_eq, beq_eq_false_iff_ne] at c10
      refine Y_k 8 fun R hR => ?_
      simp only [EVP, aops, astep, awant, aeff, aop, abin, ev, ofValue, St.put, List.getElem?_cons_succ, List.getElem?_cons_zero, Option.getD_some, Option.map_some, Option.map_none, Option.bind_some, if_true, List.set_cons_succ, List.set_cons_zero, List.take_succ_cons, List.take_zero, Bool.false_eq_true, if_false, beq_self_eq_true, bq_ft, b10]
      with_reducible refine hR _ ?_
      clear hR R
      simp only [List.drop_succ_cons, List.drop_zero]
      refine Y_if 32 (by simp only [ev, List.getElem?_cons_succ, List.getElem?_cons_zero, Option.getD_some]; exact rfl) ?_ ?_
      · intro b11
        have c11 := b11
        try simp only [Bool.not_eq_true'] at c11
        refine Y_k 4 fun R hR => ?_
        simp only [EVP, aops, astep, awant, aeff, aop, ev, ofValue, St.put, List.getElem?_cons_succ, List.getElem?_cons_zero, Option.getD_some, Option.map_some, Option.bind_some, if_true, List.set_cons_succ, List.set_cons_zero, List.take_succ_cons, List.take_zero, Bool.not_false, beq_self_eq_true, c11]
        with_reducible refine hR _ ?_
        clear hR R
        simp only [List.drop_succ_cons, List.drop_zero]
        refine Y_if 36 (by simp only [ev, List.getElem?_cons_succ, List.getElem?_cons_zero, Option.getD_some]; exact rfl) ?_ ?_
        · intro b12
          have c12 := b12
          try simp only [Bool.not_eq_true'] at c12
          refine Y_end fun R hR => ?_
          simp only [inr_i64, Int.reduceLE, Int.reduceNeg, aops, astep, awant, aeff, aop, abin, aint, ev, ofValue, St.put, List.getElem?_cons_succ, List.getElem?_cons_zero, Option.getD_some, Option.map_some, Option.bind_some, if_true, List.set_cons_succ, List.set_cons_zero, Bool.not_false, Bool.false_eq_true, if_false, and_self, beq_self_eq_true, c12]
          with_reducible refine hR _ ?_
          clear hR R
          show X _ _ _ _
          refine X_ret ?_
          show resD _ _ _ = some _
          simp only [resD, resAll, resOne, resTup, Try.results3, EVP, List.getElem?_cons_succ, List.getElem?_cons_zero, D.good, if_true, Option.map_some] <;> (first | (rfl; done) | (rcases const_same t with h | ⟨h1, h2, h3⟩ <;> first | (exfalso; simp_all; done) | (simp_all; done); done) | (exfalso; rcases const_same t with h | ⟨h1, h2, h3⟩ <;> simp_all; done) | (exfalso; simp_all; done))
        · intro b13
          have c13 := b13
          try simp only [Bool.not_eq_false'] at c13
          refine Y_end fun R hR => ?_
          simp only [inr_i64, Int.reduceLE, Int.reduceNeg, aops, astep, awant, aeff, aop, abin, ev, ofValue, St.put, List.getElem?_cons_succ, List.getElem?_cons_zero, Option.getD_some, Option.map_some, Option.map_none, Option.bind_some, if_true, List.set_cons_succ, List.set_cons_zero, Bool.not_true, Bool.false_eq_true, if_false, and_self, beq_self_eq_true, bq_ft, c13]
          with_reducible refine hR _ ?_
          clear hR R
          show X _ _ _ _
          refine X_ret ?_
          show resD _ _ _ = some _
          simp only [resD, resAll, resOne, resTup, Try.results3, EVP, List.getElem?_cons_succ, List.getElem?_cons_zero, D.good, if_true, Option.map_some] <;> (first | (rfl; done) | (rcases const_same t with h | ⟨h1, h2, h3⟩ <;> first | (exfalso; simp_all; done) | (simp_all; done); done) | (exfalso; rcases const_same t with h | ⟨h1, h2, h3⟩ <;> simp_all; done) | (exfalso; simp_all; done))
      · intro b14
        have c14 := b14
        try simp only [Bool.not_eq_false'] at c14
        refine Y_end fun R hR => ?_
        simp only [inr_i64, Int.reduceLE, Int.reduceNeg, aops, astep, awant, aeff, aop, abin, ev, ofValue, St.put, List.getElem?_cons_succ, List.getElem?_cons_zero, Option.getD_some, Option.map_some, Option.map_none, Option.bind_some, if_true, List.set_cons_succ, List.set_cons_zero, Bool.not_true, Bool.false_eq_true, if_false, and_self, beq_self_eq_true, bq_ft, c14]
        with_reducible refine hR _ ?_
        clear hR R
        show X _ _ _ _
        refine X_ret ?_
        show resD _ _ _ = some _
        simp only [resD, resAll, resOne, resTup, Try.results3, EVP, List.getElem?_cons_succ, List.getElem?_cons_zero, D.good, if_true, Option.map_some] <;> (first | (rfl; done) | (rcases const_same t with h | ⟨h1, h2, h3⟩ <;> first | (exfalso; simp_all; done) | (simp_all; done); done) | (exfalso; rcases const_same t with h | ⟨h1, h2, h3⟩ <;> simp_all; done) | (exfalso; simp_all; done))

end Go.Proofs.Ytlpgapmbajblmaa
