/- The reference's Writes over data. -/
import Derived.Test.YtkkhjpkkjpcbmaaE4
namespace Go.Proofs.Ytkkhjpkkjpcbmaa
open Go.RowKit

set_option maxRecDepth 100000 in
set_option maxHeartbeats 4000000 in
theorem rwrites_step (t : Tr) (hl : 2 * (Tr.sizes t.kids) + 2 ≤ 1000000) (hll : t.kids.length ≤ 400000) (hg : ∀ x ∈ t.kids, fn EV 17 [dN x] = some (sl 1 ((wrT x).map dS))) : fn EV 17 [dN t] = some (sl 1 ((wrT t).map dS)) := by
 refine fn_Xs rfl Try.func17 rfl (by simp only [plain, List.all_cons, List.all_nil, dN_under, dN_good, Bool.and_true]) (rfl) ?_
 simp only [zmc, zmn, dN_strip]
 simp only [enterSt, Try.ntmps17, zlc, zln, Nat.reduceAdd, Nat.reduceSub, zr1, zr0, zca, zna]
 refine X_seq ?_
 refine X_rg fun R hR => ?_
 simp only [aops, astep, awant, aeff, aop, ev, ofValue, St.put, zg0, zgd, zmo, if_true, zs1, zs0, zln, zna, dN_cells, dN_good, sl]
 with_reducible refine hR _ ?_
 clear hR R
 show X _ _ _ _
 refine X_seq ?_
 refine X_rg fun R hR => ?_
 simp only [aops, astep, awant, aeff, aop, ev, ofValue, St.put, zgd, zmo, if_true, zs1, zs0]
 with_reducible refine hR _ ?_
 clear hR R
 show X _ _ _ _
 refine X_seq ?_
 refine X_seq ?_
 refine X_rg fun R hR => ?_
 simp only [EVP, aops, astep, awant, aeff, aop, mkD, ev, St.put, ia_int, zg1, zg0, zgd, zmo, if_true, zs1, zs0, zlc, zln, zd0, zt1, zt0, Nat.reduceAdd, Nat.reduceLeDiff, Nat.zero_add, Nat.add_zero, zft, if_false, reduceCtorEq, ty_uint8, ty_api_Node]
 with_reducible refine hR _ ?_
 clear hR R
 show X _ _ _ _
 refine X_block ?_
 refine X_seq ?_
 refine X_seq ?_
 refine X_rg fun R hR => ?_
 simp only [inr_u8, Int.reduceLE, aops, astep, awant, aeff, aop, abin, aint, ev, ofValue, St.put, zg1, zg0, zgd, zmo, if_true, zs1, zs0, and_self]
 with_reducible refine hR _ ?_
 clear hR R
 show X _ _ _ _
 refine X_ite (by simp only [ev, zg1, zg0, zgd]; exact rfl) ?_ ?_
 ·intro b1
  have c1 := b1
  try simp only [beq_iff_eq] at c1
  refine X_skip ?_
  show X _ _ _ _
  refine X_true (by simp only [ev, zg1, zg0, zgd, b1]) ?_
  refine X_seq ?_
  have hp := place_call0 IsL.nil t (by simp)
  refine X_rg fun R hR => ?_
  simp only [EVP, inr_i64, Int.reduceLE, Int.reduceNeg, aops, astep, awant, aeff, aop, mkD, ev, ofValue, St.put, pcall, zmc, zmn, zg1, zg0, zgd, zmo, if_true, zs1, zs0, zlc, zln, zd0, zt1, zt0, zca, zna, Nat.reduceAdd, Nat.reduceLeDiff, Nat.zero_add, and_self, ty_api_Node, any39, dN_agg, sl, b1, hp]
  with_reducible refine hR _ ?_
  clear hR R
  show X _ _ _ _
  refine X_ret ?_
  show ∃ d, resD _ _ _ = some d ∧ _ ∧ _
  have hw := wrT_eq t
  simp only [updN, bodN, b1, Bool.true_or, if_true] at hw
  refine ⟨_, by simp only [resD, resAll, resOne, resTup, Try.results17, EVP, zg1, zg0, D.good, if_true, zmo] <;> exact rfl, (IsL.sl' _).u 0, by rw [hw]; exact (IsL.sl' _).s⟩
 ·intro b2
  have c2 := b2
  try simp only [ne_eq, beq_eq_false_iff_ne] at c2
  refine X_seq ?_
  refine X_rg fun R hR => ?_
  simp only [inr_u8, Int.reduceLE, aops, astep, awant, aeff, aop, abin, aint, ev, ofValue, St.put, zg1, zg0, zgd, zmo, if_true, zs1, zs0, and_self, b2]
  with_reducible refine hR _ ?_
  clear hR R
  show X _ _ _ _
  refine X_ite (by simp only [ev, zg1, zg0, zgd]; exact rfl) ?_ ?_
  ·intro b3
   have c3 := b3
   try simp only [beq_iff_eq] at c3
   refine X_skip ?_
   show X _ _ _ _
   refine X_true (by simp only [ev, zg1, zg0, zgd, b3]) ?_
   refine X_seq ?_
   have hp := place_call0 IsL.nil t (by simp)
   refine X_rg fun R hR => ?_
   simp only [EVP, inr_i64, Int.reduceLE, Int.reduceNeg, aops, astep, awant, aeff, aop, mkD, ev, ofValue, St.put, pcall, zmc, zmn, zg1, zg0, zgd, zmo, if_true, zs1, zs0, zlc, zln, zd0, zt1, zt0, zca, zna, Nat.reduceAdd, Nat.reduceLeDiff, Nat.zero_add, and_self, ty_api_Node, any39, dN_agg, sl, b3, hp]
   with_reducible refine hR _ ?_
   clear hR R
   show X _ _ _ _
   refine X_ret ?_
   show ∃ d, resD _ _ _ = some d ∧ _ ∧ _
   have hw := wrT_eq t
   simp only [updN, bodN, b2, b3, Bool.or_true, Bool.true_or, if_true] at hw
   refine ⟨_, by simp only [resD, resAll, resOne, resTup, Try.results17, EVP, zg1, zg0, D.good, if_true, zmo] <;> exact rfl, (IsL.sl' _).u 0, by rw [hw]; exact (IsL.sl' _).s⟩
  ·intro b4
   have c4 := b4
   try simp only [ne_eq, beq_eq_false_iff_ne] at c4
   refine X_seq ?_
   refine X_rg fun R hR => ?_
   simp only [inr_u8, Int.reduceLE, aops, astep, awant, aeff, aop, abin, aint, ev, ofValue, St.put, zg1, zg0, zgd, zmo, if_true, zs1, zs0, and_self, b4]
   with_reducible refine hR _ ?_
   clear hR R
   show X _ _ _ _
   refine X_ite (by simp only [ev, zg1, zg0, zgd]; exact rfl) ?_ ?_
   ·intro b5
    have c5 := b5
    try simp only [beq_iff_eq] at c5
    refine X_skip ?_
    show X _ _ _ _
    refine X_true (by simp only [ev, zg1, zg0, zgd, b5]) ?_
    refine X_seq ?_
    have hp := place_call0 IsL.nil t (by simp)
    refine X_rg fun R hR => ?_
    simp only [EVP, inr_i64, Int.reduceLE, Int.reduceNeg, aops, astep, awant, aeff, aop, mkD, ev, ofValue, St.put, pcall, zmc, zmn, zg1, zg0, zgd, zmo, if_true, zs1, zs0, zlc, zln, zd0, zt1, zt0, zca, zna, Nat.reduceAdd, Nat.reduceLeDiff, Nat.zero_add, and_self, ty_api_Node, any39, dN_agg, sl, b5, hp]
    with_reducible refine hR _ ?_
    clear hR R
    show X _ _ _ _
    refine X_ret ?_
    show ∃ d, resD _ _ _ = some d ∧ _ ∧ _
    have hw := wrT_eq t
    simp only [updN, bodN, b2, b4, b5, Bool.or_true, Bool.true_or, Bool.or_false, if_true] at hw
    refine ⟨_, by simp only [resD, resAll, resOne, resTup, Try.results17, EVP, zg1, zg0, D.good, if_true, zmo] <;> exact rfl, (IsL.sl' _).u 0, by rw [hw]; exact (IsL.sl' _).s⟩
   ·intro b6
    have c6 := b6
    try simp only [ne_eq, beq_eq_false_iff_ne] at c6
    refine X_seq ?_
    refine X_rg fun R hR => ?_
    simp only [inr_u8, Int.reduceLE, aops, astep, awant, aeff, aop, abin, aint, ev, ofValue, St.put, zg1, zg0, zgd, zmo, if_true, zs1, zs0, and_self, b6]
    with_reducible refine hR _ ?_
    clear hR R
    show X _ _ _ _
    refine X_ite (by simp only [ev, zg1, zg0, zgd]; exact rfl) ?_ ?_
    ·intro b7
     have c7 := b7
     try simp only [beq_iff_eq] at c7
     refine X_skip ?_
     show X _ _ _ _
     refine X_true (by simp only [ev, zg1, zg0, zgd, b7]) ?_
     refine X_seq ?_
     have hp := place_call0 IsL.nil t (by simp)
     refine X_rg fun R hR => ?_
     simp only [EVP, inr_i64, Int.reduceLE, Int.reduceNeg, aops, astep, awant, aeff, aop, mkD, ev, ofValue, St.put, pcall, zmc, zmn, zg1, zg0, zgd, zmo, if_true, zs1, zs0, zlc, zln, zd0, zt1, zt0, zca, zna, Nat.reduceAdd, Nat.reduceLeDiff, Nat.zero_add, and_self, ty_api_Node, any39, dN_agg, sl, b7, hp]
     with_reducible refine hR _ ?_
     clear hR R
     show X _ _ _ _
     refine X_ret ?_
     show ∃ d, resD _ _ _ = some d ∧ _ ∧ _
     have hw := wrT_eq t
     simp only [updN, bodN, b2, b4, b6, b7, Bool.or_true, Bool.true_or, Bool.or_false, if_true] at hw
     refine ⟨_, by simp only [resD, resAll, resOne, resTup, Try.results17, EVP, zg1, zg0, D.good, if_true, zmo] <;> exact rfl, (IsL.sl' _).u 0, by rw [hw]; exact (IsL.sl' _).s⟩
    ·intro b8
     have c8 := b8
     try simp only [ne_eq, beq_eq_false_iff_ne] at c8
     refine X_seq ?_
     refine X_rg fun R hR => ?_
     simp only [inr_u8, Int.reduceLE, aops, astep, awant, aeff, aop, abin, aint, ev, ofValue, St.put, zg1, zg0, zgd, zmo, if_true, zs1, zs0, and_self, b8]
     with_reducible refine hR _ ?_
     clear hR R
     show X _ _ _ _
     refine X_ite (by simp only [ev, zg1, zg0, zgd]; exact rfl) ?_ ?_
     ·intro b9
      have c9 := b9
      try simp only [beq_iff_eq] at c9
      refine X_skip ?_
      show X _ _ _ _
      refine X_true (by simp only [ev, zg1, zg0, zgd, b9]) ?_
      refine X_seq ?_
      have hp := place_call0 IsL.nil t (by simp)
      refine X_rg fun R hR => ?_
      simp only [EVP, inr_i64, Int.reduceLE, Int.reduceNeg, aops, astep, awant, aeff, aop, mkD, ev, ofValue, St.put, pcall, zmc, zmn, zg1, zg0, zgd, zmo, if_true, zs1, zs0, zlc, zln, zd0, zt1, zt0, zca, zna, Nat.reduceAdd, Nat.reduceLeDiff, Nat.zero_add, and_self, ty_api_Node, any39, dN_agg, sl, b9, hp]
      with_reducible refine hR _ ?_
      clear hR R
      show X _ _ _ _
      refine X_ret ?_
      show ∃ d, resD _ _ _ = some d ∧ _ ∧ _
      have hw := wrT_eq t
      simp only [updN, bodN, b2, b4, b6, b8, b9, Bool.or_true, Bool.true_or, Bool.or_false, if_true] at hw
      refine ⟨_, by simp only [resD, resAll, resOne, resTup, Try.results17, EVP, zg1, zg0, D.good, if_true, zmo] <;> exact rfl, (IsL.sl' _).u 0, by rw [hw]; exact (IsL.sl' _).s⟩
     ·intro b10
      have c10 := b10
      try simp only [ne_eq, beq_eq_false_iff_ne] at c10
      refine X_seq ?_
      refine X_rg fun R hR => ?_
      simp only [inr_u8, Int.reduceLE, aops, astep, awant, aeff, aop, abin, aint, ev, ofValue, St.put, zg1, zg0, zgd, zmo, if_true, zs1, zs0, and_self, b10]
      with_reducible refine hR _ ?_
      clear hR R
      show X _ _ _ _
      refine X_ite (by simp only [ev, zg1, zg0, zgd]; exact rfl) ?_ ?_
      ·intro b11
       have c11 := b11
       try simp only [beq_iff_eq] at c11
       refine X_skip ?_
       show X _ _ _ _
       refine X_true (by simp only [ev, zg1, zg0, zgd, b11]) ?_
       refine X_seq ?_
       have hp := place_call0 IsL.nil t (by simp)
       refine X_rg fun R hR => ?_
       simp only [EVP, inr_i64, Int.reduceLE, Int.reduceNeg, aops, astep, awant, aeff, aop, mkD, ev, ofValue, St.put, pcall, zmc, zmn, zg1, zg0, zgd, zmo, if_true, zs1, zs0, zlc, zln, zd0, zt1, zt0, zca, zna, Nat.reduceAdd, Nat.reduceLeDiff, Nat.zero_add, and_self, ty_api_Node, any39, dN_agg, sl, b11, hp]
       with_reducible refine hR _ ?_
       clear hR R
       show X _ _ _ _
       refine X_ret ?_
       show ∃ d, resD _ _ _ = some d ∧ _ ∧ _
       have hw := wrT_eq t
       simp only [updN, bodN, b2, b4, b6, b8, b10, b11, Bool.or_true, Bool.true_or, Bool.or_false, if_true] at hw
       refine ⟨_, by simp only [resD, resAll, resOne, resTup, Try.results17, EVP, zg1, zg0, D.good, if_true, zmo] <;> exact rfl, (IsL.sl' _).u 0, by rw [hw]; exact (IsL.sl' _).s⟩
      ·intro b12
       have c12 := b12
       try simp only [ne_eq, beq_eq_false_iff_ne] at c12
       refine X_seq ?_
       refine X_rg fun R hR => ?_
       simp only [inr_u8, Int.reduceLE, aops, astep, awant, aeff, aop, abin, aint, ev, ofValue, St.put, zg1, zg0, zgd, zmo, if_true, zs1, zs0, and_self, b12]
       with_reducible refine hR _ ?_
       clear hR R
       show X _ _ _ _
       refine X_ite (by simp only [ev, zg1, zg0, zgd]; exact rfl) ?_ ?_
       ·intro b13
        have c13 := b13
        try simp only [beq_iff_eq] at c13
        refine X_skip ?_
        show X _ _ _ _
        refine X_true (by simp only [ev, zg1, zg0, zgd, b13]) ?_
        refine X_seq ?_
        have hp := place_call0 IsL.nil t (by simp)
        refine X_rg fun R hR => ?_
        simp only [EVP, inr_i64, Int.reduceLE, Int.reduceNeg, aops, astep, awant, aeff, aop, mkD, ev, ofValue, St.put, pcall, zmc, zmn, zg1, zg0, zgd, zmo, if_true, zs1, zs0, zlc, zln, zd0, zt1, zt0, zca, zna, Nat.reduceAdd, Nat.reduceLeDiff, Nat.zero_add, and_self, ty_api_Node, any39, dN_agg, sl, b13, hp]
        with_reducible refine hR _ ?_
        clear hR R
        show X _ _ _ _
        refine X_ret ?_
        show ∃ d, resD _ _ _ = some d ∧ _ ∧ _
        have hw := wrT_eq t
        simp only [updN, bodN, b2, b4, b6, b8, b10, b12, b13, Bool.or_true, Bool.true_or, Bool.or_false, if_true] at hw
        refine ⟨_, by simp only [resD, resAll, resOne, resTup, Try.results17, EVP, zg1, zg0, D.good, if_true, zmo] <;> exact rfl, (IsL.sl' _).u 0, by rw [hw]; exact (IsL.sl' _).s⟩
       ·intro b14
        have c14 := b14
        try simp only [ne_eq, beq_eq_false_iff_ne] at c14
        refine X_rg fun R hR => ?_
        simp only [inr_u8, Int.reduceLE, aops, astep, awant, aeff, aop, abin, aint, ev, ofValue, St.put, zg1, zg0, zgd, zmo, if_true, zs1, zs0, and_self, b14]
        with_reducible refine hR _ ?_
        clear hR R
        show X _ _ _ _
        refine X_ite (by simp only [ev, zg1, zg0, zgd]; exact rfl) ?_ ?_
        ·intro b15
         have c15 := b15
         try simp only [beq_iff_eq] at c15
         refine X_seq ?_
         have hp := place_call0 IsL.nil t (by simp)
         refine X_rg fun R hR => ?_
         simp only [EVP, inr_i64, Int.reduceLE, Int.reduceNeg, aops, astep, awant, aeff, aop, mkD, ev, ofValue, St.put, pcall, zmc, zmn, zg1, zg0, zgd, zmo, if_true, zs1, zs0, zlc, zln, zd0, zt1, zt0, zca, zna, Nat.reduceAdd, Nat.reduceLeDiff, Nat.zero_add, and_self, ty_api_Node, any39, dN_agg, sl, b15, hp]
         with_reducible refine hR _ ?_
         clear hR R
         show X _ _ _ _
         refine X_ret ?_
         show ∃ d, resD _ _ _ = some d ∧ _ ∧ _
         have hw := wrT_eq t
         simp only [updN, bodN, b2, b4, b6, b8, b10, b12, b14, b15, Bool.or_true, Bool.or_false, if_true] at hw
         refine ⟨_, by simp only [resD, resAll, resOne, resTup, Try.results17, EVP, zg1, zg0, D.good, if_true, zmo] <;> exact rfl, (IsL.sl' _).u 0, by rw [hw]; exact (IsL.sl' _).s⟩
        ·intro b16
         have c16 := b16
         try simp only [ne_eq, beq_eq_false_iff_ne] at c16
         refine X_seq ?_
         refine X_rg fun R hR => ?_
         simp only [inr_u8, Int.reduceLE, aops, astep, awant, aeff, aop, abin, aint, ev, ofValue, St.put, zg1, zg0, zgd, zmo, if_true, zs1, zs0, and_self, b16]
         with_reducible refine hR _ ?_
         clear hR R
         show X _ _ _ _
         refine X_ite (by simp only [ev, zg1, zg0, zgd]; exact rfl) ?_ ?_
         ·intro b17
          have c17 := b17
          try simp only [beq_iff_eq] at c17
          refine X_seq ?_
          have hp := place_call0 IsL.nil t (by simp)
          have hp2 := place_call1 (IsL.sl' (placeN t 0 [])) t (by have := placeN_len t 0 []; simp at this; omega)
          refine X_rg fun R hR => ?_
          simp only [EVP, inr_i64, Int.reduceLE, Int.reduceNeg, aops, astep, awant, aeff, aop, mkD, ev, ofValue, St.put, pcall, zmc, zmn, zg1, zg0, zgd, zmo, if_true, zs1, zs0, zlc, zln, zd0, zt1, zt0, zca, zna, Nat.reduceAdd, Nat.reduceLeDiff, Nat.zero_add, and_self, ty_api_Node, any39, dN_agg, sl, b17, hp, hp2]
          with_reducible refine hR _ ?_
          clear hR R
          show X _ _ _ _
          refine X_ret ?_
          show ∃ d, resD _ _ _ = some d ∧ _ ∧ _
          have hw := wrT_eq t
          simp only [updN, bodN, b2, b4, b6, b8, b10, b12, b14, b16, b17, Bool.or_false, zft, if_true, if_false] at hw
          refine ⟨_, by simp only [resD, resAll, resOne, resTup, Try.results17, EVP, zg1, zg0, D.good, if_true, zmo] <;> exact rfl, (IsL.sl' _).u 0, by rw [hw]; exact (IsL.sl' _).s⟩
         ·intro b18
          have c18 := b18
          try simp only [ne_eq, beq_eq_false_iff_ne] at c18
          refine X_seq ?_
          refine X_seq ?_
          refine X_rg fun R hR => ?_
          simp only [inr_u8, Int.reduceLE, aops, astep, awant, aeff, aop, abin, aint, ev, ofValue, St.put, zg1, zg0, zgd, zmo, if_true, zs1, zs0, and_self, b18]
          with_reducible refine hR _ ?_
          clear hR R
          show X _ _ _ _
          refine X_ite (by simp only [ev, zg1, zg0, zgd]; exact rfl) ?_ ?_
          ·intro b19
           have c19 := b19
           try simp only [beq_iff_eq] at c19
           refine X_skip ?_
           show X _ _ _ _
           refine X_true (by simp only [ev, zg1, zg0, zgd, b19]) ?_
           refine X_seq ?_
           have hp := put_call IsL.nil t.name (by simp)
           rw [putN_nil] at hp
           have hp2 := place_call0 (IsL.sl' [t.name]) t (by simp)
           simp only [zmc, zmn] at hp2
           refine X_rg fun R hR => ?_
           simp only [EVP, inr_i64, Int.reduceLE, Int.reduceNeg, aops, astep, awant, aeff, aop, mkD, ev, ofValue, St.put, pcall, ia_str, zmc, zmn, zg1, zg0, zgd, zmo, if_true, zs1, zs0, zlc, zln, zd1, zd0, zt1, zt0, zca, zna, Nat.reduceAdd, Nat.reduceLeDiff, Nat.zero_add, zft, if_false, and_self, reduceCtorEq, ty_string, ty_api_Node, any35, any39, dN_agg, sl, b19, hp, hp2]
           with_reducible refine hR _ ?_
           clear hR R
           show X _ _ _ _
           refine X_ret ?_
           show ∃ d, resD _ _ _ = some d ∧ _ ∧ _
           have hw := wrT_eq t
           simp only [updN, bodN, b2, b4, b6, b8, b10, b12, b14, b16, b18, b19, Bool.true_or, Bool.or_false, zft, if_true, if_false] at hw
           refine ⟨_, by simp only [resD, resAll, resOne, resTup, Try.results17, EVP, zg1, zg0, D.good, if_true, zmo] <;> exact rfl, (IsL.sl' _).u 0, by rw [hw]; exact (IsL.sl' _).s⟩
          ·intro b20
           have c20 := b20
           try simp only [ne_eq, beq_eq_false_iff_ne] at c20
           refine X_rg fun R hR => ?_
           simp only [inr_u8, Int.reduceLE, aops, astep, awant, aeff, aop, abin, aint, ev, ofValue, St.put, zg1, zg0, zgd, zmo, if_true, zs1, zs0, and_self, b20]
           with_reducible refine hR _ ?_
           clear hR R
           show X _ _ _ _
           refine X_ite (by simp only [ev, zg1, zg0, zgd]; exact rfl) ?_ ?_
           ·intro b21
            have c21 := b21
            try simp only [beq_iff_eq] at c21
            refine X_seq ?_
            have hp := put_call IsL.nil t.name (by simp)
            rw [putN_nil] at hp
            have hp2 := place_call0 (IsL.sl' [t.name]) t (by simp)
            simp only [zmc, zmn] at hp2
            refine X_rg fun R hR => ?_
            simp only [EVP, inr_i64, Int.reduceLE, Int.reduceNeg, aops, astep, awant, aeff, aop, mkD, ev, ofValue, St.put, pcall, ia_str, zmc, zmn, zg1, zg0, zgd, zmo, if_true, zs1, zs0, zlc, zln, zd1, zd0, zt1, zt0, zca, zna, Nat.reduceAdd, Nat.reduceLeDiff, Nat.zero_add, zft, if_false, and_self, reduceCtorEq, ty_string, ty_api_Node, any35, any39, dN_agg, sl, b21, hp, hp2]
            with_reducible refine hR _ ?_
            clear hR R
            show X _ _ _ _
            refine X_ret ?_
            show ∃ d, resD _ _ _ = some d ∧ _ ∧ _
            have hw := wrT_eq t
            simp only [updN, bodN, b2, b4, b6, b8, b10, b12, b14, b16, b18, b20, b21, Bool.or_true, Bool.or_false, zft, if_true, if_false] at hw
            refine ⟨_, by simp only [resD, resAll, resOne, resTup, Try.results17, EVP, zg1, zg0, D.good, if_true, zmo] <;> exact rfl, (IsL.sl' _).u 0, by rw [hw]; exact (IsL.sl' _).s⟩
           ·intro b22
            have c22 := b22
            try simp only [ne_eq, beq_eq_false_iff_ne] at c22
            refine X_seq ?_
            refine X_seq ?_
            refine X_rg fun R hR => ?_
            simp only [inr_u8, Int.reduceLE, aops, astep, awant, aeff, aop, abin, aint, ev, ofValue, St.put, zg1, zg0, zgd, zmo, if_true, zs1, zs0, and_self, b22]
            with_reducible refine hR _ ?_
            clear hR R
            show X _ _ _ _
            refine X_ite (by simp only [ev, zg1, zg0, zgd]; exact rfl) ?_ ?_
            ·intro b23
             have c23 := b23
             try simp only [beq_iff_eq] at c23
             refine X_skip ?_
             show X _ _ _ _
             refine X_true (by simp only [ev, zg1, zg0, zgd, b23]) ?_
             refine X_seq ?_
             refine X_rg fun R hR => ?_
             simp only [inr_i64, Int.reduceLE, Int.reduceNeg, aops, astep, awant, aeff, aop, ev, ofValue, St.put, zgd, zmo, if_true, zs1, zs0, and_self, b23]
             with_reducible refine hR _ ?_
             clear hR R
             show X _ _ _ _
             refine X_block ?_
             have hA1 := wrT_eq t
             simp only [updN, bodN, b2, b4, b6, b8, b10, b12, b14, b16, b18, b20, b22, b23, Bool.true_or, Bool.or_false, zft, if_true, if_false] at hA1
             refine X_loop (fun m σ => ∃ (i : Nat) (A : List ByteArray) (o : Own) (n : Nat) (r : List (List D)), σ = ⟨[slotOf σ 0, .ptr 0 0, slotOf σ 2, .slice o n (A.map dS), .int .i64 i, slotOf σ 5, slotOf σ 6, slotOf σ 7, slotOf σ 8, slotOf σ 9, slotOf σ 10, slotOf σ 11, slotOf σ 12, slotOf σ 13, slotOf σ 14, slotOf σ 15, slotOf σ 16, slotOf σ 17, slotOf σ 18, slotOf σ 19, slotOf σ 20, slotOf σ 21, slotOf σ 22, slotOf σ 23, slotOf σ 24, slotOf σ 25, slotOf σ 26, slotOf σ 27, slotOf σ 28, slotOf σ 29, slotOf σ 30, slotOf σ 31, slotOf σ 32, slotOf σ 33, slotOf σ 34, slotOf σ 35, slotOf σ 36, slotOf σ 37, slotOf σ 38, slotOf σ 39, slotOf σ 40, slotOf σ 41, slotOf σ 42, slotOf σ 43, slotOf σ 44, slotOf σ 45, slotOf σ 46, slotOf σ 47, slotOf σ 48, slotOf σ 49, slotOf σ 50, slotOf σ 51, slotOf σ 52, slotOf σ 53, slotOf σ 54, slotOf σ 55, slotOf σ 56, slotOf σ 57, slotOf σ 58, slotOf σ 59, slotOf σ 60, slotOf σ 61, slotOf σ 62, slotOf σ 63, slotOf σ 64, slotOf σ 65, slotOf σ 66, slotOf σ 67, slotOf σ 68, slotOf σ 69, slotOf σ 70, slotOf σ 71, slotOf σ 72, slotOf σ 73, slotOf σ 74, slotOf σ 75, slotOf σ 76, slotOf σ 77], [.int .u8 t.kind, .int .i64 t.num, .str t.name, .slice .imm (if (t.kids.map dN).isEmpty = true then 0 else 4) (t.kids.map dN)] :: r, 0, []⟩ ∧ m = t.kids.length - i ∧ i ≤ t.kids.length ∧ IsL (.slice o n (A.map dS)) A ∧ A.length ≤ Tr.sizes (t.kids.take i) ∧ Hid (plK t.kids [] = plK (t.kids.drop i) A)) ?_ (t.kids.length) _ ?_
             rotate_left
             ·exact ⟨0, [], _, _, [], rfl, rfl, Nat.zero_le _, IsL.nil, by simp, Lib.hid rfl⟩
             rintro m σ ⟨i, A, o, n, r, hσ, rfl, hi, hd, hA, hf⟩
             generalize slotOf σ = x at hσ
             subst hσ
             refine X_seq ?_
             refine X_seq ?_
             refine X_rg fun R hR => ?_
             simp only [EVP, nat_lt, aops, astep, awant, aeff, aop, abin, aint, mkD, ev, St.put, ia_slice, zg1, zg0, zgd, zmo, if_true, zs1, zs0, zlm, zlc, zln, zd1, zd0, zt1, zt0, Nat.reduceAdd, Nat.reduceLeDiff, Nat.zero_add, zft, if_false, reduceCtorEq, ty_s_api_Node, ty_api_Node, und_api_Node]
             with_reducible refine hR _ ?_
             clear hR R
             show X _ _ _ _
             refine X_ite (by simp only [ev, zg1, zg0, zgd]; exact rfl) ?_ ?_
             ·intro b24
              have c24 := b24
              try simp only [decide_eq_true_eq] at c24
              refine X_skip ?_
              show X _ _ _ _
              refine X_seq ?_
              refine X_block ?_
              have hlt : i < t.kids.length := by first | assumption | omega | simp_all
              have hts := Tr.sizes_take t.kids i hlt
              have htl := Tr.sizes_take_le t.kids (i + 1)
              have hsp := Tr.size_pos t.kids[i]
              have hp := place_call hd t i (by omega) (by omega)
              refine X_rg fun R hR => ?_
              simp only [EVP, aops, astep, awant, aeff, aop, mkD, ev, St.put, pcall, zmc, zmn, zg1, zg0, zgd, zmo, if_true, zs1, zs0, zlc, zln, zd0, zt1, zt0, zca, zna, Nat.reduceAdd, Nat.reduceLeDiff, Nat.zero_add, ty_api_Node, any39, dN_agg, sl, b24, hp]
              with_reducible refine hR _ ?_
              clear hR R
              show X _ _ _ _
              have hbig : i < 9223372036854775807 := by omega
              refine X_rg fun R hR => ?_
              simp only [inr_i64, Int.reduceLE, Int.reduceNeg, aops, astep, awant, aeff, aop, abin, aint, ev, ofValue, St.put, zg1, zg0, zgd, zmo, if_true, zs1, zs0, and_self, nat_succ hbig]
              with_reducible refine hR _ ?_
              clear hR R
              show ∃ m, m < _ ∧ _
              have hpl := placeN_len t i A
              exact ⟨t.kids.length - (i + 1), by omega, i + 1, _, _, _, _, rfl, rfl, by omega, IsL.sl' _, by omega, Lib.hid (hf.out.trans (plK_step hlt))⟩
             ·intro b25
              have c25 := b25
              try simp only [decide_eq_false_iff_not] at c25
              refine X_exit ?_
              show X _ _ _ _
              refine X_seq ?_
              refine X_rg fun R hR => ?_
              simp only [aops, astep, awant, aeff, aop, ev, St.put, zg1, zg0, zgd, zmo, if_true, zs1, zs0, b25]
              with_reducible refine hR _ ?_
              clear hR R
              show X _ _ _ _
              refine X_ret ?_
              show ∃ d, resD _ _ _ = some d ∧ _ ∧ _
              have hU : wrT t = A := by rw [hA1, hf.out, List.drop_of_length_le (by omega)]; simp only [plK]
              refine ⟨_, by simp only [resD, resAll, resOne, resTup, Try.results17, EVP, zg1, zg0, D.good, if_true, zmo] <;> exact rfl, hd.u 0, by rw [hU]; exact hd.s⟩
            ·intro b26
             have c26 := b26
             try simp only [ne_eq, beq_eq_false_iff_ne] at c26
             refine X_rg fun R hR => ?_
             simp only [inr_u8, Int.reduceLE, aops, astep, awant, aeff, aop, abin, aint, ev, ofValue, St.put, zg1, zg0, zgd, zmo, if_true, zs1, zs0, and_self, b26]
             with_reducible refine hR _ ?_
             clear hR R
             show X _ _ _ _
             refine X_ite (by simp only [ev, zg1, zg0, zgd]; exact rfl) ?_ ?_
             ·intro b27
              have c27 := b27
              try simp only [beq_iff_eq] at c27
              refine X_seq ?_
              refine X_rg fun R hR => ?_
              simp only [inr_i64, Int.reduceLE, Int.reduceNeg, aops, astep, awant, aeff, aop, ev, ofValue, St.put, zgd, zmo, if_true, zs1, zs0, and_self, b27]
              with_reducible refine hR _ ?_
              clear hR R
              show X _ _ _ _
              refine X_block ?_
              have hA1 := wrT_eq t
              simp only [updN, bodN, b2, b4, b6, b8, b10, b12, b14, b16, b18, b20, b22, b26, b27, Bool.or_true, Bool.or_false, zft, if_true, if_false] at hA1
              refine X_loop (fun m σ => ∃ (i : Nat) (A : List ByteArray) (o : Own) (n : Nat) (r : List (List D)), σ = ⟨[slotOf σ 0, .ptr 0 0, slotOf σ 2, .slice o n (A.map dS), .int .i64 i, slotOf σ 5, slotOf σ 6, slotOf σ 7, slotOf σ 8, slotOf σ 9, slotOf σ 10, slotOf σ 11, slotOf σ 12, slotOf σ 13, slotOf σ 14, slotOf σ 15, slotOf σ 16, slotOf σ 17, slotOf σ 18, slotOf σ 19, slotOf σ 20, slotOf σ 21, slotOf σ 22, slotOf σ 23, slotOf σ 24, slotOf σ 25, slotOf σ 26, slotOf σ 27, slotOf σ 28, slotOf σ 29, slotOf σ 30, slotOf σ 31, slotOf σ 32, slotOf σ 33, slotOf σ 34, slotOf σ 35, slotOf σ 36, slotOf σ 37, slotOf σ 38, slotOf σ 39, slotOf σ 40, slotOf σ 41, slotOf σ 42, slotOf σ 43, slotOf σ 44, slotOf σ 45, slotOf σ 46, slotOf σ 47, slotOf σ 48, slotOf σ 49, slotOf σ 50, slotOf σ 51, slotOf σ 52, slotOf σ 53, slotOf σ 54, slotOf σ 55, slotOf σ 56, slotOf σ 57, slotOf σ 58, slotOf σ 59, slotOf σ 60, slotOf σ 61, slotOf σ 62, slotOf σ 63, slotOf σ 64, slotOf σ 65, slotOf σ 66, slotOf σ 67, slotOf σ 68, slotOf σ 69, slotOf σ 70, slotOf σ 71, slotOf σ 72, slotOf σ 73, slotOf σ 74, slotOf σ 75, slotOf σ 76, slotOf σ 77], [.int .u8 t.kind, .int .i64 t.num, .str t.name, .slice .imm (if (t.kids.map dN).isEmpty = true then 0 else 4) (t.kids.map dN)] :: r, 0, []⟩ ∧ m = t.kids.length - i ∧ i ≤ t.kids.length ∧ IsL (.slice o n (A.map dS)) A ∧ A.length ≤ Tr.sizes (t.kids.take i) ∧ Hid (plK t.kids [] = plK (t.kids.drop i) A)) ?_ (t.kids.length) _ ?_
              rotate_left
              ·exact ⟨0, [], _, _, [], rfl, rfl, Nat.zero_le _, IsL.nil, by simp, Lib.hid rfl⟩
              rintro m σ ⟨i, A, o, n, r, hσ, rfl, hi, hd, hA, hf⟩
              generalize slotOf σ = x at hσ
              subst hσ
              refine X_seq ?_
              refine X_seq ?_
              refine X_rg fun R hR => ?_
              simp only [EVP, nat_lt, aops, astep, awant, aeff, aop, abin, aint, mkD, ev, St.put, ia_slice, zg1, zg0, zgd, zmo, if_true, zs1, zs0, zlm, zlc, zln, zd1, zd0, zt1, zt0, Nat.reduceAdd, Nat.reduceLeDiff, Nat.zero_add, zft, if_false, reduceCtorEq, ty_s_api_Node, ty_api_Node, und_api_Node]
              with_reducible refine hR _ ?_
              clear hR R
              show X _ _ _ _
              refine X_ite (by simp only [ev, zg1, zg0, zgd]; exact rfl) ?_ ?_
              ·intro b28
               have c28 := b28
               try simp only [decide_eq_true_eq] at c28
               refine X_skip ?_
               show X _ _ _ _
               refine X_seq ?_
               refine X_block ?_
               have hlt : i < t.kids.length := by first | assumption | omega | simp_all
               have hts := Tr.sizes_take t.kids i hlt
               have htl := Tr.sizes_take_le t.kids (i + 1)
               have hsp := Tr.size_pos t.kids[i]
               have hp := place_call hd t i (by omega) (by omega)
               refine X_rg fun R hR => ?_
               simp only [EVP, aops, astep, awant, aeff, aop, mkD, ev, St.put, pcall, zmc, zmn, zg1, zg0, zgd, zmo, if_true, zs1, zs0, zlc, zln, zd0, zt1, zt0, zca, zna, Nat.reduceAdd, Nat.reduceLeDiff, Nat.zero_add, ty_api_Node, any39, dN_agg, sl, b28, hp]
               with_reducible refine hR _ ?_
               clear hR R
               show X _ _ _ _
               have hbig : i < 9223372036854775807 := by omega
               refine X_rg fun R hR => ?_
               simp only [inr_i64, Int.reduceLE, Int.reduceNeg, aops, astep, awant, aeff, aop, abin, aint, ev, ofValue, St.put, zg1, zg0, zgd, zmo, if_true, zs1, zs0, and_self, nat_succ hbig]
               with_reducible refine hR _ ?_
               clear hR R
               show ∃ m, m < _ ∧ _
               have hpl := placeN_len t i A
               exact ⟨t.kids.length - (i + 1), by omega, i + 1, _, _, _, _, rfl, rfl, by omega, IsL.sl' _, by omega, Lib.hid (hf.out.trans (plK_step hlt))⟩
              ·intro b29
               have c29 := b29
               try simp only [decide_eq_false_iff_not] at c29
               refine X_exit ?_
               show X _ _ _ _
               refine X_seq ?_
               refine X_rg fun R hR => ?_
               simp only [aops, astep, awant, aeff, aop, ev, St.put, zg1, zg0, zgd, zmo, if_true, zs1, zs0, b29]
               with_reducible refine hR _ ?_
               clear hR R
               show X _ _ _ _
               refine X_ret ?_
               show ∃ d, resD _ _ _ = some d ∧ _ ∧ _
               have hU : wrT t = A := by rw [hA1, hf.out, List.drop_of_length_le (by omega)]; simp only [plK]
               refine ⟨_, by simp only [resD, resAll, resOne, resTup, Try.results17, EVP, zg1, zg0, D.good, if_true, zmo] <;> exact rfl, hd.u 0, by rw [hU]; exact hd.s⟩
             ·intro b30
              have c30 := b30
              try simp only [ne_eq, beq_eq_false_iff_ne] at c30
              refine X_seq ?_
              refine X_seq ?_
              refine X_rg fun R hR => ?_
              simp only [inr_u8, Int.reduceLE, aops, astep, awant, aeff, aop, abin, aint, ev, ofValue, St.put, zg1, zg0, zgd, zmo, if_true, zs1, zs0, and_self, b30]
              with_reducible refine hR _ ?_
              clear hR R
              show X _ _ _ _
              refine X_ite (by simp only [ev, zg1, zg0, zgd]; exact rfl) ?_ ?_
              ·intro b31
               have c31 := b31
               try simp only [beq_iff_eq] at c31
               refine X_skip ?_
               show X _ _ _ _
               refine X_true (by simp only [ev, zg1, zg0, zgd, b31]) ?_
               refine X_seq ?_
               refine X_rg fun R hR => ?_
               simp only [inr_i64, Int.reduceLE, Int.reduceNeg, aops, astep, awant, aeff, aop, ev, ofValue, St.put, zgd, zmo, if_true, zs1, zs0, and_self, b31]
               with_reducible refine hR _ ?_
               clear hR R
               show X _ _ _ _
               refine X_block ?_
               have hB1 := wrT_eq t
               simp only [updN, bodN, b2, b4, b6, b8, b10, b12, b14, b16, b18, b20, b22, b26, b30, b31, Bool.true_or, Bool.or_false, zft, if_true, if_false] at hB1
               refine X_loop (fun m σ => ∃ (i : Nat) (A : List ByteArray) (o : Own) (n : Nat) (r : List (List D)), σ = ⟨[slotOf σ 0, .ptr 0 0, slotOf σ 2, .slice o n (A.map dS), slotOf σ 4, .int .i64 i, slotOf σ 6, slotOf σ 7, slotOf σ 8, slotOf σ 9, slotOf σ 10, slotOf σ 11, slotOf σ 12, slotOf σ 13, slotOf σ 14, slotOf σ 15, slotOf σ 16, slotOf σ 17, slotOf σ 18, slotOf σ 19, slotOf σ 20, slotOf σ 21, slotOf σ 22, slotOf σ 23, slotOf σ 24, slotOf σ 25, slotOf σ 26, slotOf σ 27, slotOf σ 28, slotOf σ 29, slotOf σ 30, slotOf σ 31, slotOf σ 32, slotOf σ 33, slotOf σ 34, slotOf σ 35, slotOf σ 36, slotOf σ 37, slotOf σ 38, slotOf σ 39, slotOf σ 40, slotOf σ 41, slotOf σ 42, slotOf σ 43, slotOf σ 44, slotOf σ 45, slotOf σ 46, slotOf σ 47, slotOf σ 48, slotOf σ 49, slotOf σ 50, slotOf σ 51, slotOf σ 52, slotOf σ 53, slotOf σ 54, slotOf σ 55, slotOf σ 56, slotOf σ 57, slotOf σ 58, slotOf σ 59, slotOf σ 60, slotOf σ 61, slotOf σ 62, slotOf σ 63, slotOf σ 64, slotOf σ 65, slotOf σ 66, slotOf σ 67, slotOf σ 68, slotOf σ 69, slotOf σ 70, slotOf σ 71, slotOf σ 72, slotOf σ 73, slotOf σ 74, slotOf σ 75, slotOf σ 76, slotOf σ 77], [.int .u8 t.kind, .int .i64 t.num, .str t.name, .slice .imm (if (t.kids.map dN).isEmpty = true then 0 else 4) (t.kids.map dN)] :: r, 0, []⟩ ∧ m = t.kids.length - i ∧ i ≤ t.kids.length ∧ IsL (.slice o n (A.map dS)) A ∧ A.length ≤ 2 * Tr.sizes (t.kids.take i) ∧ Hid (wrK t.kind t.name 0 t.kids [] = wrK t.kind t.name i (t.kids.drop i) A)) ?_ (t.kids.length) _ ?_
               rotate_left
               ·exact ⟨0, [], _, _, [], rfl, rfl, Nat.zero_le _, IsL.nil, by simp, Lib.hid rfl⟩
               rintro m σ ⟨i, A, o, n, r, hσ, rfl, hi, hd, hA, hf⟩
               generalize slotOf σ = x at hσ
               subst hσ
               refine X_seq ?_
               refine X_seq ?_
               refine X_rg fun R hR => ?_
               simp only [EVP, nat_lt, aops, astep, awant, aeff, aop, abin, aint, mkD, ev, St.put, ia_slice, zg1, zg0, zgd, zmo, if_true, zs1, zs0, zlm, zlc, zln, zd1, zd0, zt1, zt0, Nat.reduceAdd, Nat.reduceLeDiff, Nat.zero_add, zft, if_false, reduceCtorEq, ty_s_api_Node, ty_api_Node, und_api_Node]
               with_reducible refine hR _ ?_
               clear hR R
               show X _ _ _ _
               refine X_ite (by simp only [ev, zg1, zg0, zgd]; exact rfl) ?_ ?_
               ·intro b32
                have c32 := b32
                try simp only [decide_eq_true_eq] at c32
                refine X_skip ?_
                show X _ _ _ _
                refine X_seq ?_
                refine X_block ?_
                have hlt : i < t.kids.length := by first | assumption | omega | simp_all
                have hts := Tr.sizes_take t.kids i hlt
                have htl := Tr.sizes_take_le t.kids (i + 1)
                have hsp := Tr.size_pos t.kids[i]
                have hn1 := idx_n (f := dN) (n := 4) hlt
                have e1 : (t.kids.map dN)[i]? = some (dN t.kids[i]) := by simp [hlt]
                have hg1 := hg t.kids[i] (List.getElem_mem hlt)
                have hi1 := inner_fn t
                have hls := wrT_len t.kids[i]
                have hU := union_call hd (IsL.sl' (wrT t.kids[i])) t.name (hidesN t.kind i) (by omega)
                refine X_rg fun R hR => ?_
                simp only [EVP, nat_lt, nat_0, nat_to, aops, astep, awant, aeff, aop, abin, aint, mkD, ev, St.put, pcall, ia_str, ia_slice, zmc, zmn, zg1, zg0, zgd, zmo, if_true, zs1, zs0, zlm, zlc, zln, zd1, zd0, zt1, zt0, zca, zna, Nat.reduceAdd, Nat.reduceLeDiff, Nat.zero_add, zft, if_false, and_self, reduceCtorEq, decide_true, zis, ty_string, ty_s_api_Node, ty_api_Node, und_api_Node, siz_api_Node, inf_api_Node_eq, any17, any36, any37, dN_agg, dN_cells, dN_isAgg, sl, hlt, hn1, e1, hg1, hi1, inner_eq, hU]
                with_reducible refine hR _ ?_
                clear hR R
                show X _ _ _ _
                have hbig : i < 9223372036854775807 := by omega
                refine X_rg fun R hR => ?_
                simp only [inr_i64, Int.reduceLE, Int.reduceNeg, aops, astep, awant, aeff, aop, abin, aint, ev, ofValue, St.put, zg1, zg0, zgd, zmo, if_true, zs1, zs0, and_self, nat_succ hbig]
                with_reducible refine hR _ ?_
                clear hR R
                show ∃ m, m < _ ∧ _
                have hul := unionN_len t.name (hidesN t.kind i) (wrT t.kids[i]) A
                exact ⟨t.kids.length - (i + 1), by omega, i + 1, _, _, _, _, rfl, rfl, by omega, IsL.sl' _, by omega, Lib.hid (hf.out.trans (wrK_step hlt))⟩
               ·intro b33
                have c33 := b33
                try simp only [decide_eq_false_iff_not] at c33
                refine X_exit ?_
                show X _ _ _ _
                refine X_seq ?_
                refine X_rg fun R hR => ?_
                simp only [aops, astep, awant, aeff, aop, ev, St.put, zg1, zg0, zgd, zmo, if_true, zs1, zs0, b33]
                with_reducible refine hR _ ?_
                clear hR R
                show X _ _ _ _
                refine X_ret ?_
                show ∃ d, resD _ _ _ = some d ∧ _ ∧ _
                have hU : wrT t = A := by rw [hB1, hf.out, List.drop_of_length_le (by omega)]; simp only [wrK]
                refine ⟨_, by simp only [resD, resAll, resOne, resTup, Try.results17, EVP, zg1, zg0, D.good, if_true, zmo] <;> exact rfl, hd.u 0, by rw [hU]; exact hd.s⟩
              ·intro b34
               have c34 := b34
               try simp only [ne_eq, beq_eq_false_iff_ne] at c34
               refine X_seq ?_
               refine X_rg fun R hR => ?_
               simp only [inr_u8, Int.reduceLE, aops, astep, awant, aeff, aop, abin, aint, ev, ofValue, St.put, zg1, zg0, zgd, zmo, if_true, zs1, zs0, and_self, b34]
               with_reducible refine hR _ ?_
               clear hR R
               show X _ _ _ _
               refine X_ite (by simp only [ev, zg1, zg0, zgd]; exact rfl) ?_ ?_
               ·intro b35
                have c35 := b35
                try simp only [beq_iff_eq] at c35
                refine X_skip ?_
                show X _ _ _ _
                refine X_true (by simp only [ev, zg1, zg0, zgd, b35]) ?_
                refine X_seq ?_
                refine X_rg fun R hR => ?_
                simp only [inr_i64, Int.reduceLE, Int.reduceNeg, aops, astep, awant, aeff, aop, ev, ofValue, St.put, zgd, zmo, if_true, zs1, zs0, and_self, b35]
                with_reducible refine hR _ ?_
                clear hR R
                show X _ _ _ _
                refine X_block ?_
                have hB1 := wrT_eq t
                simp only [updN, bodN, b2, b4, b6, b8, b10, b12, b14, b16, b18, b20, b22, b26, b30, b34, b35, Bool.or_true, Bool.true_or, Bool.or_false, zft, if_true, if_false] at hB1
                refine X_loop (fun m σ => ∃ (i : Nat) (A : List ByteArray) (o : Own) (n : Nat) (r : List (List D)), σ = ⟨[slotOf σ 0, .ptr 0 0, slotOf σ 2, .slice o n (A.map dS), slotOf σ 4, .int .i64 i, slotOf σ 6, slotOf σ 7, slotOf σ 8, slotOf σ 9, slotOf σ 10, slotOf σ 11, slotOf σ 12, slotOf σ 13, slotOf σ 14, slotOf σ 15, slotOf σ 16, slotOf σ 17, slotOf σ 18, slotOf σ 19, slotOf σ 20, slotOf σ 21, slotOf σ 22, slotOf σ 23, slotOf σ 24, slotOf σ 25, slotOf σ 26, slotOf σ 27, slotOf σ 28, slotOf σ 29, slotOf σ 30, slotOf σ 31, slotOf σ 32, slotOf σ 33, slotOf σ 34, slotOf σ 35, slotOf σ 36, slotOf σ 37, slotOf σ 38, slotOf σ 39, slotOf σ 40, slotOf σ 41, slotOf σ 42, slotOf σ 43, slotOf σ 44, slotOf σ 45, slotOf σ 46, slotOf σ 47, slotOf σ 48, slotOf σ 49, slotOf σ 50, slotOf σ 51, slotOf σ 52, slotOf σ 53, slotOf σ 54, slotOf σ 55, slotOf σ 56, slotOf σ 57, slotOf σ 58, slotOf σ 59, slotOf σ 60, slotOf σ 61, slotOf σ 62, slotOf σ 63, slotOf σ 64, slotOf σ 65, slotOf σ 66, slotOf σ 67, slotOf σ 68, slotOf σ 69, slotOf σ 70, slotOf σ 71, slotOf σ 72, slotOf σ 73, slotOf σ 74, slotOf σ 75, slotOf σ 76, slotOf σ 77], [.int .u8 t.kind, .int .i64 t.num, .str t.name, .slice .imm (if (t.kids.map dN).isEmpty = true then 0 else 4) (t.kids.map dN)] :: r, 0, []⟩ ∧ m = t.kids.length - i ∧ i ≤ t.kids.length ∧ IsL (.slice o n (A.map dS)) A ∧ A.length ≤ 2 * Tr.sizes (t.kids.take i) ∧ Hid (wrK t.kind t.name 0 t.kids [] = wrK t.kind t.name i (t.kids.drop i) A)) ?_ (t.kids.length) _ ?_
                rotate_left
                ·exact ⟨0, [], _, _, [], rfl, rfl, Nat.zero_le _, IsL.nil, by simp, Lib.hid rfl⟩
                rintro m σ ⟨i, A, o, n, r, hσ, rfl, hi, hd, hA, hf⟩
                generalize slotOf σ = x at hσ
                subst hσ
                refine X_seq ?_
                refine X_seq ?_
                refine X_rg fun R hR => ?_
                simp only [EVP, nat_lt, aops, astep, awant, aeff, aop, abin, aint, mkD, ev, St.put, ia_slice, zg1, zg0, zgd, zmo, if_true, zs1, zs0, zlm, zlc, zln, zd1, zd0, zt1, zt0, Nat.reduceAdd, Nat.reduceLeDiff, Nat.zero_add, zft, if_false, reduceCtorEq, ty_s_api_Node, ty_api_Node, und_api_Node]
                with_reducible refine hR _ ?_
                clear hR R
                show X _ _ _ _
                refine X_ite (by simp only [ev, zg1, zg0, zgd]; exact rfl) ?_ ?_
                ·intro b36
                 have c36 := b36
                 try simp only [decide_eq_true_eq] at c36
                 refine X_skip ?_
                 show X _ _ _ _
                 refine X_seq ?_
                 refine X_block ?_
                 have hlt : i < t.kids.length := by first | assumption | omega | simp_all
                 have hts := Tr.sizes_take t.kids i hlt
                 have htl := Tr.sizes_take_le t.kids (i + 1)
                 have hsp := Tr.size_pos t.kids[i]
                 have hn1 := idx_n (f := dN) (n := 4) hlt
                 have e1 : (t.kids.map dN)[i]? = some (dN t.kids[i]) := by simp [hlt]
                 have hg1 := hg t.kids[i] (List.getElem_mem hlt)
                 have hi1 := inner_fn t
                 have hls := wrT_len t.kids[i]
                 have hU := union_call hd (IsL.sl' (wrT t.kids[i])) t.name (hidesN t.kind i) (by omega)
                 refine X_rg fun R hR => ?_
                 simp only [EVP, nat_lt, nat_0, nat_to, aops, astep, awant, aeff, aop, abin, aint, mkD, ev, St.put, pcall, ia_str, ia_slice, zmc, zmn, zg1, zg0, zgd, zmo, if_true, zs1, zs0, zlm, zlc, zln, zd1, zd0, zt1, zt0, zca, zna, Nat.reduceAdd, Nat.reduceLeDiff, Nat.zero_add, zft, if_false, and_self, reduceCtorEq, decide_true, zis, ty_string, ty_s_api_Node, ty_api_Node, und_api_Node, siz_api_Node, inf_api_Node_eq, any17, any36, any37, dN_agg, dN_cells, dN_isAgg, sl, hlt, hn1, e1, hg1, hi1, inner_eq, hU]
                 with_reducible refine hR _ ?_
                 clear hR R
                 show X _ _ _ _
                 have hbig : i < 9223372036854775807 := by omega
                 refine X_rg fun R hR => ?_
                 simp only [inr_i64, Int.reduceLE, Int.reduceNeg, aops, astep, awant, aeff, aop, abin, aint, ev, ofValue, St.put, zg1, zg0, zgd, zmo, if_true, zs1, zs0, and_self, nat_succ hbig]
                 with_reducible refine hR _ ?_
                 clear hR R
                 show ∃ m, m < _ ∧ _
                 have hul := unionN_len t.name (hidesN t.kind i) (wrT t.kids[i]) A
                 exact ⟨t.kids.length - (i + 1), by omega, i + 1, _, _, _, _, rfl, rfl, by omega, IsL.sl' _, by omega, Lib.hid (hf.out.trans (wrK_step hlt))⟩
                ·intro b37
                 have c37 := b37
                 try simp only [decide_eq_false_iff_not] at c37
                 refine X_exit ?_
                 show X _ _ _ _
                 refine X_seq ?_
                 refine X_rg fun R hR => ?_
                 simp only [aops, astep, awant, aeff, aop, ev, St.put, zg1, zg0, zgd, zmo, if_true, zs1, zs0, b37]
                 with_reducible refine hR _ ?_
                 clear hR R
                 show X _ _ _ _
                 refine X_ret ?_
                 show ∃ d, resD _ _ _ = some d ∧ _ ∧ _
                 have hU : wrT t = A := by rw [hB1, hf.out, List.drop_of_length_le (by omega)]; simp only [wrK]
                 refine ⟨_, by simp only [resD, resAll, resOne, resTup, Try.results17, EVP, zg1, zg0, D.good, if_true, zmo] <;> exact rfl, hd.u 0, by rw [hU]; exact hd.s⟩
               ·intro b38
                have c38 := b38
                try simp only [ne_eq, beq_eq_false_iff_ne] at c38
                refine X_seq ?_
                refine X_rg fun R hR => ?_
                simp only [inr_u8, Int.reduceLE, aops, astep, awant, aeff, aop, abin, aint, ev, ofValue, St.put, zg1, zg0, zgd, zmo, if_true, zs1, zs0, and_self, b38]
                with_reducible refine hR _ ?_
                clear hR R
                show X _ _ _ _
                refine X_ite (by simp only [ev, zg1, zg0, zgd]; exact rfl) ?_ ?_
                ·intro b39
                 have c39 := b39
                 try simp only [beq_iff_eq] at c39
                 refine X_skip ?_
                 show X _ _ _ _
                 refine X_true (by simp only [ev, zg1, zg0, zgd, b39]) ?_
                 refine X_seq ?_
                 refine X_rg fun R hR => ?_
                 simp only [inr_i64, Int.reduceLE, Int.reduceNeg, aops, astep, awant, aeff, aop, ev, ofValue, St.put, zgd, zmo, if_true, zs1, zs0, and_self, b39]
                 with_reducible refine hR _ ?_
                 clear hR R
                 show X _ _ _ _
                 refine X_block ?_
                 have hB1 := wrT_eq t
                 simp only [updN, bodN, b2, b4, b6, b8, b10, b12, b14, b16, b18, b20, b22, b26, b30, b34, b38, b39, Bool.or_true, Bool.true_or, Bool.or_false, zft, if_true, if_false] at hB1
                 refine X_loop (fun m σ => ∃ (i : Nat) (A : List ByteArray) (o : Own) (n : Nat) (r : List (List D)), σ = ⟨[slotOf σ 0, .ptr 0 0, slotOf σ 2, .slice o n (A.map dS), slotOf σ 4, .int .i64 i, slotOf σ 6, slotOf σ 7, slotOf σ 8, slotOf σ 9, slotOf σ 10, slotOf σ 11, slotOf σ 12, slotOf σ 13, slotOf σ 14, slotOf σ 15, slotOf σ 16, slotOf σ 17, slotOf σ 18, slotOf σ 19, slotOf σ 20, slotOf σ 21, slotOf σ 22, slotOf σ 23, slotOf σ 24, slotOf σ 25, slotOf σ 26, slotOf σ 27, slotOf σ 28, slotOf σ 29, slotOf σ 30, slotOf σ 31, slotOf σ 32, slotOf σ 33, slotOf σ 34, slotOf σ 35, slotOf σ 36, slotOf σ 37, slotOf σ 38, slotOf σ 39, slotOf σ 40, slotOf σ 41, slotOf σ 42, slotOf σ 43, slotOf σ 44, slotOf σ 45, slotOf σ 46, slotOf σ 47, slotOf σ 48, slotOf σ 49, slotOf σ 50, slotOf σ 51, slotOf σ 52, slotOf σ 53, slotOf σ 54, slotOf σ 55, slotOf σ 56, slotOf σ 57, slotOf σ 58, slotOf σ 59, slotOf σ 60, slotOf σ 61, slotOf σ 62, slotOf σ 63, slotOf σ 64, slotOf σ 65, slotOf σ 66, slotOf σ 67, slotOf σ 68, slotOf σ 69, slotOf σ 70, slotOf σ 71, slotOf σ 72, slotOf σ 73, slotOf σ 74, slotOf σ 75, slotOf σ 76, slotOf σ 77], [.int .u8 t.kind, .int .i64 t.num, .str t.name, .slice .imm (if (t.kids.map dN).isEmpty = true then 0 else 4) (t.kids.map dN)] :: r, 0, []⟩ ∧ m = t.kids.length - i ∧ i ≤ t.kids.length ∧ IsL (.slice o n (A.map dS)) A ∧ A.length ≤ 2 * Tr.sizes (t.kids.take i) ∧ Hid (wrK t.kind t.name 0 t.kids [] = wrK t.kind t.name i (t.kids.drop i) A)) ?_ (t.kids.length) _ ?_
                 rotate_left
                 ·exact ⟨0, [], _, _, [], rfl, rfl, Nat.zero_le _, IsL.nil, by simp, Lib.hid rfl⟩
                 rintro m σ ⟨i, A, o, n, r, hσ, rfl, hi, hd, hA, hf⟩
                 generalize slotOf σ = x at hσ
                 subst hσ
                 refine X_seq ?_
                 refine X_seq ?_
                 refine X_rg fun R hR => ?_
                 simp only [EVP, nat_lt, aops, astep, awant, aeff, aop, abin, aint, mkD, ev, St.put, ia_slice, zg1, zg0, zgd, zmo, if_true, zs1, zs0, zlm, zlc, zln, zd1, zd0, zt1, zt0, Nat.reduceAdd, Nat.reduceLeDiff, Nat.zero_add, zft, if_false, reduceCtorEq, ty_s_api_Node, ty_api_Node, und_api_Node]
                 with_reducible refine hR _ ?_
                 clear hR R
                 show X _ _ _ _
                 refine X_ite (by simp only [ev, zg1, zg0, zgd]; exact rfl) ?_ ?_
                 ·intro b40
                  have c40 := b40
                  try simp only [decide_eq_true_eq] at c40
                  refine X_skip ?_
                  show X _ _ _ _
                  refine X_seq ?_
                  refine X_block ?_
                  have hlt : i < t.kids.length := by first | assumption | omega | simp_all
                  have hts := Tr.sizes_take t.kids i hlt
                  have htl := Tr.sizes_take_le t.kids (i + 1)
                  have hsp := Tr.size_pos t.kids[i]
                  have hn1 := idx_n (f := dN) (n := 4) hlt
                  have e1 : (t.kids.map dN)[i]? = some (dN t.kids[i]) := by simp [hlt]
                  have hg1 := hg t.kids[i] (List.getElem_mem hlt)
                  have hi1 := inner_fn t
                  have hls := wrT_len t.kids[i]
                  have hU := union_call hd (IsL.sl' (wrT t.kids[i])) t.name (hidesN t.kind i) (by omega)
                  refine X_rg fun R hR => ?_
                  simp only [EVP, nat_lt, nat_0, nat_to, aops, astep, awant, aeff, aop, abin, aint, mkD, ev, St.put, pcall, ia_str, ia_slice, zmc, zmn, zg1, zg0, zgd, zmo, if_true, zs1, zs0, zlm, zlc, zln, zd1, zd0, zt1, zt0, zca, zna, Nat.reduceAdd, Nat.reduceLeDiff, Nat.zero_add, zft, if_false, and_self, reduceCtorEq, decide_true, zis, ty_string, ty_s_api_Node, ty_api_Node, und_api_Node, siz_api_Node, inf_api_Node_eq, any17, any36, any37, dN_agg, dN_cells, dN_isAgg, sl, hlt, hn1, e1, hg1, hi1, inner_eq, hU]
                  with_reducible refine hR _ ?_
                  clear hR R
                  show X _ _ _ _
                  have hbig : i < 9223372036854775807 := by omega
                  refine X_rg fun R hR => ?_
                  simp only [inr_i64, Int.reduceLE, Int.reduceNeg, aops, astep, awant, aeff, aop, abin, aint, ev, ofValue, St.put, zg1, zg0, zgd, zmo, if_true, zs1, zs0, and_self, nat_succ hbig]
                  with_reducible refine hR _ ?_
                  clear hR R
                  show ∃ m, m < _ ∧ _
                  have hul := unionN_len t.name (hidesN t.kind i) (wrT t.kids[i]) A
                  exact ⟨t.kids.length - (i + 1), by omega, i + 1, _, _, _, _, rfl, rfl, by omega, IsL.sl' _, by omega, Lib.hid (hf.out.trans (wrK_step hlt))⟩
                 ·intro b41
                  have c41 := b41
                  try simp only [decide_eq_false_iff_not] at c41
                  refine X_exit ?_
                  show X _ _ _ _
                  refine X_seq ?_
                  refine X_rg fun R hR => ?_
                  simp only [aops, astep, awant, aeff, aop, ev, St.put, zg1, zg0, zgd, zmo, if_true, zs1, zs0, b41]
                  with_reducible refine hR _ ?_
                  clear hR R
                  show X _ _ _ _
                  refine X_ret ?_
                  show ∃ d, resD _ _ _ = some d ∧ _ ∧ _
                  have hU : wrT t = A := by rw [hB1, hf.out, List.drop_of_length_le (by omega)]; simp only [wrK]
                  refine ⟨_, by simp only [resD, resAll, resOne, resTup, Try.results17, EVP, zg1, zg0, D.good, if_true, zmo] <;> exact rfl, hd.u 0, by rw [hU]; exact hd.s⟩
                ·intro b42
                 have c42 := b42
                 try simp only [ne_eq, beq_eq_false_iff_ne] at c42
                 refine X_seq ?_
                 refine X_rg fun R hR => ?_
                 simp only [inr_u8, Int.reduceLE, aops, astep, awant, aeff, aop, abin, aint, ev, ofValue, St.put, zg1, zg0, zgd, zmo, if_true, zs1, zs0, and_self, b42]
                 with_reducible refine hR _ ?_
                 clear hR R
                 show X _ _ _ _
                 refine X_ite (by simp only [ev, zg1, zg0, zgd]; exact rfl) ?_ ?_
                 ·intro b43
                  have c43 := b43
                  try simp only [beq_iff_eq] at c43
                  refine X_skip ?_
                  show X _ _ _ _
                  refine X_true (by simp only [ev, zg1, zg0, zgd, b43]) ?_
                  refine X_seq ?_
                  refine X_rg fun R hR => ?_
                  simp only [inr_i64, Int.reduceLE, Int.reduceNeg, aops, astep, awant, aeff, aop, ev, ofValue, St.put, zgd, zmo, if_true, zs1, zs0, and_self, b43]
                  with_reducible refine hR _ ?_
                  clear hR R
                  show X _ _ _ _
                  refine X_block ?_
                  have hB1 := wrT_eq t
                  simp only [updN, bodN, b2, b4, b6, b8, b10, b12, b14, b16, b18, b20, b22, b26, b30, b34, b38, b42, b43, Bool.or_true, Bool.true_or, Bool.or_false, zft, if_true, if_false] at hB1
                  refine X_loop (fun m σ => ∃ (i : Nat) (A : List ByteArray) (o : Own) (n : Nat) (r : List (List D)), σ = ⟨[slotOf σ 0, .ptr 0 0, slotOf σ 2, .slice o n (A.map dS), slotOf σ 4, .int .i64 i, slotOf σ 6, slotOf σ 7, slotOf σ 8, slotOf σ 9, slotOf σ 10, slotOf σ 11, slotOf σ 12, slotOf σ 13, slotOf σ 14, slotOf σ 15, slotOf σ 16, slotOf σ 17, slotOf σ 18, slotOf σ 19, slotOf σ 20, slotOf σ 21, slotOf σ 22, slotOf σ 23, slotOf σ 24, slotOf σ 25, slotOf σ 26, slotOf σ 27, slotOf σ 28, slotOf σ 29, slotOf σ 30, slotOf σ 31, slotOf σ 32, slotOf σ 33, slotOf σ 34, slotOf σ 35, slotOf σ 36, slotOf σ 37, slotOf σ 38, slotOf σ 39, slotOf σ 40, slotOf σ 41, slotOf σ 42, slotOf σ 43, slotOf σ 44, slotOf σ 45, slotOf σ 46, slotOf σ 47, slotOf σ 48, slotOf σ 49, slotOf σ 50, slotOf σ 51, slotOf σ 52, slotOf σ 53, slotOf σ 54, slotOf σ 55, slotOf σ 56, slotOf σ 57, slotOf σ 58, slotOf σ 59, slotOf σ 60, slotOf σ 61, slotOf σ 62, slotOf σ 63, slotOf σ 64, slotOf σ 65, slotOf σ 66, slotOf σ 67, slotOf σ 68, slotOf σ 69, slotOf σ 70, slotOf σ 71, slotOf σ 72, slotOf σ 73, slotOf σ 74, slotOf σ 75, slotOf σ 76, slotOf σ 77], [.int .u8 t.kind, .int .i64 t.num, .str t.name, .slice .imm (if (t.kids.map dN).isEmpty = true then 0 else 4) (t.kids.map dN)] :: r, 0, []⟩ ∧ m = t.kids.length - i ∧ i ≤ t.kids.length ∧ IsL (.slice o n (A.map dS)) A ∧ A.length ≤ 2 * Tr.sizes (t.kids.take i) ∧ Hid (wrK t.kind t.name 0 t.kids [] = wrK t.kind t.name i (t.kids.drop i) A)) ?_ (t.kids.length) _ ?_
                  rotate_left
                  ·exact ⟨0, [], _, _, [], rfl, rfl, Nat.zero_le _, IsL.nil, by simp, Lib.hid rfl⟩
                  rintro m σ ⟨i, A, o, n, r, hσ, rfl, hi, hd, hA, hf⟩
                  generalize slotOf σ = x at hσ
                  subst hσ
                  refine X_seq ?_
                  refine X_seq ?_
                  refine X_rg fun R hR => ?_
                  simp only [EVP, nat_lt, aops, astep, awant, aeff, aop, abin, aint, mkD, ev, St.put, ia_slice, zg1, zg0, zgd, zmo, if_true, zs1, zs0, zlm, zlc, zln, zd1, zd0, zt1, zt0, Nat.reduceAdd, Nat.reduceLeDiff, Nat.zero_add, zft, if_false, reduceCtorEq, ty_s_api_Node, ty_api_Node, und_api_Node]
                  with_reducible refine hR _ ?_
                  clear hR R
                  show X _ _ _ _
                  refine X_ite (by simp only [ev, zg1, zg0, zgd]; exact rfl) ?_ ?_
                  ·intro b44
                   have c44 := b44
                   try simp only [decide_eq_true_eq] at c44
                   refine X_skip ?_
                   show X _ _ _ _
                   refine X_seq ?_
                   refine X_block ?_
                   have hlt : i < t.kids.length := by first | assumption | omega | simp_all
                   have hts := Tr.sizes_take t.kids i hlt
                   have htl := Tr.sizes_take_le t.kids (i + 1)
                   have hsp := Tr.size_pos t.kids[i]
                   have hn1 := idx_n (f := dN) (n := 4) hlt
                   have e1 : (t.kids.map dN)[i]? = some (dN t.kids[i]) := by simp [hlt]
                   have hg1 := hg t.kids[i] (List.getElem_mem hlt)
                   have hi1 := inner_fn t
                   have hls := wrT_len t.kids[i]
                   have hU := union_call hd (IsL.sl' (wrT t.kids[i])) t.name (hidesN t.kind i) (by omega)
                   refine X_rg fun R hR => ?_
                   simp only [EVP, nat_lt, nat_0, nat_to, aops, astep, awant, aeff, aop, abin, aint, mkD, ev, St.put, pcall, ia_str, ia_slice, zmc, zmn, zg1, zg0, zgd, zmo, if_true, zs1, zs0, zlm, zlc, zln, zd1, zd0, zt1, zt0, zca, zna, Nat.reduceAdd, Nat.reduceLeDiff, Nat.zero_add, zft, if_false, and_self, reduceCtorEq, decide_true, zis, ty_string, ty_s_api_Node, ty_api_Node, und_api_Node, siz_api_Node, inf_api_Node_eq, any17, any36, any37, dN_agg, dN_cells, dN_isAgg, sl, hlt, hn1, e1, hg1, hi1, inner_eq, hU]
                   with_reducible refine hR _ ?_
                   clear hR R
                   show X _ _ _ _
                   have hbig : i < 9223372036854775807 := by omega
                   refine X_rg fun R hR => ?_
                   simp only [inr_i64, Int.reduceLE, Int.reduceNeg, aops, astep, awant, aeff, aop, abin, aint, ev, ofValue, St.put, zg1, zg0, zgd, zmo, if_true, zs1, zs0, and_self, nat_succ hbig]
                   with_reducible refine hR _ ?_
                   clear hR R
                   show ∃ m, m < _ ∧ _
                   have hul := unionN_len t.name (hidesN t.kind i) (wrT t.kids[i]) A
                   exact ⟨t.kids.length - (i + 1), by omega, i + 1, _, _, _, _, rfl, rfl, by omega, IsL.sl' _, by omega, Lib.hid (hf.out.trans (wrK_step hlt))⟩
                  ·intro b45
                   have c45 := b45
                   try simp only [decide_eq_false_iff_not] at c45
                   refine X_exit ?_
                   show X _ _ _ _
                   refine X_seq ?_
                   refine X_rg fun R hR => ?_
                   simp only [aops, astep, awant, aeff, aop, ev, St.put, zg1, zg0, zgd, zmo, if_true, zs1, zs0, b45]
                   with_reducible refine hR _ ?_
                   clear hR R
                   show X _ _ _ _
                   refine X_ret ?_
                   show ∃ d, resD _ _ _ = some d ∧ _ ∧ _
                   have hU : wrT t = A := by rw [hB1, hf.out, List.drop_of_length_le (by omega)]; simp only [wrK]
                   refine ⟨_, by simp only [resD, resAll, resOne, resTup, Try.results17, EVP, zg1, zg0, D.good, if_true, zmo] <;> exact rfl, hd.u 0, by rw [hU]; exact hd.s⟩
                 ·intro b46
                  have c46 := b46
                  try simp only [ne_eq, beq_eq_false_iff_ne] at c46
                  refine X_rg fun R hR => ?_
                  simp only [inr_u8, Int.reduceLE, aops, astep, awant, aeff, aop, abin, aint, ev, ofValue, St.put, zg1, zg0, zgd, zmo, if_true, zs1, zs0, and_self, b46]
                  with_reducible refine hR _ ?_
                  clear hR R
                  show X _ _ _ _
                  refine X_ite (by simp only [ev, zg1, zg0, zgd]; exact rfl) ?_ ?_
                  ·intro b47
                   have c47 := b47
                   try simp only [beq_iff_eq] at c47
                   refine X_seq ?_
                   refine X_rg fun R hR => ?_
                   simp only [inr_i64, Int.reduceLE, Int.reduceNeg, aops, astep, awant, aeff, aop, ev, ofValue, St.put, zgd, zmo, if_true, zs1, zs0, and_self, b47]
                   with_reducible refine hR _ ?_
                   clear hR R
                   show X _ _ _ _
                   refine X_block ?_
                   have hB1 := wrT_eq t
                   simp only [updN, bodN, b2, b4, b6, b8, b10, b12, b14, b16, b18, b20, b22, b26, b30, b34, b38, b42, b46, b47, Bool.or_true, Bool.or_false, zft, if_true, if_false] at hB1
                   refine X_loop (fun m σ => ∃ (i : Nat) (A : List ByteArray) (o : Own) (n : Nat) (r : List (List D)), σ = ⟨[slotOf σ 0, .ptr 0 0, slotOf σ 2, .slice o n (A.map dS), slotOf σ 4, .int .i64 i, slotOf σ 6, slotOf σ 7, slotOf σ 8, slotOf σ 9, slotOf σ 10, slotOf σ 11, slotOf σ 12, slotOf σ 13, slotOf σ 14, slotOf σ 15, slotOf σ 16, slotOf σ 17, slotOf σ 18, slotOf σ 19, slotOf σ 20, slotOf σ 21, slotOf σ 22, slotOf σ 23, slotOf σ 24, slotOf σ 25, slotOf σ 26, slotOf σ 27, slotOf σ 28, slotOf σ 29, slotOf σ 30, slotOf σ 31, slotOf σ 32, slotOf σ 33, slotOf σ 34, slotOf σ 35, slotOf σ 36, slotOf σ 37, slotOf σ 38, slotOf σ 39, slotOf σ 40, slotOf σ 41, slotOf σ 42, slotOf σ 43, slotOf σ 44, slotOf σ 45, slotOf σ 46, slotOf σ 47, slotOf σ 48, slotOf σ 49, slotOf σ 50, slotOf σ 51, slotOf σ 52, slotOf σ 53, slotOf σ 54, slotOf σ 55, slotOf σ 56, slotOf σ 57, slotOf σ 58, slotOf σ 59, slotOf σ 60, slotOf σ 61, slotOf σ 62, slotOf σ 63, slotOf σ 64, slotOf σ 65, slotOf σ 66, slotOf σ 67, slotOf σ 68, slotOf σ 69, slotOf σ 70, slotOf σ 71, slotOf σ 72, slotOf σ 73, slotOf σ 74, slotOf σ 75, slotOf σ 76, slotOf σ 77], [.int .u8 t.kind, .int .i64 t.num, .str t.name, .slice .imm (if (t.kids.map dN).isEmpty = true then 0 else 4) (t.kids.map dN)] :: r, 0, []⟩ ∧ m = t.kids.length - i ∧ i ≤ t.kids.length ∧ IsL (.slice o n (A.map dS)) A ∧ A.length ≤ 2 * Tr.sizes (t.kids.take i) ∧ Hid (wrK t.kind t.name 0 t.kids [] = wrK t.kind t.name i (t.kids.drop i) A)) ?_ (t.kids.length) _ ?_
                   rotate_left
                   ·exact ⟨0, [], _, _, [], rfl, rfl, Nat.zero_le _, IsL.nil, by simp, Lib.hid rfl⟩
                   rintro m σ ⟨i, A, o, n, r, hσ, rfl, hi, hd, hA, hf⟩
                   generalize slotOf σ = x at hσ
                   subst hσ
                   refine X_seq ?_
                   refine X_seq ?_
                   refine X_rg fun R hR => ?_
                   simp only [EVP, nat_lt, aops, astep, awant, aeff, aop, abin, aint, mkD, ev, St.put, ia_slice, zg1, zg0, zgd, zmo, if_true, zs1, zs0, zlm, zlc, zln, zd1, zd0, zt1, zt0, Nat.reduceAdd, Nat.reduceLeDiff, Nat.zero_add, zft, if_false, reduceCtorEq, ty_s_api_Node, ty_api_Node, und_api_Node]
                   with_reducible refine hR _ ?_
                   clear hR R
                   show X _ _ _ _
                   refine X_ite (by simp only [ev, zg1, zg0, zgd]; exact rfl) ?_ ?_
                   ·intro b48
                    have c48 := b48
                    try simp only [decide_eq_true_eq] at c48
                    refine X_skip ?_
                    show X _ _ _ _
                    refine X_seq ?_
                    refine X_block ?_
                    have hlt : i < t.kids.length := by first | assumption | omega | simp_all
                    have hts := Tr.sizes_take t.kids i hlt
                    have htl := Tr.sizes_take_le t.kids (i + 1)
                    have hsp := Tr.size_pos t.kids[i]
                    have hn1 := idx_n (f := dN) (n := 4) hlt
                    have e1 : (t.kids.map dN)[i]? = some (dN t.kids[i]) := by simp [hlt]
                    have hg1 := hg t.kids[i] (List.getElem_mem hlt)
                    have hi1 := inner_fn t
                    have hls := wrT_len t.kids[i]
                    have hU := union_call hd (IsL.sl' (wrT t.kids[i])) t.name (hidesN t.kind i) (by omega)
                    refine X_rg fun R hR => ?_
                    simp only [EVP, nat_lt, nat_0, nat_to, aops, astep, awant, aeff, aop, abin, aint, mkD, ev, St.put, pcall, ia_str, ia_slice, zmc, zmn, zg1, zg0, zgd, zmo, if_true, zs1, zs0, zlm, zlc, zln, zd1, zd0, zt1, zt0, zca, zna, Nat.reduceAdd, Nat.reduceLeDiff, Nat.zero_add, zft, if_false, and_self, reduceCtorEq, decide_true, zis, ty_string, ty_s_api_Node, ty_api_Node, und_api_Node, siz_api_Node, inf_api_Node_eq, any17, any36, any37, dN_agg, dN_cells, dN_isAgg, sl, hlt, hn1, e1, hg1, hi1, inner_eq, hU]
                    with_reducible refine hR _ ?_
                    clear hR R
                    show X _ _ _ _
                    have hbig : i < 9223372036854775807 := by omega
                    refine X_rg fun R hR => ?_
                    simp only [inr_i64, Int.reduceLE, Int.reduceNeg, aops, astep, awant, aeff, aop, abin, aint, ev, ofValue, St.put, zg1, zg0, zgd, zmo, if_true, zs1, zs0, and_self, nat_succ hbig]
                    with_reducible refine hR _ ?_
                    clear hR R
                    show ∃ m, m < _ ∧ _
                    have hul := unionN_len t.name (hidesN t.kind i) (wrT t.kids[i]) A
                    exact ⟨t.kids.length - (i + 1), by omega, i + 1, _, _, _, _, rfl, rfl, by omega, IsL.sl' _, by omega, Lib.hid (hf.out.trans (wrK_step hlt))⟩
                   ·intro b49
                    have c49 := b49
                    try simp only [decide_eq_false_iff_not] at c49
                    refine X_exit ?_
                    show X _ _ _ _
                    refine X_seq ?_
                    refine X_rg fun R hR => ?_
                    simp only [aops, astep, awant, aeff, aop, ev, St.put, zg1, zg0, zgd, zmo, if_true, zs1, zs0, b49]
                    with_reducible refine hR _ ?_
                    clear hR R
                    show X _ _ _ _
                    refine X_ret ?_
                    show ∃ d, resD _ _ _ = some d ∧ _ ∧ _
                    have hU : wrT t = A := by rw [hB1, hf.out, List.drop_of_length_le (by omega)]; simp only [wrK]
                    refine ⟨_, by simp only [resD, resAll, resOne, resTup, Try.results17, EVP, zg1, zg0, D.good, if_true, zmo] <;> exact rfl, hd.u 0, by rw [hU]; exact hd.s⟩
                  ·intro b50
                   have c50 := b50
                   try simp only [ne_eq, beq_eq_false_iff_ne] at c50
                   refine X_skip ?_
                   show X _ _ _ _
                   refine X_seq ?_
                   refine X_rg fun R hR => ?_
                   simp only [aops, astep, awant, aeff, aop, ev, St.put, zg1, zg0, zgd, zmo, if_true, zs1, zs0, b50]
                   with_reducible refine hR _ ?_
                   clear hR R
                   show X _ _ _ _
                   refine X_ret ?_
                   show ∃ d, resD _ _ _ = some d ∧ _ ∧ _
                   have hw := wrT_eq t
                   simp only [updN, bodN, b2, b4, b6, b8, b10, b12, b14, b16, b18, b20, b22, b26, b30, b34, b38, b42, b46, b50, Bool.or_false, zft, if_false] at hw
                   refine ⟨_, by simp only [resD, resAll, resOne, resTup, Try.results17, EVP, zg1, zg0, D.good, if_true, zmo] <;> exact rfl, rfl, by rw [hw]; rfl⟩

theorem rwrites_fn (t : Tr) : t.size ≤ 400000 → fn EV 17 [dN t] = some (sl 1 ((wrT t).map dS)) := by
 induction t using Tr.ind with
 | h k n s c ih =>
  intro hs
  have h1 := Tr.length_le_sizes c
  simp only [Tr.size] at hs
  exact rwrites_step (.mk k n s c) (by simp only [Tr.kids]; omega) (by simp only [Tr.kids]; omega) (fun x hx => ih x hx (by simp only [Tr.kids] at hx; have := Tr.size_le_of_mem hx; omega))

end Go.Proofs.Ytkkhjpkkjpcbmaa
