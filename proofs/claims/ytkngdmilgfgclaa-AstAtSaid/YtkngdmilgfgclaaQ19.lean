/- The law AstSame: its walk. -/
import Derived.Test.YtkngdmilgfgclaaSm
namespace Go.Proofs.Ytkngdmilgfgclaa
open Go.RowKit

theorem awake_ok : fn EV 13 [] = some (.bool true) := fn_of (n := 300) (by kernel_rfl)
theorem big_bd {p : Pg} (h : bigP p = false) : p.vars.length ≤ 1000000 ∧ p.procs.length ≤ 1000000 ∧ ∀ q ∈ p.procs, q.params.length ≤ 1000000 := by
  simp only [bigP, Bool.or_eq_false_iff, decide_eq_false_iff_not] at h
  refine ⟨by omega, by omega, fun q hq => ?_⟩
  have := List.any_eq_false.1 h.2 q hq
  simp only [bigQ, Bool.not_eq_true, Bool.or_eq_false_iff, decide_eq_false_iff_not] at this
  omega
set_option maxRecDepth 100000 in
set_option maxHeartbeats 4000000 in
theorem law9_fn (p q : Pg) : fn EV 9 [dG p, dG q] = some (.bool true) := by
  refine fn_X rfl Try.func9 rfl (by simp only [plain, List.all_cons, List.all_nil, dG_pl, Bool.and_true]) (rfl) (rfl) (rfl) ?_
  simp only [List.map_cons, List.map_nil, dG_strip]
  simp only [enterSt, Try.ntmps9, List.length_cons, List.length_nil, Nat.reduceAdd, Nat.reduceSub, List.replicate_succ, List.replicate_zero, List.cons_append, List.nil_append]
  refine X_seq ?_
  refine X_rg fun R hR => ?_
  simp only [aops, astep, awant, aeff, aop, ev, ofValue, St.put, List.getElem?_cons_succ, List.getElem?_cons_zero, Option.getD_some, Option.map_some, if_true, List.set_cons_succ, List.set_cons_zero, List.length_cons, List.length_nil, List.cons_append, List.nil_append, Nat.zero_add, dG_cells, dG_good]
  with_reducible refine hR _ ?_
  clear hR R
  show X _ _ _ _
  refine X_seq ?_
  refine X_seq ?_
  refine X_rg fun R hR => ?_
  simp only [EVP, aops, astep, awant, aeff, aop, ev, St.put, pcall, List.map_nil, List.getElem?_cons_succ, List.getElem?_cons_zero, Option.getD_some, Option.map_some, if_true, List.set_cons_succ, List.set_cons_zero, List.nil_append, Bool.not_true, any13, awake_ok]
  with_reducible refine hR _ ?_
  clear hR R
  show X _ _ _ _
  refine X_ite (by simp only [ev, List.getElem?_cons_succ, List.getElem?_cons_zero, Option.getD_some]; exact rfl) ?_ ?_
  · intro b1
    have c1 := b1
    try simp only [Bool.not_eq_true', Bool.not_eq_false', decide_eq_true_eq, decide_eq_false_iff_not, beq_iff_eq, Int.not_lt, Int.not_le, ge_iff_le, gt_iff_lt, bne_iff_ne, ne_eq, bne_eq_false_iff_eq, beq_eq_false_iff_ne, Bool.and_eq_true, Bool.or_eq_false_iff] at c1
    refine X_seq ?_
    refine X_rg fun R hR => ?_
    simp only [aops, astep, awant, aeff, aop, ev, ofValue, St.put, Option.getD_some, Option.map_some, if_true, List.set_cons_succ, List.set_cons_zero, b1]
    with_reducible refine hR _ ?_
    clear hR R
    show X _ _ _ _
    refine X_ret ?_
    show resD _ _ _ = some _
    simp only [resD, resAll, resOne, resTup, Try.results9, EVP, List.getElem?_cons_succ, List.getElem?_cons_zero, D.good, if_true, Option.map_some] <;> (first | (rfl; done) | (simp_all; done) | (exfalso; simp_all; done))
  · intro b2
    have c2 := b2
    try simp only [] at c2
    refine X_skip ?_
    show X _ _ _ _
    refine X_seq ?_
    refine X_seq ?_
    have hbp := bigP_fn p
    have hbq := bigP_fn q
    refine X_y ?_
    refine Y_k 3 fun R hR => ?_
    simp only [EVP, aops, astep, awant, aeff, aop, mkD, ev, St.put, pcall, List.map_cons, List.map_nil, List.getElem?_cons_succ, List.getElem?_cons_zero, Option.getD_some, Option.map_some, if_true, List.set_cons_succ, List.set_cons_zero, List.length_cons, List.length_nil, List.drop_zero, List.take_succ_cons, List.take_zero, List.cons_append, List.nil_append, Nat.reduceAdd, Nat.reduceLeDiff, Nat.zero_add, ty_api_Program, any39, dG_agg, hbp]
    with_reducible refine hR _ ?_
    clear hR R
    simp only [List.drop_succ_cons, List.drop_zero]
    refine Y_if 9 (by simp only [ev, List.getElem?_cons_succ, List.getElem?_cons_zero, Option.getD_some]; exact rfl) ?_ ?_
    · intro b3
      have c3 := b3
      try simp only [Bool.not_eq_true', Bool.not_eq_false', decide_eq_true_eq, decide_eq_false_iff_not, beq_iff_eq, Int.not_lt, Int.not_le, ge_iff_le, gt_iff_lt, bne_iff_ne, ne_eq, bne_eq_false_iff_eq, beq_eq_false_iff_ne, Bool.and_eq_true, Bool.or_eq_false_iff] at c3
      refine Y_end fun R hR => ?_
      simp only [EVP, aops, astep, awant, aeff, aop, mkD, ev, ofValue, St.put, pcall, List.map_cons, List.map_nil, List.getElem?_cons_succ, List.getElem?_cons_zero, Option.getD_some, Option.map_some, Option.bind_some, if_true, List.set_cons_succ, List.set_cons_zero, List.length_cons, List.length_nil, List.drop_zero, List.take_succ_cons, List.take_zero, List.cons_append, List.nil_append, Nat.reduceAdd, Nat.reduceLeDiff, Nat.zero_add, Bool.false_eq_true, if_false, bq_tf, ty_api_Program, any39, dG_agg, b3]
      with_reducible refine hR _ ?_
      clear hR R
      show X _ _ _ _
      refine X_true (by simp only [ev, List.getElem?_cons_succ, List.getElem?_cons_zero, Option.getD_some]) ?_
      refine X_seq ?_
      refine X_rg fun R hR => ?_
      simp only [aops, astep, awant, aeff, aop, ev, ofValue, St.put, Option.getD_some, Option.map_some, if_true, List.set_cons_succ, List.set_cons_zero]
      with_reducible refine hR _ ?_
      clear hR R
      show X _ _ _ _
      refine X_ret ?_
      show resD _ _ _ = some _
      simp only [resD, resAll, resOne, resTup, Try.results9, EVP, List.getElem?_cons_succ, List.getElem?_cons_zero, D.good, if_true, Option.map_some] <;> (first | (rfl; done) | (simp_all; done) | (exfalso; simp_all; done))
    · intro b4
      have c4 := b4
      try simp only [Bool.not_eq_true', Bool.not_eq_false', decide_eq_true_eq, decide_eq_false_iff_not, beq_iff_eq, Int.not_lt, Int.not_le, ge_iff_le, gt_iff_lt, bne_iff_ne, ne_eq, bne_eq_false_iff_eq, beq_eq_false_iff_ne, Bool.and_eq_true, Bool.or_eq_false_iff] at c4
      refine Y_end fun R hR => ?_
      simp only [EVP, aops, astep, awant, aeff, aop, mkD, ev, ofValue, St.put, pcall, List.map_cons, List.map_nil, List.getElem?_cons_succ, List.getElem?_cons_zero, Option.getD_some, Option.map_some, Option.bind_some, if_true, List.set_cons_succ, List.set_cons_zero, List.length_cons, List.length_nil, List.drop_zero, List.take_succ_cons, List.take_zero, List.cons_append, List.nil_append, Nat.reduceAdd, Nat.reduceLeDiff, Nat.zero_add, Bool.false_eq_true, if_false, beq_self_eq_true, ty_api_Program, any39, dG_agg, b4, hbq]
      with_reducible refine hR _ ?_
      clear hR R
      show X _ _ _ _
      refine X_ite (by simp only [ev, List.getElem?_cons_succ, List.getElem?_cons_zero, Option.getD_some]; exact rfl) ?_ ?_
      · intro b5
        have c5 := b5
        try simp only [Bool.not_eq_true', Bool.not_eq_false', decide_eq_true_eq, decide_eq_false_iff_not, beq_iff_eq, Int.not_lt, Int.not_le, ge_iff_le, gt_iff_lt, bne_iff_ne, ne_eq, bne_eq_false_iff_eq, beq_eq_false_iff_ne, Bool.and_eq_true, Bool.or_eq_false_iff] at c5
        refine X_seq ?_
        refine X_rg fun R hR => ?_
        simp only [aops, astep, awant, aeff, aop, ev, ofValue, St.put, Option.getD_some, Option.map_some, if_true, List.set_cons_succ, List.set_cons_zero, b5]
        with_reducible refine hR _ ?_
        clear hR R
        show X _ _ _ _
        refine X_ret ?_
        show resD _ _ _ = some _
        simp only [resD, resAll, resOne, resTup, Try.results9, EVP, List.getElem?_cons_succ, List.getElem?_cons_zero, D.good, if_true, Option.map_some] <;> (first | (rfl; done) | (simp_all; done) | (exfalso; simp_all; done))
      · intro b6
        have c6 := b6
        try simp only [Bool.not_eq_true', Bool.not_eq_false', decide_eq_true_eq, decide_eq_false_iff_not, beq_iff_eq, Int.not_lt, Int.not_le, ge_iff_le, gt_iff_lt, bne_iff_ne, ne_eq, bne_eq_false_iff_eq, beq_eq_false_iff_ne, Bool.and_eq_true, Bool.or_eq_false_iff] at c6
        refine X_skip ?_
        show X _ _ _ _
        refine X_seq ?_
        have b1 : bigP p = false := by first | assumption | (simp_all; done)
        have b2 : bigP q = false := by first | assumption | (simp_all; done)
        obtain ⟨v1, l1, p1⟩ := big_bd b1
        obtain ⟨v2, l2, p2⟩ := big_bd b2
        have h1 := same_fn p q v1 l1 p1
        have h2 := rsame_fn p q v1 l1 p1
        have h3 := same_fn q p v2 l2 p2
        rw [sameB_comm] at h3
        have h4 := same_fn p p v1 l1 p1
        rw [sameB_refl] at h4
        have hbb : (sameB p q == sameB p q) = true := by simp
        refine X_rg fun R hR => ?_
        simp only [EVP, aops, astep, awant, aeff, aop, abin, mkD, ev, ofValue, St.put, pcall, List.map_cons, List.map_nil, List.getElem?_cons_succ, List.getElem?_cons_zero, Option.getD_some, Option.map_some, Option.bind_some, if_true, List.set_cons_succ, List.set_cons_zero, List.length_cons, List.length_nil, List.drop_zero, List.take_succ_cons, List.take_zero, List.cons_append, List.nil_append, Nat.reduceAdd, Nat.reduceLeDiff, Nat.zero_add, beq_self_eq_true, ty_api_Program, und_bool', any40, any41, dG_agg, b2, h1, h2, h3, h4, und_bool']
        with_reducible refine hR _ ?_
        clear hR R
        show X _ _ _ _
        refine X_ret ?_
        show resD _ _ _ = some _
        simp only [resD, resAll, resOne, resTup, Try.results9, EVP, List.getElem?_cons_succ, List.getElem?_cons_zero, D.good, if_true, Option.map_some] <;> (first | (rfl; done) | (simp_all; done) | (exfalso; simp_all; done))

end Go.Proofs.Ytkngdmilgfgclaa
