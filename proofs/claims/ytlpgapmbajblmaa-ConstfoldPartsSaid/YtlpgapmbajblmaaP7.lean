/- For every tree that is handed to it the law ConstfoldParts answers true, and the tree reads behind the call as it did before. Conditions: none. -/
import Derived.Test.YtlpgapmbajblmaaRead
import Derived.Test.YtlpgapmbajblmaaPl
import Derived.Test.YtlpgapmbajblmaaArg2
namespace Go.Proofs.Ytlpgapmbajblmaa
open Go.ChangeShapes Go.WideShapes Go.ChangeAt Go.RowKit

theorem part_six {m : Tr} (h : partOk m) (hc : (constT m).2 = true) : ∃ k0 kr, (m.kind = 6 → m.kids = k0 :: kr) ∧ (m.kind = 6 → k0.kind = 1) := by
  rcases h hc with h | ⟨h, ⟨a, r, h1, h2⟩, _⟩ | ⟨h, _⟩
  · exact ⟨m, [], fun q => by omega, fun q => by omega⟩
  · exact ⟨a, r, fun _ => h1, fun _ => h2⟩
  · exact ⟨m, [], fun q => by omega, fun q => by omega⟩
theorem size_3 (m : Tr) : (((m.size : Nat) : Int) == 3) = decide (m.size = 3) := by
  rw [Bool.eq_iff_iff]; simp; omega
set_option maxRecDepth 100000 in
set_option maxHeartbeats 4000000 in
theorem law7_fn (t : Tr) : fn EV 7 [dN t] = some (.bool true) := by
  refine fn_X rfl Try.func7 rfl (by simp only [plain, List.all_cons, List.all_nil, dN_under, dN_good, Bool.and_self]) rfl (rfl) (rfl) ?_
  simp only [List.map_cons, List.map_nil, dN_strip]
  simp only [enterSt, Try.ntmps7, List.length_cons, List.length_nil, Nat.reduceAdd, Nat.reduceSub, List.replicate_succ, List.replicate_zero, List.cons_append, List.nil_append]
  refine X_seq ?_
  refine X_rg fun R hR => ?_
  simp only [EVP, aops, astep, awant, aeff, ev, St.put, List.getElem?_cons_zero, Option.getD_some, Option.map_some, Option.bind_some, if_true, List.set_cons_succ, List.set_cons_zero, List.length_cons, List.length_nil, List.cons_append, List.nil_append, Nat.zero_add, ty_bool, dN_cells, dN_good, sl]
  with_reducible refine hR _ ?_
  clear hR R
  show X _ _ _ _
  refine X_seq ?_
  refine X_seq ?_
  refine X_rg fun R hR => ?_
  simp only [EVP, aops, astep, awant, aeff, aop, ev, St.put, pcall, List.map_nil, List.getElem?_cons_succ, List.getElem?_cons_zero, Option.getD_some, Option.map_some, if_true, List.set_cons_succ, List.set_cons_zero, List.nil_append, Bool.not_true, any11, awake_ok]
  with_reducible refine hR _ ?_
  clear hR R
  show X _ _ _ _
  refine X_false (by simp only [ev, List.getElem?_cons_succ, List.getElem?_cons_zero, Option.getD_some]) ?_
  refine X_skip ?_
  show X _ _ _ _
  refine X_seq ?_
  refine X_seq ?_
  refine X_y ?_
  refine Y_k 3 fun R hR => ?_
  simp only [EVP, aops, astep, awant, aeff, aop, mkD, ev, St.put, pcall, List.map_cons, List.map_nil, List.getElem?_cons_succ, List.getElem?_cons_zero, Option.getD_some, Option.map_some, if_true, List.set_cons_succ, List.set_cons_zero, List.length_cons, List.length_nil, List.drop_zero, List.take_succ_cons, List.take_zero, List.cons_append, List.nil_append, Nat.reduceAdd, Nat.reduceLeDiff, Nat.zero_add, ty_api_Node, any12, dN_agg t, o_backstepref03_Big]
  with_reducible refine hR _ ?_
  clear hR R
  simp only [List.drop_succ_cons, List.drop_zero]
  refine Y_if 12 (by simp only [ev, List.getElem?_cons_succ, List.getElem?_cons_zero, Option.getD_some]; exact rfl) ?_ ?_
  · intro b1
    have c1 := b1
    try simp only [Bool.not_eq_true', Bool.not_eq_false', decide_eq_true_eq, decide_eq_false_iff_not, beq_iff_eq, Int.not_lt, Int.not_le, ge_iff_le, gt_iff_lt, bne_iff_ne, ne_eq, bne_eq_false_iff_eq, beq_eq_false_iff_ne, Bool.and_eq_true, Bool.or_eq_false_iff] at c1
    refine Y_end fun R hR => ?_
    simp only [EVP, aops, astep, awant, aeff, aop, mkD, ev, ofValue, St.put, pcall, List.map_cons, List.map_nil, List.getElem?_cons_succ, List.getElem?_cons_zero, Option.getD_some, Option.map_some, Option.map_none, Option.bind_some, if_true, List.set_cons_succ, List.set_cons_zero, List.length_cons, List.length_nil, List.drop_zero, List.take_succ_cons, List.take_zero, List.cons_append, List.nil_append, Nat.reduceAdd, Nat.reduceLeDiff, Nat.zero_add, Bool.false_eq_true, if_false, bq_tf, ty_api_Node, any27, dN_agg t, b1]
    with_reducible refine hR _ ?_
    clear hR R
    show X _ _ _ _
    refine X_true (by simp only [ev, List.getElem?_cons_succ, List.getElem?_cons_zero, Option.getD_some]) ?_
    refine X_seq ?_
    refine X_rg fun R hR => ?_
    simp only [EVP, aops, astep, awant, aeff, astore, ev, ofValue, St.put, gd_bool, cl_bool, List.getElem?_cons_succ, List.getElem?_cons_zero, Option.getD_some, Option.map_some, if_true, List.set_cons_succ, List.set_cons_zero, List.length_cons, List.length_nil, List.drop_succ_cons, List.drop_zero, List.take_zero, List.cons_append, List.nil_append, Nat.reduceLeDiff, Nat.zero_add, and_self, ty_bool]
    with_reducible refine hR _ ?_
    clear hR R
    show X _ _ _ _
    refine X_ret ?_
    show resD _ _ _ = some _
    simp only [resD, resAll, resOne, resTup, Try.results7, EVP, mkD, ty_bool, List.getElem?_cons_succ, List.getElem?_cons_zero, List.drop_zero, List.take_succ_cons, List.take_zero, List.length_cons, List.length_nil, Nat.reduceLeDiff, Nat.zero_add, if_true, Bool.false_eq_true, if_false, D.isAgg, Option.map_some] <;> (first | (rfl; done) | (exfalso; rcases hpm hcst with h | ⟨h, _, h2⟩ | ⟨h, h2, h3⟩ <;> simp_all; done) | (exfalso; simp_all; done))
  · intro b2
    have c2 := b2
    try simp only [Bool.not_eq_true', Bool.not_eq_false', decide_eq_true_eq, decide_eq_false_iff_not, beq_iff_eq, Int.not_lt, Int.not_le, ge_iff_le, gt_iff_lt, bne_iff_ne, ne_eq, bne_eq_false_iff_eq, beq_eq_false_iff_ne, Bool.and_eq_true, Bool.or_eq_false_iff] at c2
    refine Y_end fun R hR => ?_
    simp only [EVP, aops, astep, awant, aeff, aop, mkD, ev, ofValue, St.put, pcall, List.map_cons, List.map_nil, List.getElem?_cons_succ, List.getElem?_cons_zero, Option.getD_some, Option.map_some, Option.bind_some, if_true, List.set_cons_succ, List.set_cons_zero, List.length_cons, List.length_nil, List.drop_zero, List.take_succ_cons, List.take_zero, List.cons_append, List.nil_append, Nat.reduceAdd, Nat.reduceLeDiff, Nat.zero_add, Bool.false_eq_true, if_false, beq_self_eq_true, ty_api_Node, any27, dN_agg t, o_ast_IsExpr, b2]
    with_reducible refine hR _ ?_
    clear hR R
    show X _ _ _ _
    refine X_ite (by simp only [ev, List.getElem?_cons_succ, List.getElem?_cons_zero, Option.getD_some]; exact rfl) ?_ ?_
    · intro b3
      have c3 := b3
      try simp only [Bool.not_eq_true'] at c3
      refine X_seq ?_
      refine X_rg fun R hR => ?_
      simp only [EVP, aops, astep, awant, aeff, astore, ev, ofValue, St.put, gd_bool, cl_bool, List.getElem?_cons_succ, List.getElem?_cons_zero, Option.getD_some, Option.map_some, if_true, List.set_cons_succ, List.set_cons_zero, List.length_cons, List.length_nil, List.drop_succ_cons, List.drop_zero, List.take_zero, List.cons_append, List.nil_append, Nat.reduceLeDiff, Nat.zero_add, Bool.not_false, and_self, ty_bool, c3]
      with_reducible refine hR _ ?_
      clear hR R
      show X _ _ _ _
      refine X_ret ?_
      show resD _ _ _ = some _
      simp only [resD, resAll, resOne, resTup, Try.results7, EVP, mkD, ty_bool, List.getElem?_cons_succ, List.getElem?_cons_zero, List.drop_zero, List.take_succ_cons, List.take_zero, List.length_cons, List.length_nil, Nat.reduceLeDiff, Nat.zero_add, if_true, Bool.false_eq_true, if_false, D.isAgg, Option.map_some] <;> (first | (rfl; done) | (exfalso; rcases hpm hcst with h | ⟨h, _, h2⟩ | ⟨h, h2, h3⟩ <;> simp_all; done) | (exfalso; simp_all; done))
    · intro b4
      have c4 := b4
      try simp only [Bool.not_eq_false'] at c4
      refine X_skip ?_
      show X _ _ _ _
      refine X_seq ?_
      refine X_seq ?_
      have hb : bigB t = false := by simp_all
      have hx : exprB t = true := by simp_all
      have hs := (bigB_no hb).1
      have hz := exprT_size t
      have hE := expr_fn t (by omega)
      have hW := o_ast_Walk (exprT t) (by omega)
      refine X_rg fun R hR => ?_
      simp only [EVP, aops, astep, awant, aeff, aop, mkD, ev, St.put, pcall, List.map_cons, List.map_nil, List.getElem?_cons_succ, List.getElem?_cons_zero, Option.getD_some, Option.map_some, if_true, List.set_cons_succ, List.set_cons_zero, List.length_cons, List.length_nil, List.drop_zero, List.take_succ_cons, List.take_zero, List.cons_append, List.nil_append, Nat.reduceAdd, Nat.reduceLeDiff, Nat.zero_add, Bool.not_true, ty_api_Node, any16, any28, dN_agg t, c4, hE, hW]
      with_reducible refine hR _ ?_
      clear hR R
      show X _ _ _ _
      refine X_block ?_
      refine X_range (L := walkD (exprT t)) (by simp only [ev, List.getElem?_cons_succ, List.getElem?_cons_zero, Option.getD_some]) ?_
      refine XR_inv (fun L σ => ∃ (fr : List D) (r : List (List D)), σ = ⟨fr, [.int .u8 t.kind, .int .i64 t.num, .str t.name, .slice .imm (if (t.kids.map dN).isEmpty = true then 0 else 4) (t.kids.map dN)] :: [.bool false] :: r, 0, []⟩ ∧ ∀ row ∈ L, ∃ p m, row = [p, dN m] ∧ partOk m ∧ m.size ≤ 1000000) ?_ ?_ _ _ ?_
      rotate_right
      · refine ⟨_, [], rfl, ?_⟩
        intro row hrow
        obtain ⟨x, hx2, rfl⟩ := List.mem_map.1 hrow
        refine ⟨_, _, rfl, ?_, ?_⟩
        · refine fold_parts t hx [] x ?_; unfold exprT at hx2; rw [if_pos hx] at hx2; exact hx2
        · have := walkL_size _ _ _ hx2; omega
      · rintro σ ⟨fr, r, rfl, _⟩
        show X _ _ _ _
        refine X_seq ?_
        refine X_rg fun R hR => ?_
        simp only [EVP, aops, astep, awant, aeff, astore, ev, ofValue, St.put, gd_bool, cl_bool, List.getElem?_cons_succ, List.getElem?_cons_zero, Option.getD_some, Option.map_some, if_true, List.set_cons_succ, List.set_cons_zero, List.length_cons, List.length_nil, List.drop_succ_cons, List.drop_zero, List.take_zero, List.cons_append, List.nil_append, Nat.reduceLeDiff, Nat.zero_add, and_self, ty_bool]
        with_reducible refine hR _ ?_
        clear hR R
        show X _ _ _ _
        refine X_ret ?_
        show resD _ _ _ = some _
        simp only [resD, resAll, resOne, resTup, Try.results7, EVP, mkD, ty_bool, List.getElem?_cons_succ, List.getElem?_cons_zero, List.drop_zero, List.take_succ_cons, List.take_zero, List.length_cons, List.length_nil, Nat.reduceLeDiff, Nat.zero_add, if_true, Bool.false_eq_true, if_false, D.isAgg, Option.map_some] <;> (first | (rfl; done) | (exfalso; rcases hpm hcst with h | ⟨h, _, h2⟩ | ⟨h, h2, h3⟩ <;> simp_all; done) | (exfalso; simp_all; done))
      · rintro row L σ ⟨fr, r, rfl, hL⟩
        obtain ⟨p, m, rfl, hpm, hms⟩ := hL _ (List.mem_cons_self ..)
        have hL' := fun row h => hL row (List.mem_cons_of_mem _ h)
        clear hL
        refine ⟨by simp only [List.length_cons, List.length_nil], ?_⟩
        simp only [setPs, List.set_cons_succ, List.set_cons_zero]
        refine X_rg fun R hR => ?_
        simp only [EVP, app_get0, app_set0, aops, astep, awant, aeff, astore, ev, St.put, List.getElem?_cons_succ, List.getElem?_cons_zero, Option.getD_some, Option.map_some, Option.bind_some, if_true, List.set_cons_succ, List.set_cons_zero, List.length_cons, List.length_nil, List.drop_succ_cons, List.drop_zero, List.take_zero, List.cons_append, List.nil_append, Nat.reduceAdd, Nat.reduceLeDiff, Nat.zero_add, and_self, ty_api_Node, dN_cells, dN_good, sl]
        with_reducible refine hR _ ?_
        clear hR R
        refine ⟨rfl, ?_⟩
        refine X_block ?_
        refine X_seq ?_
        have hC := const_fn m hms
        refine X_rg fun R hR => ?_
        simp only [EVP, app_get0, aops, astep, awant, aeff, aop, mkD, ev, St.put, pcall, List.map_cons, List.map_nil, List.getElem?_cons_succ, List.getElem?_cons_zero, Option.getD_some, Option.map_some, if_true, List.set_cons_succ, List.set_cons_zero, List.length_cons, List.length_nil, List.drop_zero, List.take_succ_cons, List.take_zero, List.cons_append, List.nil_append, Nat.reduceAdd, Nat.reduceLeDiff, Nat.zero_add, ty_api_Node, any13, hC, dN_agg m]
        with_reducible refine hR _ ?_
        clear hR R
        show X _ _ _ _
        refine X_seq ?_
        refine X_seq ?_
        refine X_rg fun R hR => ?_
        simp only [aops, astep, awant, aeff, aop, ev, St.put, List.getElem?_cons_succ, List.getElem?_cons_zero, Option.getD_some, Option.map_some, if_true, List.set_cons_succ, List.set_cons_zero]
        with_reducible refine hR _ ?_
        clear hR R
        show X _ _ _ _
        refine X_ite (by simp only [ev, List.getElem?_cons_succ, List.getElem?_cons_zero, Option.getD_some]; exact rfl) ?_ ?_
        · intro b5
          have c5 := b5
          try simp only [Bool.not_eq_true'] at c5
          refine X_exit ?_
          skip
          exact ⟨_, _, rfl, hL'⟩
        · intro b6
          have c6 := b6
          try simp only [Bool.not_eq_false'] at c6
          refine X_skip ?_
          show X _ _ _ _
          refine X_seq ?_
          have hcst : (constT m).2 = true := by simp_all
          obtain ⟨k0, kr, hkk, hk1⟩ := part_six hpm hcst
          have hSz := o_ast_Size m (by omega)
          have hS8 : m.kind = 8 → fn EV 25 [.agg [.int .u8 8, .int .i64 m.num, .str m.name, .slice .imm (if (m.kids.map dN).isEmpty = true then 0 else 4) (m.kids.map dN)]] = some (.int .i64 m.size) := fun h => by have q := hSz; rw [dN_eq, h] at q; exact q
          have hlt0 : ((0 : Int) < ((kr.length + 1 : Nat) : Int)) = True := eq_true (by omega)
          refine X_y ?_
          refine Y_k 4 fun R hR => ?_
          simp only [EVP, inr_u8, Int.reduceLE, Int.reduceNeg, app_get0, aops, astep, awant, aeff, aop, abin, aint, mkD, ev, ofValue, St.put, ia_int, List.getElem?_cons_succ, List.getElem?_cons_zero, Option.getD_some, Option.map_some, if_true, List.set_cons_succ, List.set_cons_zero, List.length_cons, List.length_nil, List.drop_zero, List.take_succ_cons, List.take_zero, Nat.reduceAdd, Nat.reduceLeDiff, Nat.zero_add, Nat.add_zero, Bool.not_true, Bool.false_eq_true, if_false, and_self, reduceCtorEq, ty_uint8, ty_api_Node, c6]
          with_reducible refine hR _ ?_
          clear hR R
          simp only [List.drop_succ_cons, List.drop_zero]
          refine Y_if 32 (by simp only [ev, List.getElem?_cons_succ, List.getElem?_cons_zero, Option.getD_some]; exact rfl) ?_ ?_
          · intro b7
            have c7 := b7
            try simp only [beq_iff_eq] at c7
            refine Y_end fun R hR => ?_
            simp only [EVP, inr_i64, inr_u8, Int.reduceLE, Int.reduceNeg, app_get0, aops, astep, awant, aeff, aop, abin, mkD, ev, ofValue, St.put, pcall, List.map_cons, List.map_nil, List.getElem?_cons_succ, List.getElem?_cons_zero, Option.getD_some, Option.map_some, Option.map_none, Option.bind_some, if_true, List.set_cons_succ, List.set_cons_zero, List.length_cons, List.length_nil, List.drop_zero, List.take_succ_cons, List.take_zero, List.cons_append, List.nil_append, Nat.reduceAdd, Nat.reduceLeDiff, Nat.zero_add, Nat.add_zero, Bool.false_eq_true, if_false, and_self, reduceCtorEq, beq_self_eq_true, bq_tf, ty_uint8, ty_s_api_Node, ty_api_Node, und_api_Node, any25, c7]
            with_reducible refine hR _ ?_
            clear hR R
            show X _ _ _ _
            refine X_seq ?_
            refine X_rg fun R hR => ?_
            simp only [aops, astep, awant, aeff, aop, ev, St.put, List.getElem?_cons_succ, List.getElem?_cons_zero, Option.getD_some, Option.map_some, if_true, List.set_cons_succ, List.set_cons_zero, Bool.not_true]
            with_reducible refine hR _ ?_
            clear hR R
            show X _ _ _ _
            refine X_false (by simp only [ev, List.getElem?_cons_succ, List.getElem?_cons_zero, Option.getD_some]) ?_
            refine X_skip ?_
            skip
            exact ⟨_, _, rfl, hL'⟩
          · intro b8
            have c8 := b8
            try simp only [ne_eq, beq_eq_false_iff_ne] at c8
            refine Y_k 4 fun R hR => ?_
            simp only [EVP, inr_u8, Int.reduceLE, Int.reduceNeg, app_get0, aops, astep, awant, aeff, aop, abin, aint, mkD, ev, ofValue, St.put, ia_int, List.getElem?_cons_succ, List.getElem?_cons_zero, Option.getD_some, Option.map_some, Option.bind_some, if_true, List.set_cons_succ, List.set_cons_zero, List.length_cons, List.length_nil, List.drop_zero, List.take_succ_cons, List.take_zero, Nat.reduceAdd, Nat.reduceLeDiff, Nat.zero_add, Nat.add_zero, Bool.false_eq_true, if_false, and_self, reduceCtorEq, beq_self_eq_true, ty_uint8, ty_api_Node, b8]
            with_reducible refine hR _ ?_
            clear hR R
            simp only [List.drop_succ_cons, List.drop_zero]
            refine Y_if 36 (by simp only [ev, List.getElem?_cons_succ, List.getElem?_cons_zero, Option.getD_some]; exact rfl) ?_ ?_
            · intro b9
              have c9 := b9
              try simp only [beq_iff_eq] at c9
              refine Y_k 8 fun R hR => ?_
              simp only [EVP, inr_i64, inr_u8, Int.reduceLE, Int.reduceNeg, app_get0, aops, astep, awant, aeff, aop, abin, aint, mkD, ev, ofValue, St.put, ia_int, cl_int, ia_slice, List.map_cons, List.getElem?_cons_succ, List.getElem?_cons_zero, Option.getD_some, Option.map_some, Option.bind_some, if_true, List.set_cons_succ, List.set_cons_zero, List.length_map, List.length_cons, List.length_nil, List.drop_succ_cons, List.drop_zero, List.take_succ_cons, List.take_zero, Nat.reduceAdd, Nat.reduceLeDiff, Nat.zero_add, Bool.false_eq_true, if_false, and_self, reduceCtorEq, beq_self_eq_true, Option.isSome_some, ty_uint8, ty_s_api_Node, ty_api_Node, und_api_Node, siz_api_Node, inf_api_Node_eq, sl, c9, dN_eq k0, hlt0, Int.toNat_zero, hkk, hk1, List.isEmpty_cons]
              with_reducible refine hR _ ?_
              clear hR R
              simp only [List.drop_succ_cons, List.drop_zero]
              refine Y_if 44 (by simp only [ev, List.getElem?_cons_succ, List.getElem?_cons_zero, Option.getD_some]; exact rfl) ?_ ?_
              · intro b10
                have c10 := b10
                try simp only [] at c10
                refine Y_k 5 fun R hR => ?_
                simp only [EVP, inr_i64, Int.reduceLE, Int.reduceNeg, aops, astep, awant, aeff, aop, abin, aint, ev, ofValue, St.put, List.getElem?_cons_succ, List.getElem?_cons_zero, Option.getD_some, Option.map_some, Option.bind_some, if_true, List.set_cons_succ, List.set_cons_zero, List.take_succ_cons, List.take_zero, Bool.false_eq_true, if_false, and_self, beq_self_eq_true]
                with_reducible refine hR _ ?_
                clear hR R
                simp only [List.drop_succ_cons, List.drop_zero]
                refine Y_if 49 (by simp only [ev, List.getElem?_cons_succ, List.getElem?_cons_zero, Option.getD_some]; exact rfl) ?_ ?_
                · intro b11
                  have c11 := b11
                  try simp only [decide_eq_true_eq] at c11
                  refine Y_end fun R hR => ?_
                  simp only [EVP, inr_i64, inr_u8, Int.reduceLE, Int.reduceNeg, app_get0, aops, astep, awant, aeff, aop, abin, mkD, ev, ofValue, St.put, pcall, List.map_cons, List.map_nil, List.getElem?_cons_succ, List.getElem?_cons_zero, Option.getD_some, Option.map_some, Option.map_none, Option.bind_some, if_true, List.set_cons_succ, List.set_cons_zero, List.length_cons, List.length_nil, List.drop_zero, List.take_succ_cons, List.take_zero, List.cons_append, List.nil_append, Nat.reduceAdd, Nat.reduceLeDiff, Nat.zero_add, Nat.add_zero, Bool.false_eq_true, if_false, and_self, reduceCtorEq, decide_true, bq_tf, ty_uint8, ty_api_Node, any25, c11]
                  with_reducible refine hR _ ?_
                  clear hR R
                  show X _ _ _ _
                  refine X_seq ?_
                  refine X_rg fun R hR => ?_
                  simp only [aops, astep, awant, aeff, aop, ev, St.put, List.getElem?_cons_succ, List.getElem?_cons_zero, Option.getD_some, Option.map_some, if_true, List.set_cons_succ, List.set_cons_zero, Bool.not_true]
                  with_reducible refine hR _ ?_
                  clear hR R
                  show X _ _ _ _
                  refine X_false (by simp only [ev, List.getElem?_cons_succ, List.getElem?_cons_zero, Option.getD_some]) ?_
                  refine X_skip ?_
                  skip
                  exact ⟨_, _, rfl, hL'⟩
                · intro b12
                  have c12 := b12
                  try simp only [decide_eq_false_iff_not, Int.not_lt] at c12
                  exfalso; rcases hpm hcst with h | ⟨h, _, h2⟩ | ⟨h, h2, h3⟩ <;> first | (simp_all; done) | omega
              · intro b13
                have c13 := b13
                try simp only [Bool.not_eq_true', Bool.not_eq_false', decide_eq_true_eq, decide_eq_false_iff_not, beq_iff_eq, Int.not_lt, Int.not_le, ge_iff_le, gt_iff_lt, bne_iff_ne, ne_eq, bne_eq_false_iff_eq, beq_eq_false_iff_ne, Bool.and_eq_true, Bool.or_eq_false_iff] at c13
                exfalso; rcases hpm hcst with h | ⟨h, _, h2⟩ | ⟨h, h2, h3⟩ <;> first | (simp_all; done) | omega
            · intro b14
              have c14 := b14
              try simp only [ne_eq, beq_eq_false_iff_ne] at c14
              refine Y_k 17 fun R hR => ?_
              simp only [EVP, inr_i64, inr_u8, Int.reduceLE, Int.reduceNeg, app_get0, aops, astep, awant, aeff, aop, abin, aint, mkD, ev, ofValue, St.put, ia_int, List.getElem?_cons_succ, List.getElem?_cons_zero, Option.getD_some, Option.map_some, Option.map_none, Option.bind_some, if_true, List.set_cons_succ, List.set_cons_zero, List.length_cons, List.length_nil, List.drop_zero, List.take_succ_cons, List.take_zero, Nat.reduceAdd, Nat.reduceLeDiff, Nat.zero_add, Nat.add_zero, Bool.false_eq_true, if_false, and_self, reduceCtorEq, beq_self_eq_true, bq_ft, ty_uint8, ty_s_api_Node, ty_api_Node, und_api_Node, b14]
              with_reducible refine hR _ ?_
              clear hR R
              simp only [List.drop_succ_cons, List.drop_zero]
              refine Y_if 53 (by simp only [ev, List.getElem?_cons_succ, List.getElem?_cons_zero, Option.getD_some]; exact rfl) ?_ ?_
              · intro b15
                have c15 := b15
                try simp only [beq_iff_eq] at c15
                refine Y_k 4 fun R hR => ?_
                simp only [EVP, inr_i64, Int.reduceLE, Int.reduceNeg, aops, astep, awant, aeff, aop, abin, aint, ev, ofValue, St.put, List.getElem?_cons_succ, List.getElem?_cons_zero, Option.getD_some, Option.map_some, Option.bind_some, if_true, List.set_cons_succ, List.set_cons_zero, List.take_succ_cons, List.take_zero, and_self, beq_self_eq_true, c15]
                with_reducible refine hR _ ?_
                clear hR R
                simp only [List.drop_succ_cons, List.drop_zero]
                refine Y_if 57 (by simp only [ev, List.getElem?_cons_succ, List.getElem?_cons_zero, Option.getD_some]; exact rfl) ?_ ?_
                · intro b16
                  have c16 := b16
                  try simp only [beq_iff_eq] at c16
                  refine Y_end fun R hR => ?_
                  simp only [EVP, inr_i64, Int.reduceLE, Int.reduceNeg, app_get0, aops, astep, awant, aeff, aop, abin, aint, mkD, ev, ofValue, St.put, pcall, List.map_cons, List.map_nil, List.getElem?_cons_succ, List.getElem?_cons_zero, Option.getD_some, Option.map_some, Option.bind_some, if_true, List.set_cons_succ, List.set_cons_zero, List.length_cons, List.length_nil, List.drop_zero, List.take_succ_cons, List.take_zero, List.cons_append, List.nil_append, Nat.reduceAdd, Nat.reduceLeDiff, Nat.zero_add, Bool.false_eq_true, if_false, and_self, beq_self_eq_true, ty_api_Node, any25, c15, c16, hS8, size_3]
                  with_reducible refine hR _ ?_
                  clear hR R
                  show X _ _ _ _
                  refine X_seq ?_
                  refine X_rg fun R hR => ?_
                  simp only [Int.reduceNeg, aops, astep, awant, aeff, aop, ev, St.put, List.getElem?_cons_succ, List.getElem?_cons_zero, Option.getD_some, Option.map_some, if_true, List.set_cons_succ, List.set_cons_zero]
                  with_reducible refine hR _ ?_
                  clear hR R
                  show X _ _ _ _
                  refine X_ite (by simp only [ev, List.getElem?_cons_succ, List.getElem?_cons_zero, Option.getD_some]; exact rfl) ?_ ?_
                  · intro b17
                    have c17 := b17
                    try simp only [Bool.not_eq_true', decide_eq_false_iff_not] at c17
                    refine X_seq ?_
                    refine X_rg fun R hR => ?_
                    simp only [EVP, Int.reduceNeg, aops, astep, awant, aeff, astore, ev, ofValue, St.put, gd_bool, cl_bool, List.getElem?_cons_succ, List.getElem?_cons_zero, Option.getD_some, Option.map_some, if_true, List.set_cons_succ, List.set_cons_zero, List.length_cons, List.length_nil, List.drop_succ_cons, List.drop_zero, List.take_zero, List.cons_append, List.nil_append, Nat.reduceLeDiff, Nat.zero_add, Bool.not_false, and_self, decide_false, ty_bool, c17]
                    with_reducible refine hR _ ?_
                    clear hR R
                    show X _ _ _ _
                    refine X_ret ?_
                    show resD _ _ _ = some _
                    simp only [resD, resAll, resOne, resTup, Try.results7, EVP, mkD, ty_bool, List.getElem?_cons_succ, List.getElem?_cons_zero, List.drop_zero, List.take_succ_cons, List.take_zero, List.length_cons, List.length_nil, Nat.reduceLeDiff, Nat.zero_add, if_true, Bool.false_eq_true, if_false, D.isAgg, Option.map_some] <;> (first | (rfl; done) | (exfalso; rcases hpm hcst with h | ⟨h, _, h2⟩ | ⟨h, h2, h3⟩ <;> simp_all; done) | (exfalso; simp_all; done))
                  · intro b18
                    have c18 := b18
                    try simp only [Bool.not_eq_false', decide_eq_true_eq] at c18
                    refine X_skip ?_
                    skip
                    exact ⟨_, _, rfl, hL'⟩
                · intro b19
                  have c19 := b19
                  try simp only [ne_eq, beq_eq_false_iff_ne] at c19
                  refine Y_end fun R hR => ?_
                  simp only [EVP, inr_i64, Int.reduceLE, Int.reduceNeg, app_get0, aops, astep, awant, aeff, aop, abin, mkD, ev, ofValue, St.put, pcall, List.map_cons, List.map_nil, List.getElem?_cons_succ, List.getElem?_cons_zero, Option.getD_some, Option.map_some, Option.map_none, Option.bind_some, if_true, List.set_cons_succ, List.set_cons_zero, List.length_cons, List.length_nil, List.drop_zero, List.take_succ_cons, List.take_zero, List.cons_append, List.nil_append, Nat.reduceAdd, Nat.reduceLeDiff, Nat.zero_add, Bool.false_eq_true, if_false, and_self, beq_self_eq_true, bq_ft, ty_api_Node, any25, b19]
                  with_reducible refine hR _ ?_
                  clear hR R
                  show X _ _ _ _
                  refine X_seq ?_
                  refine X_rg fun R hR => ?_
                  simp only [aops, astep, awant, aeff, aop, ev, St.put, List.getElem?_cons_succ, List.getElem?_cons_zero, Option.getD_some, Option.map_some, if_true, List.set_cons_succ, List.set_cons_zero, Bool.not_false]
                  with_reducible refine hR _ ?_
                  clear hR R
                  show X _ _ _ _
                  refine X_true (by simp only [ev, List.getElem?_cons_succ, List.getElem?_cons_zero, Option.getD_some]) ?_
                  refine X_seq ?_
                  refine X_rg fun R hR => ?_
                  simp only [EVP, aops, astep, awant, aeff, astore, ev, ofValue, St.put, gd_bool, cl_bool, List.getElem?_cons_succ, List.getElem?_cons_zero, Option.getD_some, Option.map_some, if_true, List.set_cons_succ, List.set_cons_zero, List.length_cons, List.length_nil, List.drop_succ_cons, List.drop_zero, List.take_zero, List.cons_append, List.nil_append, Nat.reduceLeDiff, Nat.zero_add, and_self, ty_bool]
                  with_reducible refine hR _ ?_
                  clear hR R
                  show X _ _ _ _
                  refine X_ret ?_
                  show resD _ _ _ = some _
                  simp only [resD, resAll, resOne, resTup, Try.results7, EVP, mkD, ty_bool, List.getElem?_cons_succ, List.getElem?_cons_zero, List.drop_zero, List.take_succ_cons, List.take_zero, List.length_cons, List.length_nil, Nat.reduceLeDiff, Nat.zero_add, if_true, Bool.false_eq_true, if_false, D.isAgg, Option.map_some] <;> (first | (rfl; done) | (exfalso; rcases hpm hcst with h | ⟨h, _, h2⟩ | ⟨h, h2, h3⟩ <;> simp_all; done) | (exfalso; simp_all; done))
              · intro b20
                have c20 := b20
                try simp only [ne_eq, beq_eq_false_iff_ne] at c20
                refine Y_end fun R hR => ?_
                simp only [EVP, inr_i64, Int.reduceLE, Int.reduceNeg, app_get0, aops, astep, awant, aeff, aop, abin, mkD, ev, ofValue, St.put, pcall, List.map_cons, List.map_nil, List.getElem?_cons_succ, List.getElem?_cons_zero, Option.getD_some, Option.map_some, Option.map_none, Option.bind_some, if_true, List.set_cons_succ, List.set_cons_zero, List.length_cons, List.length_nil, List.drop_zero, List.take_succ_cons, List.take_zero, List.cons_append, List.nil_append, Nat.reduceAdd, Nat.reduceLeDiff, Nat.zero_add, Bool.false_eq_true, if_false, and_self, beq_self_eq_true, bq_ft, ty_api_Node, any25, b20, dN_agg m]
                with_reducible refine hR _ ?_
                clear hR R
                show X _ _ _ _
                refine X_seq ?_
                refine X_rg fun R hR => ?_
                simp only [aops, astep, awant, aeff, aop, ev, St.put, List.getElem?_cons_succ, List.getElem?_cons_zero, Option.getD_some, Option.map_some, if_true, List.set_cons_succ, List.set_cons_zero, Bool.not_false]
                with_reducible refine hR _ ?_
                clear hR R
                show X _ _ _ _
                refine X_true (by simp only [ev, List.getElem?_cons_succ, List.getElem?_cons_zero, Option.getD_some]) ?_
                refine X_seq ?_
                refine X_rg fun R hR => ?_
                simp only [EVP, aops, astep, awant, aeff, astore, ev, ofValue, St.put, gd_bool, cl_bool, List.getElem?_cons_succ, List.getElem?_cons_zero, Option.getD_some, Option.map_some, if_true, List.set_cons_succ, List.set_cons_zero, List.length_cons, List.length_nil, List.drop_succ_cons, List.drop_zero, List.take_zero, List.cons_append, List.nil_append, Nat.reduceLeDiff, Nat.zero_add, and_self, ty_bool]
                with_reducible refine hR _ ?_
                clear hR R
                show X _ _ _ _
                refine X_ret ?_
                show resD _ _ _ = some _
                simp only [resD, resAll, resOne, resTup, Try.results7, EVP, mkD, ty_bool, List.getElem?_cons_succ, List.getElem?_cons_zero, List.drop_zero, List.take_succ_cons, List.take_zero, List.length_cons, List.length_nil, Nat.reduceLeDiff, Nat.zero_add, if_true, Bool.false_eq_true, if_false, D.isAgg, Option.map_some] <;> (first | (rfl; done) | (exfalso; rcases hpm hcst with h | ⟨h, _, h2⟩ | ⟨h, h2, h3⟩ <;> simp_all; done) | (exfalso; simp_all; done))
theorem vals1 {w : World} {g : Gh} {d : D} {v : Value} (h : val w g d v) : vals w g [d] [v] := ⟨rfl, fun j h1 h2 => by
  have : j = 0 := by simp at h1; omega
  subst this; exact h⟩
set_option maxRecDepth 100000 in
theorem constfoldParts_lifted (os : Os) (started : os.Started) (H : Type) (enc : TypeId × Value → H) :
    ReturnsInHanded {} Try.checked os 7 .any (Rows.constfoldPartsSpec.pre6 enc Try.prog Try.f7 Rows.constfoldPartsRow.domain false) (Rows.constfoldPartsSpec.post enc Try.prog Try.f7 false true false false) := by
  refine returnsInHanded_of_change (C := Try.checked) prog_own started (by kernel_rfl) Try.func7
    (ChangeSpec.witness6 (enc := enc) (C := Try.checked) false ⟨#[], #[.agg #[.int .u8 0, .int .i64 0, .string ⟨#[]⟩, .slice none 0 0]], []⟩ 8 (by kernel_rfl) (by kernel_rfl) (by kernel_rfl) (by kernel_rfl)) ?_
  intro W base args ds gs before hval0 hW _ _
  have hval : ∀ (j : Nat) t v, Try.f7.params[j]? = some t → args[j]? = some v → Value.okWide Try.prog W .any base t v := hval0
  have hW' : DataW.Whole enc Try.prog Try.f7.params.toList Rows.constfoldPartsSpec.vars false W args.toList ds gs before := hW
  obtain ⟨p, q, hA0, hV, rfl, _, _⟩ := hW
  have hA : DataW.TrodAll enc Try.prog W 0 (fun _ => true) true Try.f7.params.toList args.toList ds p := hA0
  rw [Try.params7] at hA hval
  obtain ⟨v0, d0, rfl, rfl, h0⟩ := trodAll_one hA
  obtain ⟨g0, hg0⟩ := arg_agg Try.underlying24 (hval 0 24 v0 rfl rfl) h0 (fun x => dN_isAgg x) (fun fuel => arg_node fuel)
  refine (law_calls EV_ok (law7_fn g0) (vals1 hg0)).mono fun e W' ⟨he, hb⟩ => ?_
  subst he
  exact ⟨_, rfl, law_post hW' rfl rfl (by rw [Try.params7]; intro t ht; simp at ht; subst ht; exact ⟨by kernel_rfl, of_decide_eq_true (by kernel_rfl)⟩) rfl hb⟩

theorem constfoldParts_holds : Rows.ConstfoldPartsSaid :=
  OpenClaim.holds_of_wide 7 Try.f7 rfl rfl rfl rfl rfl rfl rfl ⟨rfl, rfl, rfl, rfl, rfl⟩ rfl rfl rfl rfl rfl (by kernel_rfl) Try.func7 (by kernel_rfl)
    (of_decide_eq_true (by kernel_rfl)) (by unfold Func.isWrapper; first | (rw [if_pos (by decide +kernel)]; kernel_rfl) | (rw [if_neg (by decide +kernel)]; exact ⟨rfl, rfl⟩))
    (fun os started H enc _ => constfoldParts_lifted os started H enc)

end Go.Proofs.Ytlpgapmbajblmaa
