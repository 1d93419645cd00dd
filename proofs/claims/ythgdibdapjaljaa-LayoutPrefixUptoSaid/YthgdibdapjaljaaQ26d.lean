/- The law LayoutPrefix: its walk. -/
import Derived.Test.YthgdibdapjaljaaLa11
namespace Go.Proofs.Ythgdibdapjaljaa
open Go.RowKit

set_option maxRecDepth 100000 in
set_option maxHeartbeats 4000000 in
theorem law6_fn (l : List Vd) (t : Tr) (hs : t.size ≤ 900000) : fn EV 6 [sl 3 (l.map dV), dN t] = some (.bool true) := by
  refine fn_X rfl Try.func6 rfl (by simp only [plain, List.all_cons, List.all_nil, sl_pl (f := dV) (fun _ _ => rfl), dN_pl, Bool.and_true]) (rfl) (rfl) (rfl) ?_
  simp only [List.map_cons, List.map_nil, sl_strip (map_strip (f := dV) (fun _ => rfl) _), dN_strip]
  simp only [enterSt, Try.ntmps6, List.length_cons, List.length_nil, Nat.reduceAdd, Nat.reduceSub, List.replicate_succ, List.replicate_zero, List.cons_append, List.nil_append]
  refine X_seq ?_
  refine X_rg fun R hR => ?_
  simp only [aops, astep, awant, aeff, aop, ev, ofValue, St.put, List.getElem?_cons_succ, List.getElem?_cons_zero, Option.getD_some, Option.map_some, if_true, List.set_cons_succ, List.set_cons_zero, List.length_nil, List.nil_append, dN_cells, dN_good, sl]
  with_reducible refine hR _ ?_
  clear hR R
  show X _ _ _ _
  refine X_seq ?_
  refine X_seq ?_
  refine X_rg fun R hR => ?_
  simp only [EVP, aops, astep, awant, aeff, aop, ev, St.put, pcall, List.map_nil, List.getElem?_cons_succ, List.getElem?_cons_zero, Option.getD_some, Option.map_some, if_true, List.set_cons_succ, List.set_cons_zero, List.nil_append, Bool.not_true, any10, awake_ok]
  with_reducible refine hR _ ?_
  clear hR R
  show X _ _ _ _
  refine X_ite (by simp only [ev, List.getElem?_cons_succ, List.getElem?_cons_zero, Option.getD_some]; exact rfl) ?_ ?_
  · intro b1
    have c1 := b1
    try simp only [Bool.not_eq_true', Bool.not_eq_false', decide_eq_true_eq, decide_eq_false_iff_not, beq_iff_eq, Int.not_lt, Int.not_le, ge_iff_le, gt_iff_lt, bne_iff_ne, ne_eq, bne_eq_false_iff_eq, beq_eq_false_iff_ne, Bool.and_eq_true, Bool.or_eq_false_iff] at c1
    refine X_seq ?_
    refine X_rg fun R hR => ?_
    simp only [aops, astep, awant, aeff, aop, ev, ofValue, St.put, Option.getD_some, Option.map_some, if_true, List.set_cons_succ, List.set_cons_zero, b1]
    with_reducible refine hR _ ?_
    clear hR R
    show X _ _ _ _
    refine X_ret ?_
    show resD _ _ _ = some _
    simp only [resD, resAll, resOne, resTup, Try.results6, EVP, List.getElem?_cons_succ, List.getElem?_cons_zero, D.good, if_true, Option.map_some] <;> (first | (rfl; done) | (simp_all; done) | (exfalso; simp_all; done))
  · intro b2
    have c2 := b2
    try simp only [] at c2
    refine X_skip ?_
    show X _ _ _ _
    refine X_seq ?_
    refine X_seq ?_
    have hsm := small_fn l t (by omega)
    simp only [sl] at hsm
    refine X_rg fun R hR => ?_
    simp only [EVP, inr_i64, Int.reduceLE, Int.reduceNeg, aops, astep, awant, aeff, aop, abin, aint, mkD, ev, ofValue, St.put, pcall, List.map_cons, List.map_nil, List.getElem?_cons_succ, List.getElem?_cons_zero, Option.getD_some, Option.map_some, if_true, List.set_cons_succ, List.set_cons_zero, List.length_cons, List.length_nil, List.drop_zero, List.take_succ_cons, List.take_zero, List.cons_append, List.nil_append, Nat.reduceAdd, Nat.reduceLeDiff, Nat.zero_add, and_self, ty_api_Node, any18, dN_agg, hsm, one_eq2]
    with_reducible refine hR _ ?_
    clear hR R
    show X _ _ _ _
    refine X_ite (by simp only [ev, List.getElem?_cons_succ, List.getElem?_cons_zero, Option.getD_some]; exact rfl) ?_ ?_
    · intro b3
      have c3 := b3
      try simp only [Bool.not_eq_true'] at c3
      refine X_seq ?_
      refine X_rg fun R hR => ?_
      simp only [aops, astep, awant, aeff, aop, ev, ofValue, St.put, Option.getD_some, Option.map_some, if_true, List.set_cons_succ, List.set_cons_zero, b3]
      with_reducible refine hR _ ?_
      clear hR R
      show X _ _ _ _
      refine X_ret ?_
      show resD _ _ _ = some _
      simp only [resD, resAll, resOne, resTup, Try.results6, EVP, List.getElem?_cons_succ, List.getElem?_cons_zero, D.good, if_true, Option.map_some] <;> (first | (rfl; done) | (simp_all; done) | (exfalso; simp_all; done))
    · intro b4
      have c4 := b4
      try simp only [Bool.not_eq_false'] at c4
      refine X_skip ?_
      show X _ _ _ _
      refine X_seq ?_
      have hsB : smB l t = true := by first | assumption | (simp_all; done)
      have hsq := hsB
      unfold smB at hsq
      simp only [Bool.and_eq_true, decide_eq_true_eq] at hsq
      obtain ⟨hl4, hb, ht⟩ := hsq
      have hO := of_fn l t hs
      simp only [dFm, sl] at hO
      refine X_rg fun R hR => ?_
      simp only [EVP, aops, astep, awant, aeff, aop, mkD, astore, ev, St.put, pcall, gd_agg, cl_agg, List.map_cons, List.map_nil, List.getElem?_cons_succ, List.getElem?_cons_zero, Option.getD_some, Option.map_some, Option.bind_some, if_true, List.set_cons_succ, List.set_cons_zero, List.length_cons, List.length_nil, List.drop_succ_cons, List.drop_zero, List.take_succ_cons, List.take_zero, List.cons_append, List.nil_append, Nat.reduceAdd, Nat.reduceLeDiff, Nat.zero_add, and_self, ty_api_Node, ty_layout_Frame, any14, dN_agg, b4, hO]
      with_reducible refine hR _ ?_
      clear hR R
      show X _ _ _ _
      refine X_seq ?_
      have hO1 := of0_fn l
      simp only [dFm, sl] at hO1
      refine X_rg fun R hR => ?_
      simp only [EVP, inr_u8, Int.reduceLE, aops, astep, awant, aeff, aop, afill, astore, ev, ofValue, St.put, pcall, gd_int, cl_int, gd_agg, cl_agg, List.map_cons, List.map_nil, List.getElem?_cons_succ, List.getElem?_cons_zero, Option.getD_some, Option.map_some, Option.bind_some, if_true, List.set_cons_succ, List.set_cons_zero, List.length_cons, List.length_nil, List.drop_succ_cons, List.drop_zero, List.take_zero, List.cons_append, List.nil_append, Nat.reduceAdd, Nat.reduceLeDiff, Nat.zero_add, and_self, ty_api_Node, st_api_Node, sta_api_Node, ty_layout_Frame, any14, hO1]
      with_reducible refine hR _ ?_
      clear hR R
      show X _ _ _ _
      refine X_seq ?_
      refine X_seq ?_
      refine X_rg fun R hR => ?_
      simp only [inr_i64, Int.reduceLE, Int.reduceNeg, aops, astep, awant, aeff, aop, abin, aint, ev, ofValue, St.put, List.getElem?_cons_succ, List.getElem?_cons_zero, Option.getD_some, Option.map_some, if_true, List.set_cons_succ, List.set_cons_zero, and_self]
      with_reducible refine hR _ ?_
      clear hR R
      show X _ _ _ _
      refine X_ite (by simp only [ev, List.getElem?_cons_succ, List.getElem?_cons_zero, Option.getD_some]; exact rfl) ?_ ?_
      · intro b5
        have c5 := b5
        try simp only [bne_iff_ne, ne_eq] at c5
        refine X_seq ?_
        refine X_rg fun R hR => ?_
        simp only [aops, astep, awant, aeff, aop, ev, ofValue, St.put, Option.getD_some, Option.map_some, if_true, List.set_cons_succ, List.set_cons_zero, b5]
        with_reducible refine hR _ ?_
        clear hR R
        show X _ _ _ _
        refine X_ret ?_
        show resD _ _ _ = some _
        simp only [resD, resAll, resOne, resTup, Try.results6, EVP, List.getElem?_cons_succ, List.getElem?_cons_zero, D.good, if_true, Option.map_some] <;> (first | (rfl; done) | (simp_all; done) | (exfalso; simp_all; done))
      · intro b6
        have c6 := b6
        try simp only [bne_eq_false_iff_eq] at c6
        refine X_skip ?_
        show X _ _ _ _
        refine X_seq ?_
        refine X_seq ?_
        have h00 : (ofF l t).2 = 0 := by first | assumption | (simp_all; done)
        obtain ⟨p1, p2, p3, p4, p5, p6⟩ := pre_ok h00
        have d1 : ((ofF l e0).2 != 0) = false := by rw [p1]; rfl
        have d2 : (((ofF l e0).1.slots.length : Int) != (l.length : Int)) = false := by rw [p2]; simp
        have d3 : decide ((ofF l t).1.slots.length < l.length) = false := by rw [decide_eq_false_iff_not]; omega
        have d4 : decide ((ofF l e0).1.cells > (ofF l t).1.cells) = false := by rw [decide_eq_false_iff_not]; omega
        have d5 : decide ((ofF l e0).1.stacks > (ofF l t).1.stacks) = false := by rw [decide_eq_false_iff_not]; omega
        refine X_rg fun R hR => ?_
        simp only [EVP, inr_i64, Int.reduceLE, Int.reduceNeg, nat_lt, aops, astep, awant, aeff, aop, abin, aint, mkD, ev, ofValue, St.put, ia_int, ia_slice, List.getElem?_cons_succ, List.getElem?_cons_zero, Option.getD_some, Option.map_some, Option.bind_some, if_true, List.set_cons_succ, List.set_cons_zero, List.length_map, List.length_cons, List.length_nil, List.drop_succ_cons, List.drop_zero, List.take_succ_cons, List.take_zero, Nat.reduceAdd, Nat.reduceLeDiff, Nat.zero_add, Nat.add_zero, Bool.false_eq_true, if_false, and_self, reduceCtorEq, beq_self_eq_true, ty_int, und_api_VarDecl, ty_s_layout_Slot, ty_layout_Frame, und_layout_Slot, b6, d1, d2, d3, d4, d5]
        with_reducible refine hR _ ?_
        clear hR R
        show X _ _ _ _
        refine X_false (by simp only [ev, List.getElem?_cons_succ, List.getElem?_cons_zero, Option.getD_some]) ?_
        refine X_skip ?_
        show X _ _ _ _
        refine X_seq ?_
        refine X_seq ?_
        refine X_rg fun R hR => ?_
        simp only [inr_i64, Int.reduceLE, Int.reduceNeg, aops, astep, awant, aeff, aop, ev, ofValue, St.put, Option.getD_some, Option.map_some, if_true, List.set_cons_succ, List.set_cons_zero, and_self]
        with_reducible refine hR _ ?_
        clear hR R
        show X _ _ _ _
        refine X_block ?_
        refine X_loop (fun m σ => ∃ (i : Nat), σ = ⟨[.slice .imm (if (l.map dV).isEmpty = true then 0 else 3) (l.map dV), slotOf σ 1, slotOf σ 2, slotOf σ 3, slotOf σ 4, .ptr 1 0, slotOf σ 6, .ptr 2 0, slotOf σ 8, .int .i64 i, slotOf σ 10, slotOf σ 11, slotOf σ 12, slotOf σ 13, slotOf σ 14, slotOf σ 15, slotOf σ 16, slotOf σ 17, slotOf σ 18, slotOf σ 19, slotOf σ 20, slotOf σ 21, slotOf σ 22, slotOf σ 23, slotOf σ 24, slotOf σ 25, slotOf σ 26, slotOf σ 27, slotOf σ 28, slotOf σ 29, slotOf σ 30, slotOf σ 31, slotOf σ 32, slotOf σ 33, slotOf σ 34, slotOf σ 35, slotOf σ 36, slotOf σ 37, slotOf σ 38, slotOf σ 39, slotOf σ 40, slotOf σ 41, slotOf σ 42, slotOf σ 43, slotOf σ 44, slotOf σ 45, slotOf σ 46, slotOf σ 47, slotOf σ 48, slotOf σ 49, slotOf σ 50, slotOf σ 51, slotOf σ 52, slotOf σ 53, slotOf σ 54, slotOf σ 55, slotOf σ 56, slotOf σ 57, slotOf σ 58, slotOf σ 59, slotOf σ 60, slotOf σ 61, slotOf σ 62, slotOf σ 63, slotOf σ 64, slotOf σ 65, slotOf σ 66, slotOf σ 67, slotOf σ 68, slotOf σ 69, slotOf σ 70, slotOf σ 71, slotOf σ 72, slotOf σ 73, slotOf σ 74, slotOf σ 75, slotOf σ 76, slotOf σ 77, slotOf σ 78, slotOf σ 79, slotOf σ 80, slotOf σ 81, slotOf σ 82, slotOf σ 83, slotOf σ 84, slotOf σ 85, slotOf σ 86, slotOf σ 87, slotOf σ 88, slotOf σ 89, slotOf σ 90, slotOf σ 91, slotOf σ 92, slotOf σ 93, slotOf σ 94, slotOf σ 95, slotOf σ 96, slotOf σ 97, slotOf σ 98, slotOf σ 99, slotOf σ 100, slotOf σ 101, slotOf σ 102, slotOf σ 103, slotOf σ 104, slotOf σ 105, slotOf σ 106, slotOf σ 107, slotOf σ 108, slotOf σ 109, slotOf σ 110, slotOf σ 111, slotOf σ 112, slotOf σ 113, slotOf σ 114, slotOf σ 115, slotOf σ 116, slotOf σ 117, slotOf σ 118, slotOf σ 119, slotOf σ 120], [[.int .u8 t.kind, .int .i64 t.num, .str t.name, .slice .imm (if (t.kids.map dN).isEmpty = true then 0 else 4) (t.kids.map dN)], [.slice .imm (if ((ofF l t).1.slots.map dSl).isEmpty = true then 0 else 4) ((ofF l t).1.slots.map dSl), .int .i64 (ofF l t).1.cells, .int .i64 (ofF l t).1.stacks], [.slice .imm (if ((ofF l e0).1.slots.map dSl).isEmpty = true then 0 else 4) ((ofF l e0).1.slots.map dSl), .int .i64 (ofF l e0).1.cells, .int .i64 (ofF l e0).1.stacks]], 0, []⟩ ∧ m = l.length - i ∧ i ≤ l.length) ?_ (l.length) _ ?_
        rotate_left
        · exact ⟨0, rfl, rfl, Nat.zero_le _⟩
        rintro m σ ⟨i, hσ, rfl, hi⟩
        generalize slotOf σ = x at hσ
        subst hσ
        refine X_seq ?_
        refine X_seq ?_
        refine X_rg fun R hR => ?_
        simp only [EVP, nat_lt, aops, astep, awant, aeff, aop, abin, aint, ev, St.put, List.getElem?_cons_succ, List.getElem?_cons_zero, Option.getD_some, Option.map_some, if_true, List.set_cons_succ, List.set_cons_zero, List.length_map, und_api_VarDecl]
        with_reducible refine hR _ ?_
        clear hR R
        show X _ _ _ _
        refine X_ite (by simp only [ev, List.getElem?_cons_succ, List.getElem?_cons_zero, Option.getD_some]; exact rfl) ?_ ?_
        · intro b7
          have c7 := b7
          try simp only [decide_eq_true_eq] at c7
          refine X_skip ?_
          show X _ _ _ _
          refine X_seq ?_
          refine X_block ?_
          refine X_seq ?_
          have hlt : i < l.length := by first | assumption | omega
          obtain ⟨r1, r2, r3, r4⟩ := p6 i (by omega) (by omega) hlt
          have n1 : ((if ((ofF l e0).1.slots.map dSl).isEmpty = true then 0 else 4) = 4) = True := eq_true (sl_n (j := i) (by rw [List.length_map]; omega))
          have n2 : ((if ((ofF l t).1.slots.map dSl).isEmpty = true then 0 else 4) = 4) = True := eq_true (sl_n (j := i) (by rw [List.length_map]; omega))
          have n3 : ((if (l.map dV).isEmpty = true then 0 else 3) = 3) = True := eq_true (sl_n (j := i) (by simpa using hlt))
          have w1 : (ofF l e0).1.slots[i]? = some (ofF l e0).1.slots[i] := List.getElem?_eq_getElem (by omega)
          have w2 : (ofF l t).1.slots[i]? = some (ofF l e0).1.slots[i] := by rw [← r1]; exact List.getElem?_eq_getElem (by omega)
          have e1 : ((ofF l e0).1.slots.map dSl)[i]? = some (.agg [.str (ofF l e0).1.slots[i].name, .int .u8 (ofF l e0).1.slots[i].kind, .int .i64 (ofF l e0).1.slots[i].len, .int .i64 (ofF l e0).1.slots[i].off]) := by rw [List.getElem?_map, w1]; rfl
          have e2 : ((ofF l t).1.slots.map dSl)[i]? = some (.agg [.str (ofF l e0).1.slots[i].name, .int .u8 (ofF l e0).1.slots[i].kind, .int .i64 (ofF l e0).1.slots[i].len, .int .i64 (ofF l e0).1.slots[i].off]) := by rw [List.getElem?_map, w2]; rfl
          have e3 : (l.map dV)[i]? = some (.agg [.str (ofF l e0).1.slots[i].name, .int .u8 (ofF l e0).1.slots[i].kind, .int .i64 (ofF l e0).1.slots[i].len]) := by rw [r2, r3, r4, List.getElem?_map, List.getElem?_eq_getElem hlt]; rfl
          have g1 : ((i : Int) < ((ofF l e0).1.slots.length : Int)) = True := eq_true (by omega)
          have g2 : ((i : Int) < ((ofF l t).1.slots.length : Int)) = True := eq_true (by omega)
          have z1 : i < (ofF l e0).1.slots.length := by omega
          have z2 : i < (ofF l t).1.slots.length := by omega
          generalize (ofF l e0).1.slots[i] = gi at e1 e2 e3
          refine X_rg fun R hR => ?_
          simp only [EVP, nat_lt, nat_0, nat_to, aops, astep, awant, aeff, aop, abin, aint, astr, mkD, ev, ofValue, St.put, ia_int, cl_int, ia_str, cl_str, ia_agg, cl_agg, ia_slice, List.getElem?_cons_succ, List.getElem?_cons_zero, Option.getD_some, Option.map_some, Option.bind_some, if_true, List.set_cons_succ, List.set_cons_zero, List.length_map, List.length_cons, List.length_nil, List.drop_succ_cons, List.drop_zero, List.take_succ_cons, List.take_zero, Nat.reduceAdd, Nat.reduceLeDiff, Nat.zero_add, Nat.add_zero, Bool.not_true, Bool.false_eq_true, if_false, and_self, reduceCtorEq, decide_true, beq_self_eq_true, bne_self_eq_false, Option.isSome_some, ty_int, ty_uint8, ty_string, ty_api_VarDecl, und_api_VarDecl, siz_api_VarDecl, inf_api_VarDecl_eq, ty_layout_Slot, ty_s_layout_Slot, ty_layout_Frame, st_layout_Slot, und_layout_Slot, siz_layout_Slot, inf_layout_Slot_eq, hlt, n1, n2, n3, e1, e2, e3, z1, z2, sq_c, sq_d, sl_eqL, bne_self_eq_false, beq_self_eq_true]
          with_reducible refine hR _ ?_
          clear hR R
          show X _ _ _ _
          refine X_false (by simp only [ev, List.getElem?_cons_succ, List.getElem?_cons_zero, Option.getD_some]) ?_
          refine X_skip ?_
          show X _ _ _ _
          have hbig : i < 9223372036854775807 := by omega
          refine X_rg fun R hR => ?_
          simp only [inr_i64, Int.reduceLE, Int.reduceNeg, aops, astep, awant, aeff, aop, abin, aint, ev, ofValue, St.put, List.getElem?_cons_succ, List.getElem?_cons_zero, Option.getD_some, Option.map_some, if_true, List.set_cons_succ, List.set_cons_zero, and_self, nat_succ hbig]
          with_reducible refine hR _ ?_
          clear hR R
          show ∃ m, m < _ ∧ _
          exact ⟨l.length - (i + 1), by omega, i + 1, rfl, rfl, by omega⟩
        · intro b8
          have c8 := b8
          try simp only [decide_eq_false_iff_not] at c8
          refine X_exit ?_
          show X _ _ _ _
          refine X_seq ?_
          refine X_rg fun R hR => ?_
          simp only [aops, astep, awant, aeff, aop, ev, ofValue, St.put, Option.getD_some, Option.map_some, if_true, List.set_cons_succ, List.set_cons_zero, b8]
          with_reducible refine hR _ ?_
          clear hR R
          show X _ _ _ _
          refine X_ret ?_
          show resD _ _ _ = some _
          simp only [resD, resAll, resOne, resTup, Try.results6, EVP, List.getElem?_cons_succ, List.getElem?_cons_zero, D.good, if_true, Option.map_some] <;> (first | (rfl; done) | (simp_all; done) | (exfalso; simp_all; done))

end Go.Proofs.Ythgdibdapjaljaa
