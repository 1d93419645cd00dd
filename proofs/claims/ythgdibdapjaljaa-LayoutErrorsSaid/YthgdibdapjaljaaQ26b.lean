/- The law LayoutErrors: its walk. -/
import Derived.Test.YthgdibdapjaljaaLa11
namespace Go.Proofs.Ythgdibdapjaljaa
open Go.RowKit

set_option maxRecDepth 100000 in
set_option maxHeartbeats 4000000 in
theorem law4_y (l : List Vd) (k : Int) (bad : Bool) (hk0 : 0 ≤ k) (hk1 : k ≤ 255) (hl0 : 0 < l.length) (hl1 : l.length ≤ 20) : fn EV 4 [sl 3 (l.map dV), .int .u8 k, .bool bad] = some (.bool true) := by
  have hj0 : k.toNat % l.length < l.length := Nat.mod_lt _ hl0
  have hkc := u8_conv hk0 hk1
  have htm := tmod_nat hk0 l.length
  have hn3 : ((if (l.map dV).isEmpty = true then 0 else 3) = 3) = True := eq_true (sl_n (j := 0) (by simpa using hl0))
  have ej : (l.map dV)[k.toNat % l.length]? = some (.agg [.str l[k.toNat % l.length].name, .int .u8 l[k.toNat % l.length].kind, .int .i64 l[k.toNat % l.length].len]) := by simp [hj0, dV]
  have hz : ((l.length : Int) = 0) = False := eq_false (by omega)
  have hz1 : decide ((l.length : Int) > 20) = false := by rw [decide_eq_false_iff_not]; omega
  have hz3 : ((l.length : Int) == 0) = false := by rw [beq_eq_false_iff_ne]; omega
  have hmem : l[k.toNat % l.length] ∈ l := List.getElem_mem hj0
  have hO1 := of0_fn l
  simp only [sl] at hO1
  refine fn_X rfl Try.func4 rfl (by simp only [plain, List.all_cons, List.all_nil, slV_pl, int_pl, Bool.and_true, Bool.true_and]; rfl) (rfl) (rfl) (rfl) ?_
  simp only [List.map_cons, List.map_nil, D.strip, sl_strip (map_strip (f := dV) (fun _ => rfl) _)]
  simp only [enterSt, Try.ntmps4, List.length_cons, List.length_nil, Nat.reduceAdd, Nat.reduceSub, List.replicate_succ, List.replicate_zero, List.cons_append, List.nil_append]
  refine X_seq ?_
  refine X_rg fun R hR => ?_
  simp only [aops, astep, awant, aeff, aop, ev, ofValue, St.put, Option.getD_some, Option.map_some, if_true, List.set_cons_succ, List.set_cons_zero, sl]
  with_reducible refine hR _ ?_
  clear hR R
  show X _ _ _ _
  refine X_seq ?_
  refine X_seq ?_
  refine X_rg fun R hR => ?_
  simp only [EVP, aops, astep, awant, aeff, aop, ev, St.put, pcall, List.map_nil, List.getElem?_cons_succ, List.getElem?_cons_zero, Option.getD_some, Option.map_some, if_true, List.set_cons_succ, List.set_cons_zero, List.nil_append, Bool.not_true, any10, awake_ok]
  with_reducible refine hR _ ?_
  clear hR R
  show X _ _ _ _
  refine X_ite (by simp only [ev, List.getElem?_cons_succ, List.getElem?_cons_zero, Option.getD_some]; exact rfl) ?_ ?_
  · intro b1
    have c1 := b1
    try simp only [Bool.not_eq_true', Bool.not_eq_false', decide_eq_true_eq, decide_eq_false_iff_not, beq_iff_eq, Int.not_lt, Int.not_le, ge_iff_le, gt_iff_lt, bne_iff_ne, ne_eq, bne_eq_false_iff_eq, beq_eq_false_iff_ne, Bool.and_eq_true, Bool.or_eq_false_iff] at c1
    refine X_seq ?_
    refine X_rg fun R hR => ?_
    simp only [aops, astep, awant, aeff, aop, ev, ofValue, St.put, Option.getD_some, Option.map_some, if_true, List.set_cons_succ, List.set_cons_zero, b1]
    with_reducible refine hR _ ?_
    clear hR R
    show X _ _ _ _
    refine X_ret ?_
    show resD _ _ _ = some _
    simp only [resD, resAll, resOne, resTup, Try.results4, EVP, List.getElem?_cons_succ, List.getElem?_cons_zero, D.good, if_true, Option.map_some] <;> (first | (rfl; done) | (simp_all; done) | (exfalso; simp_all; done))
  · intro b2
    have c2 := b2
    try simp only [] at c2
    refine X_skip ?_
    show X _ _ _ _
    refine X_seq ?_
    refine X_seq ?_
    refine X_rg fun R hR => ?_
    simp only [EVP, inr_i64, Int.reduceLE, Int.reduceNeg, aops, astep, awant, aeff, aop, abin, aint, ev, ofValue, St.put, List.getElem?_cons_succ, List.getElem?_cons_zero, Option.getD_some, Option.map_some, Option.bind_some, if_true, List.set_cons_succ, List.set_cons_zero, List.length_map, Bool.false_eq_true, if_false, and_self, beq_self_eq_true, und_api_VarDecl, hz1, hz3]
    with_reducible refine hR _ ?_
    clear hR R
    show X _ _ _ _
    refine X_false (by simp only [ev, List.getElem?_cons_succ, List.getElem?_cons_zero, Option.getD_some]) ?_
    refine X_skip ?_
    show X _ _ _ _
    refine X_seq ?_
    refine X_seq ?_
    refine X_rg fun R hR => ?_
    simp only [EVP, inr_u8, Int.reduceLE, aops, astep, awant, aeff, aop, afill, astore, ev, ofValue, St.put, pcall, gd_int, cl_int, List.map_cons, List.map_nil, List.getElem?_cons_succ, List.getElem?_cons_zero, Option.getD_some, Option.map_some, Option.bind_some, if_true, List.set_cons_succ, List.set_cons_zero, List.length_cons, List.length_nil, List.drop_succ_cons, List.drop_zero, List.take_zero, List.cons_append, List.nil_append, Nat.reduceAdd, Nat.reduceLeDiff, Nat.zero_add, and_self, ty_api_Node, st_api_Node, sta_api_Node, ty_layout_Frame, any14, dFm_cells, dFm_good, hO1]
    with_reducible refine hR _ ?_
    clear hR R
    show X _ _ _ _
    refine X_seq ?_
    refine X_rg fun R hR => ?_
    simp only [inr_i64, Int.reduceLE, Int.reduceNeg, aops, astep, awant, aeff, aop, abin, aint, ev, ofValue, St.put, List.getElem?_cons_succ, List.getElem?_cons_zero, Option.getD_some, Option.map_some, if_true, List.set_cons_succ, List.set_cons_zero, and_self]
    with_reducible refine hR _ ?_
    clear hR R
    show X _ _ _ _
    refine X_ite (by simp only [ev, List.getElem?_cons_succ, List.getElem?_cons_zero, Option.getD_some]; exact rfl) ?_ ?_
    · intro b3
      have c3 := b3
      try simp only [bne_iff_ne, ne_eq] at c3
      refine X_seq ?_
      refine X_rg fun R hR => ?_
      simp only [aops, astep, awant, aeff, aop, ev, ofValue, St.put, Option.getD_some, Option.map_some, if_true, List.set_cons_succ, List.set_cons_zero, b3]
      with_reducible refine hR _ ?_
      clear hR R
      show X _ _ _ _
      refine X_ret ?_
      show resD _ _ _ = some _
      simp only [resD, resAll, resOne, resTup, Try.results4, EVP, List.getElem?_cons_succ, List.getElem?_cons_zero, D.good, if_true, Option.map_some] <;> (first | (rfl; done) | (simp_all; done) | (exfalso; simp_all; done))
    · intro b4
      have c4 := b4
      try simp only [bne_eq_false_iff_eq] at c4
      refine X_skip ?_
      show X _ _ _ _
      refine X_seq ?_
      refine X_rg fun R hR => ?_
      simp only [EVP, nat_lt, nat_0, nat_to, aops, astep, awant, aeff, aop, abin, aint, ev, St.put, ia_str, cl_str, List.getElem?_cons_succ, List.getElem?_cons_zero, Option.getD_some, Option.map_some, if_true, List.set_cons_succ, List.set_cons_zero, List.length_map, List.length_cons, List.length_nil, List.drop_zero, List.take_succ_cons, List.take_zero, Nat.reduceAdd, Nat.reduceLeDiff, Nat.zero_add, Bool.false_eq_true, if_false, and_self, reduceCtorEq, Option.isSome_some, ty_string, ty_api_VarDecl, und_api_VarDecl, siz_api_VarDecl, inf_api_VarDecl_eq, und_int', und_uint8', b4, hkc, htm, hn3, ej, hz, hj0]
      with_reducible refine hR _ ?_
      clear hR R
      show X _ _ _ _
      refine X_seq ?_
      have h00 : (ofF l e0).2 = 0 := by first | assumption | (simp_all; done)
      have hd1 := err_dup h00 hl1 hmem 3 rfl
      obtain ⟨o1, n1, nx1, lv1, o2, nx2, lv2, hap1, hap2, hkp, ho2⟩ := copy_app (P := Try.prog) (t := 38) 0 [] und_api_VarDecl inf_api_VarDecl_eq inf_api_VarDecl_size (by omega) (by rw [inf_api_VarDecl_bytes]; omega) inf_api_VarDecl_zc (l.map dV) (.agg [.str l[k.toNat % l.length].name, .int .u8 3, .int .i64 0]) (by simp; omega)
      simp only [Nat.zero_add] at hap1
      have hO2 := of_own (X := .slice o2 3 (l.map dV ++ [.agg [.str l[k.toNat % l.length].name, .int .u8 3, .int .i64 0]])) (Y := .agg [.int .u8 57, .int .i64 0, .str ⟨#[]⟩, .slice .nil 0 []]) (l := l ++ [⟨l[k.toNat % l.length].name, 3, 0⟩]) (t := e0) (by have h9 := own_st ho2 3 l ⟨l[k.toNat % l.length].name, 3, 0⟩; rw [List.map_append] at h9 ⊢; exact h9) (by have h9 := vds_pl o2 3 (l ++ [⟨l[k.toNat % l.length].name, 3, 0⟩]); rw [List.map_append] at h9; exact h9) emp_st rfl (by decide)
      rw [hd1] at hO2
      refine X_rg fun R hR => ?_
      simp only [EVP, inr_u8, Int.reduceLE, aops, astep, awant, aeff, aop, afill, abuild, astore, ev, ofValue, St.put, pcall, gd_int, cl_int, gd_str, cl_str, gd_agg, cl_agg, List.map_cons, List.map_nil, List.getElem?_cons_succ, List.getElem?_cons_zero, Option.getD_some, Option.map_some, Option.bind_some, if_true, List.set_cons_succ, List.set_cons_zero, List.length_cons, List.length_nil, List.drop_succ_cons, List.drop_zero, List.take_succ_cons, List.take_zero, List.cons_append, List.nil_append, Nat.reduceAdd, Nat.reduceLeDiff, Nat.reduceLT, Nat.zero_add, Bool.and_true, and_self, List.all_cons, List.all_nil, beq_self_eq_true, Nat.reduceMul, rng_0, rng_1, ty_api_Node, ty_api_VarDecl, st_api_Node, sta_api_Node, st_api_VarDecl, sta_api_VarDecl, und_api_VarDecl, inf_api_VarDecl_eq, inf_api_VarDecl_size, inf_api_VarDecl_zero, ty_layout_Frame, any14, dFm_cells, dFm_good, hap1, hap2, hO2]
      with_reducible refine hR _ ?_
      clear hR R
      show X _ _ _ _
      refine X_seq ?_
      obtain ⟨o5, n5, nx5, lv5, ha5, hap5⟩ := (AccB.own (e := 46) (sz := 3) (L := []) (List.mem_cons_self) (by omega) : AccB 46 3 (.own nx2 46) 3 [] (nx2 + 1) (nx2 :: lv2)).appE (P := Try.prog) (t := 38) und_api_VarDecl inf_api_VarDecl_eq inf_api_VarDecl_size (by omega) (by rw [inf_api_VarDecl_bytes]; omega) inf_api_VarDecl_zc (l.map dV) (by simp; omega)
      simp only [List.nil_append] at ha5 hap5
      refine X_rg fun R hR => ?_
      simp only [EVP, aops, astep, awant, aeff, aop, abuild, ev, ofValue, St.put, List.map_nil, List.getElem?_cons_succ, List.getElem?_cons_zero, Option.getD_some, Option.map_some, if_true, List.set_cons_succ, List.set_cons_zero, Nat.reduceLeDiff, Nat.reduceLT, and_self, List.all_nil, Nat.reduceMul, rng_0, und_api_VarDecl, inf_api_VarDecl_eq, inf_api_VarDecl_size, inf_api_VarDecl_zero, hap5]
      with_reducible refine hR _ ?_
      clear hR R
      show X _ _ _ _
      refine X_seq ?_
      refine X_seq ?_
      refine X_rg fun R hR => ?_
      simp only [aops, astep, awant, aeff, aop, ev, St.put, List.getElem?_cons_succ, List.getElem?_cons_zero, Option.getD_some, Option.map_some, if_true, List.set_cons_succ, List.set_cons_zero]
      with_reducible refine hR _ ?_
      clear hR R
      show X _ _ _ _
      refine X_ite (by simp only [ev, List.getElem?_cons_succ, List.getElem?_cons_zero, Option.getD_some]; exact rfl) ?_ ?_
      · intro b5
        have c5 := b5
        try simp only [Bool.not_eq_true', Bool.not_eq_false', decide_eq_true_eq, decide_eq_false_iff_not, beq_iff_eq, Int.not_lt, Int.not_le, ge_iff_le, gt_iff_lt, bne_iff_ne, ne_eq, bne_eq_false_iff_eq, beq_eq_false_iff_ne, Bool.and_eq_true, Bool.or_eq_false_iff] at c5
        obtain ⟨lv6, ha6, hap6⟩ := ha5.app1 (P := Try.prog) (t := 38) und_api_VarDecl inf_api_VarDecl_eq inf_api_VarDecl_size (by omega) (by rw [inf_api_VarDecl_bytes]; omega) inf_api_VarDecl_zc (.agg [.str l[k.toNat % l.length].name, .int .u8 9, .int .i64 0]) (by simp; omega)
        refine X_rg fun R hR => ?_
        simp only [EVP, inr_u8, Int.reduceLE, aops, astep, awant, aeff, aop, afill, abuild, ev, ofValue, St.put, gd_int, cl_int, gd_str, cl_str, gd_agg, cl_agg, List.map_cons, List.map_nil, List.getElem?_cons_succ, List.getElem?_cons_zero, Option.getD_some, Option.map_some, if_true, List.set_cons_succ, List.set_cons_zero, List.length_cons, List.length_nil, List.drop_succ_cons, List.drop_zero, List.take_succ_cons, List.take_zero, List.cons_append, List.nil_append, Nat.reduceAdd, Nat.reduceLeDiff, Nat.reduceLT, Nat.zero_add, Bool.and_true, and_self, List.all_cons, List.all_nil, beq_self_eq_true, Nat.reduceMul, rng_1, ty_api_VarDecl, st_api_VarDecl, sta_api_VarDecl, und_api_VarDecl, inf_api_VarDecl_eq, inf_api_VarDecl_size, inf_api_VarDecl_zero, b5, hap6]
        with_reducible refine hR _ ?_
        clear hR R
        show X _ _ _ _
        refine X_seq ?_
        have hlf := local_fn (l[k.toNat % l.length].name)
        refine X_rg fun R hR => ?_
        simp only [EVP, inr_u8, Int.reduceLE, aops, astep, awant, aeff, aop, afill, abuild, astore, ev, ofValue, St.put, pcall, gd_int, cl_int, gd_agg, cl_agg, gd_slice, cl_slice, List.map_cons, List.map_nil, List.getElem?_cons_succ, List.getElem?_cons_zero, Option.getD_some, Option.map_some, Option.bind_some, if_true, List.set_cons_succ, List.set_cons_zero, List.length_cons, List.length_nil, List.drop_succ_cons, List.drop_zero, List.take_succ_cons, List.take_zero, List.cons_append, List.nil_append, Nat.reduceAdd, Nat.reduceLeDiff, Nat.reduceLT, Nat.zero_add, Bool.and_true, and_self, List.all_cons, List.all_nil, beq_self_eq_true, Nat.reduceMul, rng_1, ty_api_Node, st_api_Node, sta_api_Node, und_api_Node, inf_api_Node_eq, inf_api_Node_size, inf_api_Node_zero, any15, dN_cells, dN_good, sl, hlf]
        with_reducible refine hR _ ?_
        clear hR R
        show X _ _ _ _
        refine X_seq ?_
        refine X_seq ?_
        have hbl := fun N => lcb_blk N (l[k.toNat % l.length].name)
        refine X_rg fun R hR => ?_
        simp only [EVP, aops, astep, awant, aeff, aop, mkD, ev, St.put, pcall, List.map_cons, List.map_nil, List.getElem?_cons_succ, List.getElem?_cons_zero, Option.getD_some, Option.map_some, if_true, List.set_cons_succ, List.set_cons_zero, List.length_cons, List.length_nil, List.drop_zero, List.take_succ_cons, List.take_zero, List.cons_append, List.nil_append, Nat.reduceAdd, Nat.reduceLeDiff, Nat.zero_add, ty_api_Node, any16, hbl]
        with_reducible refine hR _ ?_
        clear hR R
        show X _ _ _ _
        refine X_ite (by simp only [ev, List.getElem?_cons_succ, List.getElem?_cons_zero, Option.getD_some]; exact rfl) ?_ ?_
        · intro b6
          have c6 := b6
          try simp only [Bool.not_eq_true'] at c6
          refine X_seq ?_
          refine X_rg fun R hR => ?_
          simp only [aops, astep, awant, aeff, aop, ev, ofValue, St.put, Option.getD_some, Option.map_some, if_true, List.set_cons_succ, List.set_cons_zero, b6]
          with_reducible refine hR _ ?_
          clear hR R
          show X _ _ _ _
          refine X_ret ?_
          show resD _ _ _ = some _
          simp only [resD, resAll, resOne, resTup, Try.results4, EVP, List.getElem?_cons_succ, List.getElem?_cons_zero, D.good, if_true, Option.map_some] <;> (first | (rfl; done) | (simp_all; done) | (exfalso; simp_all; done))
        · intro b7
          have c7 := b7
          try simp only [Bool.not_eq_false'] at c7
          refine X_skip ?_
          show X _ _ _ _
          refine X_seq ?_
          have hbB : blockB (lcB (l[k.toNat % l.length].name)) = true := by first | assumption | (simp_all; done)
          have hd2 := err_form l ⟨l[k.toNat % l.length].name, 9, 0⟩ (lcB (l[k.toNat % l.length].name)) rfl
          have hO3 := fun N => of_own (X := .slice (.own (nx5 + 1) 46) 3 (l.map dV ++ [.agg [.str l[k.toNat % l.length].name, .int .u8 9, .int .i64 0]])) (l := l ++ [⟨l[k.toNat % l.length].name, 9, 0⟩]) (by have h9 := own_st (o := .own (nx5 + 1) 46) rfl 3 l ⟨l[k.toNat % l.length].name, 9, 0⟩; rw [List.map_append] at h9 ⊢; exact h9) (by have h9 := vds_pl (.own (nx5 + 1) 46) 3 (l ++ [⟨l[k.toNat % l.length].name, 9, 0⟩]); rw [List.map_append] at h9; exact h9) (lcb_st N (l[k.toNat % l.length].name)) (lcb_pl N (l[k.toNat % l.length].name)) (lcb_size _)
          rw [hd2] at hO3
          refine X_rg fun R hR => ?_
          simp only [EVP, aops, astep, awant, aeff, aop, mkD, astore, ev, St.put, pcall, List.map_cons, List.map_nil, List.getElem?_cons_succ, List.getElem?_cons_zero, Option.getD_some, Option.map_some, Option.bind_some, if_true, List.set_cons_succ, List.set_cons_zero, List.length_cons, List.length_nil, List.drop_succ_cons, List.drop_zero, List.take_succ_cons, List.take_zero, List.cons_append, List.nil_append, Nat.reduceAdd, Nat.reduceLeDiff, Nat.zero_add, and_self, ty_api_Node, ty_layout_Frame, any14, dFm_cells, dFm_good, b7, hO3]
          with_reducible refine hR _ ?_
          clear hR R
          show X _ _ _ _
          refine X_seq ?_
          refine X_rg fun R hR => ?_
          simp only [inr_i64, Int.reduceLE, Int.reduceNeg, aops, astep, awant, aeff, aop, ev, ofValue, St.put, Option.getD_some, Option.map_some, if_true, List.set_cons_succ, List.set_cons_zero, and_self]
          with_reducible refine hR _ ?_
          clear hR R
          show X _ _ _ _
          refine X_seq ?_
          refine X_seq ?_
          refine X_rg fun R hR => ?_
          simp only [aops, astep, awant, aeff, aop, ev, St.put, List.getElem?_cons_succ, List.getElem?_cons_zero, Option.getD_some, Option.map_some, if_true, List.set_cons_succ, List.set_cons_zero]
          with_reducible refine hR _ ?_
          clear hR R
          show X _ _ _ _
          refine X_true (by simp only [ev, List.getElem?_cons_succ, List.getElem?_cons_zero, Option.getD_some]) ?_
          refine X_rg fun R hR => ?_
          simp only [inr_i64, Int.reduceLE, Int.reduceNeg, aops, astep, awant, aeff, aop, ev, ofValue, St.put, Option.getD_some, Option.map_some, if_true, List.set_cons_succ, List.set_cons_zero, and_self]
          with_reducible refine hR _ ?_
          clear hR R
          show X _ _ _ _
          refine X_seq ?_
          refine X_rg fun R hR => ?_
          simp only [inr_i64, Int.reduceLE, Int.reduceNeg, aops, astep, awant, aeff, aop, abin, aint, ev, ofValue, St.put, List.getElem?_cons_succ, List.getElem?_cons_zero, Option.getD_some, Option.map_some, Option.bind_some, if_true, List.set_cons_succ, List.set_cons_zero, and_self, beq_self_eq_true]
          with_reducible refine hR _ ?_
          clear hR R
          show X _ _ _ _
          refine X_ret ?_
          show resD _ _ _ = some _
          simp only [resD, resAll, resOne, resTup, Try.results4, EVP, List.getElem?_cons_succ, List.getElem?_cons_zero, D.good, if_true, Option.map_some] <;> (first | (rfl; done) | (simp_all; done) | (exfalso; simp_all; done))
      · intro b8
        have c8 := b8
        try simp only [Bool.not_eq_true', Bool.not_eq_false', decide_eq_true_eq, decide_eq_false_iff_not, beq_iff_eq, Int.not_lt, Int.not_le, ge_iff_le, gt_iff_lt, bne_iff_ne, ne_eq, bne_eq_false_iff_eq, beq_eq_false_iff_ne, Bool.and_eq_true, Bool.or_eq_false_iff] at c8
        refine X_skip ?_
        show X _ _ _ _
        refine X_seq ?_
        have hlf := local_fn (l[k.toNat % l.length].name)
        refine X_rg fun R hR => ?_
        simp only [EVP, inr_u8, Int.reduceLE, aops, astep, awant, aeff, aop, afill, abuild, astore, ev, ofValue, St.put, pcall, gd_int, cl_int, gd_agg, cl_agg, gd_slice, cl_slice, List.map_cons, List.map_nil, List.getElem?_cons_succ, List.getElem?_cons_zero, Option.getD_some, Option.map_some, Option.bind_some, if_true, List.set_cons_succ, List.set_cons_zero, List.length_cons, List.length_nil, List.drop_succ_cons, List.drop_zero, List.take_succ_cons, List.take_zero, List.cons_append, List.nil_append, Nat.reduceAdd, Nat.reduceLeDiff, Nat.reduceLT, Nat.zero_add, Bool.and_true, and_self, List.all_cons, List.all_nil, beq_self_eq_true, Nat.reduceMul, rng_1, ty_api_Node, st_api_Node, sta_api_Node, und_api_Node, inf_api_Node_eq, inf_api_Node_size, inf_api_Node_zero, any15, dN_cells, dN_good, sl, b8, hlf]
        with_reducible refine hR _ ?_
        clear hR R
        show X _ _ _ _
        refine X_seq ?_
        refine X_seq ?_
        have hbl := fun N => lcb_blk N (l[k.toNat % l.length].name)
        refine X_rg fun R hR => ?_
        simp only [EVP, aops, astep, awant, aeff, aop, mkD, ev, St.put, pcall, List.map_cons, List.map_nil, List.getElem?_cons_succ, List.getElem?_cons_zero, Option.getD_some, Option.map_some, if_true, List.set_cons_succ, List.set_cons_zero, List.length_cons, List.length_nil, List.drop_zero, List.take_succ_cons, List.take_zero, List.cons_append, List.nil_append, Nat.reduceAdd, Nat.reduceLeDiff, Nat.zero_add, ty_api_Node, any16, hbl]
        with_reducible refine hR _ ?_
        clear hR R
        show X _ _ _ _
        refine X_ite (by simp only [ev, List.getElem?_cons_succ, List.getElem?_cons_zero, Option.getD_some]; exact rfl) ?_ ?_
        · intro b9
          have c9 := b9
          try simp only [Bool.not_eq_true'] at c9
          refine X_seq ?_
          refine X_rg fun R hR => ?_
          simp only [aops, astep, awant, aeff, aop, ev, ofValue, St.put, Option.getD_some, Option.map_some, if_true, List.set_cons_succ, List.set_cons_zero, b9]
          with_reducible refine hR _ ?_
          clear hR R
          show X _ _ _ _
          refine X_ret ?_
          show resD _ _ _ = some _
          simp only [resD, resAll, resOne, resTup, Try.results4, EVP, List.getElem?_cons_succ, List.getElem?_cons_zero, D.good, if_true, Option.map_some] <;> (first | (rfl; done) | (simp_all; done) | (exfalso; simp_all; done))
        · intro b10
          have c10 := b10
          try simp only [Bool.not_eq_false'] at c10
          refine X_skip ?_
          show X _ _ _ _
          refine X_seq ?_
          have hbB : blockB (lcB (l[k.toNat % l.length].name)) = true := by first | assumption | (simp_all; done)
          have hd2 := err_loc h00 hmem hbB
          have hO3 := fun N => of_own (accV_st ha5) (vds_pl o5 n5 l) (lcb_st N (l[k.toNat % l.length].name)) (lcb_pl N (l[k.toNat % l.length].name)) (lcb_size _)
          rw [hd2] at hO3
          refine X_rg fun R hR => ?_
          simp only [EVP, aops, astep, awant, aeff, aop, mkD, astore, ev, St.put, pcall, List.map_cons, List.map_nil, List.getElem?_cons_succ, List.getElem?_cons_zero, Option.getD_some, Option.map_some, Option.bind_some, if_true, List.set_cons_succ, List.set_cons_zero, List.length_cons, List.length_nil, List.drop_succ_cons, List.drop_zero, List.take_succ_cons, List.take_zero, List.cons_append, List.nil_append, Nat.reduceAdd, Nat.reduceLeDiff, Nat.zero_add, and_self, ty_api_Node, ty_layout_Frame, any14, dFm_cells, dFm_good, b10, hO3]
          with_reducible refine hR _ ?_
          clear hR R
          show X _ _ _ _
          refine X_seq ?_
          refine X_rg fun R hR => ?_
          simp only [inr_i64, Int.reduceLE, Int.reduceNeg, aops, astep, awant, aeff, aop, ev, ofValue, St.put, Option.getD_some, Option.map_some, if_true, List.set_cons_succ, List.set_cons_zero, and_self]
          with_reducible refine hR _ ?_
          clear hR R
          show X _ _ _ _
          refine X_seq ?_
          refine X_seq ?_
          refine X_rg fun R hR => ?_
          simp only [aops, astep, awant, aeff, aop, ev, St.put, List.getElem?_cons_succ, List.getElem?_cons_zero, Option.getD_some, Option.map_some, if_true, List.set_cons_succ, List.set_cons_zero]
          with_reducible refine hR _ ?_
          clear hR R
          show X _ _ _ _
          refine X_false (by simp only [ev, List.getElem?_cons_succ, List.getElem?_cons_zero, Option.getD_some]) ?_
          refine X_skip ?_
          show X _ _ _ _
          refine X_seq ?_
          refine X_rg fun R hR => ?_
          simp only [inr_i64, Int.reduceLE, Int.reduceNeg, aops, astep, awant, aeff, aop, abin, aint, ev, ofValue, St.put, List.getElem?_cons_succ, List.getElem?_cons_zero, Option.getD_some, Option.map_some, Option.bind_some, if_true, List.set_cons_succ, List.set_cons_zero, and_self, beq_self_eq_true]
          with_reducible refine hR _ ?_
          clear hR R
          show X _ _ _ _
          refine X_ret ?_
          show resD _ _ _ = some _
          simp only [resD, resAll, resOne, resTup, Try.results4, EVP, List.getElem?_cons_succ, List.getElem?_cons_zero, D.good, if_true, Option.map_some] <;> (first | (rfl; done) | (simp_all; done) | (exfalso; simp_all; done))
set_option maxRecDepth 100000 in
set_option maxHeartbeats 4000000 in
theorem law4_n (l : List Vd) (k : Int) (bad : Bool) (hno : 20 < l.length ∨ l.length = 0) : fn EV 4 [sl 3 (l.map dV), .int .u8 k, .bool bad] = some (.bool true) := by
  refine fn_X rfl Try.func4 rfl (by simp only [plain, List.all_cons, List.all_nil, slV_pl, int_pl, Bool.and_true, Bool.true_and]; rfl) (rfl) (rfl) (rfl) ?_
  simp only [List.map_cons, List.map_nil, D.strip, sl_strip (map_strip (f := dV) (fun _ => rfl) _)]
  simp only [enterSt, Try.ntmps4, List.length_cons, List.length_nil, Nat.reduceAdd, Nat.reduceSub, List.replicate_succ, List.replicate_zero, List.cons_append, List.nil_append]
  refine X_seq ?_
  refine X_rg fun R hR => ?_
  simp only [aops, astep, awant, aeff, aop, ev, ofValue, St.put, Option.getD_some, Option.map_some, if_true, List.set_cons_succ, List.set_cons_zero, sl]
  with_reducible refine hR _ ?_
  clear hR R
  show X _ _ _ _
  refine X_seq ?_
  refine X_seq ?_
  refine X_rg fun R hR => ?_
  simp only [EVP, aops, astep, awant, aeff, aop, ev, St.put, pcall, List.map_nil, List.getElem?_cons_succ, List.getElem?_cons_zero, Option.getD_some, Option.map_some, if_true, List.set_cons_succ, List.set_cons_zero, List.nil_append, Bool.not_true, any10, awake_ok]
  with_reducible refine hR _ ?_
  clear hR R
  show X _ _ _ _
  refine X_ite (by simp only [ev, List.getElem?_cons_succ, List.getElem?_cons_zero, Option.getD_some]; exact rfl) ?_ ?_
  · intro b1
    have c1 := b1
    try simp only [Bool.not_eq_true', Bool.not_eq_false', decide_eq_true_eq, decide_eq_false_iff_not, beq_iff_eq, Int.not_lt, Int.not_le, ge_iff_le, gt_iff_lt, bne_iff_ne, ne_eq, bne_eq_false_iff_eq, beq_eq_false_iff_ne, Bool.and_eq_true, Bool.or_eq_false_iff] at c1
    refine X_seq ?_
    refine X_rg fun R hR => ?_
    simp only [aops, astep, awant, aeff, aop, ev, ofValue, St.put, Option.getD_some, Option.map_some, if_true, List.set_cons_succ, List.set_cons_zero, b1]
    with_reducible refine hR _ ?_
    clear hR R
    show X _ _ _ _
    refine X_ret ?_
    show resD _ _ _ = some _
    simp only [resD, resAll, resOne, resTup, Try.results4, EVP, List.getElem?_cons_succ, List.getElem?_cons_zero, D.good, if_true, Option.map_some] <;> (first | (rfl; done) | (simp_all; done) | (exfalso; simp_all; done))
  · intro b2
    have c2 := b2
    try simp only [] at c2
    refine X_skip ?_
    show X _ _ _ _
    refine X_seq ?_
    refine X_seq ?_
    refine X_y ?_
    refine Y_k 4 fun R hR => ?_
    simp only [EVP, inr_i64, Int.reduceLE, Int.reduceNeg, aops, astep, awant, aeff, aop, abin, aint, ev, ofValue, St.put, List.getElem?_cons_succ, List.getElem?_cons_zero, Option.getD_some, Option.map_some, if_true, List.set_cons_succ, List.set_cons_zero, List.length_map, List.take_succ_cons, List.take_zero, and_self, und_api_VarDecl]
    with_reducible refine hR _ ?_
    clear hR R
    simp only [List.drop_succ_cons, List.drop_zero]
    refine Y_if 22 (by simp only [ev, List.getElem?_cons_succ, List.getElem?_cons_zero, Option.getD_some]; exact rfl) ?_ ?_
    · intro b3
      have c3 := b3
      try simp only [decide_eq_true_eq, gt_iff_lt] at c3
      refine Y_end fun R hR => ?_
      simp only [EVP, inr_i64, Int.reduceLE, Int.reduceNeg, aops, astep, awant, aeff, aop, abin, ev, ofValue, St.put, List.getElem?_cons_succ, List.getElem?_cons_zero, Option.getD_some, Option.map_some, Option.map_none, Option.bind_some, if_true, List.set_cons_succ, List.set_cons_zero, Bool.false_eq_true, if_false, and_self, bq_tf, und_api_VarDecl, b3]
      with_reducible refine hR _ ?_
      clear hR R
      show X _ _ _ _
      refine X_true (by simp only [ev, List.getElem?_cons_succ, List.getElem?_cons_zero, Option.getD_some]) ?_
      refine X_seq ?_
      refine X_rg fun R hR => ?_
      simp only [aops, astep, awant, aeff, aop, ev, ofValue, St.put, Option.getD_some, Option.map_some, if_true, List.set_cons_succ, List.set_cons_zero]
      with_reducible refine hR _ ?_
      clear hR R
      show X _ _ _ _
      refine X_ret ?_
      show resD _ _ _ = some _
      simp only [resD, resAll, resOne, resTup, Try.results4, EVP, List.getElem?_cons_succ, List.getElem?_cons_zero, D.good, if_true, Option.map_some] <;> (first | (rfl; done) | (simp_all; done) | (exfalso; simp_all; done))
    · intro b4
      have c4 := b4
      try simp only [decide_eq_false_iff_not, Int.not_lt, gt_iff_lt] at c4
      refine Y_end fun R hR => ?_
      simp only [EVP, inr_i64, Int.reduceLE, Int.reduceNeg, aops, astep, awant, aeff, aop, abin, aint, ev, ofValue, St.put, List.getElem?_cons_succ, List.getElem?_cons_zero, Option.getD_some, Option.map_some, Option.bind_some, if_true, List.set_cons_succ, List.set_cons_zero, List.length_map, Bool.false_eq_true, if_false, and_self, beq_self_eq_true, und_api_VarDecl, b4]
      with_reducible refine hR _ ?_
      clear hR R
      show X _ _ _ _
      refine X_ite (by simp only [ev, List.getElem?_cons_succ, List.getElem?_cons_zero, Option.getD_some]; exact rfl) ?_ ?_
      · intro b5
        have c5 := b5
        try simp only [beq_iff_eq] at c5
        refine X_seq ?_
        refine X_rg fun R hR => ?_
        simp only [aops, astep, awant, aeff, aop, ev, ofValue, St.put, Option.getD_some, Option.map_some, if_true, List.set_cons_succ, List.set_cons_zero, b5]
        with_reducible refine hR _ ?_
        clear hR R
        show X _ _ _ _
        refine X_ret ?_
        show resD _ _ _ = some _
        simp only [resD, resAll, resOne, resTup, Try.results4, EVP, List.getElem?_cons_succ, List.getElem?_cons_zero, D.good, if_true, Option.map_some] <;> (first | (rfl; done) | (simp_all; done) | (exfalso; simp_all; done))
      · intro b6
        have c6 := b6
        try simp only [ne_eq, beq_eq_false_iff_ne] at c6
        exfalso
        have k1 : l.length ≤ 20 := by simp at *; omega
        have k3 : ¬ l.length = 0 := by simp at *; omega
        omega
theorem law4_fn (l : List Vd) (k : Int) (bad : Bool) (hk0 : 0 ≤ k) (hk1 : k ≤ 255) : fn EV 4 [sl 3 (l.map dV), .int .u8 k, .bool bad] = some (.bool true) := by
  by_cases h1 : 0 < l.length ∧ l.length ≤ 20
  · exact law4_y l k bad hk0 hk1 h1.1 h1.2
  · exact law4_n l k bad (by omega)

end Go.Proofs.Ythgdibdapjaljaa
