/- The law CheckerProcs: its walk. -/
import Derived.Test.YtmglacjcefajlaaSo9
namespace Go.Proofs.Ytmglacjcefajlaa
open Go.RowKit

set_option maxRecDepth 100000 in
set_option maxHeartbeats 4000000 in
theorem pick_fn (l : List Ft) (pr : Int) (hll : l.length ≤ 1000000) : fn EV 22 [sl 4 (l.map dFt), .int .i64 pr] = some (sl 4 ((l.filter (fun f => f.proc == pr)).map dFt)) := by
 refine fn_Xs rfl Try.func22 rfl (by simp only [plain, List.all_cons, List.all_nil, sl_dFt_pl, int_pl, Bool.and_true]) (rfl) ?_
 simp only [List.map_cons, List.map_nil, D.strip, sl_strip (map_strip (f := dFt) dFt_strip _)]
 simp only [enterSt, Try.ntmps22, List.length_cons, List.length_nil, Nat.reduceAdd, Nat.reduceSub, List.replicate_succ, List.replicate_zero, List.cons_append, List.nil_append]
 refine X_seq ?_
 refine X_rg fun R hR => ?_
 simp only [aops, astep, awant, aeff, aop, ev, ofValue, St.put, zgd, zmo, if_true, zs1, zs0, sl]
 with_reducible refine hR _ ?_
 clear hR R
 show X _ _ _ _
 refine X_seq ?_
 refine X_rg fun R hR => ?_
 simp only [aops, astep, awant, aeff, aop, ev, ofValue, St.put, zgd, zmo, if_true, zs1, zs0]
 with_reducible refine hR _ ?_
 clear hR R
 show X _ _ _ _
 refine X_seq ?_
 refine X_seq ?_
 refine X_rg fun R hR => ?_
 simp only [EVP, inr_i64, Int.reduceLE, Int.reduceNeg, aops, astep, awant, aeff, aop, ev, ofValue, St.put, zg1, zg0, zgd, zmo, if_true, zs1, zs0, List.length_map, and_self, und_checker_Rejection]
 with_reducible refine hR _ ?_
 clear hR R
 show X _ _ _ _
 refine X_block ?_
 refine X_loop (fun m σ => ∃ (i : Nat) (r : List (List D)) (o : Own) (n : Nat) (M : List D) (F : List Ft) (nx : Nat) (lv : List Nat), σ = ⟨[slotOf σ 0, .int .i64 pr, slotOf σ 2, slotOf σ 3, slotOf σ 4, .slice o n M, slotOf σ 6, slotOf σ 7, .slice .imm (if (l.map dFt).isEmpty = true then 0 else 4) (l.map dFt), .int .i64 l.length, .int .i64 i, slotOf σ 11, slotOf σ 12, slotOf σ 13, slotOf σ 14, slotOf σ 15, slotOf σ 16, slotOf σ 17, slotOf σ 18, slotOf σ 19, slotOf σ 20, slotOf σ 21, slotOf σ 22, slotOf σ 23], r, nx, lv⟩ ∧ m = l.length - i ∧ i ≤ l.length ∧ Hid (AccB 43 4 o n M nx lv) ∧ Hid (Lis M F) ∧ Hid (F = (l.take i).filter (fun f => f.proc == pr)) ∧ F.length ≤ i) ?_ (l.length) _ ?_
 rotate_left
 ·exact ⟨0, [], .nil, 0, [], [], 0, [], rfl, rfl, Nat.zero_le _, Lib.hid (.nil _ _ _ _), Lib.hid .nil, Lib.hid rfl, Nat.le_refl _⟩
 rintro m σ ⟨i, r, o, n, M, F, nx, lv, hσ, rfl, hi, ha, hli, hFF, hl⟩
 generalize slotOf σ = x at hσ
 subst hσ
 refine X_seq ?_
 refine X_rg fun R hR => ?_
 simp only [nat_lt, aops, astep, awant, aeff, aop, abin, aint, ev, St.put, zg1, zg0, zgd, zmo, if_true, zs1, zs0]
 with_reducible refine hR _ ?_
 clear hR R
 show X _ _ _ _
 refine X_seq ?_
 refine X_ite (by simp only [ev, zg1, zg0, zgd]; exact rfl) ?_ ?_
 ·intro b1
  have c1 := b1
  try simp only [decide_eq_true_eq] at c1
  refine X_skip ?_
  show X _ _ _ _
  refine X_seq ?_
  refine X_block ?_
  refine X_seq ?_
  have hlt : i < l.length := by first | assumption | omega
  have hn1 : ((if (l.map dFt).isEmpty = true then 0 else 4) = 4) = True := eq_true (sl_n (j := i) (by simpa using hlt))
  have e1 : (l.map dFt)[i]? = some (dFt l[i]) := by simp [hlt]
  have hia : (dFt l[i]).isAgg = true := rfl
  refine X_rg fun R hR => ?_
  simp only [EVP, app_get0, app_set0, nat_lt, nat_0, nat_to, aops, astep, awant, aeff, aop, astore, ev, St.put, zg1, zg0, zgd, zmo, Option.bind_some, if_true, zs1, zs0, List.length_map, List.length_cons, List.length_nil, List.drop_succ_cons, List.drop_zero, List.take_zero, List.cons_append, List.nil_append, Nat.reduceAdd, Nat.reduceLeDiff, Nat.zero_add, and_self, decide_true, Option.isSome_some, ty_checker_Rejection, und_checker_Rejection, siz_checker_Rejection, inf_checker_Rejection_eq, dFt_cells, dFt_good, hlt, hn1, e1, hia]
  with_reducible refine hR _ ?_
  clear hR R
  show X _ _ _ _
  refine X_seq ?_
  refine X_rg fun R hR => ?_
  simp only [EVP, app_get0, aops, astep, awant, aeff, aop, abin, aint, mkD, ev, St.put, ia_int, zg1, zg0, zgd, zmo, if_true, zs1, zs0, List.length_cons, List.length_nil, List.drop_zero, List.take_succ_cons, List.take_zero, Nat.reduceAdd, Nat.reduceLeDiff, Nat.zero_add, Nat.add_zero, Bool.false_eq_true, if_false, reduceCtorEq, ty_int, ty_checker_Rejection]
  with_reducible refine hR _ ?_
  clear hR R
  show X _ _ _ _
  refine X_ite (by simp only [ev, zg1, zg0, zgd]; exact rfl) ?_ ?_
  ·intro b2
   have c2 := b2
   try simp only [beq_iff_eq] at c2
   obtain ⟨lv1, hacc, hap⟩ := (ha.out).app1 (P := Try.prog) (t := 31) und_checker_Rejection inf_checker_Rejection_eq inf_checker_Rejection_size (by omega) (by rw [inf_checker_Rejection_bytes]; omega) inf_checker_Rejection_zc (dFt l[i]) (by have := hli.out.len; omega)
   refine X_rg fun R hR => ?_
   simp only [EVP, app_get0, aops, astep, awant, aeff, aop, mkD, abuild, ev, ofValue, St.put, List.map_cons, List.map_nil, zg1, zg0, zgd, zmo, if_true, zs1, zs0, List.length_cons, List.length_nil, List.drop_zero, List.take_succ_cons, List.take_zero, Nat.reduceAdd, Nat.reduceLeDiff, Nat.reduceLT, Nat.zero_add, Bool.and_true, and_self, List.all_cons, List.all_nil, beq_self_eq_true, Nat.reduceMul, rng_1, ty_checker_Rejection, und_checker_Rejection, inf_checker_Rejection_eq, inf_checker_Rejection_size, inf_checker_Rejection_zero, dFt_cells, dFt_agg, dFt_good, b2, hap]
   with_reducible refine hR _ ?_
   clear hR R
   show X _ _ _ _
   have hbig : i < 9223372036854775807 := by omega
   refine X_rg fun R hR => ?_
   simp only [inr_i64, Int.reduceLE, Int.reduceNeg, aops, astep, awant, aeff, aop, abin, aint, ev, ofValue, St.put, zg1, zg0, zgd, zmo, if_true, zs1, zs0, and_self, nat_succ hbig]
   with_reducible refine hR _ ?_
   clear hR R
   show ∃ m, m < _ ∧ _
   have hpr : (l[i].proc == pr) = true := by first | assumption | (simp_all; done)
   exact ⟨l.length - (i + 1), by omega, i + 1, _, _, _, _, F ++ [l[i]], _, _, rfl, rfl, by omega, Lib.hid hacc, Lib.hid (hli.out.app (.one (dFt_strip _) (dFt_under 0 _))), Lib.hid (by rw [hFF.out, List.take_succ_eq_append_getElem hlt, List.filter_append]; congr 1; simp [hpr]), by rw [List.length_append]; simp; omega⟩
  ·intro b3
   have c3 := b3
   try simp only [ne_eq, beq_eq_false_iff_ne] at c3
   refine X_skip ?_
   show X _ _ _ _
   have hbig : i < 9223372036854775807 := by omega
   refine X_rg fun R hR => ?_
   simp only [inr_i64, Int.reduceLE, Int.reduceNeg, aops, astep, awant, aeff, aop, abin, aint, ev, ofValue, St.put, zg1, zg0, zgd, zmo, if_true, zs1, zs0, and_self, b3, nat_succ hbig]
   with_reducible refine hR _ ?_
   clear hR R
   show ∃ m, m < _ ∧ _
   have hpr : (l[i].proc == pr) = false := by first | assumption | (simp_all; done)
   exact ⟨l.length - (i + 1), by omega, i + 1, _, o, n, M, F, nx, lv, rfl, rfl, by omega, ha, hli, Lib.hid (by rw [hFF.out, List.take_succ_eq_append_getElem hlt, List.filter_append]; simp [hpr]), by omega⟩
 ·intro b4
  have c4 := b4
  try simp only [decide_eq_false_iff_not] at c4
  refine X_exit ?_
  show X _ _ _ _
  refine X_seq ?_
  refine X_rg fun R hR => ?_
  simp only [aops, astep, awant, aeff, aop, ev, St.put, zg1, zg0, zgd, zmo, if_true, zs1, zs0, b4]
  with_reducible refine hR _ ?_
  clear hR R
  show X _ _ _ _
  refine X_ret ?_
  show ∃ d, resD _ _ _ = some d ∧ _ ∧ _
  simp only [resD, resAll, resOne, resTup, Try.results22, EVP, zg1, zg0, D.good, if_true, zmo]
  have hT : F = l.filter (fun f => f.proc == pr) := by rw [hFF.out, List.take_of_length_le (by omega)]
  refine ⟨_, rfl, ?_, ?_⟩
  ·simp only [D.under]; exact hli.out.u
  ·rw [(acc_own ha.out.a hli.out).1, hT]
set_option maxRecDepth 100000 in
set_option maxHeartbeats 4000000 in
theorem law9_fn (p : Pg) (k : Int) (hk0 : 0 ≤ k) (hk1 : k ≤ 255) : fn EV 9 [dG p, .int .u8 k] = some (.bool true) := by
 refine fn_X rfl Try.func9 rfl (by simp only [plain, List.all_cons, List.all_nil, dG_pl, int_pl, Bool.and_true]) (rfl) (rfl) (rfl) ?_
 simp only [List.map_cons, List.map_nil, D.strip, dG_strip]
 simp only [enterSt, Try.ntmps9, List.length_cons, List.length_nil, Nat.reduceAdd, Nat.reduceSub, List.replicate_succ, List.replicate_zero, List.cons_append, List.nil_append]
 refine X_seq ?_
 refine X_rg fun R hR => ?_
 simp only [aops, astep, awant, aeff, aop, ev, ofValue, St.put, zg0, zgd, zmo, if_true, zs1, zs0, List.length_nil, List.nil_append, dG_cells, dG_good]
 with_reducible refine hR _ ?_
 clear hR R
 show X _ _ _ _
 refine X_seq ?_
 refine X_seq ?_
 refine X_rg fun R hR => ?_
 simp only [EVP, aops, astep, awant, aeff, aop, ev, St.put, pcall, List.map_nil, zg1, zg0, zgd, zmo, if_true, zs1, zs0, List.nil_append, Bool.not_true, any11, awake_ok]
 with_reducible refine hR _ ?_
 clear hR R
 show X _ _ _ _
 refine X_ite (by simp only [ev, zg1, zg0, zgd]; exact rfl) ?_ ?_
 ·intro b1
  have c1 := b1
  try simp only [Bool.not_eq_true', Bool.not_eq_false', decide_eq_true_eq, decide_eq_false_iff_not, beq_iff_eq, Int.not_lt, Int.not_le, ge_iff_le, gt_iff_lt, bne_iff_ne, ne_eq, bne_eq_false_iff_eq, beq_eq_false_iff_ne, Bool.and_eq_true, Bool.or_eq_false_iff] at c1
  refine X_seq ?_
  refine X_rg fun R hR => ?_
  simp only [aops, astep, awant, aeff, aop, ev, ofValue, St.put, zgd, zmo, if_true, zs1, zs0, b1]
  with_reducible refine hR _ ?_
  clear hR R
  show X _ _ _ _
  refine X_ret ?_
  show resD _ _ _ = some _
  simp only [resD, resAll, resOne, resTup, Try.results9, EVP, zg1, zg0, D.good, if_true, zmo] <;> (first | (rfl; done) | (simp_all; done) | (exfalso; simp_all; done))
 ·intro b2
  have c2 := b2
  try simp only [] at c2
  refine X_skip ?_
  show X _ _ _ _
  refine X_seq ?_
  refine X_seq ?_
  have hV := valid_fn p
  have hF := check_fn p
  have hC := chk_fn p
  obtain ⟨dg, hG, g, rfl⟩ := great_p p
  have h0 : ∀ l : List Ft, decide ((l.length : Int) > 0) = !l.isEmpty := fun l => by cases l with | nil => rfl | cons a r => (first | (simp; done) | (simp; omega))
  have h1 : ∀ l : List Ft, ((l.length : Int) == 0) = l.isEmpty := fun l => by cases l with | nil => rfl | cons a r => (simp only [List.isEmpty_cons, beq_eq_false_iff_ne]; first | (simp; done) | (simp; omega))
  refine X_y ?_
  refine Y_k 4 fun R hR => ?_
  simp only [EVP, inr_i64, Int.reduceLE, Int.reduceNeg, aops, astep, awant, aeff, aop, abin, aint, mkD, ev, ofValue, St.put, pcall, List.map_cons, List.map_nil, zg1, zg0, zgd, zmo, if_true, zs1, zs0, List.length_cons, List.length_nil, List.drop_zero, List.take_succ_cons, List.take_zero, List.cons_append, List.nil_append, Nat.reduceAdd, Nat.reduceLeDiff, Nat.zero_add, and_self, ty_api_Program, any12, dG_agg, hG]
  with_reducible refine hR _ ?_
  clear hR R
  simp only [List.drop_succ_cons, List.drop_zero]
  refine Y_if 13 (by simp only [ev, zg1, zg0, zgd]; exact rfl) ?_ ?_
  ·intro b3
   have c3 := b3
   try simp only [beq_iff_eq] at c3
   refine Y_end fun R hR => ?_
   simp only [EVP, inr_i64, Int.reduceLE, Int.reduceNeg, aops, astep, awant, aeff, aop, abin, mkD, ev, ofValue, St.put, pcall, List.map_cons, List.map_nil, zg1, zg0, zgd, zmo, Option.map_none, Option.bind_some, if_true, zs1, zs0, List.length_cons, List.length_nil, List.drop_zero, List.take_succ_cons, List.take_zero, List.cons_append, List.nil_append, Nat.reduceAdd, Nat.reduceLeDiff, Nat.zero_add, Bool.false_eq_true, if_false, and_self, reduceCtorEq, bq_tf, ty_s_api_Proc, ty_api_Program, und_api_Proc, und_scope_Fault, any14, any15, dG_agg, b3]
   with_reducible refine hR _ ?_
   clear hR R
   show X _ _ _ _
   refine X_true (by simp only [ev, zg1, zg0, zgd]) ?_
   refine X_seq ?_
   refine X_rg fun R hR => ?_
   simp only [aops, astep, awant, aeff, aop, ev, ofValue, St.put, zgd, zmo, if_true, zs1, zs0]
   with_reducible refine hR _ ?_
   clear hR R
   show X _ _ _ _
   refine X_ret ?_
   show resD _ _ _ = some _
   simp only [resD, resAll, resOne, resTup, Try.results9, EVP, zg1, zg0, D.good, if_true, zmo] <;> (first | (rfl; done) | (simp_all; done) | (exfalso; simp_all; done))
  ·intro b4
   have c4 := b4
   try simp only [ne_eq, beq_eq_false_iff_ne] at c4
   refine Y_k 6 fun R hR => ?_
   simp only [EVP, inr_i64, Int.reduceLE, Int.reduceNeg, aops, astep, awant, aeff, aop, abin, aint, mkD, ev, ofValue, St.put, ia_slice, zg1, zg0, zgd, zmo, Option.bind_some, if_true, zs1, zs0, List.length_map, List.length_cons, List.length_nil, List.drop_succ_cons, List.drop_zero, List.take_succ_cons, List.take_zero, Nat.reduceAdd, Nat.reduceLeDiff, Nat.zero_add, Bool.false_eq_true, if_false, and_self, reduceCtorEq, beq_self_eq_true, ty_s_api_Proc, ty_api_Program, und_api_Proc, b4]
   with_reducible refine hR _ ?_
   clear hR R
   simp only [List.drop_succ_cons, List.drop_zero]
   refine Y_if 19 (by simp only [ev, zg1, zg0, zgd]; exact rfl) ?_ ?_
   ·intro b5
    have c5 := b5
    try simp only [beq_iff_eq] at c5
    refine Y_end fun R hR => ?_
    simp only [EVP, inr_i64, Int.reduceLE, Int.reduceNeg, aops, astep, awant, aeff, aop, abin, mkD, ev, ofValue, St.put, pcall, List.map_cons, List.map_nil, zg1, zg0, zgd, zmo, Option.map_none, Option.bind_some, if_true, zs1, zs0, List.length_cons, List.length_nil, List.drop_zero, List.take_succ_cons, List.take_zero, List.cons_append, List.nil_append, Nat.reduceAdd, Nat.reduceLeDiff, Nat.zero_add, Bool.false_eq_true, if_false, and_self, bq_tf, ty_api_Program, und_scope_Fault, any14, any15, dG_agg, b5]
    with_reducible refine hR _ ?_
    clear hR R
    show X _ _ _ _
    refine X_true (by simp only [ev, zg1, zg0, zgd]) ?_
    refine X_seq ?_
    refine X_rg fun R hR => ?_
    simp only [aops, astep, awant, aeff, aop, ev, ofValue, St.put, zgd, zmo, if_true, zs1, zs0]
    with_reducible refine hR _ ?_
    clear hR R
    show X _ _ _ _
    refine X_ret ?_
    show resD _ _ _ = some _
    simp only [resD, resAll, resOne, resTup, Try.results9, EVP, zg1, zg0, D.good, if_true, zmo] <;> (first | (rfl; done) | (simp_all; done) | (exfalso; simp_all; done))
   ·intro b6
    have c6 := b6
    try simp only [ne_eq, beq_eq_false_iff_ne] at c6
    refine Y_k 5 fun R hR => ?_
    simp only [EVP, aops, astep, awant, aeff, aop, mkD, ev, ofValue, St.put, pcall, List.map_cons, List.map_nil, zg1, zg0, zgd, zmo, Option.bind_some, if_true, zs1, zs0, List.length_cons, List.length_nil, List.drop_zero, List.take_succ_cons, List.take_zero, List.cons_append, List.nil_append, Nat.reduceAdd, Nat.reduceLeDiff, Nat.zero_add, Bool.false_eq_true, if_false, beq_self_eq_true, ty_api_Program, any14, dG_agg, b6, hV]
    with_reducible refine hR _ ?_
    clear hR R
    simp only [List.drop_succ_cons, List.drop_zero]
    refine Y_if 24 (by simp only [ev, zg1, zg0, zgd]; exact rfl) ?_ ?_
    ·intro b7
     have c7 := b7
     try simp only [Bool.not_eq_true'] at c7
     refine Y_end fun R hR => ?_
     simp only [EVP, inr_i64, Int.reduceLE, Int.reduceNeg, aops, astep, awant, aeff, aop, abin, mkD, ev, ofValue, St.put, pcall, List.map_cons, List.map_nil, zg1, zg0, zgd, zmo, Option.map_none, Option.bind_some, if_true, zs1, zs0, List.length_cons, List.length_nil, List.drop_zero, List.take_succ_cons, List.take_zero, List.cons_append, List.nil_append, Nat.reduceAdd, Nat.reduceLeDiff, Nat.zero_add, Bool.false_eq_true, if_false, and_self, bq_tf, ty_api_Program, und_scope_Fault, any15, dG_agg, b7]
     with_reducible refine hR _ ?_
     clear hR R
     show X _ _ _ _
     refine X_true (by simp only [ev, zg1, zg0, zgd]) ?_
     refine X_seq ?_
     refine X_rg fun R hR => ?_
     simp only [aops, astep, awant, aeff, aop, ev, ofValue, St.put, zgd, zmo, if_true, zs1, zs0]
     with_reducible refine hR _ ?_
     clear hR R
     show X _ _ _ _
     refine X_ret ?_
     show resD _ _ _ = some _
     simp only [resD, resAll, resOne, resTup, Try.results9, EVP, zg1, zg0, D.good, if_true, zmo] <;> (first | (rfl; done) | (simp_all; done) | (exfalso; simp_all; done))
    ·intro b8
     have c8 := b8
     try simp only [Bool.not_eq_false'] at c8
     refine Y_end fun R hR => ?_
     simp only [EVP, inr_i64, Int.reduceLE, Int.reduceNeg, aops, astep, awant, aeff, aop, abin, aint, mkD, ev, ofValue, St.put, pcall, List.map_cons, List.map_nil, zg1, zg0, zgd, zmo, Option.bind_some, if_true, zs1, zs0, List.length_map, List.length_cons, List.length_nil, List.drop_zero, List.take_succ_cons, List.take_zero, List.cons_append, List.nil_append, Nat.reduceAdd, Nat.reduceLeDiff, Nat.zero_add, Bool.false_eq_true, if_false, and_self, beq_self_eq_true, ty_api_Program, und_scope_Fault, any15, sl, dG_agg, b8, hF, h0]
     with_reducible refine hR _ ?_
     clear hR R
     show X _ _ _ _
     refine X_ite (by simp only [ev, zg1, zg0, zgd]; exact rfl) ?_ ?_
     ·intro b9
      have c9 := b9
      try simp only [Bool.not_eq_true'] at c9
      refine X_seq ?_
      refine X_rg fun R hR => ?_
      simp only [aops, astep, awant, aeff, aop, ev, ofValue, St.put, zgd, zmo, if_true, zs1, zs0, b9]
      with_reducible refine hR _ ?_
      clear hR R
      show X _ _ _ _
      refine X_ret ?_
      show resD _ _ _ = some _
      simp only [resD, resAll, resOne, resTup, Try.results9, EVP, zg1, zg0, D.good, if_true, zmo] <;> (first | (rfl; done) | (simp_all; done) | (exfalso; simp_all; done))
     ·intro b10
      have c10 := b10
      try simp only [Bool.not_eq_false'] at c10
      refine X_skip ?_
      show X _ _ _ _
      refine X_seq ?_
      have hp0 : 0 < p.procs.length := by first | omega | (simp at *; omega)
      have hj0 : k.toNat % p.procs.length < p.procs.length := Nat.mod_lt _ hp0
      have hkc := u8_conv hk0 hk1
      have htm := tmod_nat hk0 p.procs.length
      have hz : ((p.procs.length : Int) = 0) = False := eq_false (by omega)
      have hv : validB p = true := by first | assumption | (simp_all; done)
      have hno : checkF p = [] := by cases hc : checkF p with | nil => rfl | cons a b => (exfalso; simp_all; done)
      refine X_rg fun R hR => ?_
      simp only [EVP, aops, astep, awant, aeff, aop, abin, aint, mkD, ev, St.put, ia_slice, zg1, zg0, zgd, zmo, if_true, zs1, zs0, List.length_map, List.length_cons, List.length_nil, List.drop_succ_cons, List.drop_zero, List.take_succ_cons, List.take_zero, Nat.reduceAdd, Nat.reduceLeDiff, Nat.zero_add, Bool.false_eq_true, if_false, reduceCtorEq, ty_s_api_Proc, ty_api_Program, und_api_Proc, und_int', und_uint8', b10, hkc, htm, hz]
      with_reducible refine hR _ ?_
      clear hR R
      show X _ _ _ _
      refine X_seq ?_
      have hn1 : ((if (p.procs.map dP).isEmpty = true then 0 else 6) = 6) = True := eq_true (sl_n (j := 0) (by simpa using hp0))
      have e1 : (p.procs.map dP)[(k.toNat % p.procs.length)]? = some (.agg [.str p.procs[k.toNat % p.procs.length].name, .slice .imm (if (p.procs[k.toNat % p.procs.length].params.map dV).isEmpty = true then 0 else 3) (p.procs[k.toNat % p.procs.length].params.map dV), .int .u8 p.procs[k.toNat % p.procs.length].body.kind, .int .i64 p.procs[k.toNat % p.procs.length].body.num, .str p.procs[k.toNat % p.procs.length].body.name, .slice .imm (if (p.procs[k.toNat % p.procs.length].body.kids.map dN).isEmpty = true then 0 else 4) (p.procs[k.toNat % p.procs.length].body.kids.map dN)]) := by rw [List.getElem?_map, List.getElem?_eq_getElem hj0]; rfl
      have hlt : ((((k.toNat % p.procs.length) : Nat) : Int) < (p.procs.length : Int)) = True := eq_true (by omega)
      refine X_rg fun R hR => ?_
      simp only [EVP, nat_0, nat_to, aops, astep, awant, aeff, aop, mkD, afill, astore, ev, ofValue, St.put, gd_agg, ia_agg, cl_agg, gd_slice, ia_slice, cl_slice, List.map_cons, List.map_nil, zg1, zg0, zgd, zmo, Option.bind_some, if_true, zs1, zs0, List.length_map, List.length_cons, List.length_nil, List.drop_succ_cons, List.drop_zero, List.take_succ_cons, List.take_zero, List.cons_append, List.nil_append, Nat.reduceAdd, Nat.reduceLeDiff, Nat.zero_add, Bool.false_eq_true, if_false, and_self, reduceCtorEq, Option.isSome_some, ty_s_api_VarDecl, ty_s_api_Proc, ty_api_Node, ty_api_Proc, ty_api_Program, st_api_Program, sta_api_Program, und_api_Proc, siz_api_Proc, inf_api_Proc_eq, hn1, e1, hlt]
      with_reducible refine hR _ ?_
      clear hR R
      show X _ _ _ _
      refine X_seq ?_
      refine X_seq ?_
      obtain ⟨Q, hQ⟩ : ∃ Q, Q = subP p p.procs[k.toNat % p.procs.length] := ⟨_, rfl⟩
      have hQv : validB Q = true := by rw [hQ]; exact sub_valid hv hj0
      have hQc : checkF Q = [] := by rw [hQ]; exact sub_check hno hj0
      have hV2 := valid_fn Q
      have hF2 := check_fn Q
      have hC2 := chk_fn Q
      rw [hQv] at hV2 hF2
      rw [if_pos rfl, hQc] at hF2
      have hz00 : decide (((0 : Nat) : Int) > 0) = false := rfl
      have hq : D.agg [.slice .imm (if (p.procs[k.toNat % p.procs.length].params.map dV).isEmpty = true then 0 else 3) (p.procs[k.toNat % p.procs.length].params.map dV), .slice .imm (if (p.procs.map dP).isEmpty = true then 0 else 6) (p.procs.map dP), .int .u8 p.procs[k.toNat % p.procs.length].body.kind, .int .i64 p.procs[k.toNat % p.procs.length].body.num, .str p.procs[k.toNat % p.procs.length].body.name, .slice .imm (if (p.procs[k.toNat % p.procs.length].body.kids.map dN).isEmpty = true then 0 else 4) (p.procs[k.toNat % p.procs.length].body.kids.map dN)] = dG Q := by rw [hQ]; rfl
      refine X_rg fun R hR => ?_
      simp only [EVP, inr_i64, Int.reduceLE, Int.reduceNeg, aops, astep, awant, aeff, aop, abin, aint, mkD, ev, ofValue, St.put, pcall, List.map_cons, List.map_nil, zg1, zg0, zgd, zmo, Option.bind_some, if_true, zs1, zs0, List.length_cons, List.length_nil, List.drop_zero, List.take_succ_cons, List.take_zero, List.cons_append, List.nil_append, Nat.reduceAdd, Nat.reduceLeDiff, Nat.zero_add, Bool.not_true, Bool.false_eq_true, if_false, and_self, beq_self_eq_true, List.isEmpty_nil, ty_api_Program, und_scope_Fault, any14, any15, dN_agg, sl, hz00, hq, hV2, hF2, List.isEmpty_nil, List.length_nil, List.map_nil]
      with_reducible refine hR _ ?_
      clear hR R
      show X _ _ _ _
      refine X_false (by simp only [ev, zg1, zg0, zgd]) ?_
      refine X_skip ?_
      show X _ _ _ _
      refine X_seq ?_
      refine X_rg fun R hR => ?_
      simp only [aops, astep, awant, aeff, aop, ev, St.put, zmo, if_true, zs1, zs0]
      with_reducible refine hR _ ?_
      clear hR R
      show X _ _ _ _
      refine X_seq ?_
      have hP1 := pick_fn (chkF p) (((k.toNat % p.procs.length) : Nat) : Int) (chk_bd p).1
      rw [chk_at hv hno hj0] at hP1
      have hP2 := pick_fn (chkF Q) (-1) (chk_bd Q).1
      rw [chk_main hQv hQc] at hP2
      have hQm : Q.main = p.procs[k.toNat % p.procs.length].body := by rw [hQ]; rfl
      rw [hQm] at hP2
      simp only [sl] at hP1 hP2
      have hsm := body_same (((k.toNat % p.procs.length) : Nat) : Int) (-1) p.procs[k.toNat % p.procs.length].body
      obtain ⟨_, _, bq, _, _⟩ := valid_bd hv
      have hz2 := (bq p.procs[k.toNat % p.procs.length] (List.getElem_mem hj0)).2.1
      have hlen := bodyF_len (((k.toNat % p.procs.length) : Nat) : Int) p.procs[k.toNat % p.procs.length].body
      have hS := same_o (bodyF (((k.toNat % p.procs.length) : Nat) : Int) p.procs[k.toNat % p.procs.length].body) (bodyF (-1) p.procs[k.toNat % p.procs.length].body) false hsm.1 hsm.2 (by omega) (fun i h => by have := bodyF_plen _ (List.getElem_mem h); omega) (sl_own4 _).1 (sl_own4 _).2 (sl_own4 _).1 (sl_own4 _).2
      refine X_rg fun R hR => ?_
      simp only [EVP, inr_i64, Int.reduceLE, Int.reduceNeg, aops, astep, awant, aeff, aop, mkD, ev, ofValue, St.put, pcall, List.map_cons, List.map_nil, zg1, zg0, zgd, zmo, if_true, zs1, zs0, List.length_cons, List.length_nil, List.drop_zero, List.take_succ_cons, List.take_zero, List.cons_append, List.nil_append, Nat.reduceAdd, Nat.reduceLeDiff, Nat.zero_add, and_self, ty_api_Program, any13, any17, any22, sl, dG_agg, hq, hC, hC2, hP1, hP2, hS]
      with_reducible refine hR _ ?_
      clear hR R
      show X _ _ _ _
      refine X_ret ?_
      show resD _ _ _ = some _
      simp only [resD, resAll, resOne, resTup, Try.results9, EVP, zg1, zg0, D.good, if_true, zmo] <;> (first | (rfl; done) | (simp_all; done) | (exfalso; simp_all; done))

end Go.Proofs.Ytmglacjcefajlaa
