/- The law CheckerLists: its walk. -/
import Derived.Test.YtmglacjcefajlaaSo9
import Derived.Test.YtmglacjcefajlaaCk3w
namespace Go.Proofs.Ytmglacjcefajlaa
open Go.RowKit

set_option maxRecDepth 100000 in
set_option maxHeartbeats 4000000 in
theorem law1_fn (p : Pg) : fn EV 3 [dG p] = some (.bool true) := by
 refine fn_X rfl Try.func3 rfl (by simp only [plain, List.all_cons, List.all_nil, dG_pl, Bool.and_true]) (rfl) (rfl) (rfl) ?_
 simp only [zmc, zmn, dG_strip]
 simp only [enterSt, Try.ntmps3, zlc, zln, Nat.reduceAdd, Nat.reduceSub, zr1, zr0, zca, zna]
 refine X_seq ?_
 refine X_rg fun R hR => ?_
 simp only [aops, astep, awant, aeff, aop, ev, ofValue, St.put, zg0, zgd, zmo, if_true, zs1, zs0, zln, zna, dG_cells, dG_good]
 with_reducible refine hR _ ?_
 clear hR R
 show X _ _ _ _
 refine X_seq ?_
 refine X_seq ?_
 refine X_rg fun R hR => ?_
 simp only [EVP, aops, astep, awant, aeff, aop, ev, St.put, pcall, zmn, zg1, zg0, zgd, zmo, if_true, zs1, zs0, zna, Bool.not_true, any11, awake_ok]
 with_reducible refine hR _ ?_
 clear hR R
 show X _ _ _ _
 refine X_ite (by simp only [ev, zg1, zg0, zgd]; exact rfl) ?_ ?_
 ·intro b1
  have c1 := b1
  try simp only [znt, znf, decide_eq_true_eq, decide_eq_false_iff_not, beq_iff_eq, Int.not_lt, Int.not_le, ge_iff_le, gt_iff_lt, bne_iff_ne, ne_eq, bne_eq_false_iff_eq, beq_eq_false_iff_ne, zat, zof] at c1
  refine X_seq ?_
  refine X_rg fun R hR => ?_
  simp only [aops, astep, awant, aeff, aop, ev, ofValue, St.put, zgd, zmo, if_true, zs1, zs0, b1]
  with_reducible refine hR _ ?_
  clear hR R
  show X _ _ _ _
  refine X_ret ?_
  show resD _ _ _ = some _
  simp only [resD, resAll, resOne, resTup, Try.results3, EVP, zg1, zg0, D.good, if_true, zmo] <;> (first | (rfl; done) | (simp_all; done) | (rw [show chkF p = [] from by unfold chkF; rw [if_neg (by rintro ⟨q1, q2⟩; simp_all)]]; rfl; done) | (exfalso; simp_all; done))
 ·intro b2
  have c2 := b2
  try simp only [] at c2
  refine X_skip ?_
  show X _ _ _ _
  refine X_seq ?_
  refine X_seq ?_
  have hV := valid_fn p
  have hF := check_fn p
  have hC := chk_fn p
  obtain ⟨dg, hG, g, rfl⟩ := great_p p
  have h0 : ∀ l : List Ft, decide ((l.length : Int) > 0) = !l.isEmpty := fun l => by cases l with | nil => rfl | cons a r => (first | (simp; done) | (simp; omega))
  have h1 : ∀ l : List Ft, ((l.length : Int) == 0) = l.isEmpty := fun l => by cases l with | nil => rfl | cons a r => (simp only [List.isEmpty_cons, beq_eq_false_iff_ne]; first | (simp; done) | (simp; omega))
  refine X_rg fun R hR => ?_
  simp only [EVP, inr_i64, Int.reduceLE, Int.reduceNeg, aops, astep, awant, aeff, aop, abin, aint, mkD, ev, ofValue, St.put, pcall, zmc, zmn, zg1, zg0, zgd, zmo, if_true, zs1, zs0, zlc, zln, zd0, zt1, zt0, zca, zna, Nat.reduceAdd, Nat.reduceLeDiff, Nat.zero_add, and_self, ty_api_Program, any12, dG_agg, hG]
  with_reducible refine hR _ ?_
  clear hR R
  show X _ _ _ _
  refine X_ite (by simp only [ev, zg1, zg0, zgd]; exact rfl) ?_ ?_
  ·intro b3
   have c3 := b3
   try simp only [beq_iff_eq] at c3
   refine X_seq ?_
   refine X_rg fun R hR => ?_
   simp only [aops, astep, awant, aeff, aop, ev, ofValue, St.put, zgd, zmo, if_true, zs1, zs0, b3]
   with_reducible refine hR _ ?_
   clear hR R
   show X _ _ _ _
   refine X_ret ?_
   show resD _ _ _ = some _
   simp only [resD, resAll, resOne, resTup, Try.results3, EVP, zg1, zg0, D.good, if_true, zmo] <;> (first | (rfl; done) | (simp_all; done) | (rw [show chkF p = [] from by unfold chkF; rw [if_neg (by rintro ⟨q1, q2⟩; simp_all)]]; rfl; done) | (exfalso; simp_all; done))
  ·intro b4
   have c4 := b4
   try simp only [ne_eq, beq_eq_false_iff_ne] at c4
   refine X_skip ?_
   show X _ _ _ _
   refine X_seq ?_
   refine X_rg fun R hR => ?_
   simp only [EVP, aops, astep, awant, aeff, aop, mkD, ev, St.put, pcall, zmc, zmn, zg1, zg0, zgd, zmo, if_true, zs1, zs0, zlc, zln, zd0, zt1, zt0, zca, zna, Nat.reduceAdd, Nat.reduceLeDiff, Nat.zero_add, ty_api_Program, any13, sl, dG_agg, b4, hC]
   with_reducible refine hR _ ?_
   clear hR R
   show X _ _ _ _
   refine X_seq ?_
   refine X_seq ?_
   refine X_y ?_
   refine Y_k 4 fun R hR => ?_
   simp only [EVP, aops, astep, awant, aeff, aop, mkD, ev, St.put, pcall, zmc, zmn, zg1, zg0, zgd, zmo, if_true, zs1, zs0, zlc, zln, zd0, zt1, zt0, zca, zna, Nat.reduceAdd, Nat.reduceLeDiff, Nat.zero_add, ty_api_Program, any14, dG_agg, hV]
   with_reducible refine hR _ ?_
   clear hR R
   simp only [zd1, zd0]
   refine Y_if 17 (by simp only [ev, zg1, zg0, zgd]; exact rfl) ?_ ?_
   ·intro b5
    have c5 := b5
    try simp only [znt] at c5
    refine Y_end fun R hR => ?_
    simp only [EVP, inr_i64, Int.reduceLE, Int.reduceNeg, aops, astep, awant, aeff, aop, abin, mkD, ev, ofValue, St.put, pcall, zmc, zmn, zg1, zg0, zgd, zmo, Option.map_none, zbs, if_true, zs1, zs0, zlc, zln, zd0, zt1, zt0, zca, zna, Nat.reduceAdd, Nat.reduceLeDiff, Nat.zero_add, zft, if_false, and_self, bq_tf, ty_api_Program, und_scope_Fault, any15, dG_agg, b5]
    with_reducible refine hR _ ?_
    clear hR R
    show X _ _ _ _
    refine X_true (by simp only [ev, zg1, zg0, zgd]) ?_
    refine X_seq ?_
    refine X_rg fun R hR => ?_
    simp only [EVP, inr_i64, Int.reduceLE, Int.reduceNeg, aops, astep, awant, aeff, aop, abin, aint, ev, ofValue, St.put, zg1, zg0, zgd, zmo, if_true, zs1, zs0, zlm, and_self, und_checker_Rejection, h1]
    with_reducible refine hR _ ?_
    clear hR R
    show X _ _ _ _
    refine X_ret ?_
    show resD _ _ _ = some _
    simp only [resD, resAll, resOne, resTup, Try.results3, EVP, zg1, zg0, D.good, if_true, zmo] <;> (first | (rfl; done) | (simp_all; done) | (rw [show chkF p = [] from by unfold chkF; rw [if_neg (by rintro ⟨q1, q2⟩; simp_all)]]; rfl; done) | (exfalso; simp_all; done))
   ·intro b6
    have c6 := b6
    try simp only [znf] at c6
    refine Y_end fun R hR => ?_
    simp only [EVP, inr_i64, Int.reduceLE, Int.reduceNeg, aops, astep, awant, aeff, aop, abin, aint, mkD, ev, ofValue, St.put, pcall, zmc, zmn, zg1, zg0, zgd, zmo, zbs, if_true, zs1, zs0, zlm, zlc, zln, zd0, zt1, zt0, zca, zna, Nat.reduceAdd, Nat.reduceLeDiff, Nat.zero_add, zft, if_false, and_self, beq_self_eq_true, ty_api_Program, und_scope_Fault, any15, sl, dG_agg, b6, hF, h0]
    with_reducible refine hR _ ?_
    clear hR R
    show X _ _ _ _
    refine X_ite (by simp only [ev, zg1, zg0, zgd]; exact rfl) ?_ ?_
    ·intro b7
     have c7 := b7
     try simp only [znt] at c7
     refine X_seq ?_
     refine X_rg fun R hR => ?_
     simp only [EVP, inr_i64, Int.reduceLE, Int.reduceNeg, aops, astep, awant, aeff, aop, abin, aint, ev, ofValue, St.put, zg1, zg0, zgd, zmo, if_true, zs1, zs0, zlm, and_self, und_checker_Rejection, b7, h1]
     with_reducible refine hR _ ?_
     clear hR R
     show X _ _ _ _
     refine X_ret ?_
     show resD _ _ _ = some _
     simp only [resD, resAll, resOne, resTup, Try.results3, EVP, zg1, zg0, D.good, if_true, zmo] <;> (first | (rfl; done) | (simp_all; done) | (rw [show chkF p = [] from by unfold chkF; rw [if_neg (by rintro ⟨q1, q2⟩; simp_all)]]; rfl; done) | (exfalso; simp_all; done))
    ·intro b8
     have c8 := b8
     try simp only [znf] at c8
     refine X_skip ?_
     show X _ _ _ _
     refine X_seq ?_
     have hv : validB p = true := by first | assumption | (simp_all; done)
     obtain ⟨bv, bp, bq, bm, _⟩ := valid_bd hv
     have hB := ok_block hv
     have hno : checkF p = [] := by cases hc : checkF p with | nil => rfl | cons a b => (exfalso; simp_all; done)
     refine X_rg fun R hR => ?_
     simp only [aops, astep, awant, aeff, aop, ev, ofValue, St.put, zgd, zmo, if_true, zs1, zs0, b8]
     with_reducible refine hR _ ?_
     clear hR R
     show X _ _ _ _
     refine X_seq ?_
     refine X_seq ?_
     refine X_rg fun R hR => ?_
     simp only [EVP, inr_i64, Int.reduceLE, Int.reduceNeg, aops, astep, awant, aeff, aop, mkD, ev, ofValue, St.put, ia_slice, zg1, zg0, zgd, zmo, if_true, zs1, zs0, zlm, zlc, zln, zd1, zd0, zt1, zt0, Nat.reduceAdd, Nat.reduceLeDiff, Nat.zero_add, zft, if_false, and_self, reduceCtorEq, ty_s_api_Proc, ty_api_Program, und_api_Proc]
     with_reducible refine hR _ ?_
     clear hR R
     show X _ _ _ _
     refine X_block ?_
     refine X_loop (fun m σ => ∃ (i : Nat) (r : List (List D)) (o : Own) (n : Nat) (M : List D) (F : List Ft) (nx : Nat) (lv : List Nat), σ = ⟨[slotOf σ 0, .ptr 0 0, slotOf σ 2, .slice .imm (if ((chkF p).map dFt).isEmpty = true then 0 else 4) ((chkF p).map dFt), .slice o n M, slotOf σ 5, slotOf σ 6, slotOf σ 7, slotOf σ 8, slotOf σ 9, slotOf σ 10, slotOf σ 11, slotOf σ 12, slotOf σ 13, slotOf σ 14, slotOf σ 15, slotOf σ 16, slotOf σ 17, slotOf σ 18, slotOf σ 19, slotOf σ 20, slotOf σ 21, slotOf σ 22, slotOf σ 23, slotOf σ 24, slotOf σ 25, slotOf σ 26, .slice .imm (if (p.procs.map dP).isEmpty = true then 0 else 6) (p.procs.map dP), .int .i64 p.procs.length, .int .i64 i, slotOf σ 30, slotOf σ 31, slotOf σ 32, slotOf σ 33, slotOf σ 34, slotOf σ 35, slotOf σ 36, slotOf σ 37, slotOf σ 38, slotOf σ 39, slotOf σ 40, slotOf σ 41, slotOf σ 42, slotOf σ 43, slotOf σ 44, slotOf σ 45, slotOf σ 46, slotOf σ 47], [.slice .imm (if (p.vars.map dV).isEmpty = true then 0 else 3) (p.vars.map dV), .slice .imm (if (p.procs.map dP).isEmpty = true then 0 else 6) (p.procs.map dP), .int .u8 p.main.kind, .int .i64 p.main.num, .str p.main.name, .slice .imm (if (p.main.kids.map dN).isEmpty = true then 0 else 4) (p.main.kids.map dN)] :: r, nx, lv⟩ ∧ m = p.procs.length - i ∧ i ≤ p.procs.length ∧ Hid (AccB 43 4 o n M nx lv) ∧ Hid (Lis M F) ∧ Hid (F ++ rejsF (p.procs.drop i) i = rejsF p.procs 0) ∧ F.length ≤ 2000 * i) ?_ (p.procs.length) _ ?_
     rotate_left
     ·exact ⟨0, [], .nil, 0, [], [], 0, [], rfl, rfl, Nat.zero_le _, Lib.hid (.nil _ _ _ _), Lib.hid .nil, Lib.hid rfl, Nat.le_refl _⟩
     rintro m σ ⟨i, r, o, n, M, F, nx, lv, hσ, rfl, hi, ha, hli, hFF, hl⟩
     generalize slotOf σ = x at hσ
     subst hσ
     refine X_seq ?_
     refine X_rg fun R hR => ?_
     simp only [nat_lt, aops, astep, awant, aeff, aop, abin, aint, ev, St.put, zg1, zg0, zgd, zmo, if_true, zs1, zs0]
     with_reducible refine hR _ ?_
     clear hR R
     show X _ _ _ _
     refine X_seq ?_
     refine X_ite (by simp only [ev, zg1, zg0, zgd]; exact rfl) ?_ ?_
     ·intro b9
      have c9 := b9
      try simp only [decide_eq_true_eq] at c9
      refine X_skip ?_
      show X _ _ _ _
      refine X_seq ?_
      refine X_block ?_
      refine X_seq ?_
      have hlt : i < p.procs.length := by first | assumption | omega
      have hn1 : ((if (p.procs.map dP).isEmpty = true then 0 else 6) = 6) = True := eq_true (sl_n (j := i) (by simpa using hlt))
      have e1 : (p.procs.map dP)[i]? = some (dP p.procs[i]) := by simp [hlt]
      obtain ⟨bq1, bq2, _⟩ := bq p.procs[i] (List.getElem_mem hlt)
      refine X_rg fun R hR => ?_
      simp only [EVP, app_get0, app_set0, nat_lt, nat_0, nat_to, aops, astep, awant, aeff, aop, astore, ev, St.put, gd_agg, ia_agg, cl_agg, zg1, zg0, zgd, zmo, zbs, if_true, zs1, zs0, zlm, zlc, zln, zd1, zd0, zt0, zca, zna, Nat.reduceAdd, Nat.reduceLeDiff, Nat.zero_add, and_self, decide_true, zis, ty_api_Proc, und_api_Proc, siz_api_Proc, inf_api_Proc_eq, sl, dP, hlt, hn1, e1]
      with_reducible refine hR _ ?_
      clear hR R
      show X _ _ _ _
      have hcb := lbody_fn (i : Int) p.procs[i].body (hB.2 _ (List.getElem_mem hlt)) (by omega)
      simp only [sl] at hcb
      have hbl := bodyF_len i p.procs[i].body
      obtain ⟨o5, n5, nx5, lv5, ha5, hap5⟩ := ha.out.appE (P := Try.prog) (t := 31) und_checker_Rejection inf_checker_Rejection_eq inf_checker_Rejection_size (by omega) (by rw [inf_checker_Rejection_bytes]; omega) inf_checker_Rejection_zc ((bodyF i p.procs[i].body).map dFt) (by have := hli.out.len; simp; omega)
      refine X_rg fun R hR => ?_
      simp only [EVP, app_get0, aops, astep, awant, aeff, aop, mkD, ev, St.put, pcall, zmc, zmn, zg1, zg0, zgd, zmo, if_true, zs1, zs0, zlc, zln, zd1, zd0, zt1, zt0, zca, zna, Nat.reduceAdd, Nat.reduceLeDiff, Nat.zero_add, if_false, reduceCtorEq, ty_api_Node, ty_api_Proc, any16, dN_agg, hcb, hap5]
      with_reducible refine hR _ ?_
      clear hR R
      show X _ _ _ _
      have hbig : i < 9223372036854775807 := by omega
      refine X_rg fun R hR => ?_
      simp only [inr_i64, Int.reduceLE, Int.reduceNeg, aops, astep, awant, aeff, aop, abin, aint, ev, ofValue, St.put, zg1, zg0, zgd, zmo, if_true, zs1, zs0, and_self, nat_succ hbig]
      with_reducible refine hR _ ?_
      clear hR R
      show ∃ m, m < _ ∧ _
      exact ⟨p.procs.length - (i + 1), by omega, i + 1, _, o5, n5, _, F ++ bodyF i p.procs[i].body, nx5, lv5, rfl, rfl, by omega, Lib.hid ha5, Lib.hid (hli.out.app (.of _)), Lib.hid (by rw [← hFF.out, rejsF_drop p.procs i hlt, zaa]), by rw [zla]; omega⟩
     ·intro b10
      have c10 := b10
      try simp only [decide_eq_false_iff_not] at c10
      refine X_exit ?_
      show X _ _ _ _
      refine X_seq ?_
      have hcb := lbody_fn (-1) p.main hB.1 (by omega)
      simp only [sl] at hcb
      have hbl := bodyF_len (-1) p.main
      obtain ⟨o5, n5, nx5, lv5, ha5, hap5⟩ := ha.out.appE (P := Try.prog) (t := 31) und_checker_Rejection inf_checker_Rejection_eq inf_checker_Rejection_size (by omega) (by rw [inf_checker_Rejection_bytes]; omega) inf_checker_Rejection_zc ((bodyF (-1) p.main).map dFt) (by have := hli.out.len; simp; omega)
      have hT : F = rejsF p.procs 0 := by have h1 := hFF.out; rw [List.drop_of_length_le (by omega)] at h1; simpa only [rejsF, List.append_nil] using h1
      have hLi := hli.out.app (.of (bodyF (-1) p.main))
      rw [hT, ← chk_eq hv hno] at hLi
      have hS := same_self (chkF p) true (chk_bd p).1 (chk_bd p).2 (sl_own4 (chkF p)).1 (sl_own4 (chkF p)).2 (acc_own ha5.a hLi).1 (acc_own ha5.a hLi).2
      refine X_rg fun R hR => ?_
      simp only [EVP, inr_i64, Int.reduceLE, Int.reduceNeg, aops, astep, awant, aeff, aop, mkD, ev, ofValue, St.put, pcall, zmc, zmn, zg1, zg0, zgd, zmo, if_true, zs1, zs0, zlc, zln, zd1, zd0, zt1, zt0, zca, zna, Nat.reduceAdd, Nat.reduceLeDiff, Nat.zero_add, if_false, and_self, reduceCtorEq, ty_api_Node, ty_api_Program, any16, any17, dN_agg, b10, hcb, hap5, hS]
      with_reducible refine hR _ ?_
      clear hR R
      show X _ _ _ _
      refine X_ret ?_
      show resD _ _ _ = some _
      simp only [resD, resAll, resOne, resTup, Try.results3, EVP, zg1, zg0, D.good, if_true, zmo] <;> (first | (rfl; done) | (simp_all; done) | (rw [show chkF p = [] from by unfold chkF; rw [if_neg (by rintro ⟨q1, q2⟩; simp_all)]]; rfl; done) | (exfalso; simp_all; done))

end Go.Proofs.Ytmglacjcefajlaa
