/- The specified rejections of a body. -/
import Derived.Test.YtmglacjcefajlaaCk3
import Derived.Test.YtmglacjcefajlaaCk2w
namespace Go.Proofs.Ytmglacjcefajlaa
open Go.RowKit

set_option maxRecDepth 100000 in
set_option maxHeartbeats 4000000 in
theorem lbody_fn (pr : Int) (t : Tr) (hok : okN t) (hs : t.size ≤ 1000000) : fn EV 16 [.int .i64 pr, dN t] = some (sl 4 ((bodyF pr t).map dFt)) := by
 refine fn_Xs rfl Try.func16 rfl (by simp only [plain, List.all_cons, List.all_nil, dN_pl, int_pl, Bool.and_true]) (rfl) ?_
 simp only [zmc, zmn, D.strip, dN_strip]
 simp only [enterSt, Try.ntmps16, zlc, zln, Nat.reduceAdd, Nat.reduceSub, zr1, zr0, zca, zna]
 refine X_seq ?_
 refine X_rg fun R hR => ?_
 simp only [aops, astep, awant, aeff, aop, ev, ofValue, St.put, gd_int, cl_int, zg1, zg0, zgd, zmo, if_true, zs1, zs0, zlc, zln, zca, zna, Nat.zero_add, dN_cells, dN_good, sl]
 with_reducible refine hR _ ?_
 clear hR R
 show X _ _ _ _
 refine X_seq ?_
 refine X_rg fun R hR => ?_
 simp only [EVP, aops, astep, awant, aeff, St.put, zmo, zbs, if_true, zs1, zs0, zlc, zln, zca, zna, Nat.reduceAdd, Nat.zero_add, ty_s_checker_Rejection]
 with_reducible refine hR _ ?_
 clear hR R
 show X _ _ _ _
 refine X_seq ?_
 refine X_seq ?_
 have hW := o_ast_Walk t hs
 refine X_rg fun R hR => ?_
 simp only [EVP, aops, astep, awant, aeff, aop, mkD, ev, St.put, pcall, zmc, zmn, zg1, zg0, zgd, zmo, if_true, zs1, zs0, zlc, zln, zd0, zt1, zt0, zca, zna, Nat.reduceAdd, Nat.reduceLeDiff, Nat.zero_add, ty_api_Node, any40, dN_agg, hW]
 with_reducible refine hR _ ?_
 clear hR R
 show X _ _ _ _
 refine X_block ?_
 refine X_range (L := walkD t) (by simp only [ev, zg1, zg0, zgd]) ?_
 refine XR_inv (fun L σ => ∃ (fr : List D) (r : List (List D)) (W : List (List Int × Tr)) (o : Own) (n : Nat) (M : List D) (F : List Ft) (nx : Nat) (lv : List Nat), σ = ⟨fr, [.int .i64 pr] :: [.int .u8 t.kind, .int .i64 t.num, .str t.name, .slice .imm (if (t.kids.map dN).isEmpty = true then 0 else 4) (t.kids.map dN)] :: [.slice o n M] :: r, nx, lv⟩ ∧ L = W.map (fun x : List Int × Tr => [sl 1 (x.1.map dI), dN x.2]) ∧ Hid (AccB 43 4 o n M nx lv) ∧ Hid (Lis M F) ∧ Hid (F ++ W.flatMap (rejF pr) = bodyF pr t) ∧ F.length + W.length ≤ t.size ∧ (∀ x ∈ W, okN x.2 ∧ x.2.size ≤ 1000000) ∧ (∀ x ∈ W, x.1.length ≤ 1000000)) ?_ ?_ _ _ ?_
 rotate_right
 ·refine ⟨_, [], walkL [] t, .nil, 0, [], [], 0, [], rfl, rfl, Lib.hid (.nil _ _ _ _), Lib.hid .nil, Lib.hid rfl, by rw [walkL_len]; simp, fun x hx => ⟨okN_walk t [] hok x hx, by have := walkL_size t [] x hx; omega⟩, fun x hx => ?_⟩
  have := walkL_plen t [] x hx; simp at this; omega
 ·rintro σ ⟨fr, r, W, o, n, M, F, nx, lv, rfl, hL, ha, hli, hF, hn0, _, _⟩
  have hW0 : W = [] := by cases W with | nil => rfl | cons a b => cases hL
  subst hW0
  show X _ _ _ _
  refine X_seq ?_
  refine X_rg fun R hR => ?_
  simp only [EVP, aops, astep, awant, aeff, aop, mkD, ev, St.put, ia_slice, zg1, zg0, zgd, zmo, if_true, zs1, zs0, zlc, zln, zd0, zt1, zt0, Nat.reduceLeDiff, Nat.zero_add, zft, if_false, ty_s_checker_Rejection]
  with_reducible refine hR _ ?_
  clear hR R
  show X _ _ _ _
  refine X_ret ?_
  show ∃ d, resD _ _ _ = some d ∧ _ ∧ _
  simp only [resD, resAll, resOne, resTup, Try.results16, EVP, zg1, zg0, D.good, if_true, zmo]
  have hT : F = bodyF pr t := by rw [← hF.out]; simp
  refine ⟨_, rfl, ?_, ?_⟩
  ·simp only [D.under]; exact hli.out.u
  ·rw [ha.out.a.strip, hli.out.s, hT]; rfl
 ·rintro row L σ ⟨fr, r, W, o, n, M, F, nx, lv, rfl, hL, ha, hli, hF, hn0, hok, hpl⟩
  obtain ⟨x, W2, rfl⟩ : ∃ x W2, W = x :: W2 := by cases W with | nil => cases hL | cons a b => exact ⟨a, b, rfl⟩
  simp only [zmc, List.cons.injEq] at hL
  obtain ⟨rfl, rfl⟩ := hL
  obtain ⟨px, m⟩ := x
  have hx := hok _ (List.mem_cons_self ..)
  have hpx := hpl _ (List.mem_cons_self ..)
  simp only at hx hpx
  refine ⟨by simp only [zlc, zln], ?_⟩
  simp only [setPs, zs1, zs0]
  refine X_seq ?_
  refine X_rg fun R hR => ?_
  simp only [aops, astep, awant, aeff, aop, ev, St.put, zg1, zg0, zgd, zmo, if_true, zs1, zs0, sl]
  with_reducible refine hR _ ?_
  clear hR R
  show X _ _ _ _
  refine X_rg fun R hR => ?_
  simp only [EVP, app_get0, app_set0, aops, astep, awant, aeff, astore, ev, St.put, zg1, zg0, zgd, zmo, zbs, if_true, zs1, zs0, zlc, zln, zd1, zd0, zt0, zca, zna, Nat.reduceAdd, Nat.reduceLeDiff, Nat.zero_add, and_self, ty_api_Node, dN_cells, dN_good, sl]
  with_reducible refine hR _ ?_
  clear hR R
  refine ⟨rfl, ?_⟩
  refine X_block ?_
  refine X_seq ?_
  have hst := o_ast_IsStmt m
  refine X_rg fun R hR => ?_
  simp only [EVP, app_get0, aops, astep, awant, aeff, aop, mkD, ev, St.put, pcall, zmc, zmn, zg1, zg0, zgd, zmo, if_true, zs1, zs0, zlc, zln, zd0, zt1, zt0, zca, zna, Nat.reduceAdd, Nat.reduceLeDiff, Nat.zero_add, ty_api_Node, any24, dN_agg, hst]
  with_reducible refine hR _ ?_
  clear hR R
  show X _ _ _ _
  refine X_ite (by simp only [ev, zg1, zg0, zgd]; exact rfl) ?_ ?_
  ·intro b1
   have c1 := b1
   try simp only [znt, znf, decide_eq_true_eq, decide_eq_false_iff_not, beq_iff_eq, Int.not_lt, Int.not_le, ge_iff_le, gt_iff_lt, bne_iff_ne, ne_eq, bne_eq_false_iff_eq, beq_eq_false_iff_ne, zat, zof] at c1
   refine X_seq ?_
   have hstm : stmtB m = true := by first | assumption | (simp_all; done)
   have hr := why_fn m hstm hx.2
   refine X_rg fun R hR => ?_
   simp only [EVP, app_get0, aops, astep, awant, aeff, aop, mkD, ev, St.put, pcall, zmc, zmn, zg1, zg0, zgd, zmo, if_true, zs1, zs0, zlc, zln, zd0, zt1, zt0, zca, zna, Nat.reduceAdd, Nat.reduceLeDiff, Nat.zero_add, ty_api_Node, any41, dN_agg, b1, hr]
   with_reducible refine hR _ ?_
   clear hR R
   show X _ _ _ _
   refine X_seq ?_
   refine X_rg fun R hR => ?_
   simp only [inr_i64, Int.reduceLE, Int.reduceNeg, aops, astep, awant, aeff, aop, abin, aint, ev, ofValue, St.put, zg1, zg0, zgd, zmo, if_true, zs1, zs0, and_self]
   with_reducible refine hR _ ?_
   clear hR R
   show X _ _ _ _
   refine X_ite (by simp only [ev, zg1, zg0, zgd]; exact rfl) ?_ ?_
   ·intro b2
    have c2 := b2
    try simp only [bne_iff_ne, ne_eq] at c2
    obtain ⟨o1, n1, nx1, lv1, hap1, hk1, ho1, hn1⟩ := cp_app (P := Try.prog) (t := 40) nx lv und_int inf_int_eq inf_int_size (by omega) (by rw [inf_int_bytes]; omega) inf_int_zc (px.map dI) (by simp; omega)
    obtain ⟨lv2, hacc, hap⟩ := (ha.out.keep hk1).app1 (P := Try.prog) (t := 31) und_checker_Rejection inf_checker_Rejection_eq inf_checker_Rejection_size (by omega) (by rw [inf_checker_Rejection_bytes]; omega) inf_checker_Rejection_zc (.agg [.int .i64 pr, .slice o1 n1 (px.map dI), .int .i64 (rejT m).2, .str (rejT m).1]) (by have := hli.out.len; omega)
    have hso : (D.slice o1 n1 (px.map dI)).strip = sl 1 (px.map dI) := by
      simp only [D.strip, ho1, strips_id (f := dI) (fun _ => rfl), sl]
      cases hpx : px with
      | nil => rfl
      | cons a r => rw [hn1 (by rw [hpx]; simp)]
    refine X_rg fun R hR => ?_
    simp only [EVP, aops, astep, awant, aeff, aop, mkD, afill, abuild, astore, ev, ofValue, St.put, gd_int, ia_int, cl_int, gd_str, cl_str, gd_agg, cl_agg, gd_slice, ia_slice, cl_slice, zmc, zmn, zg1, zg0, zgd, zmo, if_true, zs1, zs0, zlc, zln, zd1, zd0, zt1, zt0, zca, zna, Nat.reduceAdd, Nat.reduceLeDiff, Nat.reduceLT, Nat.zero_add, Bool.and_true, zft, if_false, and_self, List.all_cons, List.all_nil, beq_self_eq_true, Nat.reduceMul, rng_0, rng_1, ty_int, und_int, inf_int_eq, inf_int_size, inf_int_zero, ty_checker_Rejection, ty_s_checker_Rejection, st_checker_Rejection, sta_checker_Rejection, und_checker_Rejection, inf_checker_Rejection_eq, inf_checker_Rejection_size, inf_checker_Rejection_zero, b2, hap1, hap]
    with_reducible refine hR _ ?_
    clear hR R
    skip
    have hrf : rejF pr (px, m) = rep pr px (rejT m).2 (rejT m).1 := rfl
    have hne : ¬ (rejT m).2 = 0 := by first | assumption | (simp_all; done)
    exact ⟨_, _, W2, _, _, _, F ++ [⟨pr, px, (rejT m).2, (rejT m).1⟩], _, _, rfl, rfl, Lib.hid hacc, Lib.hid (hli.out.app (Lis.one (f := ⟨pr, px, (rejT m).2, (rejT m).1⟩) (by rw [agg4_strip, hso]; rfl) (by simp only [D.under, D.unders, unders_id (f := dI) (fun _ _ => rfl), Bool.and_true]))), Lib.hid (by rw [← hF.out, List.flatMap_cons, hrf, rep_y hne, zaa]), by rw [zla]; simp at hn0 ⊢; omega, fun y hy => hok y (List.mem_cons_of_mem _ hy), fun y hy => hpl y (List.mem_cons_of_mem _ hy)⟩
   ·intro b3
    have c3 := b3
    try simp only [bne_eq_false_iff_eq] at c3
    refine X_skip ?_
    skip
    have hrf : rejF pr (px, m) = rep pr px (rejT m).2 (rejT m).1 := rfl
    have hne : (rejT m).2 = 0 := by first | assumption | (simp_all; done)
    exact ⟨_, _, W2, o, n, M, F, nx, lv, rfl, rfl, ha, hli, Lib.hid (by rw [← hF.out, List.flatMap_cons, hrf, rep_n hne]; rfl), by simp at hn0; omega, fun y hy => hok y (List.mem_cons_of_mem _ hy), fun y hy => hpl y (List.mem_cons_of_mem _ hy)⟩
  ·intro b4
   have c4 := b4
   try simp only [znt, znf, decide_eq_true_eq, decide_eq_false_iff_not, beq_iff_eq, Int.not_lt, Int.not_le, ge_iff_le, gt_iff_lt, bne_iff_ne, ne_eq, bne_eq_false_iff_eq, beq_eq_false_iff_ne, zat, zof] at c4
   refine X_skip ?_
   skip
   have hsn : stmtB m = false := by first | assumption | (simp_all; done)
   have hrf : rejF pr (px, m) = [] := rejF_non hx.1 hsn
   exact ⟨_, _, W2, o, n, M, F, nx, lv, rfl, rfl, ha, hli, Lib.hid (by rw [← hF.out, List.flatMap_cons, hrf]; rfl), by simp at hn0; omega, fun y hy => hok y (List.mem_cons_of_mem _ hy), fun y hy => hpl y (List.mem_cons_of_mem _ hy)⟩

end Go.Proofs.Ytmglacjcefajlaa
