/- The checker over data: check, Check, OK. -/
import Derived.Test.YtmglacjcefajlaaCk2
import Derived.Test.YtmglacjcefajlaaAcb
import Derived.Test.YtmglacjcefajlaaVa4
namespace Go.Proofs.Ytmglacjcefajlaa
open Go.RowKit
mutual
theorem walkL_len : ∀ (t : Tr) (p : List Int), (walkL p t).length = t.size
 | .mk k n s c, p => by
  have := walksL_len c p 0
  simp only [walkL, zlc, Tr.size]; omega
theorem walksL_len : ∀ (c : List Tr) (p : List Int) (i : Nat), (walksL p i c).length = Tr.sizes c
 | [], _, _ => rfl
 | t :: r, p, i => by simp only [walksL, zla, walkL_len t, walksL_len r, Tr.sizes]
end
theorem rejF_len (pr : Int) (x : List Int × Tr) : (rejF pr x).length ≤ 1 := rep_len _ _ _ _
theorem rejs_len (pr : Int) : ∀ W : List (List Int × Tr), (W.flatMap (rejF pr)).length ≤ W.length
 | [] => Nat.le_refl _
 | x :: r => by
  have h1 := rejs_len pr r; have h2 := rejF_len pr x
  simp only [List.flatMap_cons, zla, zlc]; omega
theorem bodyF_len (pr : Int) (t : Tr) : (bodyF pr t).length ≤ t.size := by
 have := rejs_len pr (walkL [] t); rw [walkL_len] at this; exact this
theorem rejsF_drop (c : List Pr) (i : Nat) (h : i < c.length) : rejsF (c.drop i) i = bodyF i c[i].body ++ rejsF (c.drop (i + 1)) (i + 1) := by
 rw [List.drop_eq_getElem_cons h]; rfl
theorem ok_block {p : Pg} (h : validB p = true) : okN p.main ∧ ∀ q ∈ p.procs, okN q.body := by
 simp only [validB, zat, List.all_eq_true] at h
 refine ⟨?_, fun q hq => ?_⟩
 ·have := h.2
  simp only [bodyB, zat] at this
  exact .inr (.inr this.2)
 ·have := h.1.2 q hq
  simp only [procB, zat, bodyB] at this
  exact .inr (.inr this.2.2)
mutual
theorem walkL_plen : ∀ (t : Tr) (p : List Int), ∀ x ∈ walkL p t, x.1.length ≤ p.length + t.size
 | .mk k n s c, p, x, hx => by
  simp only [walkL] at hx
  rcases List.mem_cons.1 hx with rfl | hx
  ·simp only; omega
  ·have := walksL_plen c p 0 x hx; simp only [Tr.size]; omega
theorem walksL_plen : ∀ (c : List Tr) (p : List Int) (i : Nat), ∀ x ∈ walksL p i c, x.1.length ≤ p.length + 1 + Tr.sizes c
 | [], _, _, x, hx => by cases hx
 | t :: r, p, i, x, hx => by
  simp only [walksL] at hx
  simp only [Tr.sizes]
  rcases List.mem_append.1 hx with hx | hx
  ·have := walkL_plen t _ x hx; simp only [zla, List.length_singleton] at this; omega
  ·have := walksL_plen r p (i + 1) x hx; omega
end
mutual
theorem walkL_sz : ∀ (t : Tr) (p : List Int), ∀ x ∈ walkL p t, x.2.size ≤ t.size
 | .mk k n s c, p, x, hx => by
  simp only [walkL] at hx
  rcases List.mem_cons.1 hx with rfl | hx
  ·exact Nat.le_refl _
  ·have := walksL_sz c p 0 x hx; simp only [Tr.size]; omega
theorem walksL_sz : ∀ (c : List Tr) (p : List Int) (i : Nat), ∀ x ∈ walksL p i c, x.2.size ≤ Tr.sizes c
 | [], _, _, x, hx => by cases hx
 | t :: r, p, i, x, hx => by
  simp only [walksL] at hx
  simp only [Tr.sizes]
  rcases List.mem_append.1 hx with hx | hx
  ·have := walkL_sz t _ x hx; omega
  ·have := walksL_sz r p (i + 1) x hx; omega
end
theorem walkL_size (t : Tr) : ∀ (p : List Int) (x : List Int × Tr), x ∈ walkL p t → x.2.size ≤ t.size := fun p x hx => walkL_sz t p x hx
set_option maxRecDepth 100000 in
set_option maxHeartbeats 4000000 in
theorem cbody_fn (pr : Int) (t : Tr) (hok : okN t) (hs : t.size ≤ 1000000) : fn EV 29 [.int .i64 pr, dN t] = some (sl 4 ((bodyF pr t).map dFt)) := by
 refine fn_Xs rfl Try.func29 rfl (by simp only [plain, List.all_cons, List.all_nil, dN_pl, int_pl, Bool.and_true]) (rfl) ?_
 simp only [zmc, zmn, D.strip, dN_strip]
 simp only [enterSt, Try.ntmps29, zlc, zln, Nat.reduceAdd, Nat.reduceSub, zr1, zr0, zca, zna]
 refine X_seq ?_
 refine X_rg fun R hR => ?_
 simp only [aops, astep, awant, aeff, aop, ev, ofValue, St.put, gd_int, cl_int, zg1, zg0, zgd, zmo, if_true, zs1, zs0, zlc, zln, zca, zna, Nat.zero_add, dN_cells, dN_good, sl]
 with_reducible refine hR _ ?_
 clear hR R
 show X _ _ _ _
 refine X_seq ?_
 refine X_rg fun R hR => ?_
 simp only [EVP, aops, astep, awant, aeff, St.put, zmo, zbs, if_true, zs1, zs0, zlc, zln, zca, zna, Nat.reduceAdd, Nat.zero_add, ty_s_checker_Rejection]
 with_reducible refine hR _ ?_
 clear hR R
 show X _ _ _ _
 refine X_seq ?_
 refine X_seq ?_
 have hW := o_ast_Walk t hs
 refine X_rg fun R hR => ?_
 simp only [EVP, aops, astep, awant, aeff, aop, mkD, ev, St.put, pcall, zmc, zmn, zg1, zg0, zgd, zmo, if_true, zs1, zs0, zlc, zln, zd0, zt1, zt0, zca, zna, Nat.reduceAdd, Nat.reduceLeDiff, Nat.zero_add, ty_api_Node, any40, dN_agg, hW]
 with_reducible refine hR _ ?_
 clear hR R
 show X _ _ _ _
 refine X_block ?_
 refine X_range (L := walkD t) (by simp only [ev, zg1, zg0, zgd]) ?_
 refine XR_inv (fun L σ => ∃ (fr : List D) (r : List (List D)) (W : List (List Int × Tr)) (o : Own) (n : Nat) (M : List D) (F : List Ft) (nx : Nat) (lv : List Nat), σ = ⟨fr, [.int .i64 pr] :: [.int .u8 t.kind, .int .i64 t.num, .str t.name, .slice .imm (if (t.kids.map dN).isEmpty = true then 0 else 4) (t.kids.map dN)] :: [.slice o n M] :: r, nx, lv⟩ ∧ L = W.map (fun x : List Int × Tr => [sl 1 (x.1.map dI), dN x.2]) ∧ Hid (AccB 43 4 o n M nx lv) ∧ Hid (Lis M F) ∧ Hid (F ++ W.flatMap (rejF pr) = bodyF pr t) ∧ F.length + W.length ≤ t.size ∧ (∀ x ∈ W, okN x.2 ∧ x.2.size ≤ 1000000) ∧ (∀ x ∈ W, x.1.length ≤ 1000000)) ?_ ?_ _ _ ?_
 rotate_right
 ·refine ⟨_, [], walkL [] t, .nil, 0, [], [], 0, [], rfl, rfl, Lib.hid (.nil _ _ _ _), Lib.hid .nil, Lib.hid rfl, by rw [walkL_len]; simp, fun x hx => ⟨okN_walk t [] hok x hx, by have := walkL_size t [] x hx; omega⟩, fun x hx => ?_⟩
  have := walkL_plen t [] x hx; simp at this; omega
 ·rintro σ ⟨fr, r, W, o, n, M, F, nx, lv, rfl, hL, ha, hli, hF, hn0, _, _⟩
  have hW0 : W = [] := by cases W with | nil => rfl | cons a b => cases hL
  subst hW0
  show X _ _ _ _
  refine X_seq ?_
  refine X_rg fun R hR => ?_
  simp only [EVP, aops, astep, awant, aeff, aop, mkD, ev, St.put, ia_slice, zg1, zg0, zgd, zmo, if_true, zs1, zs0, zlc, zln, zd0, zt1, zt0, Nat.reduceLeDiff, Nat.zero_add, zft, if_false, ty_s_checker_Rejection]
  with_reducible refine hR _ ?_
  clear hR R
  show X _ _ _ _
  refine X_ret ?_
  show ∃ d, resD _ _ _ = some d ∧ _ ∧ _
  simp only [resD, resAll, resOne, resTup, Try.results29, EVP, zg1, zg0, D.good, if_true, zmo]
  have hT : F = bodyF pr t := by rw [← hF.out]; simp
  refine ⟨_, rfl, ?_, ?_⟩
  ·simp only [D.under]; exact hli.out.u
  ·rw [ha.out.a.strip, hli.out.s, hT]; rfl
 ·rintro row L σ ⟨fr, r, W, o, n, M, F, nx, lv, rfl, hL, ha, hli, hF, hn0, hok, hpl⟩
  obtain ⟨x, W2, rfl⟩ : ∃ x W2, W = x :: W2 := by cases W with | nil => cases hL | cons a b => exact ⟨a, b, rfl⟩
  simp only [zmc, List.cons.injEq] at hL
  obtain ⟨rfl, rfl⟩ := hL
  obtain ⟨px, m⟩ := x
  have hx := hok _ (List.mem_cons_self ..)
  have hpx := hpl _ (List.mem_cons_self ..)
  simp only at hx hpx
  refine ⟨by simp only [zlc, zln], ?_⟩
  simp only [setPs, zs1, zs0]
  refine X_seq ?_
  refine X_rg fun R hR => ?_
  simp only [aops, astep, awant, aeff, aop, ev, St.put, zg1, zg0, zgd, zmo, if_true, zs1, zs0, sl]
  with_reducible refine hR _ ?_
  clear hR R
  show X _ _ _ _
  refine X_rg fun R hR => ?_
  simp only [EVP, app_get0, app_set0, aops, astep, awant, aeff, astore, ev, St.put, zg1, zg0, zgd, zmo, zbs, if_true, zs1, zs0, zlc, zln, zd1, zd0, zt0, zca, zna, Nat.reduceAdd, Nat.reduceLeDiff, Nat.zero_add, and_self, ty_api_Node, dN_cells, dN_good, sl]
  with_reducible refine hR _ ?_
  clear hR R
  refine ⟨rfl, ?_⟩
  refine X_block ?_
  refine X_seq ?_
  have hr := rej_fn m hx.1 hx.2
  refine X_rg fun R hR => ?_
  simp only [EVP, app_get0, aops, astep, awant, aeff, aop, mkD, ev, St.put, pcall, zmc, zmn, zg1, zg0, zgd, zmo, if_true, zs1, zs0, zlc, zln, zd0, zt1, zt0, zca, zna, Nat.reduceAdd, Nat.reduceLeDiff, Nat.zero_add, ty_api_Node, any51, dN_agg, hr]
  with_reducible refine hR _ ?_
  clear hR R
  show X _ _ _ _
  refine X_seq ?_
  refine X_rg fun R hR => ?_
  simp only [inr_i64, Int.reduceLE, Int.reduceNeg, aops, astep, awant, aeff, aop, abin, aint, ev, ofValue, St.put, zg1, zg0, zgd, zmo, if_true, zs1, zs0, and_self]
  with_reducible refine hR _ ?_
  clear hR R
  show X _ _ _ _
  refine X_ite (by simp only [ev, zg1, zg0, zgd]; exact rfl) ?_ ?_
  ·intro b1
   have c1 := b1
   try simp only [bne_iff_ne, ne_eq] at c1
   obtain ⟨lv1, hacc, hap⟩ := (ha.out).app1 (P := Try.prog) (t := 31) und_checker_Rejection inf_checker_Rejection_eq inf_checker_Rejection_size (by omega) (by rw [inf_checker_Rejection_bytes]; omega) inf_checker_Rejection_zc (.agg [.int .i64 pr, .slice .imm (if (px.map dI).isEmpty = true then 0 else 1) (px.map dI), .int .i64 (rejT m).2, .str (rejT m).1]) (by have := hli.out.len; omega)
   refine X_rg fun R hR => ?_
   simp only [EVP, aops, astep, awant, aeff, aop, mkD, afill, abuild, astore, ev, ofValue, St.put, gd_int, ia_int, cl_int, gd_str, cl_str, gd_agg, cl_agg, gd_slice, ia_slice, cl_slice, zmc, zmn, zg1, zg0, zgd, zmo, if_true, zs1, zs0, zlc, zln, zd1, zd0, zt1, zt0, zca, zna, Nat.reduceAdd, Nat.reduceLeDiff, Nat.reduceLT, Nat.zero_add, Bool.and_true, zft, if_false, and_self, List.all_cons, List.all_nil, beq_self_eq_true, Nat.reduceMul, rng_1, ty_int, ty_checker_Rejection, ty_s_checker_Rejection, st_checker_Rejection, sta_checker_Rejection, und_checker_Rejection, inf_checker_Rejection_eq, inf_checker_Rejection_size, inf_checker_Rejection_zero, b1, hap]
   with_reducible refine hR _ ?_
   clear hR R
   skip
   have hrf : rejF pr (px, m) = rep pr px (rejT m).2 (rejT m).1 := rfl
   have hne : ¬ (rejT m).2 = 0 := by first | assumption | (simp_all; done)
   exact ⟨_, _, W2, _, _, _, F ++ [⟨pr, px, (rejT m).2, (rejT m).1⟩], _, _, rfl, rfl, Lib.hid hacc, Lib.hid (hli.out.app (Lis.one (f := ⟨pr, px, (rejT m).2, (rejT m).1⟩) (by exact dFt_strip ⟨pr, px, (rejT m).2, (rejT m).1⟩) (by exact dFt_under 0 ⟨pr, px, (rejT m).2, (rejT m).1⟩))), Lib.hid (by rw [← hF.out, List.flatMap_cons, hrf, rep_y hne, zaa]), by rw [zla]; simp at hn0 ⊢; omega, fun y hy => hok y (List.mem_cons_of_mem _ hy), fun y hy => hpl y (List.mem_cons_of_mem _ hy)⟩
  ·intro b2
   have c2 := b2
   try simp only [bne_eq_false_iff_eq] at c2
   refine X_skip ?_
   skip
   have hrf : rejF pr (px, m) = rep pr px (rejT m).2 (rejT m).1 := rfl
   have hne : (rejT m).2 = 0 := by first | assumption | (simp_all; done)
   exact ⟨_, _, W2, o, n, M, F, nx, lv, rfl, rfl, ha, hli, Lib.hid (by rw [← hF.out, List.flatMap_cons, hrf, rep_n hne]; rfl), by simp at hn0; omega, fun y hy => hok y (List.mem_cons_of_mem _ hy), fun y hy => hpl y (List.mem_cons_of_mem _ hy)⟩
set_option maxRecDepth 100000 in
set_option maxHeartbeats 4000000 in
theorem chk_fn (p : Pg) : fn EV 13 [dG p] = some (sl 4 ((chkF p).map dFt)) := by
 refine fn_Xs rfl Try.func13 rfl (by simp only [plain, List.all_cons, List.all_nil, dG_pl, Bool.and_true]) (rfl) ?_
 simp only [zmc, zmn, dG_strip]
 simp only [enterSt, Try.ntmps13, zlc, zln, Nat.reduceAdd, Nat.reduceSub, zr1, zr0, zca, zna]
 refine X_seq ?_
 refine X_rg fun R hR => ?_
 simp only [aops, astep, awant, aeff, aop, ev, ofValue, St.put, zg0, zgd, zmo, if_true, zs1, zs0, zln, zna, dG_cells, dG_good]
 with_reducible refine hR _ ?_
 clear hR R
 show X _ _ _ _
 refine X_seq ?_
 refine X_seq ?_
 have hV := valid_fn p
 have hF := check_fn p
 refine X_y ?_
 refine Y_k 4 fun R hR => ?_
 simp only [EVP, aops, astep, awant, aeff, aop, mkD, ev, St.put, pcall, zmc, zmn, zg1, zg0, zgd, zmo, if_true, zs1, zs0, zlc, zln, zd0, zt1, zt0, zca, zna, Nat.reduceAdd, Nat.reduceLeDiff, Nat.zero_add, ty_api_Program, any14, dG_agg, hV]
 with_reducible refine hR _ ?_
 clear hR R
 simp only [zd1, zd0]
 refine Y_if 9 (by simp only [ev, zg1, zg0, zgd]; exact rfl) ?_ ?_
 ·intro b1
  have c1 := b1
  try simp only [znt] at c1
  refine Y_end fun R hR => ?_
  simp only [EVP, inr_i64, Int.reduceLE, Int.reduceNeg, aops, astep, awant, aeff, aop, abin, mkD, ev, ofValue, St.put, pcall, zmc, zmn, zg1, zg0, zgd, zmo, Option.map_none, zbs, if_true, zs1, zs0, zlc, zln, zd0, zt1, zt0, zca, zna, Nat.reduceAdd, Nat.reduceLeDiff, Nat.zero_add, zft, if_false, and_self, bq_tf, ty_api_Program, und_scope_Fault, any15, dG_agg, b1]
  with_reducible refine hR _ ?_
  clear hR R
  show X _ _ _ _
  refine X_true (by simp only [ev, zg1, zg0, zgd]) ?_
  refine X_seq ?_
  refine X_rg fun R hR => ?_
  simp only [aops, astep, awant, aeff, aop, ev, ofValue, St.put, zgd, zmo, if_true, zs1, zs0]
  with_reducible refine hR _ ?_
  clear hR R
  show X _ _ _ _
  refine X_ret ?_
  show ∃ d, resD _ _ _ = some d ∧ _ ∧ _
  simp only [resD, resAll, resOne, resTup, Try.results13, EVP, zg1, zg0, D.good, if_true, zmo]
  refine ⟨_, rfl, rfl, ?_⟩
  have hch : chkF p = [] := by unfold chkF; rw [if_neg (by rintro ⟨q1, q2⟩; simp_all)]
  rw [hch]; rfl
 ·intro b2
  have c2 := b2
  try simp only [znf] at c2
  refine Y_end fun R hR => ?_
  simp only [EVP, inr_i64, Int.reduceLE, Int.reduceNeg, aops, astep, awant, aeff, aop, abin, aint, mkD, ev, ofValue, St.put, pcall, zmc, zmn, zg1, zg0, zgd, zmo, zbs, if_true, zs1, zs0, zlm, zlc, zln, zd0, zt1, zt0, zca, zna, Nat.reduceAdd, Nat.reduceLeDiff, Nat.zero_add, zft, if_false, and_self, beq_self_eq_true, ty_api_Program, und_scope_Fault, any15, sl, dG_agg, b2, hF]
  with_reducible refine hR _ ?_
  clear hR R
  show X _ _ _ _
  refine X_ite (by simp only [ev, zg1, zg0, zgd]; exact rfl) ?_ ?_
  ·intro b3
   have c3 := b3
   try simp only [decide_eq_true_eq, gt_iff_lt] at c3
   refine X_seq ?_
   refine X_rg fun R hR => ?_
   simp only [aops, astep, awant, aeff, aop, ev, ofValue, St.put, zgd, zmo, if_true, zs1, zs0, b3]
   with_reducible refine hR _ ?_
   clear hR R
   show X _ _ _ _
   refine X_ret ?_
   show ∃ d, resD _ _ _ = some d ∧ _ ∧ _
   simp only [resD, resAll, resOne, resTup, Try.results13, EVP, zg1, zg0, D.good, if_true, zmo]
   refine ⟨_, rfl, rfl, ?_⟩
   have hch : chkF p = [] := by unfold chkF; rw [if_neg (by rintro ⟨q1, q2⟩; simp_all)]
   rw [hch]; rfl
  ·intro b4
   have c4 := b4
   try simp only [decide_eq_false_iff_not, Int.not_lt, gt_iff_lt] at c4
   refine X_skip ?_
   show X _ _ _ _
   refine X_seq ?_
   refine X_rg fun R hR => ?_
   simp only [aops, astep, awant, aeff, aop, ev, ofValue, St.put, zgd, zmo, if_true, zs1, zs0, b4]
   with_reducible refine hR _ ?_
   clear hR R
   show X _ _ _ _
   refine X_seq ?_
   refine X_seq ?_
   have hv : validB p = true := by first | assumption | (simp_all; done)
   obtain ⟨bv, bp, bq, bm, _⟩ := valid_bd hv
   have hB := ok_block hv
   have hno : checkF p = [] := by cases hc : checkF p with | nil => rfl | cons a b => (exfalso; simp_all; done)
   refine X_rg fun R hR => ?_
   simp only [EVP, inr_i64, Int.reduceLE, Int.reduceNeg, aops, astep, awant, aeff, aop, mkD, ev, ofValue, St.put, ia_slice, zg1, zg0, zgd, zmo, if_true, zs1, zs0, zlm, zlc, zln, zd1, zd0, zt1, zt0, Nat.reduceAdd, Nat.reduceLeDiff, Nat.zero_add, zft, if_false, and_self, reduceCtorEq, ty_s_api_Proc, ty_api_Program, und_api_Proc]
   with_reducible refine hR _ ?_
   clear hR R
   show X _ _ _ _
   refine X_block ?_
   refine X_loop (fun m σ => ∃ (i : Nat) (r : List (List D)) (o : Own) (n : Nat) (M : List D) (F : List Ft) (nx : Nat) (lv : List Nat), σ = ⟨[slotOf σ 0, .ptr 0 0, slotOf σ 2, .slice o n M, slotOf σ 4, slotOf σ 5, slotOf σ 6, slotOf σ 7, slotOf σ 8, slotOf σ 9, slotOf σ 10, slotOf σ 11, slotOf σ 12, slotOf σ 13, slotOf σ 14, slotOf σ 15, .slice .imm (if (p.procs.map dP).isEmpty = true then 0 else 6) (p.procs.map dP), .int .i64 p.procs.length, .int .i64 i, slotOf σ 19, slotOf σ 20, slotOf σ 21, slotOf σ 22, slotOf σ 23, slotOf σ 24, slotOf σ 25, slotOf σ 26, slotOf σ 27, slotOf σ 28, slotOf σ 29, slotOf σ 30, slotOf σ 31, slotOf σ 32, slotOf σ 33, slotOf σ 34], [.slice .imm (if (p.vars.map dV).isEmpty = true then 0 else 3) (p.vars.map dV), .slice .imm (if (p.procs.map dP).isEmpty = true then 0 else 6) (p.procs.map dP), .int .u8 p.main.kind, .int .i64 p.main.num, .str p.main.name, .slice .imm (if (p.main.kids.map dN).isEmpty = true then 0 else 4) (p.main.kids.map dN)] :: r, nx, lv⟩ ∧ m = p.procs.length - i ∧ i ≤ p.procs.length ∧ Hid (AccB 43 4 o n M nx lv) ∧ Hid (Lis M F) ∧ Hid (F ++ rejsF (p.procs.drop i) i = rejsF p.procs 0) ∧ F.length ≤ 2000 * i) ?_ (p.procs.length) _ ?_
   rotate_left
   ·exact ⟨0, [], .nil, 0, [], [], 0, [], rfl, rfl, Nat.zero_le _, Lib.hid (.nil _ _ _ _), Lib.hid .nil, Lib.hid rfl, Nat.le_refl _⟩
   rintro m σ ⟨i, r, o, n, M, F, nx, lv, hσ, rfl, hi, ha, hli, hFF, hl⟩
   generalize slotOf σ = x at hσ
   subst hσ
   refine X_seq ?_
   refine X_rg fun R hR => ?_
   simp only [nat_lt, aops, astep, awant, aeff, aop, abin, aint, ev, St.put, zg1, zg0, zgd, zmo, if_true, zs1, zs0]
   with_reducible refine hR _ ?_
   clear hR R
   show X _ _ _ _
   refine X_seq ?_
   refine X_ite (by simp only [ev, zg1, zg0, zgd]; exact rfl) ?_ ?_
   ·intro b5
    have c5 := b5
    try simp only [decide_eq_true_eq] at c5
    refine X_skip ?_
    show X _ _ _ _
    refine X_seq ?_
    refine X_block ?_
    refine X_seq ?_
    have hlt : i < p.procs.length := by first | assumption | omega
    have hn1 : ((if (p.procs.map dP).isEmpty = true then 0 else 6) = 6) = True := eq_true (sl_n (j := i) (by simpa using hlt))
    have e1 : (p.procs.map dP)[i]? = some (dP p.procs[i]) := by simp [hlt]
    obtain ⟨bq1, bq2, _⟩ := bq p.procs[i] (List.getElem_mem hlt)
    refine X_rg fun R hR => ?_
    simp only [EVP, app_get0, app_set0, nat_lt, nat_0, nat_to, aops, astep, awant, aeff, aop, astore, ev, St.put, gd_agg, ia_agg, cl_agg, zg1, zg0, zgd, zmo, zbs, if_true, zs1, zs0, zlm, zlc, zln, zd1, zd0, zt0, zca, zna, Nat.reduceAdd, Nat.reduceLeDiff, Nat.zero_add, and_self, decide_true, zis, ty_api_Proc, und_api_Proc, siz_api_Proc, inf_api_Proc_eq, sl, dP, hlt, hn1, e1]
    with_reducible refine hR _ ?_
    clear hR R
    show X _ _ _ _
    have hcb := cbody_fn (i : Int) p.procs[i].body (hB.2 _ (List.getElem_mem hlt)) (by omega)
    simp only [sl] at hcb
    have hbl := bodyF_len i p.procs[i].body
    obtain ⟨o5, n5, nx5, lv5, ha5, hap5⟩ := ha.out.appE (P := Try.prog) (t := 31) und_checker_Rejection inf_checker_Rejection_eq inf_checker_Rejection_size (by omega) (by rw [inf_checker_Rejection_bytes]; omega) inf_checker_Rejection_zc ((bodyF i p.procs[i].body).map dFt) (by have := hli.out.len; simp; omega)
    refine X_rg fun R hR => ?_
    simp only [EVP, app_get0, aops, astep, awant, aeff, aop, mkD, ev, St.put, pcall, zmc, zmn, zg1, zg0, zgd, zmo, if_true, zs1, zs0, zlc, zln, zd1, zd0, zt1, zt0, zca, zna, Nat.reduceAdd, Nat.reduceLeDiff, Nat.zero_add, if_false, reduceCtorEq, ty_api_Node, ty_api_Proc, any29, dN_agg, hcb, hap5]
    with_reducible refine hR _ ?_
    clear hR R
    show X _ _ _ _
    have hbig : i < 9223372036854775807 := by omega
    refine X_rg fun R hR => ?_
    simp only [inr_i64, Int.reduceLE, Int.reduceNeg, aops, astep, awant, aeff, aop, abin, aint, ev, ofValue, St.put, zg1, zg0, zgd, zmo, if_true, zs1, zs0, and_self, nat_succ hbig]
    with_reducible refine hR _ ?_
    clear hR R
    show ∃ m, m < _ ∧ _
    exact ⟨p.procs.length - (i + 1), by omega, i + 1, _, o5, n5, _, F ++ bodyF i p.procs[i].body, nx5, lv5, rfl, rfl, by omega, Lib.hid ha5, Lib.hid (hli.out.app (.of _)), Lib.hid (by rw [← hFF.out, rejsF_drop p.procs i hlt, zaa]), by rw [zla]; omega⟩
   ·intro b6
    have c6 := b6
    try simp only [decide_eq_false_iff_not] at c6
    refine X_exit ?_
    show X _ _ _ _
    refine X_seq ?_
    have hcb := cbody_fn (-1) p.main hB.1 (by omega)
    simp only [sl] at hcb
    have hbl := bodyF_len (-1) p.main
    obtain ⟨o5, n5, nx5, lv5, ha5, hap5⟩ := ha.out.appE (P := Try.prog) (t := 31) und_checker_Rejection inf_checker_Rejection_eq inf_checker_Rejection_size (by omega) (by rw [inf_checker_Rejection_bytes]; omega) inf_checker_Rejection_zc ((bodyF (-1) p.main).map dFt) (by have := hli.out.len; simp; omega)
    refine X_rg fun R hR => ?_
    simp only [EVP, inr_i64, Int.reduceLE, Int.reduceNeg, aops, astep, awant, aeff, aop, mkD, ev, ofValue, St.put, pcall, zmc, zmn, zg1, zg0, zgd, zmo, if_true, zs1, zs0, zlc, zln, zd1, zd0, zt1, zt0, zca, zna, Nat.reduceAdd, Nat.reduceLeDiff, Nat.zero_add, if_false, and_self, reduceCtorEq, ty_api_Node, ty_api_Program, any29, dN_agg, b6, hcb, hap5]
    with_reducible refine hR _ ?_
    clear hR R
    show X _ _ _ _
    refine X_ret ?_
    show ∃ d, resD _ _ _ = some d ∧ _ ∧ _
    simp only [resD, resAll, resOne, resTup, Try.results13, EVP, zg1, zg0, D.good, if_true, zmo]
    have hT : F = rejsF p.procs 0 := by have h1 := hFF.out; rw [List.drop_of_length_le (by omega)] at h1; simpa only [rejsF, List.append_nil] using h1
    have hLi := hli.out.app (.of (bodyF (-1) p.main))
    refine ⟨_, rfl, ?_, ?_⟩
    ·simp only [D.under]; exact hLi.u
    ·rw [ha5.a.strip, hLi.s, hT, show chkF p = rejsF p.procs 0 ++ bodyF (-1) p.main from if_pos ⟨hv, hno⟩]; rfl
set_option maxRecDepth 100000 in
set_option maxHeartbeats 4000000 in
theorem ok_fn (p : Pg) : fn EV 18 [dG p] = some (.bool (validB p && (checkF p).isEmpty && (chkF p).isEmpty)) := by
 refine fn_X rfl Try.func18 rfl (by simp only [plain, List.all_cons, List.all_nil, dG_pl, Bool.and_true]) (rfl) (rfl) (rfl) ?_
 simp only [zmc, zmn, dG_strip]
 simp only [enterSt, Try.ntmps18, zlc, zln, Nat.reduceAdd, Nat.reduceSub, zr1, zr0, zca, zna]
 refine X_seq ?_
 refine X_rg fun R hR => ?_
 simp only [aops, astep, awant, aeff, aop, ev, ofValue, St.put, zg0, zgd, zmo, if_true, zs1, zs0, zln, zna, dG_cells, dG_good]
 with_reducible refine hR _ ?_
 clear hR R
 show X _ _ _ _
 refine X_seq ?_
 have hV := valid_fn p
 have hF := check_fn p
 have hC := chk_fn p
 have h0 : ∀ l : List Ft, ((l.length : Int) == 0) = l.isEmpty := fun l => by cases l with | nil => rfl | cons a r => (simp only [List.isEmpty_cons, beq_eq_false_iff_ne]; simp; omega)
 refine X_y ?_
 refine Y_k 3 fun R hR => ?_
 simp only [EVP, aops, astep, awant, aeff, aop, mkD, ev, St.put, pcall, zmc, zmn, zg1, zg0, zgd, zmo, if_true, zs1, zs0, zlc, zln, zd0, zt1, zt0, zca, zna, Nat.reduceAdd, Nat.reduceLeDiff, Nat.zero_add, ty_api_Program, any14, dG_agg, hV]
 with_reducible refine hR _ ?_
 clear hR R
 simp only [zd1, zd0]
 refine Y_if 5 (by simp only [ev, zg1, zg0, zgd]; exact rfl) ?_ ?_
 ·intro b1
  have c1 := b1
  try simp only [znt, znf, decide_eq_true_eq, decide_eq_false_iff_not, beq_iff_eq, Int.not_lt, Int.not_le, ge_iff_le, gt_iff_lt, bne_iff_ne, ne_eq, bne_eq_false_iff_eq, beq_eq_false_iff_ne, zat, zof] at c1
  refine Y_k 6 fun R hR => ?_
  simp only [EVP, inr_i64, Int.reduceLE, Int.reduceNeg, aops, astep, awant, aeff, aop, abin, aint, mkD, ev, ofValue, St.put, pcall, zmc, zmn, zg1, zg0, zgd, zmo, zbs, if_true, zs1, zs0, zlm, zlc, zln, zd0, zt1, zt0, zca, zna, Nat.reduceAdd, Nat.reduceLeDiff, Nat.zero_add, and_self, beq_self_eq_true, ty_api_Program, und_scope_Fault, any15, sl, dG_agg, b1, hF, h0]
  with_reducible refine hR _ ?_
  clear hR R
  simp only [zd1, zd0]
  refine Y_if 11 (by simp only [ev, zg1, zg0, zgd]; exact rfl) ?_ ?_
  ·intro b2
   have c2 := b2
   try simp only [znt, znf, decide_eq_true_eq, decide_eq_false_iff_not, beq_iff_eq, Int.not_lt, Int.not_le, ge_iff_le, gt_iff_lt, bne_iff_ne, ne_eq, bne_eq_false_iff_eq, beq_eq_false_iff_ne, zat, zof] at c2
   refine Y_end fun R hR => ?_
   simp only [EVP, inr_i64, Int.reduceLE, Int.reduceNeg, aops, astep, awant, aeff, aop, abin, aint, mkD, ev, ofValue, St.put, pcall, zmc, zmn, zg1, zg0, zgd, zmo, zbs, if_true, zs1, zs0, zlm, zlc, zln, zd0, zt1, zt0, zca, zna, Nat.reduceAdd, Nat.reduceLeDiff, Nat.zero_add, and_self, beq_self_eq_true, ty_api_Program, und_checker_Rejection, any13, sl, dG_agg, b2, hC, h0]
   with_reducible refine hR _ ?_
   clear hR R
   show X _ _ _ _
   refine X_ret ?_
   show resD _ _ _ = some _
   simp only [resD, resAll, resOne, resTup, Try.results18, EVP, zg1, zg0, D.good, if_true, zmo] <;> (first | (simp_all; done) | (exfalso; simp_all; done))
  ·intro b3
   have c3 := b3
   try simp only [znt, znf, decide_eq_true_eq, decide_eq_false_iff_not, beq_iff_eq, Int.not_lt, Int.not_le, ge_iff_le, gt_iff_lt, bne_iff_ne, ne_eq, bne_eq_false_iff_eq, beq_eq_false_iff_ne, zat, zof] at c3
   refine Y_end fun R hR => ?_
   simp only [EVP, inr_i64, Int.reduceLE, Int.reduceNeg, aops, astep, awant, aeff, aop, abin, mkD, ev, ofValue, St.put, pcall, zmc, zmn, zg1, zg0, zgd, zmo, Option.map_none, zbs, if_true, zs1, zs0, zlc, zln, zd0, zt1, zt0, zca, zna, Nat.reduceAdd, Nat.reduceLeDiff, Nat.zero_add, zft, if_false, and_self, bq_ft, ty_api_Program, und_checker_Rejection, any13, dG_agg, b3]
   with_reducible refine hR _ ?_
   clear hR R
   show X _ _ _ _
   refine X_ret ?_
   show resD _ _ _ = some _
   simp only [resD, resAll, resOne, resTup, Try.results18, EVP, zg1, zg0, D.good, if_true, zmo] <;> (first | (simp_all; done) | (exfalso; simp_all; done))
 ·intro b4
  have c4 := b4
  try simp only [znt, znf, decide_eq_true_eq, decide_eq_false_iff_not, beq_iff_eq, Int.not_lt, Int.not_le, ge_iff_le, gt_iff_lt, bne_iff_ne, ne_eq, bne_eq_false_iff_eq, beq_eq_false_iff_ne, zat, zof] at c4
  refine Y_end fun R hR => ?_
  simp only [EVP, inr_i64, Int.reduceLE, Int.reduceNeg, aops, astep, awant, aeff, aop, abin, mkD, ev, ofValue, St.put, pcall, zmc, zmn, zg1, zg0, zgd, zmo, Option.map_none, zbs, if_true, zs1, zs0, zlc, zln, zd0, zt1, zt0, zca, zna, Nat.reduceAdd, Nat.reduceLeDiff, Nat.zero_add, zft, if_false, and_self, bq_ft, ty_api_Program, und_checker_Rejection, und_scope_Fault, any13, any15, dG_agg, b4]
  with_reducible refine hR _ ?_
  clear hR R
  show X _ _ _ _
  refine X_ret ?_
  show resD _ _ _ = some _
  simp only [resD, resAll, resOne, resTup, Try.results18, EVP, zg1, zg0, D.good, if_true, zmo] <;> (first | (simp_all; done) | (exfalso; simp_all; done))

end Go.Proofs.Ytmglacjcefajlaa
