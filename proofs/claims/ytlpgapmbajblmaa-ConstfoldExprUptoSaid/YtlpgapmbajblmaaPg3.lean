/- The reference's folding over data. -/
import Derived.Test.YtlpgapmbajblmaaBs
import Derived.Test.YtlpgapmbajblmaaL3
namespace Go.Proofs.Ytlpgapmbajblmaa
open Go.RowKit

mutual
def rfoldT : Tr → Tr
 | .mk k n s c => if (rconstT (.mk k n s c)).2 then litT (rconstT (.mk k n s c)).1 else .mk k n s (rfoldsT c)
def rfoldsT : List Tr → List Tr
 | [] => []
 | t :: r => rfoldT t :: rfoldsT r
end
theorem rfoldsT_map : ∀ c : List Tr, rfoldsT c = c.map rfoldT
 | [] => rfl
 | t :: r => by simp only [rfoldsT, zmc, rfoldsT_map r]
theorem rfoldT_eq (t : Tr) : rfoldT t = if (rconstT t).2 then litT (rconstT t).1 else .mk t.kind t.num t.name (t.kids.map rfoldT) := by
 cases t; simp only [rfoldT, rfoldsT_map, Tr.kind, Tr.num, Tr.name, Tr.kids]
theorem rconst_lo (t : Tr) : (rconstT t).2 = true → -9223372036854775808 ≤ (rconstT t).1 := by
 intro h
 rcases const_same t with h9 | ⟨_, h9, _⟩
 ·rw [← h9] at h ⊢
  unfold constT at h ⊢
  split
  ·rename_i hx; exact foldT_lo t hx
  ·rename_i hx; rw [if_neg hx] at h; cases h
 ·rw [h9] at h; cases h
set_option maxRecDepth 100000 in
set_option maxHeartbeats 4000000 in
theorem rlit0 (v : Int) (hv : 0 ≤ v) : fn EV 70 [.int .i64 v] = some (dN (litT v)) := by
 have hg : decide (v ≥ 0) = true := by rw [decide_eq_true_eq]; omega
 refine fn_Xs rfl Try.func70 rfl (rfl) (rfl) ?_
 simp only [zmc, zmn, D.strip, D.strip]
 simp only [enterSt, Try.ntmps70, zlc, zln, Nat.reduceAdd, Nat.reduceSub, zr1, zr0, zca, zna]
 refine X_seq ?_
 refine X_rg fun R hR => ?_
 simp only [EVP, aops, astep, awant, aeff, St.put, zmo, zbs, if_true, zs1, zs0, zln, zna, ty_api_Node]
 with_reducible refine hR _ ?_
 clear hR R
 show X _ _ _ _
 refine X_seq ?_
 refine X_seq ?_
 refine X_rg fun R hR => ?_
 simp only [inr_i64, Int.reduceLE, Int.reduceNeg, aops, astep, awant, aeff, aop, abin, aint, ev, ofValue, St.put, zg1, zg0, zgd, zmo, if_true, zs1, zs0, and_self, hg]
 with_reducible refine hR _ ?_
 clear hR R
 show X _ _ _ _
 refine X_true (by simp only [ev, zg1, zg0, zgd]) ?_
 refine X_seq ?_
 refine X_rg fun R hR => ?_
 simp only [EVP, inr_u8, Int.reduceLE, aops, astep, awant, aeff, aop, afill, astore, ev, ofValue, St.put, gd_int, cl_int, gd_agg, cl_agg, zmc, zmn, zg1, zg0, zgd, zmo, if_true, zs1, zs0, zlc, zln, zd1, zd0, zt1, zt0, zca, zna, Nat.reduceAdd, Nat.reduceLeDiff, Nat.zero_add, and_self, ty_api_Node, st_api_Node, sta_api_Node]
 with_reducible refine hR _ ?_
 clear hR R
 show X _ _ _ _
 refine X_ret ?_
 show ∃ d, resD _ _ _ = some d ∧ _ ∧ _
 refine ⟨_, by simp only [resD, resAll, resOne, resTup, Try.results70, EVP, mkD, ty_api_Node, zg1, zg0, zd0, zt1, zt0, zlc, zln, Nat.reduceAdd, Nat.reduceLeDiff, Nat.zero_add, if_true, zmo]; exact rfl, ?_, ?_⟩
 ·first | (simp [D.under, D.unders]; done) | (exfalso; simp_all; done)
 ·first | (rw [lit_nn hv]; simp [D.strip, D.strips, Own.st, leafT, dN, dNs, es]; done) | (exfalso; simp_all; done)

set_option maxRecDepth 100000 in
set_option maxHeartbeats 4000000 in
theorem rlit1 (v : Int) (hv : v < 0) (hm : -9223372036854775808 < v) : fn EV 70 [.int .i64 v] = some (dN (litT v)) := by
 have hg : decide (v ≥ 0) = false := by rw [decide_eq_false_iff_not]; omega
 have hw := neg_w hm hv
 have hg2 : decide (-v > 0) = true := by rw [decide_eq_true_eq]; omega
 refine fn_Xs rfl Try.func70 rfl (rfl) (rfl) ?_
 simp only [zmc, zmn, D.strip, D.strip]
 simp only [enterSt, Try.ntmps70, zlc, zln, Nat.reduceAdd, Nat.reduceSub, zr1, zr0, zca, zna]
 refine X_seq ?_
 refine X_rg fun R hR => ?_
 simp only [EVP, aops, astep, awant, aeff, St.put, zmo, zbs, if_true, zs1, zs0, zln, zna, ty_api_Node]
 with_reducible refine hR _ ?_
 clear hR R
 show X _ _ _ _
 refine X_seq ?_
 refine X_seq ?_
 refine X_rg fun R hR => ?_
 simp only [inr_i64, Int.reduceLE, Int.reduceNeg, aops, astep, awant, aeff, aop, abin, aint, ev, ofValue, St.put, zg1, zg0, zgd, zmo, if_true, zs1, zs0, and_self, hg]
 with_reducible refine hR _ ?_
 clear hR R
 show X _ _ _ _
 refine X_false (by simp only [ev, zg1, zg0, zgd]) ?_
 refine X_skip ?_
 show X _ _ _ _
 refine X_seq ?_
 refine X_seq ?_
 refine X_rg fun R hR => ?_
 simp only [inr_i64, Int.reduceLE, Int.reduceNeg, aops, astep, awant, aeff, aop, abin, aint, ev, ofValue, St.put, zg1, zg0, zgd, zmo, if_true, zs1, zs0, and_self, hw, hg2]
 with_reducible refine hR _ ?_
 clear hR R
 show X _ _ _ _
 refine X_true (by simp only [ev, zg1, zg0, zgd]) ?_
 refine X_seq ?_
 refine X_rg fun R hR => ?_
 simp only [EVP, inr_u8, Int.reduceLE, aops, astep, awant, aeff, aop, afill, abuild, astore, ev, ofValue, St.put, gd_int, cl_int, gd_agg, cl_agg, gd_slice, cl_slice, zmc, zmn, zg1, zg0, zgd, zmo, if_true, zs1, zs0, zlc, zln, zd1, zd0, zt1, zt0, zca, zna, Nat.reduceAdd, Nat.reduceLeDiff, Nat.reduceLT, Nat.zero_add, Bool.and_true, and_self, List.all_cons, List.all_nil, beq_self_eq_true, Nat.reduceMul, rng_1, ty_api_Node, st_api_Node, sta_api_Node, und_api_Node, inf_api_Node_eq, inf_api_Node_size, inf_api_Node_zero, hw]
 with_reducible refine hR _ ?_
 clear hR R
 show X _ _ _ _
 refine X_ret ?_
 show ∃ d, resD _ _ _ = some d ∧ _ ∧ _
 refine ⟨_, by simp only [resD, resAll, resOne, resTup, Try.results70, EVP, mkD, ty_api_Node, zg1, zg0, zd0, zt1, zt0, zlc, zln, Nat.reduceAdd, Nat.reduceLeDiff, Nat.zero_add, if_true, zmo]; exact rfl, ?_, ?_⟩
 ·first | (simp [D.under, D.unders]; done) | (exfalso; simp_all; done)
 ·first | (rw [litT, if_neg (by omega), if_neg (by omega)]; simp [D.strip, D.strips, Own.st, leafT, dN, dNs, es]; done) | (exfalso; simp_all; done)

set_option maxRecDepth 100000 in
set_option maxHeartbeats 4000000 in
theorem rlit2 (v : Int) (hv : v = -9223372036854775808) : fn EV 70 [.int .i64 v] = some (dN (litT v)) := by
 have hg : decide (v ≥ 0) = false := by rw [decide_eq_false_iff_not]; omega
 have hw : IntKind.i64.wrap (0 - v) = -9223372036854775808 := by rw [hv]; decide
 have hg2 : decide ((-9223372036854775808 : Int) > 0) = false := by decide
 refine fn_Xs rfl Try.func70 rfl (rfl) (rfl) ?_
 simp only [zmc, zmn, D.strip, D.strip]
 simp only [enterSt, Try.ntmps70, zlc, zln, Nat.reduceAdd, Nat.reduceSub, zr1, zr0, zca, zna]
 refine X_seq ?_
 refine X_rg fun R hR => ?_
 simp only [EVP, aops, astep, awant, aeff, St.put, zmo, zbs, if_true, zs1, zs0, zln, zna, ty_api_Node]
 with_reducible refine hR _ ?_
 clear hR R
 show X _ _ _ _
 refine X_seq ?_
 refine X_seq ?_
 refine X_rg fun R hR => ?_
 simp only [inr_i64, Int.reduceLE, Int.reduceNeg, aops, astep, awant, aeff, aop, abin, aint, ev, ofValue, St.put, zg1, zg0, zgd, zmo, if_true, zs1, zs0, and_self, hg]
 with_reducible refine hR _ ?_
 clear hR R
 show X _ _ _ _
 refine X_false (by simp only [ev, zg1, zg0, zgd]) ?_
 refine X_skip ?_
 show X _ _ _ _
 refine X_seq ?_
 refine X_seq ?_
 refine X_rg fun R hR => ?_
 simp only [inr_i64, Int.reduceLE, Int.reduceNeg, aops, astep, awant, aeff, aop, abin, aint, ev, ofValue, St.put, zg1, zg0, zgd, zmo, if_true, zs1, zs0, and_self, decide_false, Int.reduceGT, hw]
 with_reducible refine hR _ ?_
 clear hR R
 show X _ _ _ _
 refine X_false (by simp only [ev, zg1, zg0, zgd]) ?_
 refine X_skip ?_
 show X _ _ _ _
 refine X_seq ?_
 refine X_rg fun R hR => ?_
 simp only [EVP, inr_i64, inr_u8, Int.reduceLE, Int.reduceNeg, aops, astep, awant, aeff, aop, afill, abuild, astore, ev, ofValue, St.put, gd_int, cl_int, gd_agg, cl_agg, gd_slice, cl_slice, zmc, zmn, zg1, zg0, zgd, zmo, if_true, zs1, zs0, zlc, zln, zd1, zd0, zt1, zt0, zca, zna, Nat.reduceAdd, Nat.reduceLeDiff, Nat.reduceLT, Nat.zero_add, Bool.and_true, and_self, List.all_cons, List.all_nil, beq_self_eq_true, Nat.reduceMul, rng_2, ty_api_Node, st_api_Node, sta_api_Node, und_api_Node, inf_api_Node_eq, inf_api_Node_size, inf_api_Node_zero]
 with_reducible refine hR _ ?_
 clear hR R
 show X _ _ _ _
 refine X_ret ?_
 show ∃ d, resD _ _ _ = some d ∧ _ ∧ _
 refine ⟨_, by simp only [resD, resAll, resOne, resTup, Try.results70, EVP, mkD, ty_api_Node, zg1, zg0, zd0, zt1, zt0, zlc, zln, Nat.reduceAdd, Nat.reduceLeDiff, Nat.zero_add, if_true, zmo]; exact rfl, ?_, ?_⟩
 ·first | (simp [D.under, D.unders]; done) | (exfalso; simp_all; done)
 ·first | (rw [litT, if_neg (by omega), if_pos hv]; simp [D.strip, D.strips, Own.st, leafT, dN, dNs, es]; done) | (exfalso; simp_all; done)

theorem rlit_fn (v : Int) (h1 : -9223372036854775808 ≤ v) : fn EV 70 [.int .i64 v] = some (dN (litT v)) := by
 by_cases h0 : 0 ≤ v
 ·exact rlit0 v h0
 ·by_cases hm : v = -9223372036854775808
  ·exact rlit2 v hm
  ·exact rlit1 v (by omega) (by omega)
set_option maxRecDepth 100000 in
set_option maxHeartbeats 4000000 in
theorem rfold_at (t : Tr) (hs : t.size ≤ 1000000) (ih : ∀ x ∈ t.kids, fn EV 41 [dN x] = some (dN (rfoldT x))) : fn EV 41 [dN t] = some (dN (rfoldT t)) := by
 have hkl := t.kids_len
 refine fn_Xs rfl Try.func41 rfl (by simp only [plain, List.all_cons, List.all_nil, dN_pl, Bool.and_true]) (rfl) ?_
 simp only [zmc, zmn, dN_strip]
 simp only [enterSt, Try.ntmps41, zlc, zln, Nat.reduceAdd, Nat.reduceSub, zr1, zr0, zca, zna]
 refine X_seq ?_
 refine X_rg fun R hR => ?_
 simp only [EVP, aops, astep, awant, aeff, ev, St.put, zg0, zgd, zmo, zbs, if_true, zs1, zs0, zlc, zln, zca, zna, Nat.zero_add, ty_api_Node, dN_cells, dN_good, sl]
 with_reducible refine hR _ ?_
 clear hR R
 show X _ _ _ _
 refine X_seq ?_
 refine X_seq ?_
 have hC := rconst_fn t hs
 refine X_rg fun R hR => ?_
 simp only [EVP, aops, astep, awant, aeff, aop, mkD, ev, St.put, pcall, zmc, zmn, zg1, zg0, zgd, zmo, if_true, zs1, zs0, zlc, zln, zd0, zt1, zt0, zca, zna, Nat.reduceAdd, Nat.reduceLeDiff, Nat.zero_add, ty_api_Node, any14, dN_agg, hC]
 with_reducible refine hR _ ?_
 clear hR R
 show X _ _ _ _
 refine X_seq ?_
 refine X_rg fun R hR => ?_
 simp only [aops, astep, awant, aeff, aop, ev, St.put, zg1, zg0, zgd, zmo, if_true, zs1, zs0]
 with_reducible refine hR _ ?_
 clear hR R
 show X _ _ _ _
 refine X_ite (by simp only [ev, zg1, zg0, zgd]; exact rfl) ?_ ?_
 ·intro b1
  have c1 := b1
  try simp only [znt, znf, decide_eq_true_eq, decide_eq_false_iff_not, beq_iff_eq, Int.not_lt, Int.not_le, ge_iff_le, gt_iff_lt, bne_iff_ne, ne_eq, bne_eq_false_iff_eq, beq_eq_false_iff_ne, zat, zof] at c1
  refine X_seq ?_
  have hL := rlit_fn (rconstT t).1 (rconst_lo t (by first | assumption | (simp_all; done)))
  refine X_rg fun R hR => ?_
  simp only [EVP, aops, astep, awant, aeff, aop, astore, ev, St.put, pcall, zmc, zmn, zg1, zg0, zgd, zmo, if_true, zs1, zs0, zlc, zln, zd1, zd0, zt0, zca, zna, Nat.reduceAdd, Nat.reduceLeDiff, Nat.zero_add, and_self, ty_api_Node, any70, dN_cells, dN_good, sl, b1, hL]
  with_reducible refine hR _ ?_
  clear hR R
  show X _ _ _ _
  refine X_ret ?_
  show ∃ d, resD _ _ _ = some d ∧ _ ∧ _
  refine ⟨dN (litT (rconstT t).1), by simp only [resD, resAll, resOne, resTup, Try.results41, EVP, mkD, ty_api_Node, zg1, zg0, zd0, zt1, zt0, zlc, zln, Nat.reduceAdd, Nat.reduceLeDiff, Nat.zero_add, if_true, zmo]; try simp only [dN_agg], dN_under 0 _, ?_⟩
  rw [dN_strip, rfoldT_eq, if_pos (by first | assumption | (simp_all; done))]
 ·intro b2
  have c2 := b2
  try simp only [znt, znf, decide_eq_true_eq, decide_eq_false_iff_not, beq_iff_eq, Int.not_lt, Int.not_le, ge_iff_le, gt_iff_lt, bne_iff_ne, ne_eq, bne_eq_false_iff_eq, beq_eq_false_iff_ne, zat, zof] at c2
  refine X_skip ?_
  show X _ _ _ _
  refine X_seq ?_
  refine X_rg fun R hR => ?_
  simp only [EVP, aops, astep, awant, aeff, aop, mkD, afill, astore, ev, ofValue, St.put, gd_int, ia_int, cl_int, gd_str, ia_str, cl_str, gd_agg, cl_agg, zmc, zmn, zg1, zg0, zgd, zmo, zbs, if_true, zs1, zs0, zlc, zln, zd1, zd0, zt1, zt0, zca, zna, Nat.reduceAdd, Nat.reduceLeDiff, Nat.zero_add, Nat.add_zero, zft, if_false, and_self, reduceCtorEq, ty_int, ty_uint8, ty_string, ty_api_Node, st_api_Node, sta_api_Node, b2]
  with_reducible refine hR _ ?_
  clear hR R
  show X _ _ _ _
  refine X_seq ?_
  refine X_seq ?_
  refine X_rg fun R hR => ?_
  simp only [inr_i64, Int.reduceLE, Int.reduceNeg, aops, astep, awant, aeff, aop, ev, ofValue, St.put, zgd, zmo, if_true, zs1, zs0, and_self]
  with_reducible refine hR _ ?_
  clear hR R
  show X _ _ _ _
  refine X_block ?_
  refine X_loop (fun m σ => ∃ (i : Nat) (o : Own) (n : Nat) (nx : Nat) (lv : List Nat), σ = ⟨[slotOf σ 0, .ptr 0 0, .ptr 1 0, slotOf σ 3, slotOf σ 4, .ptr 2 0, .int .i64 i, slotOf σ 7, slotOf σ 8, slotOf σ 9, slotOf σ 10, slotOf σ 11, slotOf σ 12, slotOf σ 13, slotOf σ 14, slotOf σ 15, slotOf σ 16, slotOf σ 17, slotOf σ 18, slotOf σ 19, slotOf σ 20, slotOf σ 21, slotOf σ 22, slotOf σ 23, slotOf σ 24, slotOf σ 25, slotOf σ 26, slotOf σ 27, slotOf σ 28, slotOf σ 29, slotOf σ 30, slotOf σ 31, slotOf σ 32, slotOf σ 33, slotOf σ 34, slotOf σ 35, slotOf σ 36, slotOf σ 37, slotOf σ 38, slotOf σ 39, slotOf σ 40], [[.int .u8 t.kind, .int .i64 t.num, .str t.name, .slice .imm (if (t.kids.map dN).isEmpty = true then 0 else 4) (t.kids.map dN)], [.int .u8 0, .int .i64 0, .str ⟨#[]⟩, .slice .nil 0 []], [.int .u8 t.kind, .int .i64 t.num, .str t.name, .slice o n ((t.kids.take i).map (fun x => dN (rfoldT x)))]], nx, lv⟩ ∧ m = t.kids.length - i ∧ i ≤ t.kids.length ∧ Acc 24 4 o n ((t.kids.take i).map (fun x => dN (rfoldT x))) lv) ?_ (t.kids.length) _ ?_
  rotate_left
  ·exact ⟨0, .nil, 0, 0, [], rfl, rfl, Nat.zero_le _, .nil _ _ _⟩
  rintro m σ ⟨i, o, n, nx, lv, hσ, rfl, hi, hacc⟩
  generalize slotOf σ = x at hσ
  subst hσ
  refine X_seq ?_
  refine X_seq ?_
  refine X_rg fun R hR => ?_
  simp only [EVP, nat_lt, aops, astep, awant, aeff, aop, abin, aint, mkD, ev, St.put, ia_slice, zg1, zg0, zgd, zmo, if_true, zs1, zs0, zlm, zlc, zln, zd1, zd0, zt1, zt0, Nat.reduceAdd, Nat.reduceLeDiff, Nat.zero_add, zft, if_false, reduceCtorEq, ty_s_api_Node, ty_api_Node, und_api_Node]
  with_reducible refine hR _ ?_
  clear hR R
  show X _ _ _ _
  refine X_ite (by simp only [ev, zg1, zg0, zgd]; exact rfl) ?_ ?_
  ·intro b3
   have c3 := b3
   try simp only [decide_eq_true_eq] at c3
   refine X_skip ?_
   show X _ _ _ _
   refine X_seq ?_
   refine X_block ?_
   have hlt : i < t.kids.length := by first | assumption | omega
   have hn1 : ((if (t.kids.map dN).isEmpty = true then 0 else 4) = 4) = True := eq_true (sl_n (j := i) (by simpa using hlt))
   have e1 : (t.kids.map dN)[i]? = some (dN t.kids[i]) := by simp [hlt]
   have hg := ih t.kids[i] (List.getElem_mem hlt)
   have hap := fun fr bx => (hacc.more nx).app (P := Try.prog) (σ := ⟨fr, bx, nx + 1, nx :: lv⟩) (t := 22) (o2 := .own nx 24) (l2 := [dN (rfoldT t.kids[i])]) und_api_Node inf_api_Node_eq inf_api_Node_size (by omega) (by rw [inf_api_Node_bytes]; omega) inf_api_Node_zc (by simp; omega) (by simp)
   refine X_rg fun R hR => ?_
   simp only [EVP, nat_lt, nat_0, nat_to, aops, astep, awant, aeff, aop, mkD, abuild, astore, ev, ofValue, St.put, pcall, gd_slice, ia_slice, cl_slice, zmc, zmn, zg1, zg0, zgd, zmo, if_true, zs1, zs0, zlm, zlc, zln, zd1, zd0, zt1, zt0, zca, zna, Nat.reduceAdd, Nat.reduceLeDiff, Nat.reduceLT, Nat.zero_add, Bool.and_true, zft, if_false, and_self, reduceCtorEq, List.all_cons, List.all_nil, decide_true, beq_self_eq_true, zis, Nat.reduceMul, rng_1, ty_s_api_Node, ty_api_Node, und_api_Node, siz_api_Node, inf_api_Node_eq, inf_api_Node_size, inf_api_Node_zero, any41, dN_cells, dN_isAgg, dN_good, sl, hlt, hn1, e1, hg, hap, take_succ_map (f := fun x => dN (rfoldT x)) hlt]
   with_reducible refine hR _ ?_
   clear hR R
   show X _ _ _ _
   have hbig : i < 9223372036854775807 := by omega
   refine X_rg fun R hR => ?_
   simp only [inr_i64, Int.reduceLE, Int.reduceNeg, aops, astep, awant, aeff, aop, abin, aint, ev, ofValue, St.put, zg1, zg0, zgd, zmo, if_true, zs1, zs0, and_self, nat_succ hbig]
   with_reducible refine hR _ ?_
   clear hR R
   show ∃ m, m < _ ∧ _
   exact ⟨t.kids.length - (i + 1), by omega, i + 1, _, _, _, _, rfl, rfl, by omega, .own (by simp)⟩
  ·intro b4
   have c4 := b4
   try simp only [decide_eq_false_iff_not] at c4
   refine X_exit ?_
   show X _ _ _ _
   refine X_seq ?_
   refine X_rg fun R hR => ?_
   simp only [EVP, aops, astep, awant, aeff, aop, mkD, astore, ev, St.put, gd_agg, cl_agg, zg1, zg0, zgd, zmo, if_true, zs1, zs0, zlc, zln, zd1, zd0, zt1, zt0, zca, zna, Nat.reduceAdd, Nat.reduceLeDiff, Nat.zero_add, and_self, ty_api_Node, b4]
   with_reducible refine hR _ ?_
   clear hR R
   show X _ _ _ _
   refine X_ret ?_
   show ∃ d, resD _ _ _ = some d ∧ _ ∧ _
   refine ⟨_, by simp only [resD, resAll, resOne, resTup, Try.results41, EVP, mkD, ty_api_Node, zg1, zg0, zd0, zt1, zt0, zlc, zln, Nat.reduceAdd, Nat.reduceLeDiff, Nat.zero_add, if_true, zmo]; exact rfl, ?_, ?_⟩
   ·simp only [D.under, D.unders, Bool.and_true, Bool.true_and]; rw [D.unders_all, List.all_eq_true]; intro d hd; obtain ⟨x, hx, rfl⟩ := List.mem_map.1 hd; exact dN_under 0 _
   ·have hil : i = t.kids.length := by omega
    have hst := hacc.strip
    rw [hil, List.take_length, List.map_map, show (D.strip ∘ fun x => dN (rfoldT x)) = (fun x => dN (rfoldT x)) from funext fun x => dN_strip _] at hst
    simp only [D.strip, D.strips] at hst ⊢
    rw [hil, List.take_length, hst, show rfoldT t = .mk t.kind t.num t.name (t.kids.map rfoldT) from by rw [rfoldT_eq, if_neg (by first | (simp_all; done) | simp [*])], dN_eq]
    show _ = D.agg [.int .u8 t.kind, .int .i64 t.num, .str t.name, sl 4 ((t.kids.map rfoldT).map dN)]
    rw [List.map_map]
    rfl

theorem rfold_fn (t : Tr) : t.size ≤ 1000000 → fn EV 41 [dN t] = some (dN (rfoldT t)) := by
 induction t using Tr.ind with
 | h k n s c ih =>
  intro hs
  exact rfold_at _ hs (fun x hx => ih x hx (by have := Tr.kid_size hx; omega))
end Go.Proofs.Ytlpgapmbajblmaa
