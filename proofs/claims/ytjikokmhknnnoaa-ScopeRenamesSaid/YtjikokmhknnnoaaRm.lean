/- The reference's Rename. -/
import Derived.Test.YtjikokmhknnnoaaRn
namespace Go.Proofs.Ytjikokmhknnnoaa
open Go.RowKit

theorem take_succ_map {α : Type} {f : α → D} {l : List α} {i : Nat} (h : i < l.length) : (l.take i).map f ++ [f l[i]] = (l.take (i + 1)).map f := by
 rw [List.take_succ_eq_append_getElem h, List.map_append]; rfl
set_option maxRecDepth 100000 in
set_option maxHeartbeats 4000000 in
theorem rename_at (a b : ByteArray) (t : Tr) (hs : t.size ≤ 1000000) (ih : ∀ x ∈ t.kids, fn EV 23 [dN x, .str a, .str b] = some (dN (rnT a b x))) : fn EV 23 [dN t, .str a, .str b] = some (dN (rnT a b t)) := by
 have hkl : t.kids.length ≤ t.size := by have h1 := size_kids t; have h2 := sizes_ge t.kids; omega
 refine fn_Xs rfl Try.func23 rfl (by simp only [plain, List.all_cons, List.all_nil, dN_pl, str_pl, Bool.and_true]) (rfl) ?_
 simp only [zmc, zmn, D.strip, dN_strip]
 simp only [enterSt, Try.ntmps23, zlc, zln, Nat.reduceAdd, Nat.reduceSub, zr1, zr0, zca, zna]
 refine X_seq ?_
 refine X_rg fun R hR => ?_
 simp only [EVP, aops, astep, awant, aeff, ev, St.put, zg0, zgd, zmo, zbs, if_true, zs1, zs0, zlc, zln, zca, zna, Nat.zero_add, ty_api_Node, dN_cells, dN_good, sl]
 with_reducible refine hR _ ?_
 clear hR R
 show X _ _ _ _
 refine X_seq ?_
 refine X_rg fun R hR => ?_
 simp only [EVP, aops, astep, awant, aeff, aop, mkD, astore, ev, St.put, zg1, zg0, zgd, zmo, zbs, if_true, zs1, zs0, zlc, zln, zd1, zd0, zt1, zt0, zca, zna, Nat.reduceAdd, Nat.reduceLeDiff, Nat.zero_add, and_self, ty_api_Node, dN_agg, dN_cells, dN_good, sl]
 with_reducible refine hR _ ?_
 clear hR R
 show X _ _ _ _
 refine X_seq ?_
 refine X_seq ?_
 refine X_y ?_
 refine Y_k 5 fun R hR => ?_
 simp only [EVP, aops, astep, awant, aeff, aop, abin, astr, mkD, ev, St.put, ia_str, zg1, zg0, zgd, zmo, if_true, zs1, zs0, zlc, zln, zd1, zd0, zt1, zt0, Nat.reduceAdd, Nat.reduceLeDiff, Nat.zero_add, zft, if_false, reduceCtorEq, ty_string, ty_api_Node]
 with_reducible refine hR _ ?_
 clear hR R
 simp only [zd1, zd0]
 refine Y_if 14 (by simp only [ev, zg1, zg0, zgd]; exact rfl) ?_ ?_
 ·intro b1
  have c1 := b1
  try simp only [beq_iff_eq] at c1
  refine Y_k 5 fun R hR => ?_
  simp only [EVP, inr_u8, Int.reduceLE, aops, astep, awant, aeff, aop, abin, aint, mkD, ev, ofValue, St.put, ia_int, zg1, zg0, zgd, zmo, zbs, if_true, zs1, zs0, zlc, zln, zd0, zt1, zt0, Nat.reduceAdd, Nat.reduceLeDiff, Nat.zero_add, Nat.add_zero, zft, if_false, and_self, reduceCtorEq, beq_self_eq_true, ty_uint8, ty_api_Node, b1]
  with_reducible refine hR _ ?_
  clear hR R
  simp only [zd1, zd0]
  refine Y_if 19 (by simp only [ev, zg1, zg0, zgd]; exact rfl) ?_ ?_
  ·intro b2
   have c2 := b2
   try simp only [bne_iff_ne, ne_eq] at c2
   refine Y_end fun R hR => ?_
   simp only [EVP, inr_u8, Int.reduceLE, aops, astep, awant, aeff, aop, abin, aint, mkD, ev, ofValue, St.put, ia_int, zg1, zg0, zgd, zmo, zbs, if_true, zs1, zs0, zlc, zln, zd0, zt1, zt0, Nat.reduceAdd, Nat.reduceLeDiff, Nat.zero_add, Nat.add_zero, zft, if_false, and_self, reduceCtorEq, beq_self_eq_true, ty_uint8, ty_api_Node, b2]
   with_reducible refine hR _ ?_
   clear hR R
   show X _ _ _ _
   refine X_ite (by simp only [ev, zg1, zg0, zgd]; exact rfl) ?_ ?_
   ·intro b3
    have c3 := b3
    try simp only [bne_iff_ne, ne_eq] at c3
    refine X_rg fun R hR => ?_
    simp only [EVP, aops, astep, awant, aeff, aop, astore, ev, St.put, gd_str, cl_str, zg1, zg0, zgd, zmo, if_true, zs1, zs0, zlc, zln, zd1, zd0, zt1, zt0, zca, zna, Nat.reduceAdd, Nat.reduceLeDiff, Nat.zero_add, if_false, and_self, reduceCtorEq, ty_string, ty_api_Node, b3]
    with_reducible refine hR _ ?_
    clear hR R
    show X _ _ _ _
    refine X_seq ?_
    refine X_rg fun R hR => ?_
    simp only [EVP, aops, astep, awant, aeff, aop, astore, ev, ofValue, St.put, gd_slice, cl_slice, zg1, zg0, zgd, zmo, if_true, zs1, zs0, zlc, zln, zd1, zd0, zt1, zt0, zca, zna, Nat.reduceAdd, Nat.reduceLeDiff, Nat.zero_add, if_false, and_self, reduceCtorEq, ty_s_api_Node, ty_api_Node]
    with_reducible refine hR _ ?_
    clear hR R
    show X _ _ _ _
    refine X_seq ?_
    refine X_seq ?_
    refine X_rg fun R hR => ?_
    simp only [inr_i64, Int.reduceLE, Int.reduceNeg, aops, astep, awant, aeff, aop, ev, ofValue, St.put, zgd, zmo, if_true, zs1, zs0, and_self]
    with_reducible refine hR _ ?_
    clear hR R
    show X _ _ _ _
    refine X_block ?_
    have hnm : (rnT a b t).name = b := by rw [rnT_name]; unfold rnN; first | (simp [b1]; done) | (simp_all; done) | (split <;> simp_all; done)
    refine X_loop (fun m σ => ∃ (i : Nat) (o : Own) (n : Nat) (nx : Nat) (lv : List Nat), σ = ⟨[slotOf σ 0, .str a, .str b, .ptr 0 0, slotOf σ 4, slotOf σ 5, .ptr 1 0, .ptr 2 0, .int .i64 i, slotOf σ 9, slotOf σ 10, slotOf σ 11, slotOf σ 12, slotOf σ 13, slotOf σ 14, slotOf σ 15, slotOf σ 16, slotOf σ 17, slotOf σ 18, slotOf σ 19, slotOf σ 20, slotOf σ 21, slotOf σ 22, slotOf σ 23, slotOf σ 24, slotOf σ 25, slotOf σ 26, slotOf σ 27, slotOf σ 28, slotOf σ 29, slotOf σ 30, slotOf σ 31, slotOf σ 32, slotOf σ 33, slotOf σ 34, slotOf σ 35, slotOf σ 36, slotOf σ 37, slotOf σ 38, slotOf σ 39, slotOf σ 40, slotOf σ 41, slotOf σ 42, slotOf σ 43, slotOf σ 44, slotOf σ 45, slotOf σ 46, slotOf σ 47], [[.int .u8 t.kind, .int .i64 t.num, .str t.name, .slice .imm (if (t.kids.map dN).isEmpty = true then 0 else 4) (t.kids.map dN)], [.int .u8 0, .int .i64 0, .str ⟨#[]⟩, .slice .nil 0 []], [.int .u8 t.kind, .int .i64 t.num, .str (rnT a b t).name, .slice o n ((t.kids.take i).map (fun x => dN (rnT a b x)))]], nx, lv⟩ ∧ m = t.kids.length - i ∧ i ≤ t.kids.length ∧ Acc 28 4 o n ((t.kids.take i).map (fun x => dN (rnT a b x))) lv) ?_ (t.kids.length) _ ?_
    rotate_left
    ·exact ⟨0, .nil, 0, 0, [], by rw [hnm]; rfl, rfl, Nat.zero_le _, .nil _ _ _⟩
    rintro m σ ⟨i, o, n, nx, lv, hσ, rfl, hi, hacc⟩
    generalize slotOf σ = x at hσ
    subst hσ
    refine X_seq ?_
    refine X_seq ?_
    refine X_rg fun R hR => ?_
    simp only [EVP, nat_lt, aops, astep, awant, aeff, aop, abin, aint, mkD, ev, St.put, ia_slice, zg1, zg0, zgd, zmo, if_true, zs1, zs0, zlm, zlc, zln, zd1, zd0, zt1, zt0, Nat.reduceAdd, Nat.reduceLeDiff, Nat.zero_add, zft, if_false, reduceCtorEq, ty_s_api_Node, ty_api_Node, und_api_Node]
    with_reducible refine hR _ ?_
    clear hR R
    show X _ _ _ _
    refine X_ite (by simp only [ev, zg1, zg0, zgd]; exact rfl) ?_ ?_
    ·intro b4
     have c4 := b4
     try simp only [decide_eq_true_eq] at c4
     refine X_skip ?_
     show X _ _ _ _
     refine X_seq ?_
     refine X_block ?_
     have hlt : i < t.kids.length := by first | assumption | omega
     have hn1 : ((if (t.kids.map dN).isEmpty = true then 0 else 4) = 4) = True := eq_true (sl_n (j := i) (by simpa using hlt))
     have e1 : (t.kids.map dN)[i]? = some (dN t.kids[i]) := by simp [hlt]
     have hg := ih t.kids[i] (List.getElem_mem hlt)
     have hap := fun fr bx => (hacc.more nx).app (P := Try.prog) (σ := ⟨fr, bx, nx + 1, nx :: lv⟩) (t := 26) (o2 := .own nx 28) (l2 := [dN (rnT a b t.kids[i])]) und_api_Node inf_api_Node_eq inf_api_Node_size (by omega) (by rw [inf_api_Node_bytes]; omega) inf_api_Node_zc (by simp; omega) (by simp)
     refine X_rg fun R hR => ?_
     simp only [EVP, nat_lt, nat_0, nat_to, aops, astep, awant, aeff, aop, mkD, abuild, astore, ev, ofValue, St.put, pcall, gd_slice, ia_slice, cl_slice, zmc, zmn, zg1, zg0, zgd, zmo, if_true, zs1, zs0, zlm, zlc, zln, zd1, zd0, zt1, zt0, zca, zna, Nat.reduceAdd, Nat.reduceLeDiff, Nat.reduceLT, Nat.zero_add, Bool.and_true, zft, if_false, and_self, reduceCtorEq, List.all_cons, List.all_nil, decide_true, beq_self_eq_true, zis, Nat.reduceMul, rng_1, ty_s_api_Node, ty_api_Node, und_api_Node, siz_api_Node, inf_api_Node_eq, inf_api_Node_size, inf_api_Node_zero, any23, dN_cells, dN_isAgg, dN_good, sl, hlt, hn1, e1, hg, hap, take_succ_map (f := fun x => dN (rnT a b x)) hlt]
     with_reducible refine hR _ ?_
     clear hR R
     show X _ _ _ _
     have hbig : i < 9223372036854775807 := by omega
     refine X_rg fun R hR => ?_
     simp only [inr_i64, Int.reduceLE, Int.reduceNeg, aops, astep, awant, aeff, aop, abin, aint, ev, ofValue, St.put, zg1, zg0, zgd, zmo, if_true, zs1, zs0, and_self, nat_succ hbig]
     with_reducible refine hR _ ?_
     clear hR R
     show ∃ m, m < _ ∧ _
     exact ⟨t.kids.length - (i + 1), by omega, i + 1, _, _, _, _, rfl, rfl, by omega, .own (by simp)⟩
    ·intro b5
     have c5 := b5
     try simp only [decide_eq_false_iff_not] at c5
     refine X_exit ?_
     show X _ _ _ _
     refine X_seq ?_
     refine X_rg fun R hR => ?_
     simp only [EVP, aops, astep, awant, aeff, aop, mkD, astore, ev, St.put, gd_agg, cl_agg, zg1, zg0, zgd, zmo, if_true, zs1, zs0, zlc, zln, zd1, zd0, zt1, zt0, zca, zna, Nat.reduceAdd, Nat.reduceLeDiff, Nat.zero_add, and_self, ty_api_Node, b5]
     with_reducible refine hR _ ?_
     clear hR R
     show X _ _ _ _
     refine X_ret ?_
     show ∃ d, resD _ _ _ = some d ∧ _ ∧ _
     refine ⟨_, by simp only [resD, resAll, resOne, resTup, Try.results23, EVP, mkD, ty_api_Node, zg1, zg0, zd0, zt1, zt0, zlc, zln, Nat.reduceAdd, Nat.reduceLeDiff, Nat.zero_add, if_true, zmo]; exact rfl, ?_, ?_⟩
     ·simp only [D.under, D.unders, Bool.and_true, Bool.true_and]; rw [D.unders_all, List.all_eq_true]; intro d hd; obtain ⟨x, hx, rfl⟩ := List.mem_map.1 hd; exact dN_under 0 _
     ·have hil : i = t.kids.length := by omega
      have hst := hacc.strip
      rw [hil, List.take_length, List.map_map, show (D.strip ∘ fun x => dN (rnT a b x)) = (fun x => dN (rnT a b x)) from funext fun x => dN_strip _] at hst
      simp only [D.strip, D.strips] at hst ⊢
      rw [hil, List.take_length, hst, dN_eq (rnT a b t), rnT_kind, rnT_num, rnT_kids]
      simp only [sl, List.map_map]
      rfl
   ·intro b6
    have c6 := b6
    try simp only [bne_eq_false_iff_eq] at c6
    refine X_skip ?_
    show X _ _ _ _
    refine X_seq ?_
    refine X_rg fun R hR => ?_
    simp only [EVP, aops, astep, awant, aeff, aop, astore, ev, ofValue, St.put, gd_slice, cl_slice, zg1, zg0, zgd, zmo, if_true, zs1, zs0, zlc, zln, zd1, zd0, zt1, zt0, zca, zna, Nat.reduceAdd, Nat.reduceLeDiff, Nat.zero_add, if_false, and_self, reduceCtorEq, ty_s_api_Node, ty_api_Node, b6]
    with_reducible refine hR _ ?_
    clear hR R
    show X _ _ _ _
    refine X_seq ?_
    refine X_seq ?_
    refine X_rg fun R hR => ?_
    simp only [inr_i64, Int.reduceLE, Int.reduceNeg, aops, astep, awant, aeff, aop, ev, ofValue, St.put, zgd, zmo, if_true, zs1, zs0, and_self]
    with_reducible refine hR _ ?_
    clear hR R
    show X _ _ _ _
    refine X_block ?_
    have hnm : (rnT a b t).name = t.name := by rw [rnT_name]; unfold rnN; first | (simp [b1]; done) | (simp_all; done) | (split <;> simp_all; done)
    refine X_loop (fun m σ => ∃ (i : Nat) (o : Own) (n : Nat) (nx : Nat) (lv : List Nat), σ = ⟨[slotOf σ 0, .str a, .str b, .ptr 0 0, slotOf σ 4, slotOf σ 5, .ptr 1 0, .ptr 2 0, .int .i64 i, slotOf σ 9, slotOf σ 10, slotOf σ 11, slotOf σ 12, slotOf σ 13, slotOf σ 14, slotOf σ 15, slotOf σ 16, slotOf σ 17, slotOf σ 18, slotOf σ 19, slotOf σ 20, slotOf σ 21, slotOf σ 22, slotOf σ 23, slotOf σ 24, slotOf σ 25, slotOf σ 26, slotOf σ 27, slotOf σ 28, slotOf σ 29, slotOf σ 30, slotOf σ 31, slotOf σ 32, slotOf σ 33, slotOf σ 34, slotOf σ 35, slotOf σ 36, slotOf σ 37, slotOf σ 38, slotOf σ 39, slotOf σ 40, slotOf σ 41, slotOf σ 42, slotOf σ 43, slotOf σ 44, slotOf σ 45, slotOf σ 46, slotOf σ 47], [[.int .u8 t.kind, .int .i64 t.num, .str t.name, .slice .imm (if (t.kids.map dN).isEmpty = true then 0 else 4) (t.kids.map dN)], [.int .u8 0, .int .i64 0, .str ⟨#[]⟩, .slice .nil 0 []], [.int .u8 t.kind, .int .i64 t.num, .str (rnT a b t).name, .slice o n ((t.kids.take i).map (fun x => dN (rnT a b x)))]], nx, lv⟩ ∧ m = t.kids.length - i ∧ i ≤ t.kids.length ∧ Acc 28 4 o n ((t.kids.take i).map (fun x => dN (rnT a b x))) lv) ?_ (t.kids.length) _ ?_
    rotate_left
    ·exact ⟨0, .nil, 0, 0, [], by rw [hnm]; rfl, rfl, Nat.zero_le _, .nil _ _ _⟩
    rintro m σ ⟨i, o, n, nx, lv, hσ, rfl, hi, hacc⟩
    generalize slotOf σ = x at hσ
    subst hσ
    refine X_seq ?_
    refine X_seq ?_
    refine X_rg fun R hR => ?_
    simp only [EVP, nat_lt, aops, astep, awant, aeff, aop, abin, aint, mkD, ev, St.put, ia_slice, zg1, zg0, zgd, zmo, if_true, zs1, zs0, zlm, zlc, zln, zd1, zd0, zt1, zt0, Nat.reduceAdd, Nat.reduceLeDiff, Nat.zero_add, zft, if_false, reduceCtorEq, ty_s_api_Node, ty_api_Node, und_api_Node]
    with_reducible refine hR _ ?_
    clear hR R
    show X _ _ _ _
    refine X_ite (by simp only [ev, zg1, zg0, zgd]; exact rfl) ?_ ?_
    ·intro b7
     have c7 := b7
     try simp only [decide_eq_true_eq] at c7
     refine X_skip ?_
     show X _ _ _ _
     refine X_seq ?_
     refine X_block ?_
     have hlt : i < t.kids.length := by first | assumption | omega
     have hn1 : ((if (t.kids.map dN).isEmpty = true then 0 else 4) = 4) = True := eq_true (sl_n (j := i) (by simpa using hlt))
     have e1 : (t.kids.map dN)[i]? = some (dN t.kids[i]) := by simp [hlt]
     have hg := ih t.kids[i] (List.getElem_mem hlt)
     have hap := fun fr bx => (hacc.more nx).app (P := Try.prog) (σ := ⟨fr, bx, nx + 1, nx :: lv⟩) (t := 26) (o2 := .own nx 28) (l2 := [dN (rnT a b t.kids[i])]) und_api_Node inf_api_Node_eq inf_api_Node_size (by omega) (by rw [inf_api_Node_bytes]; omega) inf_api_Node_zc (by simp; omega) (by simp)
     refine X_rg fun R hR => ?_
     simp only [EVP, nat_lt, nat_0, nat_to, aops, astep, awant, aeff, aop, mkD, abuild, astore, ev, ofValue, St.put, pcall, gd_slice, ia_slice, cl_slice, zmc, zmn, zg1, zg0, zgd, zmo, if_true, zs1, zs0, zlm, zlc, zln, zd1, zd0, zt1, zt0, zca, zna, Nat.reduceAdd, Nat.reduceLeDiff, Nat.reduceLT, Nat.zero_add, Bool.and_true, zft, if_false, and_self, reduceCtorEq, List.all_cons, List.all_nil, decide_true, beq_self_eq_true, zis, Nat.reduceMul, rng_1, ty_s_api_Node, ty_api_Node, und_api_Node, siz_api_Node, inf_api_Node_eq, inf_api_Node_size, inf_api_Node_zero, any23, dN_cells, dN_isAgg, dN_good, sl, hlt, hn1, e1, hg, hap, take_succ_map (f := fun x => dN (rnT a b x)) hlt]
     with_reducible refine hR _ ?_
     clear hR R
     show X _ _ _ _
     have hbig : i < 9223372036854775807 := by omega
     refine X_rg fun R hR => ?_
     simp only [inr_i64, Int.reduceLE, Int.reduceNeg, aops, astep, awant, aeff, aop, abin, aint, ev, ofValue, St.put, zg1, zg0, zgd, zmo, if_true, zs1, zs0, and_self, nat_succ hbig]
     with_reducible refine hR _ ?_
     clear hR R
     show ∃ m, m < _ ∧ _
     exact ⟨t.kids.length - (i + 1), by omega, i + 1, _, _, _, _, rfl, rfl, by omega, .own (by simp)⟩
    ·intro b8
     have c8 := b8
     try simp only [decide_eq_false_iff_not] at c8
     refine X_exit ?_
     show X _ _ _ _
     refine X_seq ?_
     refine X_rg fun R hR => ?_
     simp only [EVP, aops, astep, awant, aeff, aop, mkD, astore, ev, St.put, gd_agg, cl_agg, zg1, zg0, zgd, zmo, if_true, zs1, zs0, zlc, zln, zd1, zd0, zt1, zt0, zca, zna, Nat.reduceAdd, Nat.reduceLeDiff, Nat.zero_add, and_self, ty_api_Node, b8]
     with_reducible refine hR _ ?_
     clear hR R
     show X _ _ _ _
     refine X_ret ?_
     show ∃ d, resD _ _ _ = some d ∧ _ ∧ _
     refine ⟨_, by simp only [resD, resAll, resOne, resTup, Try.results23, EVP, mkD, ty_api_Node, zg1, zg0, zd0, zt1, zt0, zlc, zln, Nat.reduceAdd, Nat.reduceLeDiff, Nat.zero_add, if_true, zmo]; exact rfl, ?_, ?_⟩
     ·simp only [D.under, D.unders, Bool.and_true, Bool.true_and]; rw [D.unders_all, List.all_eq_true]; intro d hd; obtain ⟨x, hx, rfl⟩ := List.mem_map.1 hd; exact dN_under 0 _
     ·have hil : i = t.kids.length := by omega
      have hst := hacc.strip
      rw [hil, List.take_length, List.map_map, show (D.strip ∘ fun x => dN (rnT a b x)) = (fun x => dN (rnT a b x)) from funext fun x => dN_strip _] at hst
      simp only [D.strip, D.strips] at hst ⊢
      rw [hil, List.take_length, hst, dN_eq (rnT a b t), rnT_kind, rnT_num, rnT_kids]
      simp only [sl, List.map_map]
      rfl
  ·intro b9
   have c9 := b9
   try simp only [bne_eq_false_iff_eq] at c9
   refine Y_end fun R hR => ?_
   simp only [EVP, inr_u8, Int.reduceLE, aops, astep, awant, aeff, aop, abin, ev, ofValue, St.put, zg1, zg0, zgd, zmo, Option.map_none, zbs, if_true, zs1, zs0, Nat.add_zero, zft, if_false, and_self, reduceCtorEq, bq_ft, ty_uint8, ty_api_Node, b9]
   with_reducible refine hR _ ?_
   clear hR R
   show X _ _ _ _
   refine X_false (by simp only [ev, zg1, zg0, zgd]) ?_
   refine X_skip ?_
   show X _ _ _ _
   refine X_seq ?_
   refine X_rg fun R hR => ?_
   simp only [EVP, aops, astep, awant, aeff, aop, astore, ev, ofValue, St.put, gd_slice, cl_slice, zg1, zg0, zgd, zmo, if_true, zs1, zs0, zlc, zln, zd1, zd0, zt1, zt0, zca, zna, Nat.reduceAdd, Nat.reduceLeDiff, Nat.zero_add, if_false, and_self, reduceCtorEq, ty_s_api_Node, ty_api_Node]
   with_reducible refine hR _ ?_
   clear hR R
   show X _ _ _ _
   refine X_seq ?_
   refine X_seq ?_
   refine X_rg fun R hR => ?_
   simp only [inr_i64, Int.reduceLE, Int.reduceNeg, aops, astep, awant, aeff, aop, ev, ofValue, St.put, zgd, zmo, if_true, zs1, zs0, and_self]
   with_reducible refine hR _ ?_
   clear hR R
   show X _ _ _ _
   refine X_block ?_
   have hnm : (rnT a b t).name = t.name := by rw [rnT_name]; unfold rnN; first | (simp [b1]; done) | (simp_all; done) | (split <;> simp_all; done)
   refine X_loop (fun m σ => ∃ (i : Nat) (o : Own) (n : Nat) (nx : Nat) (lv : List Nat), σ = ⟨[slotOf σ 0, .str a, .str b, .ptr 0 0, slotOf σ 4, slotOf σ 5, .ptr 1 0, .ptr 2 0, .int .i64 i, slotOf σ 9, slotOf σ 10, slotOf σ 11, slotOf σ 12, slotOf σ 13, slotOf σ 14, slotOf σ 15, slotOf σ 16, slotOf σ 17, slotOf σ 18, slotOf σ 19, slotOf σ 20, slotOf σ 21, slotOf σ 22, slotOf σ 23, slotOf σ 24, slotOf σ 25, slotOf σ 26, slotOf σ 27, slotOf σ 28, slotOf σ 29, slotOf σ 30, slotOf σ 31, slotOf σ 32, slotOf σ 33, slotOf σ 34, slotOf σ 35, slotOf σ 36, slotOf σ 37, slotOf σ 38, slotOf σ 39, slotOf σ 40, slotOf σ 41, slotOf σ 42, slotOf σ 43, slotOf σ 44, slotOf σ 45, slotOf σ 46, slotOf σ 47], [[.int .u8 t.kind, .int .i64 t.num, .str t.name, .slice .imm (if (t.kids.map dN).isEmpty = true then 0 else 4) (t.kids.map dN)], [.int .u8 0, .int .i64 0, .str ⟨#[]⟩, .slice .nil 0 []], [.int .u8 t.kind, .int .i64 t.num, .str (rnT a b t).name, .slice o n ((t.kids.take i).map (fun x => dN (rnT a b x)))]], nx, lv⟩ ∧ m = t.kids.length - i ∧ i ≤ t.kids.length ∧ Acc 28 4 o n ((t.kids.take i).map (fun x => dN (rnT a b x))) lv) ?_ (t.kids.length) _ ?_
   rotate_left
   ·exact ⟨0, .nil, 0, 0, [], by rw [hnm]; rfl, rfl, Nat.zero_le _, .nil _ _ _⟩
   rintro m σ ⟨i, o, n, nx, lv, hσ, rfl, hi, hacc⟩
   generalize slotOf σ = x at hσ
   subst hσ
   refine X_seq ?_
   refine X_seq ?_
   refine X_rg fun R hR => ?_
   simp only [EVP, nat_lt, aops, astep, awant, aeff, aop, abin, aint, mkD, ev, St.put, ia_slice, zg1, zg0, zgd, zmo, if_true, zs1, zs0, zlm, zlc, zln, zd1, zd0, zt1, zt0, Nat.reduceAdd, Nat.reduceLeDiff, Nat.zero_add, zft, if_false, reduceCtorEq, ty_s_api_Node, ty_api_Node, und_api_Node]
   with_reducible refine hR _ ?_
   clear hR R
   show X _ _ _ _
   refine X_ite (by simp only [ev, zg1, zg0, zgd]; exact rfl) ?_ ?_
   ·intro b10
    have c10 := b10
    try simp only [decide_eq_true_eq] at c10
    refine X_skip ?_
    show X _ _ _ _
    refine X_seq ?_
    refine X_block ?_
    have hlt : i < t.kids.length := by first | assumption | omega
    have hn1 : ((if (t.kids.map dN).isEmpty = true then 0 else 4) = 4) = True := eq_true (sl_n (j := i) (by simpa using hlt))
    have e1 : (t.kids.map dN)[i]? = some (dN t.kids[i]) := by simp [hlt]
    have hg := ih t.kids[i] (List.getElem_mem hlt)
    have hap := fun fr bx => (hacc.more nx).app (P := Try.prog) (σ := ⟨fr, bx, nx + 1, nx :: lv⟩) (t := 26) (o2 := .own nx 28) (l2 := [dN (rnT a b t.kids[i])]) und_api_Node inf_api_Node_eq inf_api_Node_size (by omega) (by rw [inf_api_Node_bytes]; omega) inf_api_Node_zc (by simp; omega) (by simp)
    refine X_rg fun R hR => ?_
    simp only [EVP, nat_lt, nat_0, nat_to, aops, astep, awant, aeff, aop, mkD, abuild, astore, ev, ofValue, St.put, pcall, gd_slice, ia_slice, cl_slice, zmc, zmn, zg1, zg0, zgd, zmo, if_true, zs1, zs0, zlm, zlc, zln, zd1, zd0, zt1, zt0, zca, zna, Nat.reduceAdd, Nat.reduceLeDiff, Nat.reduceLT, Nat.zero_add, Bool.and_true, zft, if_false, and_self, reduceCtorEq, List.all_cons, List.all_nil, decide_true, beq_self_eq_true, zis, Nat.reduceMul, rng_1, ty_s_api_Node, ty_api_Node, und_api_Node, siz_api_Node, inf_api_Node_eq, inf_api_Node_size, inf_api_Node_zero, any23, dN_cells, dN_isAgg, dN_good, sl, hlt, hn1, e1, hg, hap, take_succ_map (f := fun x => dN (rnT a b x)) hlt]
    with_reducible refine hR _ ?_
    clear hR R
    show X _ _ _ _
    have hbig : i < 9223372036854775807 := by omega
    refine X_rg fun R hR => ?_
    simp only [inr_i64, Int.reduceLE, Int.reduceNeg, aops, astep, awant, aeff, aop, abin, aint, ev, ofValue, St.put, zg1, zg0, zgd, zmo, if_true, zs1, zs0, and_self, nat_succ hbig]
    with_reducible refine hR _ ?_
    clear hR R
    show ∃ m, m < _ ∧ _
    exact ⟨t.kids.length - (i + 1), by omega, i + 1, _, _, _, _, rfl, rfl, by omega, .own (by simp)⟩
   ·intro b11
    have c11 := b11
    try simp only [decide_eq_false_iff_not] at c11
    refine X_exit ?_
    show X _ _ _ _
    refine X_seq ?_
    refine X_rg fun R hR => ?_
    simp only [EVP, aops, astep, awant, aeff, aop, mkD, astore, ev, St.put, gd_agg, cl_agg, zg1, zg0, zgd, zmo, if_true, zs1, zs0, zlc, zln, zd1, zd0, zt1, zt0, zca, zna, Nat.reduceAdd, Nat.reduceLeDiff, Nat.zero_add, and_self, ty_api_Node, b11]
    with_reducible refine hR _ ?_
    clear hR R
    show X _ _ _ _
    refine X_ret ?_
    show ∃ d, resD _ _ _ = some d ∧ _ ∧ _
    refine ⟨_, by simp only [resD, resAll, resOne, resTup, Try.results23, EVP, mkD, ty_api_Node, zg1, zg0, zd0, zt1, zt0, zlc, zln, Nat.reduceAdd, Nat.reduceLeDiff, Nat.zero_add, if_true, zmo]; exact rfl, ?_, ?_⟩
    ·simp only [D.under, D.unders, Bool.and_true, Bool.true_and]; rw [D.unders_all, List.all_eq_true]; intro d hd; obtain ⟨x, hx, rfl⟩ := List.mem_map.1 hd; exact dN_under 0 _
    ·have hil : i = t.kids.length := by omega
     have hst := hacc.strip
     rw [hil, List.take_length, List.map_map, show (D.strip ∘ fun x => dN (rnT a b x)) = (fun x => dN (rnT a b x)) from funext fun x => dN_strip _] at hst
     simp only [D.strip, D.strips] at hst ⊢
     rw [hil, List.take_length, hst, dN_eq (rnT a b t), rnT_kind, rnT_num, rnT_kids]
     simp only [sl, List.map_map]
     rfl
 ·intro b12
  have c12 := b12
  try simp only [ne_eq, beq_eq_false_iff_ne] at c12
  refine Y_end fun R hR => ?_
  simp only [EVP, inr_u8, Int.reduceLE, aops, astep, awant, aeff, aop, abin, ev, ofValue, St.put, zg1, zg0, zgd, zmo, Option.map_none, zbs, if_true, zs1, zs0, Nat.add_zero, zft, if_false, and_self, reduceCtorEq, bq_ft, ty_uint8, ty_api_Node, b12]
  with_reducible refine hR _ ?_
  clear hR R
  show X _ _ _ _
  refine X_false (by simp only [ev, zg1, zg0, zgd]) ?_
  refine X_skip ?_
  show X _ _ _ _
  refine X_seq ?_
  refine X_rg fun R hR => ?_
  simp only [EVP, aops, astep, awant, aeff, aop, astore, ev, ofValue, St.put, gd_slice, cl_slice, zg1, zg0, zgd, zmo, if_true, zs1, zs0, zlc, zln, zd1, zd0, zt1, zt0, zca, zna, Nat.reduceAdd, Nat.reduceLeDiff, Nat.zero_add, if_false, and_self, reduceCtorEq, ty_s_api_Node, ty_api_Node]
  with_reducible refine hR _ ?_
  clear hR R
  show X _ _ _ _
  refine X_seq ?_
  refine X_seq ?_
  refine X_rg fun R hR => ?_
  simp only [inr_i64, Int.reduceLE, Int.reduceNeg, aops, astep, awant, aeff, aop, ev, ofValue, St.put, zgd, zmo, if_true, zs1, zs0, and_self]
  with_reducible refine hR _ ?_
  clear hR R
  show X _ _ _ _
  refine X_block ?_
  have hnm : (rnT a b t).name = t.name := by rw [rnT_name]; unfold rnN; first | (simp [b12]; done) | (simp_all; done) | (split <;> simp_all; done)
  refine X_loop (fun m σ => ∃ (i : Nat) (o : Own) (n : Nat) (nx : Nat) (lv : List Nat), σ = ⟨[slotOf σ 0, .str a, .str b, .ptr 0 0, slotOf σ 4, slotOf σ 5, .ptr 1 0, .ptr 2 0, .int .i64 i, slotOf σ 9, slotOf σ 10, slotOf σ 11, slotOf σ 12, slotOf σ 13, slotOf σ 14, slotOf σ 15, slotOf σ 16, slotOf σ 17, slotOf σ 18, slotOf σ 19, slotOf σ 20, slotOf σ 21, slotOf σ 22, slotOf σ 23, slotOf σ 24, slotOf σ 25, slotOf σ 26, slotOf σ 27, slotOf σ 28, slotOf σ 29, slotOf σ 30, slotOf σ 31, slotOf σ 32, slotOf σ 33, slotOf σ 34, slotOf σ 35, slotOf σ 36, slotOf σ 37, slotOf σ 38, slotOf σ 39, slotOf σ 40, slotOf σ 41, slotOf σ 42, slotOf σ 43, slotOf σ 44, slotOf σ 45, slotOf σ 46, slotOf σ 47], [[.int .u8 t.kind, .int .i64 t.num, .str t.name, .slice .imm (if (t.kids.map dN).isEmpty = true then 0 else 4) (t.kids.map dN)], [.int .u8 0, .int .i64 0, .str ⟨#[]⟩, .slice .nil 0 []], [.int .u8 t.kind, .int .i64 t.num, .str (rnT a b t).name, .slice o n ((t.kids.take i).map (fun x => dN (rnT a b x)))]], nx, lv⟩ ∧ m = t.kids.length - i ∧ i ≤ t.kids.length ∧ Acc 28 4 o n ((t.kids.take i).map (fun x => dN (rnT a b x))) lv) ?_ (t.kids.length) _ ?_
  rotate_left
  ·exact ⟨0, .nil, 0, 0, [], by rw [hnm]; rfl, rfl, Nat.zero_le _, .nil _ _ _⟩
  rintro m σ ⟨i, o, n, nx, lv, hσ, rfl, hi, hacc⟩
  generalize slotOf σ = x at hσ
  subst hσ
  refine X_seq ?_
  refine X_seq ?_
  refine X_rg fun R hR => ?_
  simp only [EVP, nat_lt, aops, astep, awant, aeff, aop, abin, aint, mkD, ev, St.put, ia_slice, zg1, zg0, zgd, zmo, if_true, zs1, zs0, zlm, zlc, zln, zd1, zd0, zt1, zt0, Nat.reduceAdd, Nat.reduceLeDiff, Nat.zero_add, zft, if_false, reduceCtorEq, ty_s_api_Node, ty_api_Node, und_api_Node]
  with_reducible refine hR _ ?_
  clear hR R
  show X _ _ _ _
  refine X_ite (by simp only [ev, zg1, zg0, zgd]; exact rfl) ?_ ?_
  ·intro b13
   have c13 := b13
   try simp only [decide_eq_true_eq] at c13
   refine X_skip ?_
   show X _ _ _ _
   refine X_seq ?_
   refine X_block ?_
   have hlt : i < t.kids.length := by first | assumption | omega
   have hn1 : ((if (t.kids.map dN).isEmpty = true then 0 else 4) = 4) = True := eq_true (sl_n (j := i) (by simpa using hlt))
   have e1 : (t.kids.map dN)[i]? = some (dN t.kids[i]) := by simp [hlt]
   have hg := ih t.kids[i] (List.getElem_mem hlt)
   have hap := fun fr bx => (hacc.more nx).app (P := Try.prog) (σ := ⟨fr, bx, nx + 1, nx :: lv⟩) (t := 26) (o2 := .own nx 28) (l2 := [dN (rnT a b t.kids[i])]) und_api_Node inf_api_Node_eq inf_api_Node_size (by omega) (by rw [inf_api_Node_bytes]; omega) inf_api_Node_zc (by simp; omega) (by simp)
   refine X_rg fun R hR => ?_
   simp only [EVP, nat_lt, nat_0, nat_to, aops, astep, awant, aeff, aop, mkD, abuild, astore, ev, ofValue, St.put, pcall, gd_slice, ia_slice, cl_slice, zmc, zmn, zg1, zg0, zgd, zmo, if_true, zs1, zs0, zlm, zlc, zln, zd1, zd0, zt1, zt0, zca, zna, Nat.reduceAdd, Nat.reduceLeDiff, Nat.reduceLT, Nat.zero_add, Bool.and_true, zft, if_false, and_self, reduceCtorEq, List.all_cons, List.all_nil, decide_true, beq_self_eq_true, zis, Nat.reduceMul, rng_1, ty_s_api_Node, ty_api_Node, und_api_Node, siz_api_Node, inf_api_Node_eq, inf_api_Node_size, inf_api_Node_zero, any23, dN_cells, dN_isAgg, dN_good, sl, hlt, hn1, e1, hg, hap, take_succ_map (f := fun x => dN (rnT a b x)) hlt]
   with_reducible refine hR _ ?_
   clear hR R
   show X _ _ _ _
   have hbig : i < 9223372036854775807 := by omega
   refine X_rg fun R hR => ?_
   simp only [inr_i64, Int.reduceLE, Int.reduceNeg, aops, astep, awant, aeff, aop, abin, aint, ev, ofValue, St.put, zg1, zg0, zgd, zmo, if_true, zs1, zs0, and_self, nat_succ hbig]
   with_reducible refine hR _ ?_
   clear hR R
   show ∃ m, m < _ ∧ _
   exact ⟨t.kids.length - (i + 1), by omega, i + 1, _, _, _, _, rfl, rfl, by omega, .own (by simp)⟩
  ·intro b14
   have c14 := b14
   try simp only [decide_eq_false_iff_not] at c14
   refine X_exit ?_
   show X _ _ _ _
   refine X_seq ?_
   refine X_rg fun R hR => ?_
   simp only [EVP, aops, astep, awant, aeff, aop, mkD, astore, ev, St.put, gd_agg, cl_agg, zg1, zg0, zgd, zmo, if_true, zs1, zs0, zlc, zln, zd1, zd0, zt1, zt0, zca, zna, Nat.reduceAdd, Nat.reduceLeDiff, Nat.zero_add, and_self, ty_api_Node, b14]
   with_reducible refine hR _ ?_
   clear hR R
   show X _ _ _ _
   refine X_ret ?_
   show ∃ d, resD _ _ _ = some d ∧ _ ∧ _
   refine ⟨_, by simp only [resD, resAll, resOne, resTup, Try.results23, EVP, mkD, ty_api_Node, zg1, zg0, zd0, zt1, zt0, zlc, zln, Nat.reduceAdd, Nat.reduceLeDiff, Nat.zero_add, if_true, zmo]; exact rfl, ?_, ?_⟩
   ·simp only [D.under, D.unders, Bool.and_true, Bool.true_and]; rw [D.unders_all, List.all_eq_true]; intro d hd; obtain ⟨x, hx, rfl⟩ := List.mem_map.1 hd; exact dN_under 0 _
   ·have hil : i = t.kids.length := by omega
    have hst := hacc.strip
    rw [hil, List.take_length, List.map_map, show (D.strip ∘ fun x => dN (rnT a b x)) = (fun x => dN (rnT a b x)) from funext fun x => dN_strip _] at hst
    simp only [D.strip, D.strips] at hst ⊢
    rw [hil, List.take_length, hst, dN_eq (rnT a b t), rnT_kind, rnT_num, rnT_kids]
    simp only [sl, List.map_map]
    rfl

theorem rename_fn (a b : ByteArray) (t : Tr) : t.size ≤ 1000000 → fn EV 23 [dN t, .str a, .str b] = some (dN (rnT a b t)) := by
 induction t using Tr.ind with
 | h k n s c ih =>
  intro hs
  exact rename_at a b _ hs (fun x hx => ih x hx (by simp only [Tr.kids] at hx; have := Tr.size_le_of_mem hx; simp only [Tr.size] at hs; omega))

end Go.Proofs.Ytjikokmhknnnoaa
