/- The law EffectsSorted: its walk. -/
import Derived.Test.YtkkhjpkkjpcbmaaE10
namespace Go.Proofs.Ytkkhjpkkjpcbmaa
open Go.RowKit

set_option maxRecDepth 100000 in
set_option maxHeartbeats 4000000 in
theorem lawEffectsSorted_0 (t : Tr) (hfew : fewB t = false) : fn EVe 8 [dN t] = some (.bool true) := by
 refine fn_X rfl Try.func8 rfl (by simp only [plain, List.all_cons, List.all_nil, dN_under, dN_good, Bool.and_self]) (rfl) (rfl) (rfl) ?_
 simp only [zmc, zmn, dN_strip]
 simp only [enterSt, Try.ntmps8, zlc, zln, Nat.reduceAdd, Nat.reduceSub, zr1, zr0, zca, zna]
 refine X_seq ?_
 refine X_rg fun R hR => ?_
 simp only [aops, astep, awant, aeff, aop, ev, ofValue, St.put, zg0, zgd, zmo, if_true, zs1, zs0, zln, zna, dN_cells, dN_good, sl]
 with_reducible refine hR _ ?_
 clear hR R
 show X _ _ _ _
 refine X_seq ?_
 refine X_seq ?_
 have hw := few_e t
 rw [hfew] at hw
 refine X_rg fun R hR => ?_
 simp only [EVeP, aops, astep, awant, aeff, aop, mkD, ev, ofValue, St.put, pcall, zmc, zmn, zg1, zg0, zgd, zmo, zbs, if_true, zs1, zs0, zlc, zln, zd0, zt1, zt0, zca, zna, Nat.reduceAdd, Nat.reduceLeDiff, Nat.zero_add, Bool.not_true, Bool.not_false, zft, if_false, beq_self_eq_true, ty_api_Node, any11, any12, dN_agg, awake_e, hw]
 with_reducible refine hR _ ?_
 clear hR R
 show X _ _ _ _
 refine X_true (by simp only [ev, zg1, zg0, zgd]) ?_
 refine X_seq ?_
 refine X_rg fun R hR => ?_
 simp only [EVeP, aops, astep, awant, aeff, aop, ev, St.put, pcall, zmn, zg1, zg0, zgd, zmo, if_true, zs1, zs0, zna, any11, awake_e]
 with_reducible refine hR _ ?_
 clear hR R
 show X _ _ _ _
 refine X_ret ?_
 show resD _ _ _ = some _
 simp only [resD, resAll, resOne, resTup, Try.results8, EVeP, zg1, zg0, D.good, if_true, zmo] <;> (first | (rfl; done) | (simp_all; done) | (exfalso; simp_all; done))
set_option maxRecDepth 100000 in
set_option maxHeartbeats 4000000 in
theorem lawEffectsSorted_1 (t : Tr) (hfew : fewB t = true) : fn EVe 8 [dN t] = some (.bool true) := by
 refine fn_X rfl Try.func8 rfl (by simp only [plain, List.all_cons, List.all_nil, dN_under, dN_good, Bool.and_self]) (rfl) (rfl) (rfl) ?_
 simp only [zmc, zmn, dN_strip]
 simp only [enterSt, Try.ntmps8, zlc, zln, Nat.reduceAdd, Nat.reduceSub, zr1, zr0, zca, zna]
 refine X_seq ?_
 refine X_rg fun R hR => ?_
 simp only [aops, astep, awant, aeff, aop, ev, ofValue, St.put, zg0, zgd, zmo, if_true, zs1, zs0, zln, zna, dN_cells, dN_good, sl]
 with_reducible refine hR _ ?_
 clear hR R
 show X _ _ _ _
 refine X_seq ?_
 refine X_seq ?_
 have hw := few_e t
 rw [hfew] at hw
 refine X_rg fun R hR => ?_
 simp only [EVeP, aops, astep, awant, aeff, aop, mkD, ev, ofValue, St.put, pcall, zmc, zmn, zg1, zg0, zgd, zmo, zbs, if_true, zs1, zs0, zlc, zln, zd0, zt1, zt0, zca, zna, Nat.reduceAdd, Nat.reduceLeDiff, Nat.zero_add, Bool.not_true, zft, if_false, beq_self_eq_true, ty_api_Node, any11, any12, dN_agg, awake_e, hw]
 with_reducible refine hR _ ?_
 clear hR R
 show X _ _ _ _
 refine X_false (by simp only [ev, zg1, zg0, zgd]) ?_
 refine X_skip ?_
 show X _ _ _ _
 refine X_seq ?_
 have hz := few_sz hfew
 have hl := rrT_len t
 have hl2 := wrT_len t
 have ha := (rrT_spec t).1
 have ha2 := (wrT_spec t).1
 have f1 := reads_e t (by omega)
 have f2 := writes_e t (by omega)
 simp only [sl] at f1 f2
 refine X_rg fun R hR => ?_
 simp only [EVeP, aops, astep, awant, aeff, aop, mkD, ev, St.put, pcall, zmc, zmn, zg1, zg0, zgd, zmo, if_true, zs1, zs0, zlc, zln, zd0, zt1, zt0, zca, zna, Nat.reduceAdd, Nat.reduceLeDiff, Nat.zero_add, ty_api_Node, any14, any16, dN_agg, f1, f2]
 with_reducible refine hR _ ?_
 clear hR R
 show X _ _ _ _
 refine X_seq ?_
 refine X_seq ?_
 refine X_rg fun R hR => ?_
 simp only [EVeP, inr_i64, Int.reduceLE, Int.reduceNeg, aops, astep, awant, aeff, aop, ev, ofValue, St.put, zg1, zg0, zgd, zmo, if_true, zs1, zs0, zlm, and_self, und_string]
 with_reducible refine hR _ ?_
 clear hR R
 show X _ _ _ _
 refine X_block ?_
 refine X_loop (fun m σ => ∃ (i : Nat), σ = ⟨[slotOf σ 0, .ptr 0 0, slotOf σ 2, .slice .imm (if ((rrT t).map dS).isEmpty = true then 0 else 1) ((rrT t).map dS), .slice .imm (if ((wrT t).map dS).isEmpty = true then 0 else 1) ((wrT t).map dS), slotOf σ 5, slotOf σ 6, slotOf σ 7, slotOf σ 8, slotOf σ 9, slotOf σ 10, slotOf σ 11, slotOf σ 12, slotOf σ 13, slotOf σ 14, slotOf σ 15, slotOf σ 16, slotOf σ 17, slotOf σ 18, slotOf σ 19, slotOf σ 20, slotOf σ 21, slotOf σ 22, slotOf σ 23, slotOf σ 24, .slice .imm (if ((rrT t).map dS).isEmpty = true then 0 else 1) ((rrT t).map dS), .int .i64 (rrT t).length, .int .i64 i, slotOf σ 28, slotOf σ 29, slotOf σ 30, slotOf σ 31, slotOf σ 32, slotOf σ 33, slotOf σ 34, slotOf σ 35, slotOf σ 36, slotOf σ 37, slotOf σ 38, slotOf σ 39, slotOf σ 40, slotOf σ 41, slotOf σ 42, slotOf σ 43, slotOf σ 44, slotOf σ 45, slotOf σ 46, slotOf σ 47, slotOf σ 48, slotOf σ 49, slotOf σ 50, slotOf σ 51, slotOf σ 52, slotOf σ 53, slotOf σ 54, slotOf σ 55, slotOf σ 56, slotOf σ 57, slotOf σ 58, slotOf σ 59, slotOf σ 60, slotOf σ 61, slotOf σ 62, slotOf σ 63, slotOf σ 64, slotOf σ 65, slotOf σ 66, slotOf σ 67, slotOf σ 68, slotOf σ 69, slotOf σ 70, slotOf σ 71, slotOf σ 72, slotOf σ 73, slotOf σ 74, slotOf σ 75, slotOf σ 76, slotOf σ 77, slotOf σ 78, slotOf σ 79, slotOf σ 80, slotOf σ 81, slotOf σ 82, slotOf σ 83, slotOf σ 84, slotOf σ 85, slotOf σ 86, slotOf σ 87, slotOf σ 88], [[.int .u8 t.kind, .int .i64 t.num, .str t.name, .slice .imm (if (t.kids.map dN).isEmpty = true then 0 else 4) (t.kids.map dN)]], 0, []⟩ ∧ m = (rrT t).length - i ∧ i ≤ (rrT t).length) ?_ ((rrT t).length) _ ?_
 rotate_left
 ·exact ⟨0, rfl, rfl, Nat.zero_le _⟩
 rintro m σ ⟨i, hσ, rfl, hi⟩
 generalize slotOf σ = x at hσ
 subst hσ
 refine X_seq ?_
 refine X_rg fun R hR => ?_
 simp only [nat_lt, aops, astep, awant, aeff, aop, abin, aint, ev, St.put, zg1, zg0, zgd, zmo, if_true, zs1, zs0]
 with_reducible refine hR _ ?_
 clear hR R
 show X _ _ _ _
 refine X_seq ?_
 refine X_ite (by simp only [ev, zg1, zg0, zgd]; exact rfl) ?_ ?_
 ·intro b1
  have c1 := b1
  try simp only [decide_eq_true_eq] at c1
  refine X_skip ?_
  show X _ _ _ _
  refine X_seq ?_
  refine X_block ?_
  refine X_seq ?_
  refine X_rg fun R hR => ?_
  simp only [aops, astep, awant, aeff, aop, ev, St.put, zg1, zg0, zgd, zmo, if_true, zs1, zs0, b1]
  with_reducible refine hR _ ?_
  clear hR R
  show X _ _ _ _
  refine X_seq ?_
  refine X_y ?_
  refine Y_k 3 fun R hR => ?_
  simp only [EVeP, inr_i64, Int.reduceLE, Int.reduceNeg, aops, astep, awant, aeff, aop, abin, aint, ev, ofValue, St.put, zg1, zg0, zgd, zmo, if_true, zs1, zs0, zt1, zt0, and_self]
  with_reducible refine hR _ ?_
  clear hR R
  simp only [zd1, zd0]
  refine Y_if 32 (by simp only [ev, zg1, zg0, zgd]; exact rfl) ?_ ?_
  ·intro b2
   have c2 := b2
   try simp only [decide_eq_true_eq, gt_iff_lt] at c2
   have hpos : 0 < i := by first | omega | (simp_all; omega)
   have hlt : i < (rrT t).length := by first | assumption | omega | simp_all
   have hl1 : i - 1 < (rrT t).length := by omega
   have hsb := sub1 hpos (by omega)
   have hge := asc_at ha hpos hlt
   have hltn := idx_n (f := dS) (n := 1) (l := (rrT t)) (i := i) hlt
   have hlte : ((rrT t).map dS)[i]? = some (.str (rrT t)[i]) := by rw [List.getElem?_map, List.getElem?_eq_getElem hlt]; rfl
   have hl1n := idx_n (f := dS) (n := 1) (l := (rrT t)) (i := (i - 1)) hl1
   have hl1e : ((rrT t).map dS)[(i - 1)]? = some (.str (rrT t)[(i - 1)]) := by rw [List.getElem?_map, List.getElem?_eq_getElem hl1]; rfl
   refine Y_end fun R hR => ?_
   simp only [EVeP, inr_i64, Int.reduceLE, Int.reduceNeg, nat_lt, nat_0, nat_to, aops, astep, awant, aeff, aop, abin, aint, astr, ev, ofValue, St.put, ia_str, cl_str, zg1, zg0, zgd, zmo, zbs, if_true, zs1, zs0, zlm, zlc, zln, Nat.zero_add, Bool.not_true, and_self, beq_self_eq_true, zis, ty_string, und_string, siz_string, inf_string_eq, b2, hlt, hltn, hlte, hl1, hl1e, hsb, hge]
   with_reducible refine hR _ ?_
   clear hR R
   show X _ _ _ _
   refine X_false (by simp only [ev, zg1, zg0, zgd]) ?_
   refine X_skip ?_
   show X _ _ _ _
   have hbig : i < 9223372036854775807 := by omega
   refine X_rg fun R hR => ?_
   simp only [inr_i64, Int.reduceLE, Int.reduceNeg, aops, astep, awant, aeff, aop, abin, aint, ev, ofValue, St.put, zg1, zg0, zgd, zmo, if_true, zs1, zs0, and_self, nat_succ hbig]
   with_reducible refine hR _ ?_
   clear hR R
   show ∃ m, m < _ ∧ _
   exact ⟨(rrT t).length - (i + 1), by omega, i + 1, rfl, rfl, by omega⟩
  ·intro b3
   have c3 := b3
   try simp only [decide_eq_false_iff_not, Int.not_lt, gt_iff_lt] at c3
   refine Y_end fun R hR => ?_
   simp only [EVeP, inr_i64, Int.reduceLE, Int.reduceNeg, aops, astep, awant, aeff, aop, abin, ev, ofValue, St.put, zg1, zg0, zgd, zmo, Option.map_none, zbs, if_true, zs1, zs0, zft, if_false, and_self, bq_ft, ty_string, und_string, b3]
   with_reducible refine hR _ ?_
   clear hR R
   show X _ _ _ _
   refine X_false (by simp only [ev, zg1, zg0, zgd]) ?_
   refine X_skip ?_
   show X _ _ _ _
   have hbig : i < 9223372036854775807 := by omega
   refine X_rg fun R hR => ?_
   simp only [inr_i64, Int.reduceLE, Int.reduceNeg, aops, astep, awant, aeff, aop, abin, aint, ev, ofValue, St.put, zg1, zg0, zgd, zmo, if_true, zs1, zs0, and_self, nat_succ hbig]
   with_reducible refine hR _ ?_
   clear hR R
   show ∃ m, m < _ ∧ _
   exact ⟨(rrT t).length - (i + 1), by omega, i + 1, rfl, rfl, by omega⟩
 ·intro b4
  have c4 := b4
  try simp only [decide_eq_false_iff_not] at c4
  refine X_exit ?_
  show X _ _ _ _
  refine X_seq ?_
  refine X_seq ?_
  refine X_rg fun R hR => ?_
  simp only [EVeP, inr_i64, Int.reduceLE, Int.reduceNeg, aops, astep, awant, aeff, aop, ev, ofValue, St.put, zg1, zg0, zgd, zmo, if_true, zs1, zs0, zlm, and_self, und_string, b4]
  with_reducible refine hR _ ?_
  clear hR R
  show X _ _ _ _
  refine X_block ?_
  refine X_loop (fun m σ => ∃ (i : Nat), σ = ⟨[slotOf σ 0, .ptr 0 0, slotOf σ 2, .slice .imm (if ((rrT t).map dS).isEmpty = true then 0 else 1) ((rrT t).map dS), .slice .imm (if ((wrT t).map dS).isEmpty = true then 0 else 1) ((wrT t).map dS), slotOf σ 5, slotOf σ 6, slotOf σ 7, slotOf σ 8, slotOf σ 9, slotOf σ 10, slotOf σ 11, slotOf σ 12, slotOf σ 13, slotOf σ 14, slotOf σ 15, slotOf σ 16, slotOf σ 17, slotOf σ 18, slotOf σ 19, slotOf σ 20, slotOf σ 21, slotOf σ 22, slotOf σ 23, slotOf σ 24, slotOf σ 25, slotOf σ 26, slotOf σ 27, slotOf σ 28, slotOf σ 29, slotOf σ 30, slotOf σ 31, slotOf σ 32, slotOf σ 33, slotOf σ 34, slotOf σ 35, slotOf σ 36, slotOf σ 37, slotOf σ 38, slotOf σ 39, slotOf σ 40, slotOf σ 41, slotOf σ 42, slotOf σ 43, slotOf σ 44, .slice .imm (if ((wrT t).map dS).isEmpty = true then 0 else 1) ((wrT t).map dS), .int .i64 (wrT t).length, .int .i64 i, slotOf σ 48, slotOf σ 49, slotOf σ 50, slotOf σ 51, slotOf σ 52, slotOf σ 53, slotOf σ 54, slotOf σ 55, slotOf σ 56, slotOf σ 57, slotOf σ 58, slotOf σ 59, slotOf σ 60, slotOf σ 61, slotOf σ 62, slotOf σ 63, slotOf σ 64, slotOf σ 65, slotOf σ 66, slotOf σ 67, slotOf σ 68, slotOf σ 69, slotOf σ 70, slotOf σ 71, slotOf σ 72, slotOf σ 73, slotOf σ 74, slotOf σ 75, slotOf σ 76, slotOf σ 77, slotOf σ 78, slotOf σ 79, slotOf σ 80, slotOf σ 81, slotOf σ 82, slotOf σ 83, slotOf σ 84, slotOf σ 85, slotOf σ 86, slotOf σ 87, slotOf σ 88], [[.int .u8 t.kind, .int .i64 t.num, .str t.name, .slice .imm (if (t.kids.map dN).isEmpty = true then 0 else 4) (t.kids.map dN)]], 0, []⟩ ∧ m = (wrT t).length - i ∧ i ≤ (wrT t).length) ?_ ((wrT t).length) _ ?_
  rotate_left
  ·exact ⟨0, rfl, rfl, Nat.zero_le _⟩
  rintro m σ ⟨i, hσ, rfl, hi⟩
  generalize slotOf σ = x at hσ
  subst hσ
  refine X_seq ?_
  refine X_rg fun R hR => ?_
  simp only [nat_lt, aops, astep, awant, aeff, aop, abin, aint, ev, St.put, zg1, zg0, zgd, zmo, if_true, zs1, zs0]
  with_reducible refine hR _ ?_
  clear hR R
  show X _ _ _ _
  refine X_seq ?_
  refine X_ite (by simp only [ev, zg1, zg0, zgd]; exact rfl) ?_ ?_
  ·intro b5
   have c5 := b5
   try simp only [decide_eq_true_eq] at c5
   refine X_skip ?_
   show X _ _ _ _
   refine X_seq ?_
   refine X_block ?_
   refine X_seq ?_
   have hlw : i < (wrT t).length := by first | assumption | omega | simp_all
   have hlwn := idx_n (f := dS) (n := 1) (l := (wrT t)) (i := i) hlw
   have hlwe : ((wrT t).map dS)[i]? = some (.str (wrT t)[i]) := by rw [List.getElem?_map, List.getElem?_eq_getElem hlw]; rfl
   refine X_rg fun R hR => ?_
   simp only [EVeP, nat_lt, nat_0, nat_to, aops, astep, awant, aeff, aop, ev, St.put, ia_str, cl_str, zg1, zg0, zgd, zmo, if_true, zs1, zs0, zlm, zlc, zln, Nat.zero_add, and_self, decide_true, zis, ty_string, und_string, siz_string, inf_string_eq, hlw, hlwn, hlwe]
   with_reducible refine hR _ ?_
   clear hR R
   show X _ _ _ _
   refine X_seq ?_
   have hin : fn EVe _ _ = _ := fn_more (in_fn (rrT t) (wrT t)[i] (by omega))
   rw [decide_eq_true (wr_in_rr (List.getElem_mem hlw))] at hin
   simp only [sl] at hin
   refine X_y ?_
   refine Y_k 3 fun R hR => ?_
   simp only [EVeP, inr_i64, Int.reduceLE, Int.reduceNeg, aops, astep, awant, aeff, aop, abin, aint, ev, ofValue, St.put, zg1, zg0, zgd, zmo, if_true, zs1, zs0, zt1, zt0, and_self]
   with_reducible refine hR _ ?_
   clear hR R
   simp only [zd1, zd0]
   refine Y_if 54 (by simp only [ev, zg1, zg0, zgd]; exact rfl) ?_ ?_
   ·intro b6
    have c6 := b6
    try simp only [decide_eq_true_eq, gt_iff_lt] at c6
    have hpos : 0 < i := by first | omega | (simp_all; omega)
    have hlt : i < (wrT t).length := by first | assumption | omega | simp_all
    have hl1 : i - 1 < (wrT t).length := by omega
    have hsb := sub1 hpos (by omega)
    have hge := asc_at ha2 hpos hlt
    have hltn := idx_n (f := dS) (n := 1) (l := (wrT t)) (i := i) hlt
    have hlte : ((wrT t).map dS)[i]? = some (.str (wrT t)[i]) := by rw [List.getElem?_map, List.getElem?_eq_getElem hlt]; rfl
    have hl1n := idx_n (f := dS) (n := 1) (l := (wrT t)) (i := (i - 1)) hl1
    have hl1e : ((wrT t).map dS)[(i - 1)]? = some (.str (wrT t)[(i - 1)]) := by rw [List.getElem?_map, List.getElem?_eq_getElem hl1]; rfl
    refine Y_k 9 fun R hR => ?_
    simp only [EVeP, inr_i64, Int.reduceLE, Int.reduceNeg, nat_lt, nat_0, nat_to, aops, astep, awant, aeff, aop, abin, aint, astr, ev, ofValue, St.put, ia_str, cl_str, zg1, zg0, zgd, zmo, zbs, if_true, zs1, zs0, zlm, zlc, zln, zt1, zt0, Nat.zero_add, Bool.not_true, and_self, beq_self_eq_true, zis, ty_string, und_string, siz_string, inf_string_eq, b6, hltn, hl1, hl1e, hsb, hge]
    with_reducible refine hR _ ?_
    clear hR R
    simp only [zd1, zd0]
    refine Y_if 63 (by simp only [ev, zg1, zg0, zgd]; exact rfl) ?_ ?_
    ·intro b7
     have c7 := b7
     try simp only [znt, znf, decide_eq_true_eq, decide_eq_false_iff_not, beq_iff_eq, Int.not_lt, Int.not_le, ge_iff_le, gt_iff_lt, bne_iff_ne, ne_eq, bne_eq_false_iff_eq, beq_eq_false_iff_ne, zat, zof] at c7
     refine Y_end fun R hR => ?_
     simp only [EVeP, aops, astep, awant, aeff, aop, ev, ofValue, St.put, pcall, zmc, zmn, zg1, zg0, zgd, zmo, zbs, if_true, zs1, zs0, zca, zna, Bool.not_true, beq_self_eq_true, any22, b7, hin]
     with_reducible refine hR _ ?_
     clear hR R
     show X _ _ _ _
     refine X_false (by simp only [ev, zg1, zg0, zgd, b7]) ?_
     refine X_skip ?_
     show X _ _ _ _
     have hbig : i < 9223372036854775807 := by omega
     refine X_rg fun R hR => ?_
     simp only [inr_i64, Int.reduceLE, Int.reduceNeg, aops, astep, awant, aeff, aop, abin, aint, ev, ofValue, St.put, zg1, zg0, zgd, zmo, if_true, zs1, zs0, and_self, nat_succ hbig]
     with_reducible refine hR _ ?_
     clear hR R
     show ∃ m, m < _ ∧ _
     exact ⟨(wrT t).length - (i + 1), by omega, i + 1, rfl, rfl, by omega⟩
    ·intro b8
     have c8 := b8
     try simp only [] at c8
     refine Y_end fun R hR => ?_
     simp only [EVeP, aops, astep, awant, aeff, aop, ev, ofValue, St.put, pcall, zmc, zmn, zg1, zg0, zgd, zmo, zbs, if_true, zs1, zs0, zca, zna, Bool.not_true, zft, if_false, beq_self_eq_true, any22, hin]
     with_reducible refine hR _ ?_
     clear hR R
     show X _ _ _ _
     refine X_false (by simp only [ev, zg1, zg0, zgd]) ?_
     refine X_skip ?_
     show X _ _ _ _
     have hbig : i < 9223372036854775807 := by omega
     refine X_rg fun R hR => ?_
     simp only [inr_i64, Int.reduceLE, Int.reduceNeg, aops, astep, awant, aeff, aop, abin, aint, ev, ofValue, St.put, zg1, zg0, zgd, zmo, if_true, zs1, zs0, and_self, nat_succ hbig]
     with_reducible refine hR _ ?_
     clear hR R
     show ∃ m, m < _ ∧ _
     exact ⟨(wrT t).length - (i + 1), by omega, i + 1, rfl, rfl, by omega⟩
   ·intro b9
    have c9 := b9
    try simp only [decide_eq_false_iff_not, Int.not_lt, gt_iff_lt] at c9
    refine Y_end fun R hR => ?_
    simp only [EVeP, inr_i64, Int.reduceLE, Int.reduceNeg, aops, astep, awant, aeff, aop, abin, ev, ofValue, St.put, pcall, zmc, zmn, zg1, zg0, zgd, zmo, Option.map_none, zbs, if_true, zs1, zs0, zca, zna, Bool.not_true, zft, if_false, and_self, beq_self_eq_true, bq_ft, ty_string, und_string, any22, b9, hin]
    with_reducible refine hR _ ?_
    clear hR R
    show X _ _ _ _
    refine X_false (by simp only [ev, zg1, zg0, zgd]) ?_
    refine X_skip ?_
    show X _ _ _ _
    have hbig : i < 9223372036854775807 := by omega
    refine X_rg fun R hR => ?_
    simp only [inr_i64, Int.reduceLE, Int.reduceNeg, aops, astep, awant, aeff, aop, abin, aint, ev, ofValue, St.put, zg1, zg0, zgd, zmo, if_true, zs1, zs0, and_self, nat_succ hbig]
    with_reducible refine hR _ ?_
    clear hR R
    show ∃ m, m < _ ∧ _
    exact ⟨(wrT t).length - (i + 1), by omega, i + 1, rfl, rfl, by omega⟩
  ·intro b10
   have c10 := b10
   try simp only [decide_eq_false_iff_not] at c10
   refine X_exit ?_
   show X _ _ _ _
   refine X_seq ?_
   refine X_rg fun R hR => ?_
   simp only [EVeP, aops, astep, awant, aeff, astore, ev, St.put, gd_mref, cl_mref, zg1, zg0, zgd, zmo, zbs, if_true, zs1, zs0, zlc, zln, zd1, zd0, zt0, zca, zna, Nat.reduceAdd, Nat.reduceLeDiff, Nat.zero_add, and_self, Option.isNone_none, b10, ty_msb]
   with_reducible refine hR _ ?_
   clear hR R
   show X _ _ _ _
   refine X_seq ?_
   refine X_seq ?_
   have hWk : fn EVe _ _ = _ := fn_more (o_ast_Walk t (by omega))
   refine X_rg fun R hR => ?_
   simp only [EVeP, aops, astep, awant, aeff, aop, mkD, ev, St.put, pcall, zmc, zmn, zg1, zg0, zgd, zmo, if_true, zs1, zs0, zlc, zln, zd0, zt1, zt0, zca, zna, Nat.reduceAdd, Nat.reduceLeDiff, Nat.zero_add, ty_api_Node, any23, dN_agg, hWk]
   with_reducible refine hR _ ?_
   clear hR R
   show X _ _ _ _
   refine X_block ?_
   refine X_range (L := walkD t) (by simp only [ev, zg1, zg0, zgd]) ?_
   refine XR_inv (fun L σ => ∃ (fr : List D) (r : List (List D)) (W : List (List Int × Tr)) (A : List ByteArray), σ = ⟨fr, [.int .u8 t.kind, .int .i64 t.num, .str t.name, .slice .imm (if (t.kids.map dN).isEmpty = true then 0 else 4) (t.kids.map dN)] :: sD A :: [.mref 1] :: r, 0, []⟩ ∧ L = W.map (fun x : List Int × Tr => [sl 1 (x.1.map dI), dN x.2]) ∧ Hid (addAll [] (walkL [] t) = addAll A W) ∧ A.length + W.length ≤ 300) ?_ ?_ _ _ ?_
   rotate_right
   ·refine ⟨_, [], walkL [] t, [], rfl, rfl, Lib.hid rfl, by rw [walkL_len]; simpa using hz⟩
   ·rintro σ ⟨fr, r, W, A, rfl, hL, hF, hk⟩
    have hW0 : W = [] := by cases W with | nil => rfl | cons a b => cases hL
    subst hW0
    have hall : ∀ x ∈ rrT t, x ∈ A := fun x hx => by have h := rr_in_walk hx; rw [hF.out] at h; exact h
    show X _ _ _ _
    refine X_seq ?_
    refine X_seq ?_
    refine X_rg fun R hR => ?_
    simp only [EVeP, inr_i64, Int.reduceLE, Int.reduceNeg, aops, astep, awant, aeff, aop, ev, ofValue, St.put, zg1, zg0, zgd, zmo, if_true, zs1, zs0, zlm, and_self, und_string]
    with_reducible refine hR _ ?_
    clear hR R
    show X _ _ _ _
    refine X_block ?_
    refine X_loop (fun m σ => ∃ (i : Nat), σ = ⟨[slotOf σ 0, .ptr 0 0, slotOf σ 2, .slice .imm (if ((rrT t).map dS).isEmpty = true then 0 else 1) ((rrT t).map dS), .slice .imm (if ((wrT t).map dS).isEmpty = true then 0 else 1) ((wrT t).map dS), slotOf σ 5, slotOf σ 6, slotOf σ 7, .ptr 2 0, slotOf σ 9, slotOf σ 10, slotOf σ 11, slotOf σ 12, slotOf σ 13, slotOf σ 14, slotOf σ 15, slotOf σ 16, slotOf σ 17, slotOf σ 18, slotOf σ 19, slotOf σ 20, slotOf σ 21, slotOf σ 22, slotOf σ 23, slotOf σ 24, slotOf σ 25, slotOf σ 26, slotOf σ 27, slotOf σ 28, slotOf σ 29, slotOf σ 30, slotOf σ 31, slotOf σ 32, slotOf σ 33, slotOf σ 34, slotOf σ 35, slotOf σ 36, slotOf σ 37, slotOf σ 38, slotOf σ 39, slotOf σ 40, slotOf σ 41, slotOf σ 42, slotOf σ 43, slotOf σ 44, slotOf σ 45, slotOf σ 46, slotOf σ 47, slotOf σ 48, slotOf σ 49, slotOf σ 50, slotOf σ 51, slotOf σ 52, slotOf σ 53, slotOf σ 54, slotOf σ 55, slotOf σ 56, slotOf σ 57, slotOf σ 58, slotOf σ 59, slotOf σ 60, slotOf σ 61, slotOf σ 62, slotOf σ 63, slotOf σ 64, slotOf σ 65, slotOf σ 66, slotOf σ 67, slotOf σ 68, slotOf σ 69, slotOf σ 70, slotOf σ 71, slotOf σ 72, slotOf σ 73, slotOf σ 74, slotOf σ 75, slotOf σ 76, slotOf σ 77, .slice .imm (if ((rrT t).map dS).isEmpty = true then 0 else 1) ((rrT t).map dS), .int .i64 (rrT t).length, .int .i64 i, slotOf σ 81, slotOf σ 82, slotOf σ 83, slotOf σ 84, slotOf σ 85, slotOf σ 86, slotOf σ 87, slotOf σ 88], [.int .u8 t.kind, .int .i64 t.num, .str t.name, .slice .imm (if (t.kids.map dN).isEmpty = true then 0 else 4) (t.kids.map dN)] :: sD A :: [.mref 1] :: r, 0, []⟩ ∧ m = (rrT t).length - i ∧ i ≤ (rrT t).length) ?_ ((rrT t).length) _ ?_
    rotate_left
    ·exact ⟨0, rfl, rfl, Nat.zero_le _⟩
    rintro m σ ⟨i, hσ, rfl, hi⟩
    generalize slotOf σ = x at hσ
    subst hσ
    refine X_seq ?_
    refine X_rg fun R hR => ?_
    simp only [nat_lt, aops, astep, awant, aeff, aop, abin, aint, ev, St.put, zg1, zg0, zgd, zmo, if_true, zs1, zs0]
    with_reducible refine hR _ ?_
    clear hR R
    show X _ _ _ _
    refine X_seq ?_
    refine X_ite (by simp only [ev, zg1, zg0, zgd]; exact rfl) ?_ ?_
    ·intro b11
     have c11 := b11
     try simp only [decide_eq_true_eq] at c11
     refine X_skip ?_
     show X _ _ _ _
     refine X_seq ?_
     refine X_block ?_
     refine X_seq ?_
     have hlr : i < (rrT t).length := by first | assumption | omega | simp_all
     have hlrn := idx_n (f := dS) (n := 1) (l := (rrT t)) (i := i) hlr
     have hlre : ((rrT t).map dS)[i]? = some (.str (rrT t)[i]) := by rw [List.getElem?_map, List.getElem?_eq_getElem hlr]; rfl
     refine X_rg fun R hR => ?_
     simp only [EVeP, nat_lt, nat_0, nat_to, aops, astep, awant, aeff, aop, ev, St.put, ia_str, cl_str, zg1, zg0, zgd, zmo, if_true, zs1, zs0, zlm, zlc, zln, Nat.zero_add, and_self, decide_true, zis, ty_string, und_string, siz_string, inf_string_eq, hlr, hlrn, hlre]
     with_reducible refine hR _ ?_
     clear hR R
     show X _ _ _ _
     refine X_seq ?_
     have hlk := look_yes (i := 1) (hall _ (List.getElem_mem hlr))
     refine X_rg fun R hR => ?_
     simp only [EVeP, aops, astep, awant, aeff, aop, mkD, ev, St.put, ia_mref, zg1, zg0, zgd, zmo, if_true, zs1, zs0, zlc, zln, zd0, zt1, zt0, Nat.reduceLeDiff, Nat.zero_add, Bool.not_true, zft, if_false, hlk, ty_msb]
     with_reducible refine hR _ ?_
     clear hR R
     show X _ _ _ _
     refine X_false (by simp only [ev, zg1, zg0, zgd]) ?_
     refine X_skip ?_
     show X _ _ _ _
     have hbig : i < 9223372036854775807 := by omega
     refine X_rg fun R hR => ?_
     simp only [inr_i64, Int.reduceLE, Int.reduceNeg, aops, astep, awant, aeff, aop, abin, aint, ev, ofValue, St.put, zg1, zg0, zgd, zmo, if_true, zs1, zs0, and_self, nat_succ hbig]
     with_reducible refine hR _ ?_
     clear hR R
     show ∃ m, m < _ ∧ _
     exact ⟨(rrT t).length - (i + 1), by omega, i + 1, rfl, rfl, by omega⟩
    ·intro b12
     have c12 := b12
     try simp only [decide_eq_false_iff_not] at c12
     refine X_exit ?_
     show X _ _ _ _
     refine X_seq ?_
     refine X_rg fun R hR => ?_
     simp only [aops, astep, awant, aeff, aop, ev, ofValue, St.put, zgd, zmo, if_true, zs1, zs0, b12]
     with_reducible refine hR _ ?_
     clear hR R
     show X _ _ _ _
     refine X_ret ?_
     show resD _ _ _ = some _
     simp only [resD, resAll, resOne, resTup, Try.results8, EVeP, zg1, zg0, D.good, if_true, zmo] <;> (first | (rfl; done) | (simp_all; done) | (exfalso; simp_all; done))
   ·rintro row L σ ⟨fr, r, W, A, rfl, hL, hF, hk⟩
    obtain ⟨x, W2, rfl⟩ : ∃ x W2, W = x :: W2 := by cases W with | nil => cases hL | cons a b => exact ⟨a, b, rfl⟩
    simp only [zmc, List.cons.injEq] at hL
    obtain ⟨rfl, rfl⟩ := hL
    obtain ⟨px, m⟩ := x
    have hAs := addS_len A m.name
    simp only [zlc] at hk
    refine ⟨by simp only [zlc, zln], ?_⟩
    simp only [setPs, zs1, zs0]
    refine X_rg fun R hR => ?_
    simp only [EVeP, app_get0, app_set0, aops, astep, awant, aeff, astore, ev, St.put, zg1, zg0, zgd, zmo, zbs, if_true, zs1, zs0, zlc, zln, zd1, zd0, zt0, zca, zna, Nat.reduceAdd, Nat.reduceLeDiff, Nat.zero_add, and_self, ty_api_Node, dN_cells, dN_good, sl]
    with_reducible refine hR _ ?_
    clear hR R
    refine ⟨rfl, ?_⟩
    refine X_block ?_
    have hsm := set_s 1 A m.name (by omega)
    refine X_rg fun R hR => ?_
    simp only [EVeP, app_get0, aops, astep, awant, aeff, aop, mkD, ev, ofValue, St.put, ia_str, ia_mref, zg1, zg0, zgd, zmo, if_true, zs1, zs0, zlc, zln, zd1, zd0, zt1, zt0, Nat.reduceAdd, Nat.reduceLeDiff, Nat.zero_add, zft, if_false, reduceCtorEq, ty_string, ty_api_Node, hsm, ty_msb]
    with_reducible refine hR _ ?_
    clear hR R
    skip
    exact ⟨_, _, W2, _, rfl, rfl, Lib.hid hF.out, by omega⟩
theorem lawEffectsSorted_fn (t : Tr) : fn EVe 8 [dN t] = some (.bool true) := by
 cases h : fewB t
 ·exact lawEffectsSorted_0 t h
 ·exact lawEffectsSorted_1 t h

end Go.Proofs.Ytkkhjpkkjpcbmaa
