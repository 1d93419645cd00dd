/- The law EffectsLocal: its walk. -/
import Derived.Test.YtkkhjpkkjpcbmaaE11
namespace Go.Proofs.Ytkkhjpkkjpcbmaa
open Go.RowKit

set_option maxRecDepth 100000 in
set_option maxHeartbeats 4000000 in
theorem lawEffectsLocal_000 (t u w : Tr) (s : ByteArray) (h1 : fewB t = false) : fn EVe 7 [dN t, dN u, dN w, .str s] = some (.bool true) := by
 refine fn_X rfl Try.func7 rfl (by simp only [plain, List.all_cons, List.all_nil, dN_under, dN_good, D.under, gd_str, Bool.and_self]) (rfl) (rfl) (rfl) ?_
 simp only [zmc, zmn, D.strip, dN_strip]
 simp only [enterSt, Try.ntmps7, zlc, zln, Nat.reduceAdd, Nat.reduceSub, zr1, zr0, zca, zna]
 refine X_seq ?_
 refine X_rg fun R hR => ?_
 simp only [aops, astep, awant, aeff, aop, ev, ofValue, St.put, zg1, zg0, zgd, zmo, if_true, zs1, zs0, zlc, zln, zca, zna, Nat.reduceAdd, Nat.zero_add, dN_cells, dN_good, sl]
 with_reducible refine hR _ ?_
 clear hR R
 show X _ _ _ _
 refine X_seq ?_
 refine X_seq ?_
 have w1 := few_e t
 rw [h1] at w1
 refine X_rg fun R hR => ?_
 simp only [EVeP, aops, astep, awant, aeff, aop, mkD, ev, ofValue, St.put, pcall, zmc, zmn, zg1, zg0, zgd, zmo, Option.map_none, zbs, if_true, zs1, zs0, zlc, zln, zd0, zt1, zt0, zca, zna, Nat.reduceAdd, Nat.reduceLeDiff, Nat.zero_add, Bool.not_true, Bool.not_false, zft, if_false, beq_self_eq_true, bq_tf, ty_api_Node, any11, any12, dN_agg, awake_e, w1]
 with_reducible refine hR _ ?_
 clear hR R
 show X _ _ _ _
 refine X_true (by simp only [ev, zg1, zg0, zgd]) ?_
 refine X_seq ?_
 refine X_rg fun R hR => ?_
 simp only [EVeP, aops, astep, awant, aeff, aop, ev, St.put, pcall, zmn, zg1, zg0, zgd, zmo, if_true, zs1, zs0, zna, any11, awake_e]
 with_reducible refine hR _ ?_
 clear hR R
 show X _ _ _ _
 refine X_ret ?_
 show resD _ _ _ = some _
 simp only [resD, resAll, resOne, resTup, Try.results7, EVeP, zg1, zg0, D.good, if_true, zmo] <;> (first | (rfl; done) | (simp_all; done) | (exfalso; simp_all; done))
set_option maxRecDepth 100000 in
set_option maxHeartbeats 4000000 in
theorem lawEffectsLocal_100 (t u w : Tr) (s : ByteArray) (h1 : fewB t = true) (h2 : fewB u = false) : fn EVe 7 [dN t, dN u, dN w, .str s] = some (.bool true) := by
 refine fn_X rfl Try.func7 rfl (by simp only [plain, List.all_cons, List.all_nil, dN_under, dN_good, D.under, gd_str, Bool.and_self]) (rfl) (rfl) (rfl) ?_
 simp only [zmc, zmn, D.strip, dN_strip]
 simp only [enterSt, Try.ntmps7, zlc, zln, Nat.reduceAdd, Nat.reduceSub, zr1, zr0, zca, zna]
 refine X_seq ?_
 refine X_rg fun R hR => ?_
 simp only [aops, astep, awant, aeff, aop, ev, ofValue, St.put, zg1, zg0, zgd, zmo, if_true, zs1, zs0, zlc, zln, zca, zna, Nat.reduceAdd, Nat.zero_add, dN_cells, dN_good, sl]
 with_reducible refine hR _ ?_
 clear hR R
 show X _ _ _ _
 refine X_seq ?_
 refine X_seq ?_
 have w1 := few_e t
 rw [h1] at w1
 have w2 := few_e u
 rw [h2] at w2
 refine X_rg fun R hR => ?_
 simp only [EVeP, aops, astep, awant, aeff, aop, mkD, ev, ofValue, St.put, pcall, zmc, zmn, zg1, zg0, zgd, zmo, Option.map_none, zbs, if_true, zs1, zs0, zlc, zln, zd0, zt1, zt0, zca, zna, Nat.reduceAdd, Nat.reduceLeDiff, Nat.zero_add, Bool.not_true, Bool.not_false, zft, if_false, beq_self_eq_true, bq_tf, ty_api_Node, any11, any12, dN_agg, awake_e, w1, w2]
 with_reducible refine hR _ ?_
 clear hR R
 show X _ _ _ _
 refine X_true (by simp only [ev, zg1, zg0, zgd]) ?_
 refine X_seq ?_
 refine X_rg fun R hR => ?_
 simp only [EVeP, aops, astep, awant, aeff, aop, ev, St.put, pcall, zmn, zg1, zg0, zgd, zmo, if_true, zs1, zs0, zna, any11, awake_e]
 with_reducible refine hR _ ?_
 clear hR R
 show X _ _ _ _
 refine X_ret ?_
 show resD _ _ _ = some _
 simp only [resD, resAll, resOne, resTup, Try.results7, EVeP, zg1, zg0, D.good, if_true, zmo] <;> (first | (rfl; done) | (simp_all; done) | (exfalso; simp_all; done))
set_option maxRecDepth 100000 in
set_option maxHeartbeats 4000000 in
theorem lawEffectsLocal_110 (t u w : Tr) (s : ByteArray) (h1 : fewB t = true) (h2 : fewB u = true) (h3 : fewB w = false) : fn EVe 7 [dN t, dN u, dN w, .str s] = some (.bool true) := by
 refine fn_X rfl Try.func7 rfl (by simp only [plain, List.all_cons, List.all_nil, dN_under, dN_good, D.under, gd_str, Bool.and_self]) (rfl) (rfl) (rfl) ?_
 simp only [zmc, zmn, D.strip, dN_strip]
 simp only [enterSt, Try.ntmps7, zlc, zln, Nat.reduceAdd, Nat.reduceSub, zr1, zr0, zca, zna]
 refine X_seq ?_
 refine X_rg fun R hR => ?_
 simp only [aops, astep, awant, aeff, aop, ev, ofValue, St.put, zg1, zg0, zgd, zmo, if_true, zs1, zs0, zlc, zln, zca, zna, Nat.reduceAdd, Nat.zero_add, dN_cells, dN_good, sl]
 with_reducible refine hR _ ?_
 clear hR R
 show X _ _ _ _
 refine X_seq ?_
 refine X_seq ?_
 have w1 := few_e t
 rw [h1] at w1
 have w2 := few_e u
 rw [h2] at w2
 have w3 := few_e w
 rw [h3] at w3
 refine X_rg fun R hR => ?_
 simp only [EVeP, aops, astep, awant, aeff, aop, mkD, ev, ofValue, St.put, pcall, zmc, zmn, zg1, zg0, zgd, zmo, zbs, if_true, zs1, zs0, zlc, zln, zd0, zt1, zt0, zca, zna, Nat.reduceAdd, Nat.reduceLeDiff, Nat.zero_add, Bool.not_true, Bool.not_false, zft, if_false, beq_self_eq_true, ty_api_Node, any11, any12, dN_agg, awake_e, w1, w2, w3]
 with_reducible refine hR _ ?_
 clear hR R
 show X _ _ _ _
 refine X_true (by simp only [ev, zg1, zg0, zgd]) ?_
 refine X_seq ?_
 refine X_rg fun R hR => ?_
 simp only [EVeP, aops, astep, awant, aeff, aop, ev, St.put, pcall, zmn, zg1, zg0, zgd, zmo, if_true, zs1, zs0, zna, any11, awake_e]
 with_reducible refine hR _ ?_
 clear hR R
 show X _ _ _ _
 refine X_ret ?_
 show resD _ _ _ = some _
 simp only [resD, resAll, resOne, resTup, Try.results7, EVeP, zg1, zg0, D.good, if_true, zmo] <;> (first | (rfl; done) | (simp_all; done) | (exfalso; simp_all; done))
set_option maxRecDepth 100000 in
set_option maxHeartbeats 4000000 in
theorem lawEffectsLocal_111 (t u w : Tr) (s : ByteArray) (h1 : fewB t = true) (h2 : fewB u = true) (h3 : fewB w = true) : fn EVe 7 [dN t, dN u, dN w, .str s] = some (.bool true) := by
 refine fn_X rfl Try.func7 rfl (by simp only [plain, List.all_cons, List.all_nil, dN_under, dN_good, D.under, gd_str, Bool.and_self]) (rfl) (rfl) (rfl) ?_
 simp only [zmc, zmn, D.strip, dN_strip]
 simp only [enterSt, Try.ntmps7, zlc, zln, Nat.reduceAdd, Nat.reduceSub, zr1, zr0, zca, zna]
 refine X_seq ?_
 refine X_rg fun R hR => ?_
 simp only [aops, astep, awant, aeff, aop, ev, ofValue, St.put, zg1, zg0, zgd, zmo, if_true, zs1, zs0, zlc, zln, zca, zna, Nat.reduceAdd, Nat.zero_add, dN_cells, dN_good, sl]
 with_reducible refine hR _ ?_
 clear hR R
 show X _ _ _ _
 refine X_seq ?_
 refine X_seq ?_
 have w1 := few_e t
 rw [h1] at w1
 have w2 := few_e u
 rw [h2] at w2
 have w3 := few_e w
 rw [h3] at w3
 refine X_rg fun R hR => ?_
 simp only [EVeP, aops, astep, awant, aeff, aop, mkD, ev, ofValue, St.put, pcall, zmc, zmn, zg1, zg0, zgd, zmo, zbs, if_true, zs1, zs0, zlc, zln, zd0, zt1, zt0, zca, zna, Nat.reduceAdd, Nat.reduceLeDiff, Nat.zero_add, Bool.not_true, zft, if_false, beq_self_eq_true, ty_api_Node, any11, any12, dN_agg, awake_e, w1, w2, w3]
 with_reducible refine hR _ ?_
 clear hR R
 show X _ _ _ _
 refine X_false (by simp only [ev, zg1, zg0, zgd]) ?_
 refine X_skip ?_
 show X _ _ _ _
 refine X_seq ?_
 have hz1 := few_sz h1
 have hz2 := few_sz h2
 have hz3 := few_sz h3
 have l1 := rrT_len t
 have l2 := rrT_len u
 have l3 := rrT_len w
 refine X_rg fun R hR => ?_
 simp only [EVeP, inr_u8, Int.reduceLE, aops, astep, awant, aeff, aop, mkD, afill, abuild, astore, ev, ofValue, St.put, gd_int, cl_int, gd_str, cl_str, gd_agg, cl_agg, gd_slice, cl_slice, zmc, zmn, zg1, zg0, zgd, zmo, zbs, if_true, zs1, zs0, zlc, zln, zd1, zd0, zt1, zt0, zca, zna, Nat.reduceAdd, Nat.reduceLeDiff, Nat.reduceLT, Nat.zero_add, Bool.and_true, and_self, List.all_cons, List.all_nil, beq_self_eq_true, Nat.reduceMul, rng_3, ty_api_Node, st_api_Node, sta_api_Node, und_api_Node, inf_api_Node_eq, inf_api_Node_size, inf_api_Node_zero, dN_agg, dN_cells, dN_good, sl]
 with_reducible refine hR _ ?_
 clear hR R
 show X _ _ _ _
 refine X_seq ?_
 refine X_rg fun R hR => ?_
 simp only [aops, astep, awant, aeff, aop, ev, St.put, zg1, zg0, zgd, zmo, if_true, zs1, zs0, zlc, zln, zca, zna, Nat.reduceAdd, Nat.zero_add, Option.isNone_none]
 with_reducible refine hR _ ?_
 clear hR R
 show X _ _ _ _
 refine X_seq ?_
 refine X_seq ?_
 have f1 := reads_e u (by omega)
 have f2 := reads_e w (by omega)
 simp only [sl] at f1 f2
 refine X_rg fun R hR => ?_
 simp only [EVeP, inr_i64, Int.reduceLE, Int.reduceNeg, aops, astep, awant, aeff, aop, mkD, abuild, ev, ofValue, St.put, pcall, gd_slice, cl_slice, zmc, zmn, zg1, zg0, zgd, zmo, if_true, zs1, zs0, zlc, zln, zd0, zt1, zt0, zca, zna, Nat.reduceAdd, Nat.reduceLeDiff, Nat.reduceLT, Nat.zero_add, Bool.and_true, and_self, List.all_cons, List.all_nil, beq_self_eq_true, Nat.reduceMul, rng_2, ty_api_Node, und_s_string, inf_s_string_eq, inf_s_string_size, inf_s_string_zero, any14, dN_agg, f1, f2]
 with_reducible refine hR _ ?_
 clear hR R
 show X _ _ _ _
 refine X_block ?_
 refine X_loop (fun m σ => ∃ (i : Nat) (A : List ByteArray), σ = ⟨[slotOf σ 0, slotOf σ 1, slotOf σ 2, .str s, .ptr 0 0, .ptr 1 0, .ptr 2 0, slotOf σ 7, slotOf σ 8, .ptr 3 0, .mref 4, slotOf σ 11, slotOf σ 12, slotOf σ 13, slotOf σ 14, slotOf σ 15, slotOf σ 16, slotOf σ 17, slotOf σ 18, slotOf σ 19, slotOf σ 20, slotOf σ 21, slotOf σ 22, slotOf σ 23, slotOf σ 24, slotOf σ 25, slotOf σ 26, slotOf σ 27, slotOf σ 28, slotOf σ 29, slotOf σ 30, slotOf σ 31, slotOf σ 32, slotOf σ 33, slotOf σ 34, slotOf σ 35, slotOf σ 36, slotOf σ 37, slotOf σ 38, slotOf σ 39, slotOf σ 40, slotOf σ 41, slotOf σ 42, slotOf σ 43, slotOf σ 44, slotOf σ 45, slotOf σ 46, slotOf σ 47, slotOf σ 48, slotOf σ 49, .slice (.own 1 28) 1 ((two u w).map (fun l : List ByteArray => D.slice .imm (if (l.map dS).isEmpty = true then 0 else 1) (l.map dS))), .int .i64 2, .int .i64 i, slotOf σ 53, slotOf σ 54, slotOf σ 55, slotOf σ 56, slotOf σ 57, slotOf σ 58, slotOf σ 59, slotOf σ 60, slotOf σ 61, slotOf σ 62, slotOf σ 63, slotOf σ 64, slotOf σ 65, slotOf σ 66, slotOf σ 67, slotOf σ 68, slotOf σ 69, slotOf σ 70, slotOf σ 71, slotOf σ 72, slotOf σ 73, slotOf σ 74, slotOf σ 75, slotOf σ 76, slotOf σ 77, slotOf σ 78, slotOf σ 79, slotOf σ 80, slotOf σ 81, slotOf σ 82, slotOf σ 83, slotOf σ 84, slotOf σ 85, slotOf σ 86, slotOf σ 87, slotOf σ 88, slotOf σ 89, slotOf σ 90, slotOf σ 91, slotOf σ 92, slotOf σ 93, slotOf σ 94, slotOf σ 95, slotOf σ 96, slotOf σ 97, slotOf σ 98, slotOf σ 99, slotOf σ 100, slotOf σ 101, slotOf σ 102, slotOf σ 103, slotOf σ 104, slotOf σ 105, slotOf σ 106, slotOf σ 107, slotOf σ 108, slotOf σ 109, slotOf σ 110, slotOf σ 111, slotOf σ 112, slotOf σ 113, slotOf σ 114], [.int .u8 t.kind, .int .i64 t.num, .str t.name, .slice .imm (if (t.kids.map dN).isEmpty = true then 0 else 4) (t.kids.map dN)] :: [.int .u8 u.kind, .int .i64 u.num, .str u.name, .slice .imm (if (u.kids.map dN).isEmpty = true then 0 else 4) (u.kids.map dN)] :: [.int .u8 w.kind, .int .i64 w.num, .str w.name, .slice .imm (if (w.kids.map dN).isEmpty = true then 0 else 4) (w.kids.map dN)] :: [.int .u8 54, .int .i64 0, .str s, .slice (.own 0 24) 4 [dN u, dN t, dN w]] :: sD A :: [], 2, [1, 0]⟩ ∧ m = 2 - i ∧ i ≤ 2 ∧ Hid (A = addL [] (((two u w).take i).flatten))) ?_ (2) _ ?_
 rotate_left
 ·exact ⟨0, [], rfl, rfl, Nat.zero_le _, Lib.hid rfl⟩
 rintro m σ ⟨i, A, hσ, rfl, hi, hA⟩
 generalize slotOf σ = x at hσ
 subst hσ
 refine X_seq ?_
 refine X_rg fun R hR => ?_
 simp only [aops, astep, awant, aeff, aop, abin, aint, ev, St.put, zg1, zg0, zgd, zmo, if_true, zs1, zs0]
 with_reducible refine hR _ ?_
 clear hR R
 show X _ _ _ _
 refine X_seq ?_
 refine X_ite (by simp only [ev, zg1, zg0, zgd]; exact rfl) ?_ ?_
 ·intro b1
  have c1 := b1
  try simp only [decide_eq_true_eq] at c1
  refine X_skip ?_
  show X _ _ _ _
  refine X_seq ?_
  refine X_block ?_
  refine X_seq ?_
  have hlt : i < 2 := by first | assumption | omega | simp_all
  have hlX : i < (two u w).length := hlt
  have e1 : ((two u w).map (fun l : List ByteArray => D.slice .imm (if (l.map dS).isEmpty = true then 0 else 1) (l.map dS)))[i]? = some (.slice .imm (if ((two u w)[i].map dS).isEmpty = true then 0 else 1) ((two u w)[i].map dS)) := by rw [List.getElem?_map, List.getElem?_eq_getElem hlX]; rfl
  have hXl : (two u w)[i].length ≤ 300 := by
   match i, hlt with
   | 0, _ => show (rrT u).length ≤ 300; omega
   | 1, _ => show (rrT w).length ≤ 300; omega
  refine X_rg fun R hR => ?_
  simp only [EVeP, nat_lt, nat_0, nat_to, aops, astep, awant, aeff, aop, ev, St.put, ia_slice, cl_slice, zg1, zg0, zgd, zmo, if_true, zs1, zs0, zlm, zlc, zln, Nat.zero_add, and_self, zis, ty_s_string, und_s_string, siz_s_string, inf_s_string_eq, b1, hlX, e1]
  with_reducible refine hR _ ?_
  clear hR R
  show X _ _ _ _
  refine X_seq ?_
  refine X_rg fun R hR => ?_
  simp only [EVeP, inr_i64, Int.reduceLE, Int.reduceNeg, aops, astep, awant, aeff, aop, ev, ofValue, St.put, zg1, zg0, zgd, zmo, if_true, zs1, zs0, zlm, and_self, und_string]
  with_reducible refine hR _ ?_
  clear hR R
  show X _ _ _ _
  refine X_block ?_
  refine X_loop (fun m σ => ∃ (j : Nat) (A : List ByteArray), σ = ⟨[slotOf σ 0, slotOf σ 1, slotOf σ 2, .str s, .ptr 0 0, .ptr 1 0, .ptr 2 0, slotOf σ 7, slotOf σ 8, .ptr 3 0, .mref 4, slotOf σ 11, .slice .imm (if ((two u w)[i].map dS).isEmpty = true then 0 else 1) ((two u w)[i].map dS), slotOf σ 13, slotOf σ 14, slotOf σ 15, slotOf σ 16, slotOf σ 17, slotOf σ 18, slotOf σ 19, slotOf σ 20, slotOf σ 21, slotOf σ 22, slotOf σ 23, slotOf σ 24, slotOf σ 25, slotOf σ 26, slotOf σ 27, slotOf σ 28, slotOf σ 29, slotOf σ 30, slotOf σ 31, slotOf σ 32, slotOf σ 33, slotOf σ 34, slotOf σ 35, slotOf σ 36, slotOf σ 37, slotOf σ 38, slotOf σ 39, slotOf σ 40, slotOf σ 41, slotOf σ 42, slotOf σ 43, slotOf σ 44, slotOf σ 45, slotOf σ 46, slotOf σ 47, slotOf σ 48, slotOf σ 49, .slice (.own 1 28) 1 ((two u w).map (fun l : List ByteArray => D.slice .imm (if (l.map dS).isEmpty = true then 0 else 1) (l.map dS))), .int .i64 2, .int .i64 i, slotOf σ 53, slotOf σ 54, slotOf σ 55, .slice .imm (if ((two u w)[i].map dS).isEmpty = true then 0 else 1) ((two u w)[i].map dS), .int .i64 (two u w)[i].length, .int .i64 j, slotOf σ 59, slotOf σ 60, slotOf σ 61, slotOf σ 62, slotOf σ 63, slotOf σ 64, slotOf σ 65, slotOf σ 66, slotOf σ 67, slotOf σ 68, slotOf σ 69, slotOf σ 70, slotOf σ 71, slotOf σ 72, slotOf σ 73, slotOf σ 74, slotOf σ 75, slotOf σ 76, slotOf σ 77, slotOf σ 78, slotOf σ 79, slotOf σ 80, slotOf σ 81, slotOf σ 82, slotOf σ 83, slotOf σ 84, slotOf σ 85, slotOf σ 86, slotOf σ 87, slotOf σ 88, slotOf σ 89, slotOf σ 90, slotOf σ 91, slotOf σ 92, slotOf σ 93, slotOf σ 94, slotOf σ 95, slotOf σ 96, slotOf σ 97, slotOf σ 98, slotOf σ 99, slotOf σ 100, slotOf σ 101, slotOf σ 102, slotOf σ 103, slotOf σ 104, slotOf σ 105, slotOf σ 106, slotOf σ 107, slotOf σ 108, slotOf σ 109, slotOf σ 110, slotOf σ 111, slotOf σ 112, slotOf σ 113, slotOf σ 114], [.int .u8 t.kind, .int .i64 t.num, .str t.name, .slice .imm (if (t.kids.map dN).isEmpty = true then 0 else 4) (t.kids.map dN)] :: [.int .u8 u.kind, .int .i64 u.num, .str u.name, .slice .imm (if (u.kids.map dN).isEmpty = true then 0 else 4) (u.kids.map dN)] :: [.int .u8 w.kind, .int .i64 w.num, .str w.name, .slice .imm (if (w.kids.map dN).isEmpty = true then 0 else 4) (w.kids.map dN)] :: [.int .u8 54, .int .i64 0, .str s, .slice (.own 0 24) 4 [dN u, dN t, dN w]] :: sD A :: [], 2, [1, 0]⟩ ∧ m = (two u w)[i].length - j ∧ j ≤ (two u w)[i].length ∧ Hid (A = addL (addL [] (((two u w).take i).flatten)) ((two u w)[i].take j))) ?_ ((two u w)[i].length) _ ?_
  rotate_left
  ·exact ⟨0, _, rfl, rfl, Nat.zero_le _, Lib.hid (by rw [hA.out]; rfl)⟩
  rintro m σ ⟨j, A, hσ, rfl, hj, hB⟩
  generalize slotOf σ = x at hσ
  subst hσ
  refine X_seq ?_
  refine X_rg fun R hR => ?_
  simp only [nat_lt, aops, astep, awant, aeff, aop, abin, aint, ev, St.put, zg1, zg0, zgd, zmo, if_true, zs1, zs0]
  with_reducible refine hR _ ?_
  clear hR R
  show X _ _ _ _
  refine X_seq ?_
  refine X_ite (by simp only [ev, zg1, zg0, zgd]; exact rfl) ?_ ?_
  ·intro b2
   have c2 := b2
   try simp only [decide_eq_true_eq] at c2
   refine X_skip ?_
   show X _ _ _ _
   refine X_seq ?_
   refine X_block ?_
   refine X_seq ?_
   have hlj : j < (two u w)[i].length := by first | assumption | omega | simp_all
   have hljn := idx_n (f := dS) (n := 1) (l := (two u w)[i]) (i := j) hlj
   have hlje : ((two u w)[i].map dS)[j]? = some (.str (two u w)[i][j]) := by rw [List.getElem?_map, List.getElem?_eq_getElem hlj]; rfl
   refine X_rg fun R hR => ?_
   simp only [EVeP, nat_lt, nat_0, nat_to, aops, astep, awant, aeff, aop, ev, St.put, ia_str, cl_str, zg1, zg0, zgd, zmo, if_true, zs1, zs0, zlm, zlc, zln, Nat.zero_add, and_self, decide_true, zis, ty_string, und_string, siz_string, inf_string_eq, hlj, hljn, hlje]
   with_reducible refine hR _ ?_
   clear hR R
   show X _ _ _ _
   have hAl : A.length ≤ 1000 := by
    have h1 := addL_len ((two u w)[i].take j) (addL [] (((two u w).take i).flatten))
    have h2 := addL_len (((two u w).take i).flatten) []
    rw [hB.out]
    have h3 : (((two u w).take i).flatten).length ≤ 300 := by
     match i, hlt with
     | 0, _ => simp
     | 1, _ => simp [two]; omega
    simp only [List.length_take, zln] at h1 h2 ⊢
    omega
   have hsm := set_s 4 A (two u w)[i][j] (by omega)
   refine X_rg fun R hR => ?_
   simp only [EVeP, aops, astep, awant, aeff, aop, ev, ofValue, St.put, zg1, zg0, zgd, zmo, if_true, zs1, zs0, hsm]
   with_reducible refine hR _ ?_
   clear hR R
   show X _ _ _ _
   have hbig : j < 9223372036854775807 := by omega
   refine X_rg fun R hR => ?_
   simp only [inr_i64, Int.reduceLE, Int.reduceNeg, aops, astep, awant, aeff, aop, abin, aint, ev, ofValue, St.put, zg1, zg0, zgd, zmo, if_true, zs1, zs0, and_self, nat_succ hbig]
   with_reducible refine hR _ ?_
   clear hR R
   show ∃ m, m < _ ∧ _
   exact ⟨(two u w)[i].length - (j + 1), by omega, j + 1, _, rfl, rfl, by omega, Lib.hid (by rw [hB.out]; exact addL_snoc _ _ _ hlj)⟩
  ·intro b3
   have c3 := b3
   try simp only [decide_eq_false_iff_not] at c3
   refine X_exit ?_
   show X _ _ _ _
   have hbig : i < 9223372036854775807 := by omega
   refine X_rg fun R hR => ?_
   simp only [inr_i64, Int.reduceLE, Int.reduceNeg, aops, astep, awant, aeff, aop, abin, aint, ev, ofValue, St.put, zg1, zg0, zgd, zmo, if_true, zs1, zs0, and_self, b3, nat_succ hbig]
   with_reducible refine hR _ ?_
   clear hR R
   show ∃ m, m < _ ∧ _
   have hT : (two u w)[i].take j = (two u w)[i] := List.take_of_length_le (by omega)
   exact ⟨2 - (i + 1), by omega, i + 1, A, rfl, rfl, by omega, Lib.hid (by rw [flat_snoc hlX, hB.out, hT, addL_app])⟩
 ·intro b4
  have c4 := b4
  try simp only [decide_eq_false_iff_not, Int.not_lt] at c4
  refine X_exit ?_
  show X _ _ _ _
  refine X_seq ?_
  refine X_seq ?_
  have hA2 : A = addL (addL [] ((two u w).flatten)) (others s ((rrT t).take 0)) := by
   have : i = 2 := by first | omega | (simp_all; omega)
   subst this
   exact hA.out
  have f1 := reads_e t (by omega)
  simp only [sl] at f1
  refine X_rg fun R hR => ?_
  simp only [EVeP, inr_i64, Int.reduceLE, Int.reduceNeg, aops, astep, awant, aeff, aop, mkD, ev, ofValue, St.put, pcall, zmc, zmn, zg1, zg0, zgd, zmo, if_true, zs1, zs0, zlm, zlc, zln, zd0, zt1, zt0, zca, zna, Nat.reduceAdd, Nat.reduceLeDiff, Nat.zero_add, and_self, ty_api_Node, und_string, any14, dN_agg, b4, f1]
  with_reducible refine hR _ ?_
  clear hR R
  show X _ _ _ _
  refine X_block ?_
  refine X_loop (fun m σ => ∃ (j : Nat) (A : List ByteArray), σ = ⟨[slotOf σ 0, slotOf σ 1, slotOf σ 2, .str s, .ptr 0 0, .ptr 1 0, .ptr 2 0, slotOf σ 7, slotOf σ 8, .ptr 3 0, .mref 4, slotOf σ 11, slotOf σ 12, slotOf σ 13, slotOf σ 14, slotOf σ 15, slotOf σ 16, slotOf σ 17, slotOf σ 18, slotOf σ 19, slotOf σ 20, slotOf σ 21, slotOf σ 22, slotOf σ 23, slotOf σ 24, slotOf σ 25, slotOf σ 26, slotOf σ 27, slotOf σ 28, slotOf σ 29, slotOf σ 30, slotOf σ 31, slotOf σ 32, slotOf σ 33, slotOf σ 34, slotOf σ 35, slotOf σ 36, slotOf σ 37, slotOf σ 38, slotOf σ 39, slotOf σ 40, slotOf σ 41, slotOf σ 42, slotOf σ 43, slotOf σ 44, slotOf σ 45, slotOf σ 46, slotOf σ 47, slotOf σ 48, slotOf σ 49, slotOf σ 50, slotOf σ 51, slotOf σ 52, slotOf σ 53, slotOf σ 54, slotOf σ 55, slotOf σ 56, slotOf σ 57, slotOf σ 58, slotOf σ 59, slotOf σ 60, slotOf σ 61, slotOf σ 62, slotOf σ 63, slotOf σ 64, slotOf σ 65, slotOf σ 66, .slice .imm (if ((rrT t).map dS).isEmpty = true then 0 else 1) ((rrT t).map dS), .int .i64 (rrT t).length, .int .i64 j, slotOf σ 70, slotOf σ 71, slotOf σ 72, slotOf σ 73, slotOf σ 74, slotOf σ 75, slotOf σ 76, slotOf σ 77, slotOf σ 78, slotOf σ 79, slotOf σ 80, slotOf σ 81, slotOf σ 82, slotOf σ 83, slotOf σ 84, slotOf σ 85, slotOf σ 86, slotOf σ 87, slotOf σ 88, slotOf σ 89, slotOf σ 90, slotOf σ 91, slotOf σ 92, slotOf σ 93, slotOf σ 94, slotOf σ 95, slotOf σ 96, slotOf σ 97, slotOf σ 98, slotOf σ 99, slotOf σ 100, slotOf σ 101, slotOf σ 102, slotOf σ 103, slotOf σ 104, slotOf σ 105, slotOf σ 106, slotOf σ 107, slotOf σ 108, slotOf σ 109, slotOf σ 110, slotOf σ 111, slotOf σ 112, slotOf σ 113, slotOf σ 114], [.int .u8 t.kind, .int .i64 t.num, .str t.name, .slice .imm (if (t.kids.map dN).isEmpty = true then 0 else 4) (t.kids.map dN)] :: [.int .u8 u.kind, .int .i64 u.num, .str u.name, .slice .imm (if (u.kids.map dN).isEmpty = true then 0 else 4) (u.kids.map dN)] :: [.int .u8 w.kind, .int .i64 w.num, .str w.name, .slice .imm (if (w.kids.map dN).isEmpty = true then 0 else 4) (w.kids.map dN)] :: [.int .u8 54, .int .i64 0, .str s, .slice (.own 0 24) 4 [dN u, dN t, dN w]] :: sD A :: [], 2, [1, 0]⟩ ∧ m = (rrT t).length - j ∧ j ≤ (rrT t).length ∧ Hid (A = addL (addL [] ((two u w).flatten)) (others s ((rrT t).take j)))) ?_ ((rrT t).length) _ ?_
  rotate_left
  ·exact ⟨0, _, rfl, rfl, Nat.zero_le _, Lib.hid hA2⟩
  rintro m σ ⟨j, A, hσ, rfl, hj, hB⟩
  generalize slotOf σ = x at hσ
  subst hσ
  refine X_seq ?_
  refine X_rg fun R hR => ?_
  simp only [nat_lt, aops, astep, awant, aeff, aop, abin, aint, ev, St.put, zg1, zg0, zgd, zmo, if_true, zs1, zs0]
  with_reducible refine hR _ ?_
  clear hR R
  show X _ _ _ _
  refine X_seq ?_
  refine X_ite (by simp only [ev, zg1, zg0, zgd]; exact rfl) ?_ ?_
  ·intro b5
   have c5 := b5
   try simp only [decide_eq_true_eq] at c5
   refine X_skip ?_
   show X _ _ _ _
   refine X_seq ?_
   refine X_block ?_
   refine X_seq ?_
   have hlj : j < (rrT t).length := by first | assumption | omega | simp_all
   have hljn := idx_n (f := dS) (n := 1) (l := (rrT t)) (i := j) hlj
   have hlje : ((rrT t).map dS)[j]? = some (.str (rrT t)[j]) := by rw [List.getElem?_map, List.getElem?_eq_getElem hlj]; rfl
   refine X_rg fun R hR => ?_
   simp only [EVeP, nat_lt, nat_0, nat_to, aops, astep, awant, aeff, aop, ev, St.put, ia_str, cl_str, zg1, zg0, zgd, zmo, if_true, zs1, zs0, zlm, zlc, zln, Nat.zero_add, and_self, decide_true, zis, ty_string, und_string, siz_string, inf_string_eq, hlj, hljn, hlje]
   with_reducible refine hR _ ?_
   clear hR R
   show X _ _ _ _
   refine X_seq ?_
   refine X_rg fun R hR => ?_
   simp only [aops, astep, awant, aeff, aop, abin, astr, ev, St.put, zg1, zg0, zgd, zmo, if_true, zs1, zs0]
   with_reducible refine hR _ ?_
   clear hR R
   show X _ _ _ _
   refine X_ite (by simp only [ev, zg1, zg0, zgd]; exact rfl) ?_ ?_
   ·intro b6
    have c6 := b6
    try simp only [znt, ne_eq, beq_eq_false_iff_ne] at c6
    have hAl : A.length ≤ 1000 := by
     have h1 := addL_len (others s ((rrT t).take j)) (addL [] ((two u w).flatten))
     have h2 := addL_len ((two u w).flatten) []
     have h3 : ((two u w).flatten).length ≤ 600 := by simp [two]; omega
     have h4 : (others s ((rrT t).take j)).length ≤ 300 := by have := List.length_filter_le (fun x : ByteArray => !(x.toList == s.toList)) ((rrT t).take j); unfold others; simp only [List.length_take] at this; omega
     rw [hB.out]
     simp only [zln] at h2
     omega
    have hsm := set_s 4 A (rrT t)[j] (by omega)
    refine X_rg fun R hR => ?_
    simp only [EVeP, aops, astep, awant, aeff, aop, ev, ofValue, St.put, zg1, zg0, zgd, zmo, if_true, zs1, zs0, b6, hsm]
    with_reducible refine hR _ ?_
    clear hR R
    show X _ _ _ _
    have hbig : j < 9223372036854775807 := by omega
    refine X_rg fun R hR => ?_
    simp only [inr_i64, Int.reduceLE, Int.reduceNeg, aops, astep, awant, aeff, aop, abin, aint, ev, ofValue, St.put, zg1, zg0, zgd, zmo, if_true, zs1, zs0, and_self, nat_succ hbig]
    with_reducible refine hR _ ?_
    clear hR R
    show ∃ m, m < _ ∧ _
    have hq : (!((rrT t)[j].toList == s.toList)) = true := by first | assumption | (simp_all; done)
    exact ⟨(rrT t).length - (j + 1), by omega, j + 1, _, rfl, rfl, by omega, Lib.hid (by rw [hB.out]; exact others_y hlj hq _)⟩
   ·intro b7
    have c7 := b7
    try simp only [znf, beq_iff_eq] at c7
    refine X_skip ?_
    show X _ _ _ _
    have hbig : j < 9223372036854775807 := by omega
    refine X_rg fun R hR => ?_
    simp only [inr_i64, Int.reduceLE, Int.reduceNeg, aops, astep, awant, aeff, aop, abin, aint, ev, ofValue, St.put, zg1, zg0, zgd, zmo, if_true, zs1, zs0, and_self, b7, nat_succ hbig]
    with_reducible refine hR _ ?_
    clear hR R
    show ∃ m, m < _ ∧ _
    have hq : (!((rrT t)[j].toList == s.toList)) = false := by first | assumption | (simp_all; done)
    exact ⟨(rrT t).length - (j + 1), by omega, j + 1, A, rfl, rfl, by omega, Lib.hid (by rw [others_n hlj hq]; exact hB.out)⟩
  ·intro b8
   have c8 := b8
   try simp only [decide_eq_false_iff_not] at c8
   refine X_exit ?_
   show X _ _ _ _
   refine X_seq ?_
   have hA3 : A = outerL s u t w := by rw [hB.out, List.take_of_length_le (by first | omega | (simp_all; done))]; rfl
   have f1 := call_d (d := .agg [.int .u8 54, .int .i64 0, .str s, .slice (.own 0 24) 4 [dN u, dN t, dN w]]) (reads_e (locT s u t w) (by simp only [locT, Tr.size, Tr.sizes]; omega)) (by simp [D.strip, D.strips, Own.st, dN_strip, locT, dN, dNs]) (by simp [plain, D.under, D.unders, dN_under]; rfl)
   simp only [sl] at f1
   refine X_rg fun R hR => ?_
   simp only [EVeP, aops, astep, awant, aeff, aop, mkD, ev, St.put, pcall, zmc, zmn, zg1, zg0, zgd, zmo, if_true, zs1, zs0, zlc, zln, zd0, zt1, zt0, zca, zna, Nat.reduceAdd, Nat.reduceLeDiff, Nat.zero_add, ty_api_Node, any14, b8, f1]
   with_reducible refine hR _ ?_
   clear hR R
   show X _ _ _ _
   refine X_seq ?_
   refine X_seq ?_
   refine X_rg fun R hR => ?_
   simp only [EVeP, inr_i64, Int.reduceLE, Int.reduceNeg, aops, astep, awant, aeff, aop, ev, ofValue, St.put, zg1, zg0, zgd, zmo, if_true, zs1, zs0, zlm, and_self, und_string]
   with_reducible refine hR _ ?_
   clear hR R
   show X _ _ _ _
   refine X_block ?_
   refine X_loop (fun m σ => ∃ (j : Nat) (A : List ByteArray), σ = ⟨[slotOf σ 0, slotOf σ 1, slotOf σ 2, .str s, .ptr 0 0, .ptr 1 0, .ptr 2 0, slotOf σ 7, slotOf σ 8, .ptr 3 0, .mref 4, slotOf σ 11, slotOf σ 12, slotOf σ 13, slotOf σ 14, slotOf σ 15, slotOf σ 16, .slice .imm (if ((rrT (locT s u t w)).map dS).isEmpty = true then 0 else 1) ((rrT (locT s u t w)).map dS), slotOf σ 18, slotOf σ 19, slotOf σ 20, slotOf σ 21, slotOf σ 22, slotOf σ 23, slotOf σ 24, slotOf σ 25, slotOf σ 26, slotOf σ 27, slotOf σ 28, slotOf σ 29, slotOf σ 30, slotOf σ 31, slotOf σ 32, slotOf σ 33, slotOf σ 34, slotOf σ 35, slotOf σ 36, slotOf σ 37, slotOf σ 38, slotOf σ 39, slotOf σ 40, slotOf σ 41, slotOf σ 42, slotOf σ 43, slotOf σ 44, slotOf σ 45, slotOf σ 46, slotOf σ 47, slotOf σ 48, slotOf σ 49, slotOf σ 50, slotOf σ 51, slotOf σ 52, slotOf σ 53, slotOf σ 54, slotOf σ 55, slotOf σ 56, slotOf σ 57, slotOf σ 58, slotOf σ 59, slotOf σ 60, slotOf σ 61, slotOf σ 62, slotOf σ 63, slotOf σ 64, slotOf σ 65, slotOf σ 66, slotOf σ 67, slotOf σ 68, slotOf σ 69, slotOf σ 70, slotOf σ 71, slotOf σ 72, slotOf σ 73, slotOf σ 74, slotOf σ 75, slotOf σ 76, slotOf σ 77, slotOf σ 78, slotOf σ 79, slotOf σ 80, .slice .imm (if ((rrT (locT s u t w)).map dS).isEmpty = true then 0 else 1) ((rrT (locT s u t w)).map dS), .int .i64 (rrT (locT s u t w)).length, .int .i64 j, slotOf σ 84, slotOf σ 85, slotOf σ 86, slotOf σ 87, slotOf σ 88, slotOf σ 89, slotOf σ 90, slotOf σ 91, slotOf σ 92, slotOf σ 93, slotOf σ 94, slotOf σ 95, slotOf σ 96, slotOf σ 97, slotOf σ 98, slotOf σ 99, slotOf σ 100, slotOf σ 101, slotOf σ 102, slotOf σ 103, slotOf σ 104, slotOf σ 105, slotOf σ 106, slotOf σ 107, slotOf σ 108, slotOf σ 109, slotOf σ 110, slotOf σ 111, slotOf σ 112, slotOf σ 113, slotOf σ 114], [.int .u8 t.kind, .int .i64 t.num, .str t.name, .slice .imm (if (t.kids.map dN).isEmpty = true then 0 else 4) (t.kids.map dN)] :: [.int .u8 u.kind, .int .i64 u.num, .str u.name, .slice .imm (if (u.kids.map dN).isEmpty = true then 0 else 4) (u.kids.map dN)] :: [.int .u8 w.kind, .int .i64 w.num, .str w.name, .slice .imm (if (w.kids.map dN).isEmpty = true then 0 else 4) (w.kids.map dN)] :: [.int .u8 54, .int .i64 0, .str s, .slice (.own 0 24) 4 [dN u, dN t, dN w]] :: sD A :: [], 2, [1, 0]⟩ ∧ m = (rrT (locT s u t w)).length - j ∧ j ≤ (rrT (locT s u t w)).length ∧ Hid (A = outerL s u t w)) ?_ ((rrT (locT s u t w)).length) _ ?_
   rotate_left
   ·exact ⟨0, _, rfl, rfl, Nat.zero_le _, Lib.hid hA3⟩
   rintro m σ ⟨j, A, hσ, rfl, hj, hC⟩
   generalize slotOf σ = x at hσ
   subst hσ
   refine X_seq ?_
   refine X_rg fun R hR => ?_
   simp only [nat_lt, aops, astep, awant, aeff, aop, abin, aint, ev, St.put, zg1, zg0, zgd, zmo, if_true, zs1, zs0]
   with_reducible refine hR _ ?_
   clear hR R
   show X _ _ _ _
   refine X_seq ?_
   refine X_ite (by simp only [ev, zg1, zg0, zgd]; exact rfl) ?_ ?_
   ·intro b9
    have c9 := b9
    try simp only [decide_eq_true_eq] at c9
    refine X_skip ?_
    show X _ _ _ _
    refine X_seq ?_
    refine X_block ?_
    refine X_seq ?_
    have hlj : j < (rrT (locT s u t w)).length := by first | assumption | omega | simp_all
    have hljn := idx_n (f := dS) (n := 1) (l := (rrT (locT s u t w))) (i := j) hlj
    have hlje : ((rrT (locT s u t w)).map dS)[j]? = some (.str (rrT (locT s u t w))[j]) := by rw [List.getElem?_map, List.getElem?_eq_getElem hlj]; rfl
    refine X_rg fun R hR => ?_
    simp only [EVeP, nat_lt, nat_0, nat_to, aops, astep, awant, aeff, aop, ev, St.put, ia_str, cl_str, zg1, zg0, zgd, zmo, if_true, zs1, zs0, zlm, zlc, zln, Nat.zero_add, and_self, decide_true, zis, ty_string, und_string, siz_string, inf_string_eq, hlj, hljn, hlje]
    with_reducible refine hR _ ?_
    clear hR R
    show X _ _ _ _
    refine X_seq ?_
    have hlk := look_yes (i := 4) (A := A) (by rw [hC.out]; exact outer_mem.2 (List.getElem_mem hlj))
    refine X_rg fun R hR => ?_
    simp only [EVeP, aops, astep, awant, aeff, aop, ev, St.put, zg1, zg0, zgd, zmo, if_true, zs1, zs0, Bool.not_true, hlk]
    with_reducible refine hR _ ?_
    clear hR R
    show X _ _ _ _
    refine X_false (by simp only [ev, zg1, zg0, zgd]) ?_
    refine X_skip ?_
    show X _ _ _ _
    have hGl : (rrT (locT s u t w)).length ≤ 901 := by
     have := rrT_len (locT s u t w)
     simp only [locT, Tr.size, Tr.sizes] at this ⊢
     omega
    have hbig : j < 9223372036854775807 := by omega
    refine X_rg fun R hR => ?_
    simp only [inr_i64, Int.reduceLE, Int.reduceNeg, aops, astep, awant, aeff, aop, abin, aint, ev, ofValue, St.put, zg1, zg0, zgd, zmo, if_true, zs1, zs0, and_self, nat_succ hbig]
    with_reducible refine hR _ ?_
    clear hR R
    show ∃ m, m < _ ∧ _
    exact ⟨(rrT (locT s u t w)).length - (j + 1), by omega, j + 1, A, rfl, rfl, by omega, hC⟩
   ·intro b10
    have c10 := b10
    try simp only [decide_eq_false_iff_not] at c10
    refine X_exit ?_
    show X _ _ _ _
    refine X_seq ?_
    refine X_rg fun R hR => ?_
    simp only [EVeP, inr_u8, Int.reduceLE, aops, astep, awant, aeff, aop, mkD, afill, abuild, astore, ev, ofValue, St.put, gd_int, cl_int, gd_str, cl_str, gd_agg, cl_agg, gd_slice, cl_slice, zmc, zmn, zg1, zg0, zgd, zmo, zbs, if_true, zs1, zs0, zlc, zln, zd1, zd0, zt1, zt0, zca, zna, Nat.reduceAdd, Nat.reduceLeDiff, Nat.reduceLT, Nat.zero_add, Bool.and_true, and_self, List.all_cons, List.all_nil, beq_self_eq_true, Nat.reduceMul, rng_1, ty_api_Node, st_api_Node, sta_api_Node, und_api_Node, inf_api_Node_eq, inf_api_Node_size, inf_api_Node_zero, dN_agg, dN_cells, dN_good, sl, b10]
    with_reducible refine hR _ ?_
    clear hR R
    show X _ _ _ _
    refine X_seq ?_
    have hsl := sD_half A
    have hln : (((rrT (locT s u t w)).length : Int) == (A.length : Int)) = true := by rw [outer_len, hC.out]; simp
    have f1 := call_d (d := .agg [.int .u8 55, .int .i64 0, .str s, .slice (.own 2 24) 4 [dN t]]) (reads_e (stkT s t) (by simp only [stkT, Tr.size, Tr.sizes]; omega)) (by simp [D.strip, D.strips, Own.st, dN_strip, stkT, dN, dNs]) (by simp [plain, D.under, D.unders, dN_under]; rfl)
    have f2 := call_d (d := .agg [.int .u8 55, .int .i64 0, .str s, .slice (.own 2 24) 4 [dN t]]) (writes_e (stkT s t) (by simp only [stkT, Tr.size, Tr.sizes]; omega)) (by simp [D.strip, D.strips, Own.st, dN_strip, stkT, dN, dNs]) (by simp [plain, D.under, D.unders, dN_under]; rfl)
    have hq1 := rrT_len (stkT s t)
    have hq2 := wrT_len (stkT s t)
    simp only [stkT, Tr.size, Tr.sizes] at hq1 hq2
    have f3 : fn EVe _ _ = _ := fn_more (in_fn (rrT (stkT s t)) s (by simp only [stkT]; omega))
    have f4 : fn EVe _ _ = _ := fn_more (in_fn (wrT (stkT s t)) s (by simp only [stkT]; omega))
    rw [decide_eq_false stk_reads] at f3
    rw [decide_eq_false stk_writes] at f4
    simp only [sl] at f1 f2 f3 f4
    refine X_rg fun R hR => ?_
    simp only [EVeP, aops, astep, awant, aeff, aop, abin, aint, mkD, ev, ofValue, St.put, pcall, zmc, zmn, zg1, zg0, zgd, zmo, zbs, if_true, zs1, zs0, zlm, zlc, zln, zd0, zt1, zt0, zca, zna, Nat.reduceAdd, Nat.reduceLeDiff, Nat.zero_add, Bool.not_false, beq_self_eq_true, ty_api_Node, und_string, any14, any16, any22, hsl, und_msb, hln, f1, f2, f3, f4]
    with_reducible refine hR _ ?_
    clear hR R
    show X _ _ _ _
    refine X_ret ?_
    show resD _ _ _ = some _
    simp only [resD, resAll, resOne, resTup, Try.results7, EVeP, zg1, zg0, D.good, if_true, zmo] <;> (first | (rfl; done) | (simp_all; done) | (exfalso; simp_all; done))
theorem lawEffectsLocal_fn (t u w : Tr) (s : ByteArray) : fn EVe 7 [dN t, dN u, dN w, .str s] = some (.bool true) := by
 cases h : fewB t
 ·exact lawEffectsLocal_000 t u w s h
 ·cases h2 : fewB u
  ·exact lawEffectsLocal_100 t u w s h h2
  ·cases h3 : fewB w
   ·exact lawEffectsLocal_110 t u w s h h2 h3
   ·exact lawEffectsLocal_111 t u w s h h2 h3

end Go.Proofs.Ytkkhjpkkjpcbmaa
