/- The reference's Independent over data. -/
import Derived.Test.YtkkhjpkkjpcbmaaE8
namespace Go.Proofs.Ytkkhjpkkjpcbmaa
open Go.RowKit


theorem com_out {l w : List ByteArray} {i : Nat} (h : i < l.length) (hf : commonB l w = (l.drop i).any fun x => w.any fun y => x.toList == y.toList) (hn : (w.any fun y => l[i].toList == y.toList) = false) : commonB l w = (l.drop (i + 1)).any fun x => w.any fun y => x.toList == y.toList := by
 rw [hf, List.drop_eq_getElem_cons h, List.any_cons, hn, Bool.false_or]
theorem com_in {x : ByteArray} {w : List ByteArray} {j : Nat} (h : j < w.length) (hf : (w.any fun y => x.toList == y.toList) = (w.drop j).any fun y => x.toList == y.toList) (hn : (x.toList == w[j].toList) = false) : (w.any fun y => x.toList == y.toList) = (w.drop (j + 1)).any fun y => x.toList == y.toList := by
 rw [hf, List.drop_eq_getElem_cons h, List.any_cons, hn, Bool.false_or]
theorem com_hit {l w : List ByteArray} {i j : Nat} (h : i < l.length) (h' : j < w.length) (e : (l[i].toList == w[j].toList) = true) : commonB l w = true := by
 simp only [commonB, List.any_eq_true]
 exact ⟨_, List.getElem_mem h, _, List.getElem_mem h', e⟩
set_option maxRecDepth 100000 in
set_option maxHeartbeats 4000000 in
theorem common_fn (l w : List ByteArray) (hl : l.length ≤ 1000000) (hw : w.length ≤ 1000000) : fn EV 42 [sl 1 (l.map dS), sl 1 (w.map dS)] = some (.bool (commonB l w)) := by
 refine fn_X rfl Try.func42 rfl (by simp only [plain, List.all_cons, List.all_nil, sl_under (map_under (dS_under 0) l), sl_under (map_under (dS_under 0) w), sl_gd, Bool.and_self]) (rfl) (rfl) (rfl) ?_
 simp only [zmc, zmn, sl_strip (map_strip dS_strip l), sl_strip (map_strip dS_strip w)]
 simp only [enterSt, Try.ntmps42, zlc, zln, Nat.reduceAdd, Nat.reduceSub, zr1, zr0, zca, zna]
 refine X_seq ?_
 refine X_rg fun R hR => ?_
 simp only [aops, astep, awant, aeff, aop, ev, ofValue, St.put, zgd, zmo, if_true, zs1, zs0, sl]
 with_reducible refine hR _ ?_
 clear hR R
 show X _ _ _ _
 refine X_seq ?_
 refine X_seq ?_
 refine X_rg fun R hR => ?_
 simp only [inr_i64, Int.reduceLE, Int.reduceNeg, aops, astep, awant, aeff, aop, ev, ofValue, St.put, zgd, zmo, if_true, zs1, zs0, and_self]
 with_reducible refine hR _ ?_
 clear hR R
 show X _ _ _ _
 refine X_block ?_
 refine X_loop (fun m σ => ∃ (i : Nat), σ = ⟨[.slice .imm (if (l.map dS).isEmpty = true then 0 else 1) (l.map dS), .slice .imm (if (w.map dS).isEmpty = true then 0 else 1) (w.map dS), slotOf σ 2, slotOf σ 3, slotOf σ 4, .int .i64 i, slotOf σ 6, slotOf σ 7, slotOf σ 8, slotOf σ 9, slotOf σ 10, slotOf σ 11, slotOf σ 12, slotOf σ 13, slotOf σ 14, slotOf σ 15, slotOf σ 16, slotOf σ 17, slotOf σ 18, slotOf σ 19, slotOf σ 20, slotOf σ 21, slotOf σ 22, slotOf σ 23, slotOf σ 24, slotOf σ 25, slotOf σ 26, slotOf σ 27], [], 0, []⟩ ∧ m = l.length - i ∧ i ≤ l.length ∧ Hid (commonB l w = (l.drop i).any fun x => w.any fun y => x.toList == y.toList)) ?_ (l.length) _ ?_
 rotate_left
 ·exact ⟨0, rfl, rfl, Nat.zero_le _, Lib.hid rfl⟩
 rintro m σ ⟨i, hσ, rfl, hi, hf⟩
 generalize slotOf σ = x at hσ
 subst hσ
 refine X_seq ?_
 refine X_seq ?_
 refine X_rg fun R hR => ?_
 simp only [EVP, nat_lt, aops, astep, awant, aeff, aop, abin, aint, ev, St.put, zg1, zg0, zgd, zmo, if_true, zs1, zs0, zlm, und_string]
 with_reducible refine hR _ ?_
 clear hR R
 show X _ _ _ _
 refine X_ite (by simp only [ev, zg1, zg0, zgd]; exact rfl) ?_ ?_
 ·intro b1
  have c1 := b1
  try simp only [decide_eq_true_eq] at c1
  refine X_skip ?_
  show X _ _ _ _
  refine X_seq ?_
  refine X_block ?_
  refine X_seq ?_
  refine X_rg fun R hR => ?_
  simp only [inr_i64, Int.reduceLE, Int.reduceNeg, aops, astep, awant, aeff, aop, ev, ofValue, St.put, zgd, zmo, if_true, zs1, zs0, and_self, b1]
  with_reducible refine hR _ ?_
  clear hR R
  show X _ _ _ _
  refine X_block ?_
  have hlt : i < l.length := by first | assumption | omega | simp_all
  refine X_loop (fun m σ => ∃ (j : Nat), σ = ⟨[.slice .imm (if (l.map dS).isEmpty = true then 0 else 1) (l.map dS), .slice .imm (if (w.map dS).isEmpty = true then 0 else 1) (w.map dS), slotOf σ 2, slotOf σ 3, slotOf σ 4, .int .i64 i, .int .i64 j, slotOf σ 7, slotOf σ 8, slotOf σ 9, slotOf σ 10, slotOf σ 11, slotOf σ 12, slotOf σ 13, slotOf σ 14, slotOf σ 15, slotOf σ 16, slotOf σ 17, slotOf σ 18, slotOf σ 19, slotOf σ 20, slotOf σ 21, slotOf σ 22, slotOf σ 23, slotOf σ 24, slotOf σ 25, slotOf σ 26, slotOf σ 27], [], 0, []⟩ ∧ m = w.length - j ∧ j ≤ w.length ∧ Hid ((w.any fun y => l[i].toList == y.toList) = (w.drop j).any fun y => l[i].toList == y.toList)) ?_ (w.length) _ ?_
  rotate_left
  ·exact ⟨0, rfl, rfl, Nat.zero_le _, Lib.hid rfl⟩
  rintro m σ ⟨j, hσ, rfl, hj, hg⟩
  generalize slotOf σ = x at hσ
  subst hσ
  refine X_seq ?_
  refine X_seq ?_
  refine X_rg fun R hR => ?_
  simp only [EVP, nat_lt, aops, astep, awant, aeff, aop, abin, aint, ev, St.put, zg1, zg0, zgd, zmo, if_true, zs1, zs0, zlm, und_string]
  with_reducible refine hR _ ?_
  clear hR R
  show X _ _ _ _
  refine X_ite (by simp only [ev, zg1, zg0, zgd]; exact rfl) ?_ ?_
  ·intro b2
   have c2 := b2
   try simp only [decide_eq_true_eq] at c2
   refine X_skip ?_
   show X _ _ _ _
   refine X_seq ?_
   refine X_block ?_
   refine X_seq ?_
   have hlm : j < w.length := by first | assumption | omega | simp_all
   have hn1 := idx_n (f := dS) (n := 1) hlt
   have hn2 := idx_n (f := dS) (n := 1) hlm
   have e1 : (l.map dS)[i]? = some (.str l[i]) := by rw [List.getElem?_map, List.getElem?_eq_getElem hlt]; rfl
   have e2 : (w.map dS)[j]? = some (.str w[j]) := by rw [List.getElem?_map, List.getElem?_eq_getElem hlm]; rfl
   refine X_rg fun R hR => ?_
   simp only [EVP, nat_lt, nat_0, nat_to, aops, astep, awant, aeff, aop, abin, astr, ev, St.put, ia_str, cl_str, zg1, zg0, zgd, zmo, if_true, zs1, zs0, zlm, zlc, zln, Nat.zero_add, and_self, decide_true, zis, ty_string, und_string, siz_string, inf_string_eq, hlt, hlm, hn1, hn2, e1, e2]
   with_reducible refine hR _ ?_
   clear hR R
   show X _ _ _ _
   refine X_ite (by simp only [ev, zg1, zg0, zgd]; exact rfl) ?_ ?_
   ·intro b3
    have c3 := b3
    try simp only [beq_iff_eq] at c3
    refine X_seq ?_
    refine X_rg fun R hR => ?_
    simp only [aops, astep, awant, aeff, aop, ev, ofValue, St.put, zgd, zmo, if_true, zs1, zs0, b3]
    with_reducible refine hR _ ?_
    clear hR R
    show X _ _ _ _
    refine X_ret ?_
    show resD _ _ _ = some _
    simp only [resD, resAll, resOne, resTup, Try.results42, EVP, zg1, zg0, D.good, if_true, zmo]
    rw [com_hit hlt hlm (by first | assumption | simp_all)]
   ·intro b4
    have c4 := b4
    try simp only [ne_eq, beq_eq_false_iff_ne] at c4
    refine X_skip ?_
    show X _ _ _ _
    have hbj : j < 9223372036854775807 := by omega
    refine X_rg fun R hR => ?_
    simp only [inr_i64, Int.reduceLE, Int.reduceNeg, aops, astep, awant, aeff, aop, abin, aint, ev, ofValue, St.put, zg1, zg0, zgd, zmo, if_true, zs1, zs0, and_self, b4, nat_succ hbj]
    with_reducible refine hR _ ?_
    clear hR R
    show ∃ m, m < _ ∧ _
    exact ⟨w.length - (j + 1), by omega, j + 1, rfl, rfl, by omega, Lib.hid (com_in hlm hg.out (by first | assumption | simp_all))⟩
  ·intro b5
   have c5 := b5
   try simp only [decide_eq_false_iff_not] at c5
   refine X_exit ?_
   show X _ _ _ _
   have hbig : i < 9223372036854775807 := by omega
   refine X_rg fun R hR => ?_
   simp only [inr_i64, Int.reduceLE, Int.reduceNeg, aops, astep, awant, aeff, aop, abin, aint, ev, ofValue, St.put, zg1, zg0, zgd, zmo, if_true, zs1, zs0, and_self, b5, nat_succ hbig]
   with_reducible refine hR _ ?_
   clear hR R
   show ∃ m, m < _ ∧ _
   have hno : (w.any fun y => l[i].toList == y.toList) = false := by rw [hg.out, List.drop_of_length_le (by first | omega | (simp_all; done))]; rfl
   exact ⟨l.length - (i + 1), by omega, i + 1, rfl, rfl, by omega, Lib.hid (com_out hlt hf.out hno)⟩
 ·intro b6
  have c6 := b6
  try simp only [decide_eq_false_iff_not] at c6
  refine X_exit ?_
  show X _ _ _ _
  refine X_seq ?_
  refine X_rg fun R hR => ?_
  simp only [aops, astep, awant, aeff, aop, ev, ofValue, St.put, zgd, zmo, if_true, zs1, zs0, b6]
  with_reducible refine hR _ ?_
  clear hR R
  show X _ _ _ _
  refine X_ret ?_
  show resD _ _ _ = some _
  simp only [resD, resAll, resOne, resTup, Try.results42, EVP, zg1, zg0, D.good, if_true, zmo]
  rw [hf.out, List.drop_of_length_le (by first | omega | (simp_all; done))]; rfl
set_option maxRecDepth 100000 in
set_option maxHeartbeats 4000000 in
theorem rind_100 (t u : Tr) (hs : t.size ≤ 400000) (hs2 : u.size ≤ 400000) (h1 : commonB (wrT t) (rrT u) = true) : fn EV 21 [dN t, dN u] = some (.bool (indB tapesB t u)) := by
 refine fn_X rfl Try.func21 rfl (by simp only [plain, List.all_cons, List.all_nil, dN_under, dN_good, Bool.and_self]) (rfl) (rfl) (rfl) ?_
 simp only [zmc, zmn, dN_strip]
 simp only [enterSt, Try.ntmps21, zlc, zln, Nat.reduceAdd, Nat.reduceSub, zr1, zr0, zca, zna]
 refine X_seq ?_
 refine X_rg fun R hR => ?_
 simp only [aops, astep, awant, aeff, aop, ev, ofValue, St.put, zg1, zg0, zgd, zmo, if_true, zs1, zs0, zlc, zln, zca, zna, Nat.zero_add, dN_cells, dN_good, sl]
 with_reducible refine hR _ ?_
 clear hR R
 show X _ _ _ _
 refine X_seq ?_
 have hwt := wrT_len t
 have hwu := wrT_len u
 have hrt := rrT_len t
 have hru := rrT_len u
 have f1 := rwrites_fn t (by omega)
 have f2 := rreads_fn u (by omega)
 have f3 := common_fn (wrT t) (rrT u) (by omega) (by omega)
 have f4 := rwrites_fn u (by omega)
 have f5 := rreads_fn t (by omega)
 have f6 := common_fn (wrT u) (rrT t) (by omega) (by omega)
 have f7 := rtapes_fn t (by omega)
 have f8 := rtapes_fn u (by omega)
 rw [h1] at f3
 simp only [sl] at f1 f2 f3 f4 f5 f6
 refine X_rg fun R hR => ?_
 simp only [EVP, aops, astep, awant, aeff, aop, mkD, ev, ofValue, St.put, pcall, zmc, zmn, zg1, zg0, zgd, zmo, Option.map_none, zbs, if_true, zs1, zs0, zlc, zln, zd0, zt1, zt0, zca, zna, Nat.reduceAdd, Nat.reduceLeDiff, Nat.zero_add, Bool.not_true, zft, if_false, bq_ft, ty_api_Node, any15, any17, any19, any42, dN_agg, f1, f2, f3]
 with_reducible refine hR _ ?_
 clear hR R
 show X _ _ _ _
 refine X_ret ?_
 show resD _ _ _ = some _
 simp only [resD, resAll, resOne, resTup, Try.results21, EVP, zg1, zg0, D.good, if_true, zmo]
 rw [ind_eq, h1] <;> simp
set_option maxRecDepth 100000 in
set_option maxHeartbeats 4000000 in
theorem rind_010 (t u : Tr) (hs : t.size ≤ 400000) (hs2 : u.size ≤ 400000) (h1 : commonB (wrT t) (rrT u) = false) (h2 : commonB (wrT u) (rrT t) = true) : fn EV 21 [dN t, dN u] = some (.bool (indB tapesB t u)) := by
 refine fn_X rfl Try.func21 rfl (by simp only [plain, List.all_cons, List.all_nil, dN_under, dN_good, Bool.and_self]) (rfl) (rfl) (rfl) ?_
 simp only [zmc, zmn, dN_strip]
 simp only [enterSt, Try.ntmps21, zlc, zln, Nat.reduceAdd, Nat.reduceSub, zr1, zr0, zca, zna]
 refine X_seq ?_
 refine X_rg fun R hR => ?_
 simp only [aops, astep, awant, aeff, aop, ev, ofValue, St.put, zg1, zg0, zgd, zmo, if_true, zs1, zs0, zlc, zln, zca, zna, Nat.zero_add, dN_cells, dN_good, sl]
 with_reducible refine hR _ ?_
 clear hR R
 show X _ _ _ _
 refine X_seq ?_
 have hwt := wrT_len t
 have hwu := wrT_len u
 have hrt := rrT_len t
 have hru := rrT_len u
 have f1 := rwrites_fn t (by omega)
 have f2 := rreads_fn u (by omega)
 have f3 := common_fn (wrT t) (rrT u) (by omega) (by omega)
 have f4 := rwrites_fn u (by omega)
 have f5 := rreads_fn t (by omega)
 have f6 := common_fn (wrT u) (rrT t) (by omega) (by omega)
 have f7 := rtapes_fn t (by omega)
 have f8 := rtapes_fn u (by omega)
 rw [h1] at f3
 rw [h2] at f6
 simp only [sl] at f1 f2 f3 f4 f5 f6
 refine X_rg fun R hR => ?_
 simp only [EVP, aops, astep, awant, aeff, aop, mkD, ev, ofValue, St.put, pcall, zmc, zmn, zg1, zg0, zgd, zmo, Option.map_none, zbs, if_true, zs1, zs0, zlc, zln, zd0, zt1, zt0, zca, zna, Nat.reduceAdd, Nat.reduceLeDiff, Nat.zero_add, Bool.not_true, Bool.not_false, zft, if_false, beq_self_eq_true, bq_ft, ty_api_Node, any15, any17, any19, any42, dN_agg, f1, f2, f3, f4, f5, f6]
 with_reducible refine hR _ ?_
 clear hR R
 show X _ _ _ _
 refine X_ret ?_
 show resD _ _ _ = some _
 simp only [resD, resAll, resOne, resTup, Try.results21, EVP, zg1, zg0, D.good, if_true, zmo]
 rw [ind_eq, h1, h2] <;> simp
set_option maxRecDepth 100000 in
set_option maxHeartbeats 4000000 in
theorem rind_000 (t u : Tr) (hs : t.size ≤ 400000) (hs2 : u.size ≤ 400000) (h1 : commonB (wrT t) (rrT u) = false) (h2 : commonB (wrT u) (rrT t) = false) (h3 : tapesB t = false) : fn EV 21 [dN t, dN u] = some (.bool (indB tapesB t u)) := by
 refine fn_X rfl Try.func21 rfl (by simp only [plain, List.all_cons, List.all_nil, dN_under, dN_good, Bool.and_self]) (rfl) (rfl) (rfl) ?_
 simp only [zmc, zmn, dN_strip]
 simp only [enterSt, Try.ntmps21, zlc, zln, Nat.reduceAdd, Nat.reduceSub, zr1, zr0, zca, zna]
 refine X_seq ?_
 refine X_rg fun R hR => ?_
 simp only [aops, astep, awant, aeff, aop, ev, ofValue, St.put, zg1, zg0, zgd, zmo, if_true, zs1, zs0, zlc, zln, zca, zna, Nat.zero_add, dN_cells, dN_good, sl]
 with_reducible refine hR _ ?_
 clear hR R
 show X _ _ _ _
 refine X_seq ?_
 have hwt := wrT_len t
 have hwu := wrT_len u
 have hrt := rrT_len t
 have hru := rrT_len u
 have f1 := rwrites_fn t (by omega)
 have f2 := rreads_fn u (by omega)
 have f3 := common_fn (wrT t) (rrT u) (by omega) (by omega)
 have f4 := rwrites_fn u (by omega)
 have f5 := rreads_fn t (by omega)
 have f6 := common_fn (wrT u) (rrT t) (by omega) (by omega)
 have f7 := rtapes_fn t (by omega)
 have f8 := rtapes_fn u (by omega)
 rw [h1] at f3
 rw [h2] at f6
 rw [h3] at f7
 simp only [sl] at f1 f2 f3 f4 f5 f6
 refine X_rg fun R hR => ?_
 simp only [EVP, aops, astep, awant, aeff, aop, mkD, ev, ofValue, St.put, pcall, zmc, zmn, zg1, zg0, zgd, zmo, zbs, if_true, zs1, zs0, zlc, zln, zd0, zt1, zt0, zca, zna, Nat.reduceAdd, Nat.reduceLeDiff, Nat.zero_add, Bool.not_false, zft, if_false, beq_self_eq_true, bq_ft, ty_api_Node, any15, any17, any19, any42, dN_agg, f1, f2, f3, f4, f5, f6, f7]
 with_reducible refine hR _ ?_
 clear hR R
 show X _ _ _ _
 refine X_ret ?_
 show resD _ _ _ = some _
 simp only [resD, resAll, resOne, resTup, Try.results21, EVP, zg1, zg0, D.good, if_true, zmo]
 rw [ind_eq, h1, h2, h3] <;> simp
set_option maxRecDepth 100000 in
set_option maxHeartbeats 4000000 in
theorem rind_001 (t u : Tr) (hs : t.size ≤ 400000) (hs2 : u.size ≤ 400000) (h1 : commonB (wrT t) (rrT u) = false) (h2 : commonB (wrT u) (rrT t) = false) (h3 : tapesB t = true) : fn EV 21 [dN t, dN u] = some (.bool (indB tapesB t u)) := by
 refine fn_X rfl Try.func21 rfl (by simp only [plain, List.all_cons, List.all_nil, dN_under, dN_good, Bool.and_self]) (rfl) (rfl) (rfl) ?_
 simp only [zmc, zmn, dN_strip]
 simp only [enterSt, Try.ntmps21, zlc, zln, Nat.reduceAdd, Nat.reduceSub, zr1, zr0, zca, zna]
 refine X_seq ?_
 refine X_rg fun R hR => ?_
 simp only [aops, astep, awant, aeff, aop, ev, ofValue, St.put, zg1, zg0, zgd, zmo, if_true, zs1, zs0, zlc, zln, zca, zna, Nat.zero_add, dN_cells, dN_good, sl]
 with_reducible refine hR _ ?_
 clear hR R
 show X _ _ _ _
 refine X_seq ?_
 have hwt := wrT_len t
 have hwu := wrT_len u
 have hrt := rrT_len t
 have hru := rrT_len u
 have f1 := rwrites_fn t (by omega)
 have f2 := rreads_fn u (by omega)
 have f3 := common_fn (wrT t) (rrT u) (by omega) (by omega)
 have f4 := rwrites_fn u (by omega)
 have f5 := rreads_fn t (by omega)
 have f6 := common_fn (wrT u) (rrT t) (by omega) (by omega)
 have f7 := rtapes_fn t (by omega)
 have f8 := rtapes_fn u (by omega)
 rw [h1] at f3
 rw [h2] at f6
 rw [h3] at f7
 simp only [sl] at f1 f2 f3 f4 f5 f6
 refine X_rg fun R hR => ?_
 simp only [EVP, aops, astep, awant, aeff, aop, mkD, ev, ofValue, St.put, pcall, zmc, zmn, zg1, zg0, zgd, zmo, zbs, if_true, zs1, zs0, zlc, zln, zd0, zt1, zt0, zca, zna, Nat.reduceAdd, Nat.reduceLeDiff, Nat.zero_add, Bool.not_false, beq_self_eq_true, ty_api_Node, any15, any17, any19, any42, dN_agg, f1, f2, f3, f4, f5, f6, f7, f8]
 with_reducible refine hR _ ?_
 clear hR R
 show X _ _ _ _
 refine X_ret ?_
 show resD _ _ _ = some _
 simp only [resD, resAll, resOne, resTup, Try.results21, EVP, zg1, zg0, D.good, if_true, zmo]
 rw [ind_eq, h1, h2, h3] <;> simp
theorem rind_fn (t u : Tr) (hs : t.size ≤ 400000) (hs2 : u.size ≤ 400000) : fn EV 21 [dN t, dN u] = some (.bool (indB tapesB t u)) := by
 cases h1 : commonB (wrT t) (rrT u)
 ·cases h2 : commonB (wrT u) (rrT t)
  ·cases h3 : tapesB t
   ·exact rind_000 t u hs hs2 h1 h2 h3
   ·exact rind_001 t u hs hs2 h1 h2 h3
  ·exact rind_010 t u hs hs2 h1 h2
 ·exact rind_100 t u hs hs2 h1
theorem ind_comm (t u : Tr) : indB tapesB t u = indB tapesB u t := by
 rw [ind_eq, ind_eq, Bool.and_comm (tapesB t), Bool.and_comm (!commonB (wrT t) (rrT u))]
theorem few_sz {t : Tr} (h : fewB t = true) : t.size ≤ 300 := by simpa [fewB] using h
theorem few_e (t : Tr) : fn EVe 12 [dN t] = some (.bool (fewB t)) := fn_more (few_fn t)

end Go.Proofs.Ytkkhjpkkjpcbmaa
