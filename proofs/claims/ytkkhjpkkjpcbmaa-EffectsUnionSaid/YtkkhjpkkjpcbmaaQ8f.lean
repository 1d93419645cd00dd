/- The law EffectsUnion: its walk. -/
import Derived.Test.YtkkhjpkkjpcbmaaE12
namespace Go.Proofs.Ytkkhjpkkjpcbmaa
open Go.RowKit

set_option maxRecDepth 100000 in
set_option maxHeartbeats 4000000 in
theorem lawEffectsUnion_10 (l : List Tr) (q : Nat) (_hq : q ≤ 255) (hlen : 8 < l.length) (_hfew : fewB (bT 0 l) = false) : fn EVe 6 [sl 4 (l.map dN), .int .u8 (q : Int)] = some (.bool true) := by
 refine fn_X rfl Try.func6 rfl (by simp only [plain, List.all_cons, List.all_nil, sl_under (map_under (dN_under 0) l), sl_gd, D.under, gd_int, Bool.and_self]) (rfl) (rfl) (rfl) ?_
 simp only [zmc, zmn, D.strip, sl_strip (map_strip dN_strip l)]
 simp only [enterSt, Try.ntmps6, zlc, zln, Nat.reduceAdd, Nat.reduceSub, zr1, zr0, zca, zna]
 refine X_seq ?_
 refine X_rg fun R hR => ?_
 simp only [aops, astep, awant, aeff, aop, ev, ofValue, St.put, zgd, zmo, if_true, zs1, zs0, sl]
 with_reducible refine hR _ ?_
 clear hR R
 show X _ _ _ _
 refine X_seq ?_
 refine X_seq ?_
 have hbg : (decide ((l.length : Int) > 8)) = true := by simp; omega
 refine X_rg fun R hR => ?_
 simp only [EVeP, inr_i64, Int.reduceLE, Int.reduceNeg, aops, astep, awant, aeff, aop, abin, aint, afill, ev, ofValue, St.put, pcall, gd_undef, cl_undef, zmc, zmn, zg1, zg0, zgd, zmo, Option.map_none, zbs, if_true, zs1, zs0, zlm, zlc, zln, zd1, zd0, zt1, zt0, zca, zna, Nat.reduceAdd, Nat.reduceLeDiff, Nat.zero_add, Bool.not_true, zft, if_false, and_true, and_self, beq_self_eq_true, bq_tf, ty_api_Node, st_api_Node, sta_api_Node, und_api_Node, any11, any12, awake_e, hbg]
 with_reducible refine hR _ ?_
 clear hR R
 show X _ _ _ _
 refine X_true (by simp only [ev, zg1, zg0, zgd]) ?_
 refine X_seq ?_
 refine X_rg fun R hR => ?_
 simp only [EVeP, aops, astep, awant, aeff, aop, ev, St.put, pcall, zmn, zg1, zg0, zgd, zmo, if_true, zs1, zs0, zna, any11, awake_e]
 with_reducible refine hR _ ?_
 clear hR R
 show X _ _ _ _
 refine X_ret ?_
 show resD _ _ _ = some _
 simp only [resD, resAll, resOne, resTup, Try.results6, EVeP, zg1, zg0, D.good, if_true, zmo] <;> (first | (rfl; done) | (simp_all; done) | (exfalso; simp_all; done))
set_option maxRecDepth 100000 in
set_option maxHeartbeats 4000000 in
theorem lawEffectsUnion_11 (l : List Tr) (q : Nat) (_hq : q ≤ 255) (hlen : 8 < l.length) (_hfew : fewB (bT 0 l) = true) : fn EVe 6 [sl 4 (l.map dN), .int .u8 (q : Int)] = some (.bool true) := by
 refine fn_X rfl Try.func6 rfl (by simp only [plain, List.all_cons, List.all_nil, sl_under (map_under (dN_under 0) l), sl_gd, D.under, gd_int, Bool.and_self]) (rfl) (rfl) (rfl) ?_
 simp only [zmc, zmn, D.strip, sl_strip (map_strip dN_strip l)]
 simp only [enterSt, Try.ntmps6, zlc, zln, Nat.reduceAdd, Nat.reduceSub, zr1, zr0, zca, zna]
 refine X_seq ?_
 refine X_rg fun R hR => ?_
 simp only [aops, astep, awant, aeff, aop, ev, ofValue, St.put, zgd, zmo, if_true, zs1, zs0, sl]
 with_reducible refine hR _ ?_
 clear hR R
 show X _ _ _ _
 refine X_seq ?_
 refine X_seq ?_
 have hbg : (decide ((l.length : Int) > 8)) = true := by simp; omega
 refine X_rg fun R hR => ?_
 simp only [EVeP, inr_i64, Int.reduceLE, Int.reduceNeg, aops, astep, awant, aeff, aop, abin, aint, afill, ev, ofValue, St.put, pcall, gd_undef, cl_undef, zmc, zmn, zg1, zg0, zgd, zmo, Option.map_none, zbs, if_true, zs1, zs0, zlm, zlc, zln, zd1, zd0, zt1, zt0, zca, zna, Nat.reduceAdd, Nat.reduceLeDiff, Nat.zero_add, Bool.not_true, zft, if_false, and_true, and_self, beq_self_eq_true, bq_tf, ty_api_Node, st_api_Node, sta_api_Node, und_api_Node, any11, any12, awake_e, hbg]
 with_reducible refine hR _ ?_
 clear hR R
 show X _ _ _ _
 refine X_true (by simp only [ev, zg1, zg0, zgd]) ?_
 refine X_seq ?_
 refine X_rg fun R hR => ?_
 simp only [EVeP, aops, astep, awant, aeff, aop, ev, St.put, pcall, zmn, zg1, zg0, zgd, zmo, if_true, zs1, zs0, zna, any11, awake_e]
 with_reducible refine hR _ ?_
 clear hR R
 show X _ _ _ _
 refine X_ret ?_
 show resD _ _ _ = some _
 simp only [resD, resAll, resOne, resTup, Try.results6, EVeP, zg1, zg0, D.good, if_true, zmo] <;> (first | (rfl; done) | (simp_all; done) | (exfalso; simp_all; done))
set_option maxRecDepth 100000 in
set_option maxHeartbeats 4000000 in
theorem lawEffectsUnion_00 (l : List Tr) (q : Nat) (_hq : q ≤ 255) (hlen : l.length ≤ 8) (hfew : fewB (bT 0 l) = false) : fn EVe 6 [sl 4 (l.map dN), .int .u8 (q : Int)] = some (.bool true) := by
 refine fn_X rfl Try.func6 rfl (by simp only [plain, List.all_cons, List.all_nil, sl_under (map_under (dN_under 0) l), sl_gd, D.under, gd_int, Bool.and_self]) (rfl) (rfl) (rfl) ?_
 simp only [zmc, zmn, D.strip, sl_strip (map_strip dN_strip l)]
 simp only [enterSt, Try.ntmps6, zlc, zln, Nat.reduceAdd, Nat.reduceSub, zr1, zr0, zca, zna]
 refine X_seq ?_
 refine X_rg fun R hR => ?_
 simp only [aops, astep, awant, aeff, aop, ev, ofValue, St.put, zgd, zmo, if_true, zs1, zs0, sl]
 with_reducible refine hR _ ?_
 clear hR R
 show X _ _ _ _
 refine X_seq ?_
 refine X_seq ?_
 have hw := few_lit l
 rw [hfew] at hw
 have hbg : (decide ((l.length : Int) > 8)) = false := by simp; omega
 refine X_rg fun R hR => ?_
 simp only [EVeP, inr_i64, Int.reduceLE, Int.reduceNeg, aops, astep, awant, aeff, aop, abin, aint, afill, ev, ofValue, St.put, pcall, gd_slice, cl_slice, zmc, zmn, zg1, zg0, zgd, zmo, zbs, if_true, zs1, zs0, zlm, zlc, zln, zd1, zd0, zt1, zt0, zca, zna, Nat.reduceAdd, Nat.reduceLeDiff, Nat.zero_add, Bool.not_true, Bool.not_false, zft, if_false, and_self, beq_self_eq_true, ty_api_Node, st_api_Node, sta_api_Node, und_api_Node, any11, any12, awake_e, hw, hbg]
 with_reducible refine hR _ ?_
 clear hR R
 show X _ _ _ _
 refine X_true (by simp only [ev, zg1, zg0, zgd]) ?_
 refine X_seq ?_
 refine X_rg fun R hR => ?_
 simp only [EVeP, aops, astep, awant, aeff, aop, ev, St.put, pcall, zmn, zg1, zg0, zgd, zmo, if_true, zs1, zs0, zna, any11, awake_e]
 with_reducible refine hR _ ?_
 clear hR R
 show X _ _ _ _
 refine X_ret ?_
 show resD _ _ _ = some _
 simp only [resD, resAll, resOne, resTup, Try.results6, EVeP, zg1, zg0, D.good, if_true, zmo] <;> (first | (rfl; done) | (simp_all; done) | (exfalso; simp_all; done))
set_option maxRecDepth 100000 in
set_option maxHeartbeats 4000000 in
theorem lawEffectsUnion_01 (l : List Tr) (q : Nat) (hq : q ≤ 255) (hlen : l.length ≤ 8) (hfew : fewB (bT 0 l) = true) : fn EVe 6 [sl 4 (l.map dN), .int .u8 (q : Int)] = some (.bool true) := by
 refine fn_X rfl Try.func6 rfl (by simp only [plain, List.all_cons, List.all_nil, sl_under (map_under (dN_under 0) l), sl_gd, D.under, gd_int, Bool.and_self]) (rfl) (rfl) (rfl) ?_
 simp only [zmc, zmn, D.strip, sl_strip (map_strip dN_strip l)]
 simp only [enterSt, Try.ntmps6, zlc, zln, Nat.reduceAdd, Nat.reduceSub, zr1, zr0, zca, zna]
 refine X_seq ?_
 refine X_rg fun R hR => ?_
 simp only [aops, astep, awant, aeff, aop, ev, ofValue, St.put, zgd, zmo, if_true, zs1, zs0, sl]
 with_reducible refine hR _ ?_
 clear hR R
 show X _ _ _ _
 refine X_seq ?_
 refine X_seq ?_
 have hw := few_lit l
 rw [hfew] at hw
 have hbg : (decide ((l.length : Int) > 8)) = false := by simp; omega
 refine X_rg fun R hR => ?_
 simp only [EVeP, inr_i64, Int.reduceLE, Int.reduceNeg, aops, astep, awant, aeff, aop, abin, aint, afill, ev, ofValue, St.put, pcall, gd_slice, cl_slice, zmc, zmn, zg1, zg0, zgd, zmo, zbs, if_true, zs1, zs0, zlm, zlc, zln, zd1, zd0, zt1, zt0, zca, zna, Nat.reduceAdd, Nat.reduceLeDiff, Nat.zero_add, Bool.not_true, zft, if_false, and_self, beq_self_eq_true, ty_api_Node, st_api_Node, sta_api_Node, und_api_Node, any11, any12, awake_e, hw, hbg]
 with_reducible refine hR _ ?_
 clear hR R
 show X _ _ _ _
 refine X_false (by simp only [ev, zg1, zg0, zgd]) ?_
 refine X_skip ?_
 show X _ _ _ _
 refine X_seq ?_
 have hz := few_sz hfew
 simp only [bT, Tr.size] at hz
 refine X_rg fun R hR => ?_
 simp only [aops, astep, awant, aeff, aop, ev, ofValue, St.put, zgd, zmo, if_true, zs1, zs0]
 with_reducible refine hR _ ?_
 clear hR R
 show X _ _ _ _
 refine X_seq ?_
 refine X_seq ?_
 refine X_rg fun R hR => ?_
 simp only [EVeP, inr_i64, Int.reduceLE, Int.reduceNeg, aops, astep, awant, aeff, aop, ev, ofValue, St.put, zg1, zg0, zgd, zmo, if_true, zs1, zs0, zlm, and_self, und_api_Node]
 with_reducible refine hR _ ?_
 clear hR R
 show X _ _ _ _
 refine X_block ?_
 refine X_loop (fun m σ => ∃ (i : Nat) (o : Own) (n : Nat) (nx : Nat) (lv : List Nat), σ = ⟨[.slice .imm (if (l.map dN).isEmpty = true then 0 else 4) (l.map dN), .int .u8 (q : Int), slotOf σ 2, slotOf σ 3, slotOf σ 4, .slice o n ((rotL l q i).map dN), slotOf σ 6, slotOf σ 7, slotOf σ 8, slotOf σ 9, slotOf σ 10, slotOf σ 11, slotOf σ 12, slotOf σ 13, slotOf σ 14, slotOf σ 15, slotOf σ 16, slotOf σ 17, slotOf σ 18, slotOf σ 19, slotOf σ 20, slotOf σ 21, slotOf σ 22, slotOf σ 23, slotOf σ 24, slotOf σ 25, slotOf σ 26, slotOf σ 27, slotOf σ 28, slotOf σ 29, slotOf σ 30, slotOf σ 31, slotOf σ 32, slotOf σ 33, slotOf σ 34, slotOf σ 35, slotOf σ 36, slotOf σ 37, slotOf σ 38, .int .i64 l.length, .int .i64 i, slotOf σ 41, slotOf σ 42, slotOf σ 43, slotOf σ 44, slotOf σ 45, slotOf σ 46, slotOf σ 47, slotOf σ 48, slotOf σ 49, slotOf σ 50, slotOf σ 51, slotOf σ 52, slotOf σ 53, slotOf σ 54, slotOf σ 55, slotOf σ 56, slotOf σ 57, slotOf σ 58, slotOf σ 59, slotOf σ 60, slotOf σ 61, slotOf σ 62, slotOf σ 63, slotOf σ 64, slotOf σ 65, slotOf σ 66, slotOf σ 67, slotOf σ 68, slotOf σ 69, slotOf σ 70, slotOf σ 71, slotOf σ 72, slotOf σ 73, slotOf σ 74, slotOf σ 75, slotOf σ 76, slotOf σ 77, slotOf σ 78, slotOf σ 79, slotOf σ 80, slotOf σ 81, slotOf σ 82, slotOf σ 83, slotOf σ 84, slotOf σ 85, slotOf σ 86, slotOf σ 87, slotOf σ 88, slotOf σ 89, slotOf σ 90, slotOf σ 91, slotOf σ 92, slotOf σ 93, slotOf σ 94, slotOf σ 95, slotOf σ 96, slotOf σ 97, slotOf σ 98, slotOf σ 99, slotOf σ 100, slotOf σ 101, slotOf σ 102, slotOf σ 103, slotOf σ 104, slotOf σ 105, slotOf σ 106, slotOf σ 107, slotOf σ 108, slotOf σ 109, slotOf σ 110, slotOf σ 111, slotOf σ 112, slotOf σ 113, slotOf σ 114, slotOf σ 115, slotOf σ 116, slotOf σ 117, slotOf σ 118, slotOf σ 119, slotOf σ 120, slotOf σ 121, slotOf σ 122, slotOf σ 123, slotOf σ 124, slotOf σ 125, slotOf σ 126, slotOf σ 127, slotOf σ 128, slotOf σ 129, slotOf σ 130, slotOf σ 131, slotOf σ 132, slotOf σ 133, slotOf σ 134, slotOf σ 135, slotOf σ 136, slotOf σ 137, slotOf σ 138, slotOf σ 139, slotOf σ 140, slotOf σ 141, slotOf σ 142, slotOf σ 143, slotOf σ 144, slotOf σ 145, slotOf σ 146, slotOf σ 147, slotOf σ 148, slotOf σ 149, slotOf σ 150], [], nx, lv⟩ ∧ m = l.length - i ∧ i ≤ l.length ∧ Hid (Acc 24 4 o n ((rotL l q i).map dN) lv)) ?_ (l.length) _ ?_
 rotate_left
 ·exact ⟨0, .nil, 0, 0, [], rfl, rfl, Nat.zero_le _, Lib.hid (.nil _ _ _)⟩
 rintro m σ ⟨i, o, n, nx, lv, hσ, rfl, hi, ha⟩
 generalize slotOf σ = x at hσ
 subst hσ
 refine X_seq ?_
 refine X_rg fun R hR => ?_
 simp only [nat_lt, aops, astep, awant, aeff, aop, abin, aint, ev, St.put, zg1, zg0, zgd, zmo, if_true, zs1, zs0]
 with_reducible refine hR _ ?_
 clear hR R
 show X _ _ _ _
 refine X_seq ?_
 refine X_ite (by simp only [ev, zg1, zg0, zgd]; exact rfl) ?_ ?_
 ·intro b1
  have c1 := b1
  try simp only [decide_eq_true_eq] at c1
  refine X_skip ?_
  show X _ _ _ _
  refine X_seq ?_
  refine X_block ?_
  refine X_seq ?_
  refine X_rg fun R hR => ?_
  simp only [aops, astep, awant, aeff, aop, ev, St.put, zg1, zg0, zgd, zmo, if_true, zs1, zs0, b1]
  with_reducible refine hR _ ?_
  clear hR R
  show X _ _ _ _
  have hlt : i < l.length := by first | assumption | omega | simp_all
  have hak := add_k (i := i) (q := q) (by omega)
  have hcv := wrap_k hq
  have hmd := mod_k (i + q) l.length
  have hne : ((l.length : Int) = 0) = False := eq_false (by omega)
  have hml : (i + q) % l.length < l.length := Nat.mod_lt _ (by omega)
  have hn1 := idx_n (f := dN) (n := 4) hml
  have e1 : (l.map dN)[(i + q) % l.length]? = some (dN (rotA l q i)) := by rw [List.getElem?_map, List.getElem?_eq_getElem hml, rotA_at q i hml]; rfl
  have hap := fun fr bx => (ha.out.more nx).app (P := Try.prog) (σ := ⟨fr, bx, nx + 1, nx :: lv⟩) (t := 22) (o2 := .own nx 24) (l2 := [dN (rotA l q i)]) und_api_Node inf_api_Node_eq inf_api_Node_size (by omega) (by rw [inf_api_Node_bytes]; omega) inf_api_Node_zc (by simp [rotL]; omega) (by simp)
  refine X_rg fun R hR => ?_
  simp only [EVeP, nat_lt, nat_0, nat_to, aops, astep, awant, aeff, aop, abin, aint, abuild, ev, ofValue, St.put, zmc, zmn, zg1, zg0, zgd, zmo, if_true, zs1, zs0, zlm, zlc, zln, Nat.reduceAdd, Nat.reduceLeDiff, Nat.reduceLT, Nat.zero_add, Bool.and_true, if_false, and_self, List.all_cons, List.all_nil, beq_self_eq_true, zis, Nat.reduceMul, rng_1, ty_api_Node, und_api_Node, siz_api_Node, inf_api_Node_eq, inf_api_Node_size, inf_api_Node_zero, und_int', und_uint8', dN_cells, dN_isAgg, dN_good, sl, hcv, hak, hmd, hne, hml, hn1, e1, hap]
  with_reducible refine hR _ ?_
  clear hR R
  show X _ _ _ _
  have hbig : i < 9223372036854775807 := by omega
  refine X_rg fun R hR => ?_
  simp only [inr_i64, Int.reduceLE, Int.reduceNeg, aops, astep, awant, aeff, aop, abin, aint, ev, ofValue, St.put, zg1, zg0, zgd, zmo, if_true, zs1, zs0, and_self, nat_succ hbig]
  with_reducible refine hR _ ?_
  clear hR R
  show ∃ m, m < _ ∧ _
  exact ⟨l.length - (i + 1), by omega, i + 1, _, _, _, _, by rw [rotL_snoc, List.map_append]; rfl, rfl, by omega, Lib.hid (by rw [rotL_snoc, List.map_append]; exact .own (by simp))⟩
 ·intro b2
  have c2 := b2
  try simp only [decide_eq_false_iff_not] at c2
  refine X_exit ?_
  show X _ _ _ _
  refine X_seq ?_
  obtain rfl : i = l.length := by first | omega | (simp_all; omega)
  refine X_rg fun R hR => ?_
  simp only [EVeP, inr_u8, Int.reduceLE, aops, astep, awant, aeff, aop, afill, astore, ev, ofValue, St.put, gd_int, cl_int, gd_agg, cl_agg, gd_slice, cl_slice, zmc, zmn, zg1, zg0, zgd, zmo, zbs, if_true, zs1, zs0, zlc, zln, zd1, zd0, zt1, zt0, zca, zna, Nat.reduceAdd, Nat.reduceLeDiff, Nat.zero_add, and_self, ty_api_Node, st_api_Node, sta_api_Node, b2]
  with_reducible refine hR _ ?_
  clear hR R
  show X _ _ _ _
  refine X_seq ?_
  have hza : (bT 57 l).size ≤ 300 := by simp only [bT, Tr.size]; omega
  have l1 := rrT_len (bT 57 l)
  have l2 := wrT_len (bT 57 l)
  have f1 := call_d (d := .agg [.int .u8 57, .int .i64 0, .str ⟨#[]⟩, .slice .imm (if (l.map dN).isEmpty = true then 0 else 4) (l.map dN)]) (reads_e (bT 57 l) (by omega)) (by rw [dN_eq]; exact (dN_strip_eq 57 0 ⟨#[]⟩ l)) (by simp [plain, D.under, D.unders, unders_id (f := dN) dN_under]; rfl)
  have f2 := call_d (d := .agg [.int .u8 57, .int .i64 0, .str ⟨#[]⟩, .slice .imm (if (l.map dN).isEmpty = true then 0 else 4) (l.map dN)]) (writes_e (bT 57 l) (by omega)) (by rw [dN_eq]; exact (dN_strip_eq 57 0 ⟨#[]⟩ l)) (by simp [plain, D.under, D.unders, unders_id (f := dN) dN_under]; rfl)
  simp only [sl] at f1 f2
  refine X_rg fun R hR => ?_
  simp only [EVeP, aops, astep, awant, aeff, aop, mkD, ev, St.put, pcall, zmc, zmn, zg1, zg0, zgd, zmo, if_true, zs1, zs0, zlc, zln, zd0, zt1, zt0, zca, zna, Nat.reduceAdd, Nat.reduceLeDiff, Nat.zero_add, ty_api_Node, any14, any16, f1, f2]
  with_reducible refine hR _ ?_
  clear hR R
  show X _ _ _ _
  refine X_seq ?_
  refine X_seq ?_
  have hsb : (bT 57 (rotL l q l.length)).size ≤ 1000000 := rot_size l q (by omega) (by omega)
  have hst : (D.agg [.int .u8 57, .int .i64 0, .str ⟨#[]⟩, .slice o n ((rotL l q l.length).map dN)]).strip = dN (bT 57 (rotL l q l.length)) := own_strip ha.out
  have hpl : plain [D.agg [.int .u8 57, .int .i64 0, .str ⟨#[]⟩, .slice o n ((rotL l q l.length).map dN)]] = true := by simp [plain, D.under, D.unders, unders_id (f := dN) dN_under]; rfl
  have g1 := call_d (reads_e (bT 57 (rotL l q l.length)) hsb) hst hpl
  have g2 := call_d (writes_e (bT 57 (rotL l q l.length)) hsb) hst hpl
  rw [rot_reads] at g1
  rw [rot_writes] at g2
  have g3 : fn EVe _ _ = _ := fn_more (names_fn (rrT (bT 57 l)) (rrT (bT 57 l)) (by omega))
  have g4 : fn EVe _ _ = _ := fn_more (names_fn (wrT (bT 57 l)) (wrT (bT 57 l)) (by omega))
  rw [decide_eq_true rfl] at g3 g4
  simp only [sl] at g1 g2 g3 g4
  refine X_rg fun R hR => ?_
  simp only [EVeP, aops, astep, awant, aeff, aop, mkD, ev, ofValue, St.put, pcall, zmc, zmn, zg1, zg0, zgd, zmo, zbs, if_true, zs1, zs0, zlc, zln, zd0, zt1, zt0, zca, zna, Nat.reduceAdd, Nat.reduceLeDiff, Nat.zero_add, Bool.not_true, zft, if_false, beq_self_eq_true, ty_api_Node, any13, any14, any16, g1, g2, g3, g4]
  with_reducible refine hR _ ?_
  clear hR R
  show X _ _ _ _
  refine X_false (by simp only [ev, zg1, zg0, zgd]) ?_
  refine X_skip ?_
  show X _ _ _ _
  refine X_seq ?_
  refine X_rg fun R hR => ?_
  simp only [aops, astep, awant, aeff, aop, ev, St.put, zg1, zg0, zgd, zmo, if_true, zs1, zs0, zlc, zln, zca, zna, Nat.reduceAdd, Nat.zero_add, Option.isNone_none]
  with_reducible refine hR _ ?_
  clear hR R
  show X _ _ _ _
  refine X_seq ?_
  refine X_rg fun R hR => ?_
  simp only [aops, astep, awant, aeff, aop, ev, ofValue, St.put, zgd, zmo, if_true, zs1, zs0]
  with_reducible refine hR _ ?_
  clear hR R
  show X _ _ _ _
  refine X_seq ?_
  refine X_seq ?_
  refine X_rg fun R hR => ?_
  simp only [EVeP, inr_i64, Int.reduceLE, Int.reduceNeg, aops, astep, awant, aeff, aop, ev, ofValue, St.put, zg1, zg0, zgd, zmo, if_true, zs1, zs0, zlm, and_self, und_api_Node]
  with_reducible refine hR _ ?_
  clear hR R
  show X _ _ _ _
  refine X_block ?_
  refine X_loop (fun m σ => ∃ (i : Nat) (r : List (List D)), σ = ⟨[.slice .imm (if (l.map dN).isEmpty = true then 0 else 4) (l.map dN), slotOf σ 1, slotOf σ 2, slotOf σ 3, slotOf σ 4, slotOf σ 5, slotOf σ 6, .ptr 0 0, .ptr 1 0, .slice .imm (if ((rrT (bT 57 l)).map dS).isEmpty = true then 0 else 1) ((rrT (bT 57 l)).map dS), .slice .imm (if ((wrT (bT 57 l)).map dS).isEmpty = true then 0 else 1) ((wrT (bT 57 l)).map dS), .mref 2, .mref 3, .bool ((l.take i).any tapesB), slotOf σ 14, slotOf σ 15, slotOf σ 16, slotOf σ 17, slotOf σ 18, slotOf σ 19, slotOf σ 20, slotOf σ 21, slotOf σ 22, slotOf σ 23, slotOf σ 24, slotOf σ 25, slotOf σ 26, slotOf σ 27, slotOf σ 28, slotOf σ 29, slotOf σ 30, slotOf σ 31, slotOf σ 32, slotOf σ 33, slotOf σ 34, slotOf σ 35, slotOf σ 36, slotOf σ 37, slotOf σ 38, slotOf σ 39, slotOf σ 40, slotOf σ 41, slotOf σ 42, slotOf σ 43, slotOf σ 44, slotOf σ 45, slotOf σ 46, slotOf σ 47, slotOf σ 48, slotOf σ 49, slotOf σ 50, slotOf σ 51, slotOf σ 52, slotOf σ 53, slotOf σ 54, slotOf σ 55, slotOf σ 56, slotOf σ 57, slotOf σ 58, slotOf σ 59, slotOf σ 60, slotOf σ 61, slotOf σ 62, slotOf σ 63, slotOf σ 64, slotOf σ 65, slotOf σ 66, slotOf σ 67, slotOf σ 68, slotOf σ 69, slotOf σ 70, slotOf σ 71, slotOf σ 72, slotOf σ 73, slotOf σ 74, slotOf σ 75, slotOf σ 76, slotOf σ 77, slotOf σ 78, .slice .imm (if (l.map dN).isEmpty = true then 0 else 4) (l.map dN), .int .i64 l.length, .int .i64 i, slotOf σ 82, slotOf σ 83, slotOf σ 84, slotOf σ 85, slotOf σ 86, slotOf σ 87, slotOf σ 88, slotOf σ 89, slotOf σ 90, slotOf σ 91, slotOf σ 92, slotOf σ 93, slotOf σ 94, slotOf σ 95, slotOf σ 96, slotOf σ 97, slotOf σ 98, slotOf σ 99, slotOf σ 100, slotOf σ 101, slotOf σ 102, slotOf σ 103, slotOf σ 104, slotOf σ 105, slotOf σ 106, slotOf σ 107, slotOf σ 108, slotOf σ 109, slotOf σ 110, slotOf σ 111, slotOf σ 112, slotOf σ 113, slotOf σ 114, slotOf σ 115, slotOf σ 116, slotOf σ 117, slotOf σ 118, slotOf σ 119, slotOf σ 120, slotOf σ 121, slotOf σ 122, slotOf σ 123, slotOf σ 124, slotOf σ 125, slotOf σ 126, slotOf σ 127, slotOf σ 128, slotOf σ 129, slotOf σ 130, slotOf σ 131, slotOf σ 132, slotOf σ 133, slotOf σ 134, slotOf σ 135, slotOf σ 136, slotOf σ 137, slotOf σ 138, slotOf σ 139, slotOf σ 140, slotOf σ 141, slotOf σ 142, slotOf σ 143, slotOf σ 144, slotOf σ 145, slotOf σ 146, slotOf σ 147, slotOf σ 148, slotOf σ 149, slotOf σ 150], [.int .u8 57, .int .i64 0, .str ⟨#[]⟩, .slice .imm (if (l.map dN).isEmpty = true then 0 else 4) (l.map dN)] :: [.int .u8 57, .int .i64 0, .str ⟨#[]⟩, .slice o n ((rotL l q l.length).map dN)] :: sD (manyL rrT (l.take i)) :: sD (manyL wrT (l.take i)) :: r, nx, lv⟩ ∧ m = l.length - i ∧ i ≤ l.length) ?_ (l.length) _ ?_
  rotate_left
  ·exact ⟨0, [], rfl, rfl, Nat.zero_le _⟩
  rintro m σ ⟨i, r, hσ, rfl, hi⟩
  generalize slotOf σ = x at hσ
  subst hσ
  refine X_seq ?_
  refine X_rg fun R hR => ?_
  simp only [nat_lt, aops, astep, awant, aeff, aop, abin, aint, ev, St.put, zg1, zg0, zgd, zmo, if_true, zs1, zs0]
  with_reducible refine hR _ ?_
  clear hR R
  show X _ _ _ _
  refine X_seq ?_
  refine X_ite (by simp only [ev, zg1, zg0, zgd]; exact rfl) ?_ ?_
  ·intro b3
   have c3 := b3
   try simp only [decide_eq_true_eq] at c3
   refine X_skip ?_
   show X _ _ _ _
   refine X_seq ?_
   refine X_block ?_
   refine X_seq ?_
   have hlt : i < l.length := by first | assumption | omega | simp_all
   have hn1 := idx_n (f := dN) (n := 4) hlt
   have e1 : (l.map dN)[i]? = some (dN l[i]) := by simp [hlt]
   have hsi := Tr.size_le_of_mem (List.getElem_mem hlt)
   have hli := rrT_len l[i]
   have hlw := wrT_len l[i]
   have hm1 := many_le rrT rr_le2 (l.take i)
   have hm2 := many_le wrT wrT_len (l.take i)
   have hst := Tr.sizes_take_le l i
   obtain ⟨r0, hr0⟩ : ∃ r0, r0 = r := ⟨r, rfl⟩
   subst hr0
   refine X_rg fun R hR => ?_
   simp only [EVeP, app_get0, app_set0, nat_lt, nat_0, nat_to, aops, astep, awant, aeff, aop, astore, ev, St.put, zg1, zg0, zgd, zmo, zbs, if_true, zs1, zs0, zlm, zlc, zln, zd1, zd0, zt0, zca, zna, Nat.reduceAdd, Nat.reduceLeDiff, Nat.zero_add, and_self, decide_true, zis, ty_api_Node, und_api_Node, siz_api_Node, inf_api_Node_eq, dN_cells, dN_isAgg, dN_good, sl, hlt, hn1, e1]
   with_reducible refine hR _ ?_
   clear hR R
   show X _ _ _ _
   refine X_seq ?_
   refine X_seq ?_
   have f1 := reads_e l[i] (by omega)
   simp only [sl] at f1
   refine X_rg fun R hR => ?_
   simp only [EVeP, inr_i64, Int.reduceLE, Int.reduceNeg, app_get0, aops, astep, awant, aeff, aop, mkD, ev, ofValue, St.put, pcall, zmc, zmn, zg1, zg0, zgd, zmo, if_true, zs1, zs0, zlm, zlc, zln, zd0, zt1, zt0, zca, zna, Nat.reduceAdd, Nat.reduceLeDiff, Nat.zero_add, and_self, ty_api_Node, und_string, any14, dN_agg, f1]
   with_reducible refine hR _ ?_
   clear hR R
   show X _ _ _ _
   refine X_block ?_
   refine X_loop (fun m σ => ∃ (j : Nat), σ = ⟨[.slice .imm (if (l.map dN).isEmpty = true then 0 else 4) (l.map dN), slotOf σ 1, slotOf σ 2, slotOf σ 3, slotOf σ 4, slotOf σ 5, slotOf σ 6, .ptr 0 0, .ptr 1 0, .slice .imm (if ((rrT (bT 57 l)).map dS).isEmpty = true then 0 else 1) ((rrT (bT 57 l)).map dS), .slice .imm (if ((wrT (bT 57 l)).map dS).isEmpty = true then 0 else 1) ((wrT (bT 57 l)).map dS), .mref 2, .mref 3, .bool ((l.take i).any tapesB), slotOf σ 14, .ptr (r0.length + 1 + 1 + 1 + 1) 0, slotOf σ 16, slotOf σ 17, slotOf σ 18, slotOf σ 19, slotOf σ 20, slotOf σ 21, slotOf σ 22, slotOf σ 23, slotOf σ 24, slotOf σ 25, slotOf σ 26, slotOf σ 27, slotOf σ 28, slotOf σ 29, slotOf σ 30, slotOf σ 31, slotOf σ 32, slotOf σ 33, slotOf σ 34, slotOf σ 35, slotOf σ 36, slotOf σ 37, slotOf σ 38, slotOf σ 39, slotOf σ 40, slotOf σ 41, slotOf σ 42, slotOf σ 43, slotOf σ 44, slotOf σ 45, slotOf σ 46, slotOf σ 47, slotOf σ 48, slotOf σ 49, slotOf σ 50, slotOf σ 51, slotOf σ 52, slotOf σ 53, slotOf σ 54, slotOf σ 55, slotOf σ 56, slotOf σ 57, slotOf σ 58, slotOf σ 59, slotOf σ 60, slotOf σ 61, slotOf σ 62, slotOf σ 63, slotOf σ 64, slotOf σ 65, slotOf σ 66, slotOf σ 67, slotOf σ 68, slotOf σ 69, slotOf σ 70, slotOf σ 71, slotOf σ 72, slotOf σ 73, slotOf σ 74, slotOf σ 75, slotOf σ 76, slotOf σ 77, slotOf σ 78, .slice .imm (if (l.map dN).isEmpty = true then 0 else 4) (l.map dN), .int .i64 l.length, .int .i64 i, slotOf σ 82, slotOf σ 83, slotOf σ 84, slotOf σ 85, .slice .imm (if ((rrT l[i]).map dS).isEmpty = true then 0 else 1) ((rrT l[i]).map dS), .int .i64 (rrT l[i]).length, .int .i64 j, slotOf σ 89, slotOf σ 90, slotOf σ 91, slotOf σ 92, slotOf σ 93, slotOf σ 94, slotOf σ 95, slotOf σ 96, slotOf σ 97, slotOf σ 98, slotOf σ 99, slotOf σ 100, slotOf σ 101, slotOf σ 102, slotOf σ 103, slotOf σ 104, slotOf σ 105, slotOf σ 106, slotOf σ 107, slotOf σ 108, slotOf σ 109, slotOf σ 110, slotOf σ 111, slotOf σ 112, slotOf σ 113, slotOf σ 114, slotOf σ 115, slotOf σ 116, slotOf σ 117, slotOf σ 118, slotOf σ 119, slotOf σ 120, slotOf σ 121, slotOf σ 122, slotOf σ 123, slotOf σ 124, slotOf σ 125, slotOf σ 126, slotOf σ 127, slotOf σ 128, slotOf σ 129, slotOf σ 130, slotOf σ 131, slotOf σ 132, slotOf σ 133, slotOf σ 134, slotOf σ 135, slotOf σ 136, slotOf σ 137, slotOf σ 138, slotOf σ 139, slotOf σ 140, slotOf σ 141, slotOf σ 142, slotOf σ 143, slotOf σ 144, slotOf σ 145, slotOf σ 146, slotOf σ 147, slotOf σ 148, slotOf σ 149, slotOf σ 150], [.int .u8 57, .int .i64 0, .str ⟨#[]⟩, .slice .imm (if (l.map dN).isEmpty = true then 0 else 4) (l.map dN)] :: [.int .u8 57, .int .i64 0, .str ⟨#[]⟩, .slice o n ((rotL l q l.length).map dN)] :: sD (addL (manyL rrT (l.take i)) ((rrT l[i]).take j)) :: sD (manyL wrT (l.take i)) :: (r0 ++ [[.int .u8 l[i].kind, .int .i64 l[i].num, .str l[i].name, .slice .imm (if (l[i].kids.map dN).isEmpty = true then 0 else 4) (l[i].kids.map dN)]]), nx, lv⟩ ∧ m = (rrT l[i]).length - j ∧ j ≤ (rrT l[i]).length) ?_ ((rrT l[i]).length) _ ?_
   rotate_left
   ·exact ⟨0, rfl, rfl, Nat.zero_le _⟩
   rintro m σ ⟨j, hσ, rfl, hj⟩
   generalize slotOf σ = x at hσ
   subst hσ
   refine X_seq ?_
   refine X_rg fun R hR => ?_
   simp only [nat_lt, aops, astep, awant, aeff, aop, abin, aint, ev, St.put, zg1, zg0, zgd, zmo, if_true, zs1, zs0]
   with_reducible refine hR _ ?_
   clear hR R
   show X _ _ _ _
   refine X_seq ?_
   refine X_ite (by simp only [ev, zg1, zg0, zgd]; exact rfl) ?_ ?_
   ·intro b4
    have c4 := b4
    try simp only [decide_eq_true_eq] at c4
    refine X_skip ?_
    show X _ _ _ _
    refine X_seq ?_
    refine X_block ?_
    refine X_seq ?_
    have hlj : j < (rrT l[i]).length := by first | assumption | omega | simp_all
    have hljn := idx_n (f := dS) (n := 1) (l := (rrT l[i])) (i := j) hlj
    have hlje : ((rrT l[i]).map dS)[j]? = some (.str (rrT l[i])[j]) := by rw [List.getElem?_map, List.getElem?_eq_getElem hlj]; rfl
    refine X_rg fun R hR => ?_
    simp only [EVeP, nat_lt, nat_0, nat_to, aops, astep, awant, aeff, aop, ev, St.put, ia_str, cl_str, zg1, zg0, zgd, zmo, if_true, zs1, zs0, zlm, zlc, zln, Nat.zero_add, and_self, decide_true, zis, ty_string, und_string, siz_string, inf_string_eq, hlj, hljn, hlje]
    with_reducible refine hR _ ?_
    clear hR R
    show X _ _ _ _
    have hal := addL_len ((rrT l[i]).take j) (manyL rrT (l.take i))
    simp only [List.length_take] at hal
    have hsm := set_s 2 (addL (manyL rrT (l.take i)) ((rrT l[i]).take j)) (rrT l[i])[j] (by omega)
    rw [addL_snoc (manyL rrT (l.take i)) (rrT l[i]) j hlj] at hsm
    refine X_rg fun R hR => ?_
    simp only [EVeP, aops, astep, awant, aeff, aop, ev, ofValue, St.put, zg1, zg0, zgd, zmo, if_true, zs1, zs0, hsm]
    with_reducible refine hR _ ?_
    clear hR R
    show X _ _ _ _
    have hbig : j < 9223372036854775807 := by omega
    refine X_rg fun R hR => ?_
    simp only [inr_i64, Int.reduceLE, Int.reduceNeg, aops, astep, awant, aeff, aop, abin, aint, ev, ofValue, St.put, zg1, zg0, zgd, zmo, if_true, zs1, zs0, and_self, nat_succ hbig]
    with_reducible refine hR _ ?_
    clear hR R
    show ∃ m, m < _ ∧ _
    exact ⟨(rrT l[i]).length - (j + 1), by omega, j + 1, rfl, rfl, by omega⟩
   ·intro b5
    have c5 := b5
    try simp only [decide_eq_false_iff_not] at c5
    refine X_exit ?_
    show X _ _ _ _
    refine X_seq ?_
    refine X_seq ?_
    obtain rfl : j = (rrT l[i]).length := by first | omega | (simp_all; omega)
    rw [List.take_length]
    have f2 := writes_e l[i] (by omega)
    simp only [sl] at f2
    refine X_rg fun R hR => ?_
    simp only [EVeP, inr_i64, Int.reduceLE, Int.reduceNeg, app_get0, aops, astep, awant, aeff, aop, mkD, ev, ofValue, St.put, pcall, zmc, zmn, zg1, zg0, zgd, zmo, if_true, zs1, zs0, zlm, zlc, zln, zd0, zt1, zt0, zca, zna, Nat.reduceAdd, Nat.reduceLeDiff, Nat.zero_add, and_self, ty_api_Node, und_string, any16, dN_agg, b5, f2]
    with_reducible refine hR _ ?_
    clear hR R
    show X _ _ _ _
    refine X_block ?_
    refine X_loop (fun m σ => ∃ (j : Nat), σ = ⟨[.slice .imm (if (l.map dN).isEmpty = true then 0 else 4) (l.map dN), slotOf σ 1, slotOf σ 2, slotOf σ 3, slotOf σ 4, slotOf σ 5, slotOf σ 6, .ptr 0 0, .ptr 1 0, .slice .imm (if ((rrT (bT 57 l)).map dS).isEmpty = true then 0 else 1) ((rrT (bT 57 l)).map dS), .slice .imm (if ((wrT (bT 57 l)).map dS).isEmpty = true then 0 else 1) ((wrT (bT 57 l)).map dS), .mref 2, .mref 3, .bool ((l.take i).any tapesB), slotOf σ 14, .ptr (r0.length + 1 + 1 + 1 + 1) 0, slotOf σ 16, slotOf σ 17, slotOf σ 18, slotOf σ 19, slotOf σ 20, slotOf σ 21, slotOf σ 22, slotOf σ 23, slotOf σ 24, slotOf σ 25, slotOf σ 26, slotOf σ 27, slotOf σ 28, slotOf σ 29, slotOf σ 30, slotOf σ 31, slotOf σ 32, slotOf σ 33, slotOf σ 34, slotOf σ 35, slotOf σ 36, slotOf σ 37, slotOf σ 38, slotOf σ 39, slotOf σ 40, slotOf σ 41, slotOf σ 42, slotOf σ 43, slotOf σ 44, slotOf σ 45, slotOf σ 46, slotOf σ 47, slotOf σ 48, slotOf σ 49, slotOf σ 50, slotOf σ 51, slotOf σ 52, slotOf σ 53, slotOf σ 54, slotOf σ 55, slotOf σ 56, slotOf σ 57, slotOf σ 58, slotOf σ 59, slotOf σ 60, slotOf σ 61, slotOf σ 62, slotOf σ 63, slotOf σ 64, slotOf σ 65, slotOf σ 66, slotOf σ 67, slotOf σ 68, slotOf σ 69, slotOf σ 70, slotOf σ 71, slotOf σ 72, slotOf σ 73, slotOf σ 74, slotOf σ 75, slotOf σ 76, slotOf σ 77, slotOf σ 78, .slice .imm (if (l.map dN).isEmpty = true then 0 else 4) (l.map dN), .int .i64 l.length, .int .i64 i, slotOf σ 82, slotOf σ 83, slotOf σ 84, slotOf σ 85, slotOf σ 86, slotOf σ 87, slotOf σ 88, slotOf σ 89, slotOf σ 90, slotOf σ 91, slotOf σ 92, slotOf σ 93, slotOf σ 94, slotOf σ 95, .slice .imm (if ((wrT l[i]).map dS).isEmpty = true then 0 else 1) ((wrT l[i]).map dS), .int .i64 (wrT l[i]).length, .int .i64 j, slotOf σ 99, slotOf σ 100, slotOf σ 101, slotOf σ 102, slotOf σ 103, slotOf σ 104, slotOf σ 105, slotOf σ 106, slotOf σ 107, slotOf σ 108, slotOf σ 109, slotOf σ 110, slotOf σ 111, slotOf σ 112, slotOf σ 113, slotOf σ 114, slotOf σ 115, slotOf σ 116, slotOf σ 117, slotOf σ 118, slotOf σ 119, slotOf σ 120, slotOf σ 121, slotOf σ 122, slotOf σ 123, slotOf σ 124, slotOf σ 125, slotOf σ 126, slotOf σ 127, slotOf σ 128, slotOf σ 129, slotOf σ 130, slotOf σ 131, slotOf σ 132, slotOf σ 133, slotOf σ 134, slotOf σ 135, slotOf σ 136, slotOf σ 137, slotOf σ 138, slotOf σ 139, slotOf σ 140, slotOf σ 141, slotOf σ 142, slotOf σ 143, slotOf σ 144, slotOf σ 145, slotOf σ 146, slotOf σ 147, slotOf σ 148, slotOf σ 149, slotOf σ 150], [.int .u8 57, .int .i64 0, .str ⟨#[]⟩, .slice .imm (if (l.map dN).isEmpty = true then 0 else 4) (l.map dN)] :: [.int .u8 57, .int .i64 0, .str ⟨#[]⟩, .slice o n ((rotL l q l.length).map dN)] :: sD (addL (manyL rrT (l.take i)) (rrT l[i])) :: sD (addL (manyL wrT (l.take i)) ((wrT l[i]).take j)) :: (r0 ++ [[.int .u8 l[i].kind, .int .i64 l[i].num, .str l[i].name, .slice .imm (if (l[i].kids.map dN).isEmpty = true then 0 else 4) (l[i].kids.map dN)]]), nx, lv⟩ ∧ m = (wrT l[i]).length - j ∧ j ≤ (wrT l[i]).length) ?_ ((wrT l[i]).length) _ ?_
    rotate_left
    ·exact ⟨0, rfl, rfl, Nat.zero_le _⟩
    rintro m σ ⟨j, hσ, rfl, hj⟩
    generalize slotOf σ = x at hσ
    subst hσ
    refine X_seq ?_
    refine X_rg fun R hR => ?_
    simp only [nat_lt, aops, astep, awant, aeff, aop, abin, aint, ev, St.put, zg1, zg0, zgd, zmo, if_true, zs1, zs0]
    with_reducible refine hR _ ?_
    clear hR R
    show X _ _ _ _
    refine X_seq ?_
    refine X_ite (by simp only [ev, zg1, zg0, zgd]; exact rfl) ?_ ?_
    ·intro b6
     have c6 := b6
     try simp only [decide_eq_true_eq] at c6
     refine X_skip ?_
     show X _ _ _ _
     refine X_seq ?_
     refine X_block ?_
     refine X_seq ?_
     have hlj : j < (wrT l[i]).length := by first | assumption | omega | simp_all
     have hljn := idx_n (f := dS) (n := 1) (l := (wrT l[i])) (i := j) hlj
     have hlje : ((wrT l[i]).map dS)[j]? = some (.str (wrT l[i])[j]) := by rw [List.getElem?_map, List.getElem?_eq_getElem hlj]; rfl
     refine X_rg fun R hR => ?_
     simp only [EVeP, nat_lt, nat_0, nat_to, aops, astep, awant, aeff, aop, ev, St.put, ia_str, cl_str, zg1, zg0, zgd, zmo, if_true, zs1, zs0, zlm, zlc, zln, Nat.zero_add, and_self, decide_true, zis, ty_string, und_string, siz_string, inf_string_eq, hlj, hljn, hlje]
     with_reducible refine hR _ ?_
     clear hR R
     show X _ _ _ _
     have hal := addL_len ((wrT l[i]).take j) (manyL wrT (l.take i))
     simp only [List.length_take] at hal
     have hsm := set_s 3 (addL (manyL wrT (l.take i)) ((wrT l[i]).take j)) (wrT l[i])[j] (by omega)
     rw [addL_snoc (manyL wrT (l.take i)) (wrT l[i]) j hlj] at hsm
     refine X_rg fun R hR => ?_
     simp only [EVeP, aops, astep, awant, aeff, aop, ev, ofValue, St.put, zg1, zg0, zgd, zmo, if_true, zs1, zs0, hsm]
     with_reducible refine hR _ ?_
     clear hR R
     show X _ _ _ _
     have hbig : j < 9223372036854775807 := by omega
     refine X_rg fun R hR => ?_
     simp only [inr_i64, Int.reduceLE, Int.reduceNeg, aops, astep, awant, aeff, aop, abin, aint, ev, ofValue, St.put, zg1, zg0, zgd, zmo, if_true, zs1, zs0, and_self, nat_succ hbig]
     with_reducible refine hR _ ?_
     clear hR R
     show ∃ m, m < _ ∧ _
     exact ⟨(wrT l[i]).length - (j + 1), by omega, j + 1, rfl, rfl, by omega⟩
    ·intro b7
     have c7 := b7
     try simp only [decide_eq_false_iff_not] at c7
     refine X_exit ?_
     show X _ _ _ _
     obtain rfl : j = (wrT l[i]).length := by first | omega | (simp_all; omega)
     rw [List.take_length]
     have f3 : fn EVe _ _ = _ := fn_more (tapes_fn l[i] (by omega))
     refine X_y ?_
     refine Y_k 2 fun R hR => ?_
     simp only [EVeP, aops, astep, awant, aeff, aop, ev, St.put, zg1, zg0, zgd, zmo, if_true, zs1, zs0, zt1, zt0, b7]
     with_reducible refine hR _ ?_
     clear hR R
     simp only [zd1, zd0]
     refine Y_if 106 (by simp only [ev, zg1, zg0, zgd]; exact rfl) ?_ ?_
     ·intro b8
      have c8 := b8
      try simp only [znt, znf, decide_eq_true_eq, decide_eq_false_iff_not, beq_iff_eq, Int.not_lt, Int.not_le, ge_iff_le, gt_iff_lt, bne_iff_ne, ne_eq, bne_eq_false_iff_eq, beq_eq_false_iff_ne, zat, zof] at c8
      refine Y_end fun R hR => ?_
      simp only [EVeP, app_get0, aops, astep, awant, aeff, aop, mkD, ev, ofValue, St.put, pcall, zmc, zmn, zg1, zg0, zgd, zmo, zbs, if_true, zs1, zs0, zlc, zln, zd0, zt1, zt0, zca, zna, Nat.reduceAdd, Nat.reduceLeDiff, Nat.zero_add, zft, if_false, bq_tf, ty_api_Node, any18, dN_agg, b8]
      with_reducible refine hR _ ?_
      clear hR R
      show X _ _ _ _
      have hbig : i < 9223372036854775807 := by omega
      refine X_rg fun R hR => ?_
      simp only [inr_i64, Int.reduceLE, Int.reduceNeg, aops, astep, awant, aeff, aop, abin, aint, ev, ofValue, St.put, zg1, zg0, zgd, zmo, if_true, zs1, zs0, and_self, nat_succ hbig]
      with_reducible refine hR _ ?_
      clear hR R
      show ∃ m, m < _ ∧ _
      have htb : ((l.take i).any tapesB || tapesB l[i]) = true := take_any (by first | assumption | (simp_all; done))
      exact ⟨l.length - (i + 1), by omega, i + 1, r0 ++ [[.int .u8 l[i].kind, .int .i64 l[i].num, .str l[i].name, .slice .imm (if (l[i].kids.map dN).isEmpty = true then 0 else 4) (l[i].kids.map dN)]], by rw [many_snoc hlt, many_snoc hlt, any_snoc hlt, htb]; rfl, rfl, by omega⟩
     ·intro b9
      have c9 := b9
      try simp only [znt, znf, decide_eq_true_eq, decide_eq_false_iff_not, beq_iff_eq, Int.not_lt, Int.not_le, ge_iff_le, gt_iff_lt, bne_iff_ne, ne_eq, bne_eq_false_iff_eq, beq_eq_false_iff_ne, zat, zof] at c9
      refine Y_end fun R hR => ?_
      simp only [EVeP, app_get0, aops, astep, awant, aeff, aop, mkD, ev, ofValue, St.put, pcall, zmc, zmn, zg1, zg0, zgd, zmo, zbs, if_true, zs1, zs0, zlc, zln, zd0, zt1, zt0, zca, zna, Nat.reduceAdd, Nat.reduceLeDiff, Nat.zero_add, zft, if_false, beq_self_eq_true, ty_api_Node, any18, dN_agg, b9, f3]
      with_reducible refine hR _ ?_
      clear hR R
      show X _ _ _ _
      have hbig : i < 9223372036854775807 := by omega
      refine X_rg fun R hR => ?_
      simp only [inr_i64, Int.reduceLE, Int.reduceNeg, aops, astep, awant, aeff, aop, abin, aint, ev, ofValue, St.put, zg1, zg0, zgd, zmo, if_true, zs1, zs0, and_self, nat_succ hbig]
      with_reducible refine hR _ ?_
      clear hR R
      show ∃ m, m < _ ∧ _
      have hq3 : (l.take i).any tapesB = false := by first | assumption | (simp_all; done)
      have htb : ((l.take i).any tapesB || tapesB l[i]) = tapesB l[i] := by rw [hq3]; rfl
      exact ⟨l.length - (i + 1), by omega, i + 1, r0 ++ [[.int .u8 l[i].kind, .int .i64 l[i].num, .str l[i].name, .slice .imm (if (l[i].kids.map dN).isEmpty = true then 0 else 4) (l[i].kids.map dN)]], by rw [many_snoc hlt, many_snoc hlt, any_snoc hlt, htb]; rfl, rfl, by omega⟩
  ·intro b10
   have c10 := b10
   try simp only [decide_eq_false_iff_not] at c10
   refine X_exit ?_
   show X _ _ _ _
   refine X_seq ?_
   refine X_seq ?_
   obtain rfl : i = l.length := by first | omega | (simp_all; omega)
   rw [List.take_length]
   obtain ⟨r1, hr1⟩ : ∃ r1, r1 = r := ⟨r, rfl⟩
   subst hr1
   refine X_rg fun R hR => ?_
   simp only [EVeP, inr_i64, Int.reduceLE, Int.reduceNeg, aops, astep, awant, aeff, aop, ev, ofValue, St.put, zg1, zg0, zgd, zmo, if_true, zs1, zs0, zlm, and_self, und_string, b2]
   with_reducible refine hR _ ?_
   clear hR R
   show X _ _ _ _
   refine X_block ?_
   refine X_loop (fun m σ => ∃ (j : Nat), σ = ⟨[.slice .imm (if (l.map dN).isEmpty = true then 0 else 4) (l.map dN), slotOf σ 1, slotOf σ 2, slotOf σ 3, slotOf σ 4, slotOf σ 5, slotOf σ 6, .ptr 0 0, .ptr 1 0, .slice .imm (if ((rrT (bT 57 l)).map dS).isEmpty = true then 0 else 1) ((rrT (bT 57 l)).map dS), .slice .imm (if ((wrT (bT 57 l)).map dS).isEmpty = true then 0 else 1) ((wrT (bT 57 l)).map dS), .mref 2, .mref 3, .bool (l.any tapesB), slotOf σ 14, slotOf σ 15, slotOf σ 16, slotOf σ 17, slotOf σ 18, slotOf σ 19, slotOf σ 20, slotOf σ 21, slotOf σ 22, slotOf σ 23, slotOf σ 24, slotOf σ 25, slotOf σ 26, slotOf σ 27, slotOf σ 28, slotOf σ 29, slotOf σ 30, slotOf σ 31, slotOf σ 32, slotOf σ 33, slotOf σ 34, slotOf σ 35, slotOf σ 36, slotOf σ 37, slotOf σ 38, slotOf σ 39, slotOf σ 40, slotOf σ 41, slotOf σ 42, slotOf σ 43, slotOf σ 44, slotOf σ 45, slotOf σ 46, slotOf σ 47, slotOf σ 48, slotOf σ 49, slotOf σ 50, slotOf σ 51, slotOf σ 52, slotOf σ 53, slotOf σ 54, slotOf σ 55, slotOf σ 56, slotOf σ 57, slotOf σ 58, slotOf σ 59, slotOf σ 60, slotOf σ 61, slotOf σ 62, slotOf σ 63, slotOf σ 64, slotOf σ 65, slotOf σ 66, slotOf σ 67, slotOf σ 68, slotOf σ 69, slotOf σ 70, slotOf σ 71, slotOf σ 72, slotOf σ 73, slotOf σ 74, slotOf σ 75, slotOf σ 76, slotOf σ 77, slotOf σ 78, slotOf σ 79, slotOf σ 80, slotOf σ 81, slotOf σ 82, slotOf σ 83, slotOf σ 84, slotOf σ 85, slotOf σ 86, slotOf σ 87, slotOf σ 88, slotOf σ 89, slotOf σ 90, slotOf σ 91, slotOf σ 92, slotOf σ 93, slotOf σ 94, slotOf σ 95, slotOf σ 96, slotOf σ 97, slotOf σ 98, slotOf σ 99, slotOf σ 100, slotOf σ 101, slotOf σ 102, slotOf σ 103, slotOf σ 104, slotOf σ 105, slotOf σ 106, slotOf σ 107, slotOf σ 108, slotOf σ 109, slotOf σ 110, .slice .imm (if ((rrT (bT 57 l)).map dS).isEmpty = true then 0 else 1) ((rrT (bT 57 l)).map dS), .int .i64 (rrT (bT 57 l)).length, .int .i64 j, slotOf σ 114, slotOf σ 115, slotOf σ 116, slotOf σ 117, slotOf σ 118, slotOf σ 119, slotOf σ 120, slotOf σ 121, slotOf σ 122, slotOf σ 123, slotOf σ 124, slotOf σ 125, slotOf σ 126, slotOf σ 127, slotOf σ 128, slotOf σ 129, slotOf σ 130, slotOf σ 131, slotOf σ 132, slotOf σ 133, slotOf σ 134, slotOf σ 135, slotOf σ 136, slotOf σ 137, slotOf σ 138, slotOf σ 139, slotOf σ 140, slotOf σ 141, slotOf σ 142, slotOf σ 143, slotOf σ 144, slotOf σ 145, slotOf σ 146, slotOf σ 147, slotOf σ 148, slotOf σ 149, slotOf σ 150], [.int .u8 57, .int .i64 0, .str ⟨#[]⟩, .slice .imm (if (l.map dN).isEmpty = true then 0 else 4) (l.map dN)] :: [.int .u8 57, .int .i64 0, .str ⟨#[]⟩, .slice o n ((rotL l q l.length).map dN)] :: sD (manyL rrT l) :: sD (manyL wrT l) :: r1, nx, lv⟩ ∧ m = (rrT (bT 57 l)).length - j ∧ j ≤ (rrT (bT 57 l)).length) ?_ ((rrT (bT 57 l)).length) _ ?_
   rotate_left
   ·exact ⟨0, rfl, rfl, Nat.zero_le _⟩
   rintro m σ ⟨j, hσ, rfl, hj⟩
   generalize slotOf σ = x at hσ
   subst hσ
   refine X_seq ?_
   refine X_rg fun R hR => ?_
   simp only [nat_lt, aops, astep, awant, aeff, aop, abin, aint, ev, St.put, zg1, zg0, zgd, zmo, if_true, zs1, zs0]
   with_reducible refine hR _ ?_
   clear hR R
   show X _ _ _ _
   refine X_seq ?_
   refine X_ite (by simp only [ev, zg1, zg0, zgd]; exact rfl) ?_ ?_
   ·intro b11
    have c11 := b11
    try simp only [decide_eq_true_eq] at c11
    refine X_skip ?_
    show X _ _ _ _
    refine X_seq ?_
    refine X_block ?_
    refine X_seq ?_
    have hlj : j < (rrT (bT 57 l)).length := by first | assumption | omega | simp_all
    have hljn := idx_n (f := dS) (n := 1) (l := (rrT (bT 57 l))) (i := j) hlj
    have hlje : ((rrT (bT 57 l)).map dS)[j]? = some (.str (rrT (bT 57 l))[j]) := by rw [List.getElem?_map, List.getElem?_eq_getElem hlj]; rfl
    refine X_rg fun R hR => ?_
    simp only [EVeP, nat_lt, nat_0, nat_to, aops, astep, awant, aeff, aop, ev, St.put, ia_str, cl_str, zg1, zg0, zgd, zmo, if_true, zs1, zs0, zlm, zlc, zln, Nat.zero_add, and_self, decide_true, zis, ty_string, und_string, siz_string, inf_string_eq, hlj, hljn, hlje]
    with_reducible refine hR _ ?_
    clear hR R
    show X _ _ _ _
    refine X_seq ?_
    have hlk := look_yes (i := 2) (A := manyL rrT l) (many_reads.2 (List.getElem_mem hlj))
    refine X_rg fun R hR => ?_
    simp only [EVeP, aops, astep, awant, aeff, aop, ev, St.put, zg1, zg0, zgd, zmo, if_true, zs1, zs0, Bool.not_true, hlk]
    with_reducible refine hR _ ?_
    clear hR R
    show X _ _ _ _
    refine X_false (by simp only [ev, zg1, zg0, zgd]) ?_
    refine X_skip ?_
    show X _ _ _ _
    have hbig : j < 9223372036854775807 := by omega
    refine X_rg fun R hR => ?_
    simp only [inr_i64, Int.reduceLE, Int.reduceNeg, aops, astep, awant, aeff, aop, abin, aint, ev, ofValue, St.put, zg1, zg0, zgd, zmo, if_true, zs1, zs0, and_self, nat_succ hbig]
    with_reducible refine hR _ ?_
    clear hR R
    show ∃ m, m < _ ∧ _
    exact ⟨(rrT (bT 57 l)).length - (j + 1), by omega, j + 1, rfl, rfl, by omega⟩
   ·intro b12
    have c12 := b12
    try simp only [decide_eq_false_iff_not] at c12
    refine X_exit ?_
    show X _ _ _ _
    refine X_seq ?_
    refine X_seq ?_
    refine X_rg fun R hR => ?_
    simp only [EVeP, inr_i64, Int.reduceLE, Int.reduceNeg, aops, astep, awant, aeff, aop, ev, ofValue, St.put, zg1, zg0, zgd, zmo, if_true, zs1, zs0, zlm, and_self, und_string, b12]
    with_reducible refine hR _ ?_
    clear hR R
    show X _ _ _ _
    refine X_block ?_
    refine X_loop (fun m σ => ∃ (j : Nat), σ = ⟨[.slice .imm (if (l.map dN).isEmpty = true then 0 else 4) (l.map dN), slotOf σ 1, slotOf σ 2, slotOf σ 3, slotOf σ 4, slotOf σ 5, slotOf σ 6, .ptr 0 0, .ptr 1 0, .slice .imm (if ((rrT (bT 57 l)).map dS).isEmpty = true then 0 else 1) ((rrT (bT 57 l)).map dS), .slice .imm (if ((wrT (bT 57 l)).map dS).isEmpty = true then 0 else 1) ((wrT (bT 57 l)).map dS), .mref 2, .mref 3, .bool (l.any tapesB), slotOf σ 14, slotOf σ 15, slotOf σ 16, slotOf σ 17, slotOf σ 18, slotOf σ 19, slotOf σ 20, slotOf σ 21, slotOf σ 22, slotOf σ 23, slotOf σ 24, slotOf σ 25, slotOf σ 26, slotOf σ 27, slotOf σ 28, slotOf σ 29, slotOf σ 30, slotOf σ 31, slotOf σ 32, slotOf σ 33, slotOf σ 34, slotOf σ 35, slotOf σ 36, slotOf σ 37, slotOf σ 38, slotOf σ 39, slotOf σ 40, slotOf σ 41, slotOf σ 42, slotOf σ 43, slotOf σ 44, slotOf σ 45, slotOf σ 46, slotOf σ 47, slotOf σ 48, slotOf σ 49, slotOf σ 50, slotOf σ 51, slotOf σ 52, slotOf σ 53, slotOf σ 54, slotOf σ 55, slotOf σ 56, slotOf σ 57, slotOf σ 58, slotOf σ 59, slotOf σ 60, slotOf σ 61, slotOf σ 62, slotOf σ 63, slotOf σ 64, slotOf σ 65, slotOf σ 66, slotOf σ 67, slotOf σ 68, slotOf σ 69, slotOf σ 70, slotOf σ 71, slotOf σ 72, slotOf σ 73, slotOf σ 74, slotOf σ 75, slotOf σ 76, slotOf σ 77, slotOf σ 78, slotOf σ 79, slotOf σ 80, slotOf σ 81, slotOf σ 82, slotOf σ 83, slotOf σ 84, slotOf σ 85, slotOf σ 86, slotOf σ 87, slotOf σ 88, slotOf σ 89, slotOf σ 90, slotOf σ 91, slotOf σ 92, slotOf σ 93, slotOf σ 94, slotOf σ 95, slotOf σ 96, slotOf σ 97, slotOf σ 98, slotOf σ 99, slotOf σ 100, slotOf σ 101, slotOf σ 102, slotOf σ 103, slotOf σ 104, slotOf σ 105, slotOf σ 106, slotOf σ 107, slotOf σ 108, slotOf σ 109, slotOf σ 110, slotOf σ 111, slotOf σ 112, slotOf σ 113, slotOf σ 114, slotOf σ 115, slotOf σ 116, slotOf σ 117, slotOf σ 118, slotOf σ 119, slotOf σ 120, slotOf σ 121, .slice .imm (if ((wrT (bT 57 l)).map dS).isEmpty = true then 0 else 1) ((wrT (bT 57 l)).map dS), .int .i64 (wrT (bT 57 l)).length, .int .i64 j, slotOf σ 125, slotOf σ 126, slotOf σ 127, slotOf σ 128, slotOf σ 129, slotOf σ 130, slotOf σ 131, slotOf σ 132, slotOf σ 133, slotOf σ 134, slotOf σ 135, slotOf σ 136, slotOf σ 137, slotOf σ 138, slotOf σ 139, slotOf σ 140, slotOf σ 141, slotOf σ 142, slotOf σ 143, slotOf σ 144, slotOf σ 145, slotOf σ 146, slotOf σ 147, slotOf σ 148, slotOf σ 149, slotOf σ 150], [.int .u8 57, .int .i64 0, .str ⟨#[]⟩, .slice .imm (if (l.map dN).isEmpty = true then 0 else 4) (l.map dN)] :: [.int .u8 57, .int .i64 0, .str ⟨#[]⟩, .slice o n ((rotL l q l.length).map dN)] :: sD (manyL rrT l) :: sD (manyL wrT l) :: r1, nx, lv⟩ ∧ m = (wrT (bT 57 l)).length - j ∧ j ≤ (wrT (bT 57 l)).length) ?_ ((wrT (bT 57 l)).length) _ ?_
    rotate_left
    ·exact ⟨0, rfl, rfl, Nat.zero_le _⟩
    rintro m σ ⟨j, hσ, rfl, hj⟩
    generalize slotOf σ = x at hσ
    subst hσ
    refine X_seq ?_
    refine X_rg fun R hR => ?_
    simp only [nat_lt, aops, astep, awant, aeff, aop, abin, aint, ev, St.put, zg1, zg0, zgd, zmo, if_true, zs1, zs0]
    with_reducible refine hR _ ?_
    clear hR R
    show X _ _ _ _
    refine X_seq ?_
    refine X_ite (by simp only [ev, zg1, zg0, zgd]; exact rfl) ?_ ?_
    ·intro b13
     have c13 := b13
     try simp only [decide_eq_true_eq] at c13
     refine X_skip ?_
     show X _ _ _ _
     refine X_seq ?_
     refine X_block ?_
     refine X_seq ?_
     have hlj : j < (wrT (bT 57 l)).length := by first | assumption | omega | simp_all
     have hljn := idx_n (f := dS) (n := 1) (l := (wrT (bT 57 l))) (i := j) hlj
     have hlje : ((wrT (bT 57 l)).map dS)[j]? = some (.str (wrT (bT 57 l))[j]) := by rw [List.getElem?_map, List.getElem?_eq_getElem hlj]; rfl
     refine X_rg fun R hR => ?_
     simp only [EVeP, nat_lt, nat_0, nat_to, aops, astep, awant, aeff, aop, ev, St.put, ia_str, cl_str, zg1, zg0, zgd, zmo, if_true, zs1, zs0, zlm, zlc, zln, Nat.zero_add, and_self, decide_true, zis, ty_string, und_string, siz_string, inf_string_eq, hlj, hljn, hlje]
     with_reducible refine hR _ ?_
     clear hR R
     show X _ _ _ _
     refine X_seq ?_
     have hlk := look_yes (i := 3) (A := manyL wrT l) (many_writes.2 (List.getElem_mem hlj))
     refine X_rg fun R hR => ?_
     simp only [EVeP, aops, astep, awant, aeff, aop, ev, St.put, zg1, zg0, zgd, zmo, if_true, zs1, zs0, Bool.not_true, hlk]
     with_reducible refine hR _ ?_
     clear hR R
     show X _ _ _ _
     refine X_false (by simp only [ev, zg1, zg0, zgd]) ?_
     refine X_skip ?_
     show X _ _ _ _
     have hbig : j < 9223372036854775807 := by omega
     refine X_rg fun R hR => ?_
     simp only [inr_i64, Int.reduceLE, Int.reduceNeg, aops, astep, awant, aeff, aop, abin, aint, ev, ofValue, St.put, zg1, zg0, zgd, zmo, if_true, zs1, zs0, and_self, nat_succ hbig]
     with_reducible refine hR _ ?_
     clear hR R
     show ∃ m, m < _ ∧ _
     exact ⟨(wrT (bT 57 l)).length - (j + 1), by omega, j + 1, rfl, rfl, by omega⟩
    ·intro b14
     have c14 := b14
     try simp only [decide_eq_false_iff_not] at c14
     refine X_exit ?_
     show X _ _ _ _
     refine X_seq ?_
     have s1 := sD_half (manyL rrT l)
     have s2 := sD_half (manyL wrT l)
     have q1 : (((rrT (bT 57 l)).length : Int) == ((manyL rrT l).length : Int)) = true := by rw [reads_count]; simp
     have q2 : (((wrT (bT 57 l)).length : Int) == ((manyL wrT l).length : Int)) = true := by rw [writes_count]; simp
     have f4 : fn EVe _ _ = _ := fn_more (call_d (d := .agg [.int .u8 57, .int .i64 0, .str ⟨#[]⟩, .slice .imm (if (l.map dN).isEmpty = true then 0 else 4) (l.map dN)]) (tapes_fn (bT 57 l) (by omega)) (by rw [dN_eq]; exact (dN_strip_eq 57 0 ⟨#[]⟩ l)) (by simp [plain, D.under, D.unders, unders_id (f := dN) dN_under]; rfl))
     rw [blk_tapes] at f4
     refine X_rg fun R hR => ?_
     simp only [EVeP, aops, astep, awant, aeff, aop, abin, aint, mkD, ev, ofValue, St.put, pcall, zmc, zmn, zg1, zg0, zgd, zmo, zbs, if_true, zs1, zs0, zlm, zlc, zln, zd0, zt1, zt0, zca, zna, Nat.reduceAdd, Nat.reduceLeDiff, Nat.zero_add, beq_self_eq_true, ty_api_Node, und_bool', und_string, any18, b14, s1, s2, q1, q2, f4, und_msb]
     with_reducible refine hR _ ?_
     clear hR R
     show X _ _ _ _
     refine X_ret ?_
     show resD _ _ _ = some _
     simp only [resD, resAll, resOne, resTup, Try.results6, EVeP, zg1, zg0, D.good, if_true, zmo] <;> (first | (rfl; done) | (simp_all; done) | (exfalso; simp_all; done))
theorem lawEffectsUnion_fn (l : List Tr) (q : Int) (h0 : 0 ≤ q) (h1 : q ≤ 255) : fn EVe 6 [sl 4 (l.map dN), .int .u8 q] = some (.bool true) := by
 obtain ⟨m, rfl⟩ : ∃ m : Nat, q = (m : Int) := ⟨q.toNat, by omega⟩
 have hm : m ≤ 255 := by omega
 rcases Nat.lt_or_ge 8 l.length with hl | hl
 ·cases hf : fewB (bT 0 l)
  ·exact lawEffectsUnion_10 l m hm hl hf
  ·exact lawEffectsUnion_11 l m hm hl hf
 ·cases hf : fewB (bT 0 l)
  ·exact lawEffectsUnion_00 l m hm hl hf
  ·exact lawEffectsUnion_01 l m hm hl hf

end Go.Proofs.Ytkkhjpkkjpcbmaa
