/- The law ConstfoldSmaller: its walk. -/
import Derived.Test.YtlpgapmbajblmaaNmm
import Derived.Test.YtlpgapmbajblmaaMr
namespace Go.Proofs.Ytlpgapmbajblmaa
open Go.RowKit

/-- the bodies up to the procedure i -/
def BL (p : Pg) (i : Nat) : List Tr := p.main :: (p.procs.take i).map (·.body)
theorem BL_snoc {p : Pg} {i : Nat} (h : i < p.procs.length) : BL p (i + 1) = BL p i ++ [p.procs[i].body] := by
 unfold BL
 rw [List.take_succ_eq_append_getElem h, List.map_append]; rfl
theorem BL_len (p : Pg) : (BL p p.procs.length).length = p.procs.length + 1 := by simp [BL]
theorem BL_ok {p : Pg} (hv : validB p = true) (hh : hiG p) {t : Tr} (h : t ∈ BL p p.procs.length) : catK t ∧ hiB t = true ∧ t.size ≤ 2000 ∧ t.depth ≤ 80 := by
 have hb : ∀ t : Tr, bodyB t = true → t.size ≤ 2000 ∧ t.depth ≤ 80 := fun t h => by
  simp only [bodyB, zat, decide_eq_true_eq] at h
  exact ⟨h.1.2, h.1.1⟩
 have hv' := hv
 simp only [validB, zat, List.all_eq_true] at hv'
 unfold BL at h
 rw [List.take_of_length_le (Nat.le_refl _)] at h
 rcases List.mem_cons.1 h with rfl | h
 ·exact ⟨valid_main hv, hh.1, hb _ hv'.2⟩
 ·obtain ⟨f, hf, rfl⟩ := List.mem_map.1 h
  have := hv'.1.2 f hf
  simp only [procB, zat] at this
  exact ⟨valid_proc hv hf, hh.2 f hf, hb _ this.2⟩
theorem mapG_procs (p : Pg) : (mapG stmtT p).procs = p.procs.map (fun f => ⟨f.name, f.params, stmtT f.body⟩) := rfl
theorem freeG {p q : Pg} {r : List (List D)} (hr : Free r) : Free ((dG p).cells :: (dG q).cells :: r) := by
 intro c hc m
 rcases List.mem_cons.1 hc with rfl | hc
 ·exact dG_under m p
 ·rcases List.mem_cons.1 hc with rfl | hc
  ·exact dG_under m q
  ·exact hr c hc m
theorem unB_free {B : List (List D)} (h : Free B) : UnB B := List.all_eq_true.2 fun c hc => h c hc _
theorem free_mm {B : List (List D)} (h : Free B) (M N : List (ByteArray × Int)) : Free (B ++ [nD M, nD N]) := by
 intro c hc m
 rcases List.mem_append.1 hc with q | q
 ·exact h c q m
 ·simp only [List.mem_cons, List.not_mem_nil, or_false] at q
  rcases q with rfl | rfl <;> exact nD_under m _
set_option maxRecDepth 100000 in
set_option maxHeartbeats 8000000 in
theorem law11_big (p : Pg) (hbp : bigP p = true) : PContract Try.prog 9 [dG p] (.bool true) := by
 refine S_pure (f := _) Try.func9 rfl (by rw [List.all_cons, List.all_nil, dG_under]; rfl) (by show [(dG p).strip] = _; rw [dG_strip]) ?_
 simp only [enterSt, Try.ntmps9, zlc, zln, Nat.reduceAdd, Nat.reduceSub, zr1, zr0, zca, zna]
 refine S_seq ?_
 refine S_of_X EVp_ok (by kernel_rfl) ?_
 refine X_rg fun R hR => ?_
 simp only [aops, astep, awant, aeff, aop, ev, ofValue, St.put, zg0, zgd, zmo, if_true, zs1, zs0, zln, zna, dG_cells, dG_good]
 with_reducible refine hR _ ?_
 clear hR R
 show S _ _ _ _ _
 refine S_seq ?_
 refine S_seq ?_
 refine S_of_X EVp_ok (by kernel_rfl) ?_
 refine X_rg fun R hR => ?_
 simp only [EVpP, aops, astep, awant, aeff, aop, ev, St.put, pcall, zmn, zg1, zg0, zgd, zmo, if_true, zs1, zs0, zna, Bool.not_true, any11, awake_p]
 with_reducible refine hR _ ?_
 clear hR R
 show S _ _ _ _ _
 refine S_false (by simp only [ev, zg1, zg0, zgd]) ?_
 refine S_skip ?_
 show S _ _ _ _ _
 refine S_seq ?_
 refine S_seq ?_
 have hb : fn EVp _ _ = _ := by_up (bigP_fn p)
 rw [hbp] at hb
 refine S_of_X EVp_ok (by kernel_rfl) ?_
 refine X_rg fun R hR => ?_
 simp only [EVpP, aops, astep, awant, aeff, aop, mkD, ev, ofValue, St.put, pcall, zmc, zmn, zg1, zg0, zgd, zmo, Option.map_none, zbs, if_true, zs1, zs0, zlc, zln, zd0, zt1, zt0, zca, zna, Nat.reduceAdd, Nat.reduceLeDiff, Nat.zero_add, zft, if_false, bq_tf, ty_api_Program, any29, any33, dG_agg, hb]
 with_reducible refine hR _ ?_
 clear hR R
 show S _ _ _ _ _
 refine S_true (by simp only [ev, zg1, zg0, zgd]) ?_
 refine S_seq ?_
 refine S_of_X EVp_ok (by kernel_rfl) ?_
 refine X_rg fun R hR => ?_
 simp only [aops, astep, awant, aeff, aop, ev, ofValue, St.put, zgd, zmo, if_true, zs1, zs0]
 with_reducible refine hR _ ?_
 clear hR R
 show S _ _ _ _ _
 refine S_ret ?_
 refine ⟨.inr rfl, .bool true, ?_, rfl, rfl⟩
 simp only [resD, resAll, resOne, resTup, Try.results9, zg1, zg0, D.good, if_true, zmo]; try rfl
set_option maxRecDepth 100000 in
set_option maxHeartbeats 8000000 in
theorem law11_inv (p : Pg) (hbp : bigP p = false) (hv : validB p = false) : PContract Try.prog 9 [dG p] (.bool true) := by
 refine S_pure (f := _) Try.func9 rfl (by rw [List.all_cons, List.all_nil, dG_under]; rfl) (by show [(dG p).strip] = _; rw [dG_strip]) ?_
 simp only [enterSt, Try.ntmps9, zlc, zln, Nat.reduceAdd, Nat.reduceSub, zr1, zr0, zca, zna]
 refine S_seq ?_
 refine S_of_X EVp_ok (by kernel_rfl) ?_
 refine X_rg fun R hR => ?_
 simp only [aops, astep, awant, aeff, aop, ev, ofValue, St.put, zg0, zgd, zmo, if_true, zs1, zs0, zln, zna, dG_cells, dG_good]
 with_reducible refine hR _ ?_
 clear hR R
 show S _ _ _ _ _
 refine S_seq ?_
 refine S_seq ?_
 refine S_of_X EVp_ok (by kernel_rfl) ?_
 refine X_rg fun R hR => ?_
 simp only [EVpP, aops, astep, awant, aeff, aop, ev, St.put, pcall, zmn, zg1, zg0, zgd, zmo, if_true, zs1, zs0, zna, Bool.not_true, any11, awake_p]
 with_reducible refine hR _ ?_
 clear hR R
 show S _ _ _ _ _
 refine S_false (by simp only [ev, zg1, zg0, zgd]) ?_
 refine S_skip ?_
 show S _ _ _ _ _
 refine S_seq ?_
 refine S_seq ?_
 have hb : fn EVp _ _ = _ := by_up (bigP_fn p)
 rw [hbp] at hb
 have hvv : fn EVp _ _ = _ := by_up (valid_fn p)
 rw [hv] at hvv
 refine S_of_X EVp_ok (by kernel_rfl) ?_
 refine X_rg fun R hR => ?_
 simp only [EVpP, aops, astep, awant, aeff, aop, mkD, ev, ofValue, St.put, pcall, zmc, zmn, zg1, zg0, zgd, zmo, zbs, if_true, zs1, zs0, zlc, zln, zd0, zt1, zt0, zca, zna, Nat.reduceAdd, Nat.reduceLeDiff, Nat.zero_add, Bool.not_false, zft, if_false, beq_self_eq_true, ty_api_Program, any29, any33, dG_agg, hb, hvv]
 with_reducible refine hR _ ?_
 clear hR R
 show S _ _ _ _ _
 refine S_true (by simp only [ev, zg1, zg0, zgd]) ?_
 refine S_seq ?_
 refine S_of_X EVp_ok (by kernel_rfl) ?_
 refine X_rg fun R hR => ?_
 simp only [aops, astep, awant, aeff, aop, ev, ofValue, St.put, zgd, zmo, if_true, zs1, zs0]
 with_reducible refine hR _ ?_
 clear hR R
 show S _ _ _ _ _
 refine S_ret ?_
 refine ⟨.inr rfl, .bool true, ?_, rfl, rfl⟩
 simp only [resD, resAll, resOne, resTup, Try.results9, zg1, zg0, D.good, if_true, zmo]; try rfl
set_option maxRecDepth 100000 in
set_option maxHeartbeats 8000000 in
theorem law11_main (p : Pg) (hbp : bigP p = false) (hv : validB p = true) (hh : hiG p) : PContract Try.prog 9 [dG p] (.bool true) := by
 refine S_pure (f := _) Try.func9 rfl (by rw [List.all_cons, List.all_nil, dG_under]; rfl) (by show [(dG p).strip] = _; rw [dG_strip]) ?_
 simp only [enterSt, Try.ntmps9, zlc, zln, Nat.reduceAdd, Nat.reduceSub, zr1, zr0, zca, zna]
 refine S_seq ?_
 refine S_of_X EVp_ok (by kernel_rfl) ?_
 refine X_rg fun R hR => ?_
 simp only [aops, astep, awant, aeff, aop, ev, ofValue, St.put, zg0, zgd, zmo, if_true, zs1, zs0, zln, zna, dG_cells, dG_good]
 with_reducible refine hR _ ?_
 clear hR R
 show S _ _ _ _ _
 refine S_seq ?_
 refine S_seq ?_
 refine S_of_X EVp_ok (by kernel_rfl) ?_
 refine X_rg fun R hR => ?_
 simp only [EVpP, aops, astep, awant, aeff, aop, ev, St.put, pcall, zmn, zg1, zg0, zgd, zmo, if_true, zs1, zs0, zna, Bool.not_true, any11, awake_p]
 with_reducible refine hR _ ?_
 clear hR R
 show S _ _ _ _ _
 refine S_false (by simp only [ev, zg1, zg0, zgd]) ?_
 refine S_skip ?_
 show S _ _ _ _ _
 refine S_seq ?_
 refine S_seq ?_
 have hb : fn EVp _ _ = _ := by_up (bigP_fn p)
 rw [hbp] at hb
 have hvv : fn EVp _ _ = _ := by_up (valid_fn p)
 rw [hv] at hvv
 refine S_of_X EVp_ok (by kernel_rfl) ?_
 refine X_rg fun R hR => ?_
 simp only [EVpP, aops, astep, awant, aeff, aop, mkD, ev, ofValue, St.put, pcall, zmc, zmn, zg1, zg0, zgd, zmo, zbs, if_true, zs1, zs0, zlc, zln, zd0, zt1, zt0, zca, zna, Nat.reduceAdd, Nat.reduceLeDiff, Nat.zero_add, Bool.not_true, zft, if_false, beq_self_eq_true, ty_api_Program, any29, any33, dG_agg, hb, hvv]
 with_reducible refine hR _ ?_
 clear hR R
 show S _ _ _ _ _
 refine S_false (by simp only [ev, zg1, zg0, zgd]) ?_
 refine S_skip ?_
 show S _ _ _ _ _
 refine S_seq ?_
 obtain ⟨ho, q1, q2, q3, q4⟩ := bigP_ok hbp
 have hP := prog_fn p ho
 have hpe : progT p = mapG stmtT p := by unfold progT; rw [if_pos hv]
 rw [hpe] at hP
 refine S_of_X EVp_ok (by kernel_rfl) ?_
 refine X_rg fun R hR => ?_
 simp only [EVpP, aops, astep, awant, aeff, aop, mkD, astore, ev, St.put, pcall, zmc, zmn, zg1, zg0, zgd, zmo, zbs, if_true, zs1, zs0, zlc, zln, zd1, zd0, zt1, zt0, zca, zna, Nat.reduceAdd, Nat.reduceLeDiff, Nat.zero_add, and_self, ty_api_Program, any31, dG_agg, dG_cells, dG_good, hP]
 with_reducible refine hR _ ?_
 clear hR R
 show S _ _ _ _ _
 refine S_seq ?_
 refine S_seq ?_
 have hV2 : fn EVp _ _ = _ := by_up (valid_fn (mapG stmtT p))
 rw [← hpe, progT_valid hv hh, hpe] at hV2
 have hql : (mapG stmtT p).procs.length = p.procs.length := by rw [mapG_procs, zlm]
 refine S_of_X EVp_ok (by kernel_rfl) ?_
 refine X_rg fun R hR => ?_
 simp only [EVpP, aops, astep, awant, aeff, aop, abin, aint, mkD, ev, ofValue, St.put, pcall, ia_slice, zmc, zmn, zg1, zg0, zgd, zmo, zbs, if_true, zs1, zs0, zlm, zlc, zln, zd1, zd0, zt1, zt0, zca, zna, Nat.reduceAdd, Nat.reduceLeDiff, Nat.zero_add, Bool.not_true, zft, if_false, reduceCtorEq, beq_self_eq_true, bne_self_eq_false, ty_s_api_Proc, ty_api_Program, und_api_Proc, any33, dG_agg, hV2, hql, bne_self_eq_false]
 with_reducible refine hR _ ?_
 clear hR R
 show S _ _ _ _ _
 refine S_false (by simp only [ev, zg1, zg0, zgd]) ?_
 refine S_skip ?_
 show S _ _ _ _ _
 refine S_seq ?_
 refine S_of_X EVp_ok (by kernel_rfl) ?_
 refine X_rg fun R hR => ?_
 simp only [EVpP, aops, astep, awant, aeff, aop, mkD, abuild, ev, ofValue, St.put, zmc, zmn, zg1, zg0, zgd, zmo, if_true, zs1, zs0, zlc, zln, zd1, zd0, zt1, zt0, Nat.reduceAdd, Nat.reduceLeDiff, Nat.reduceLT, Nat.zero_add, Bool.and_true, if_false, and_self, reduceCtorEq, List.all_cons, List.all_nil, beq_self_eq_true, Nat.reduceMul, rng_1, ty_api_Node, ty_api_Program, und_api_Node, inf_api_Node_eq, inf_api_Node_size, inf_api_Node_zero, dN_agg, dN_cells, dN_good, sl]
 with_reducible refine hR _ ?_
 clear hR R
 show S _ _ _ _ _
 refine S_seq ?_
 refine S_of_X EVp_ok (by kernel_rfl) ?_
 refine X_rg fun R hR => ?_
 simp only [EVpP, aops, astep, awant, aeff, aop, mkD, abuild, ev, ofValue, St.put, zmc, zmn, zg1, zg0, zgd, zmo, if_true, zs1, zs0, zlc, zln, zd1, zd0, zt1, zt0, Nat.reduceAdd, Nat.reduceLeDiff, Nat.reduceLT, Nat.zero_add, Bool.and_true, if_false, and_self, reduceCtorEq, List.all_cons, List.all_nil, beq_self_eq_true, Nat.reduceMul, rng_1, ty_api_Node, ty_api_Program, und_api_Node, inf_api_Node_eq, inf_api_Node_size, inf_api_Node_zero, dN_agg, dN_cells, dN_good, sl]
 with_reducible refine hR _ ?_
 clear hR R
 show S _ _ _ _ _
 refine S_seq ?_
 refine S_seq ?_
 refine S_of_X EVp_ok (by kernel_rfl) ?_
 refine X_rg fun R hR => ?_
 simp only [EVpP, inr_i64, Int.reduceLE, Int.reduceNeg, aops, astep, awant, aeff, aop, mkD, ev, ofValue, St.put, ia_slice, zg1, zg0, zgd, zmo, if_true, zs1, zs0, zlm, zlc, zln, zd1, zd0, zt1, zt0, Nat.reduceAdd, Nat.reduceLeDiff, Nat.zero_add, zft, if_false, and_self, reduceCtorEq, ty_s_api_Proc, ty_api_Program, und_api_Proc]
 with_reducible refine hR _ ?_
 clear hR R
 show S _ _ _ _ _
 refine S_block ?_
 refine S_loop (fun m σ => ∃ (i : Nat) (s1 : Nat) (s2 : Nat) (nx : Nat) (lv : List Nat), σ = ⟨[slotOf σ 0, .ptr 0 0, slotOf σ 2, .ptr 1 0, .slice (.own s1 24) 4 ((BL p i).map dN), .slice (.own s2 24) 4 (((BL p i).map stmtT).map dN), slotOf σ 6, slotOf σ 7, slotOf σ 8, slotOf σ 9, slotOf σ 10, slotOf σ 11, slotOf σ 12, slotOf σ 13, slotOf σ 14, slotOf σ 15, slotOf σ 16, slotOf σ 17, slotOf σ 18, slotOf σ 19, slotOf σ 20, slotOf σ 21, slotOf σ 22, slotOf σ 23, slotOf σ 24, slotOf σ 25, slotOf σ 26, slotOf σ 27, slotOf σ 28, slotOf σ 29, slotOf σ 30, slotOf σ 31, slotOf σ 32, slotOf σ 33, slotOf σ 34, slotOf σ 35, slotOf σ 36, slotOf σ 37, slotOf σ 38, slotOf σ 39, slotOf σ 40, slotOf σ 41, slotOf σ 42, .int .i64 p.procs.length, .int .i64 i, slotOf σ 45, slotOf σ 46, slotOf σ 47, slotOf σ 48, slotOf σ 49, slotOf σ 50, slotOf σ 51, slotOf σ 52, slotOf σ 53, slotOf σ 54, slotOf σ 55, slotOf σ 56, slotOf σ 57, slotOf σ 58, slotOf σ 59, slotOf σ 60, slotOf σ 61, slotOf σ 62, slotOf σ 63, slotOf σ 64, slotOf σ 65, slotOf σ 66, slotOf σ 67, slotOf σ 68, slotOf σ 69, slotOf σ 70, slotOf σ 71, slotOf σ 72, slotOf σ 73, slotOf σ 74, slotOf σ 75, slotOf σ 76, slotOf σ 77, slotOf σ 78, slotOf σ 79, slotOf σ 80, slotOf σ 81, slotOf σ 82, slotOf σ 83, slotOf σ 84, slotOf σ 85, slotOf σ 86, slotOf σ 87, slotOf σ 88, slotOf σ 89, slotOf σ 90, slotOf σ 91, slotOf σ 92, slotOf σ 93, slotOf σ 94, slotOf σ 95, slotOf σ 96, slotOf σ 97, slotOf σ 98, slotOf σ 99, slotOf σ 100, slotOf σ 101, slotOf σ 102, slotOf σ 103, slotOf σ 104, slotOf σ 105, slotOf σ 106, slotOf σ 107, slotOf σ 108, slotOf σ 109, slotOf σ 110, slotOf σ 111, slotOf σ 112, slotOf σ 113, slotOf σ 114, slotOf σ 115, slotOf σ 116, slotOf σ 117, slotOf σ 118, slotOf σ 119, slotOf σ 120, slotOf σ 121, slotOf σ 122, slotOf σ 123, slotOf σ 124, slotOf σ 125, slotOf σ 126, slotOf σ 127, slotOf σ 128], [[.slice .imm (if (p.vars.map dV).isEmpty = true then 0 else 3) (p.vars.map dV), .slice .imm (if (p.procs.map dP).isEmpty = true then 0 else 6) (p.procs.map dP), .int .u8 p.main.kind, .int .i64 p.main.num, .str p.main.name, .slice .imm (if (p.main.kids.map dN).isEmpty = true then 0 else 4) (p.main.kids.map dN)], [.slice .imm (if ((mapG stmtT p).vars.map dV).isEmpty = true then 0 else 3) ((mapG stmtT p).vars.map dV), .slice .imm (if ((mapG stmtT p).procs.map dP).isEmpty = true then 0 else 6) ((mapG stmtT p).procs.map dP), .int .u8 (mapG stmtT p).main.kind, .int .i64 (mapG stmtT p).main.num, .str (mapG stmtT p).main.name, .slice .imm (if ((mapG stmtT p).main.kids.map dN).isEmpty = true then 0 else 4) ((mapG stmtT p).main.kids.map dN)]], nx, lv⟩ ∧ m = p.procs.length - i ∧ i ≤ p.procs.length ∧ s1 ∈ lv ∧ s2 ∈ lv ∧ s1 ≠ s2 ∧ s1 < nx ∧ s2 < nx) ?_ (p.procs.length) ?_
 rotate_left
 ·exact ⟨0, 0, 1, 2, _, rfl, rfl, Nat.zero_le _, by simp, by simp, by omega, by omega, by omega⟩
 rintro m σ ⟨i, s1, s2, nx, lv, hσ, rfl, hi, m1, m2, m12, l1, l2⟩
 generalize slotOf σ = x at hσ
 subst hσ
 refine S_seq ?_
 refine S_of_X EVp_ok (by kernel_rfl) ?_
 refine X_rg fun R hR => ?_
 simp only [nat_lt, aops, astep, awant, aeff, aop, abin, aint, ev, St.put, zg1, zg0, zgd, zmo, if_true, zs1, zs0]
 with_reducible refine hR _ ?_
 clear hR R
 show S _ _ _ _ _
 refine S_seq ?_
 refine S_ite (by simp only [ev, zg1, zg0, zgd]; exact rfl) ?_ ?_
 ·intro b1
  have c1 := b1
  try simp only [decide_eq_true_eq] at c1
  refine S_skip ?_
  show S _ _ _ _ _
  refine S_seq ?_
  refine S_block ?_
  refine S_seq ?_
  refine S_of_X EVp_ok (by kernel_rfl) ?_
  refine X_rg fun R hR => ?_
  simp only [aops, astep, awant, aeff, aop, ev, St.put, zg1, zg0, zgd, zmo, if_true, zs1, zs0, b1]
  with_reducible refine hR _ ?_
  clear hR R
  show S _ _ _ _ _
  have hlt : i < p.procs.length := by first | assumption | omega | simp_all
  have hn1 := idx_n2 (f := dP) (n := 6) hlt
  have e1 : (p.procs.map dP)[i]? = some (.agg [.str p.procs[i].name, .slice .imm (if (p.procs[i].params.map dV).isEmpty = true then 0 else 3) (p.procs[i].params.map dV), .int .u8 p.procs[i].body.kind, .int .i64 p.procs[i].body.num, .str p.procs[i].body.name, .slice .imm (if (p.procs[i].body.kids.map dN).isEmpty = true then 0 else 4) (p.procs[i].body.kids.map dN)]) := by rw [List.getElem?_map, List.getElem?_eq_getElem hlt]; rfl
  have hlt2 : i < (mapG stmtT p).procs.length := by omega
  have hn2 := idx_n2 (f := dP) (n := 6) hlt2
  have e2 : ((mapG stmtT p).procs.map dP)[i]? = some (.agg [.str p.procs[i].name, .slice .imm (if (p.procs[i].params.map dV).isEmpty = true then 0 else 3) (p.procs[i].params.map dV), .int .u8 (stmtT p.procs[i].body).kind, .int .i64 (stmtT p.procs[i].body).num, .str (stmtT p.procs[i].body).name, .slice .imm (if ((stmtT p.procs[i].body).kids.map dN).isEmpty = true then 0 else 4) ((stmtT p.procs[i].body).kids.map dN)]) := by rw [List.getElem?_map, mapG_procs, List.getElem?_map, List.getElem?_eq_getElem hlt]; rfl
  have hap1 := fun fr bx => ((Acc.own (e := 24) (sz := 4) (st := s1) (L := (BL p i).map dN) m1).more nx).app (P := Try.prog) (σ := ⟨fr, bx, nx + 1, nx :: lv⟩) (t := 22) (o2 := .own nx 24) (l2 := [dN p.procs[i].body]) und_api_Node inf_api_Node_eq inf_api_Node_size (by omega) (by rw [inf_api_Node_bytes]; omega) inf_api_Node_zc (by simp [BL]; omega) (by simp)
  have hap2 := fun fr bx => (Acc.own (e := 24) (sz := 4) (st := s2) (L := ((BL p i).map stmtT).map dN) (lv := (nx + 1 + 1) :: (nx + 1) :: (Own.own s1 24).cut (nx :: lv)) (by simp only [Own.cut, List.mem_cons, List.mem_filter]; right; right; exact ⟨.inr m2, by simpa using m12.symm⟩)).app (P := Try.prog) (σ := ⟨fr, bx, nx + 1 + 1 + 1, (nx + 1 + 1) :: (nx + 1) :: (Own.own s1 24).cut (nx :: lv)⟩) (t := 22) (o2 := .own (nx + 1 + 1) 24) (l2 := [dN (stmtT p.procs[i].body)]) und_api_Node inf_api_Node_eq inf_api_Node_size (by omega) (by rw [inf_api_Node_bytes]; omega) inf_api_Node_zc (by simp [BL]; omega) (by simp)
  refine S_of_X EVp_ok (by kernel_rfl) ?_
  refine X_rg fun R hR => ?_
  simp only [EVpP, nat_lt, nat_0, nat_to, aops, astep, awant, aeff, aop, mkD, abuild, ev, ofValue, St.put, ia_slice, zmc, zmn, zg1, zg0, zgd, zmo, if_true, zs1, zs0, zlm, zlc, zln, zd1, zd0, zt1, zt0, Nat.reduceAdd, Nat.reduceLeDiff, Nat.reduceLT, Nat.zero_add, Bool.and_true, zft, if_false, and_self, reduceCtorEq, List.all_cons, List.all_nil, beq_self_eq_true, zis, Nat.reduceMul, rng_1, ty_s_api_Proc, ty_api_Node, ty_api_Proc, ty_api_Program, und_api_Node, inf_api_Node_eq, inf_api_Node_size, inf_api_Node_zero, und_api_Proc, siz_api_Proc, inf_api_Proc_eq, dN_agg, dN_cells, dN_isAgg, dN_good, sl, hlt, hn1, e1, hn2, e2, hap1, hap2, hql]
  with_reducible refine hR _ ?_
  clear hR R
  show S _ _ _ _ _
  have hbig : i < 9223372036854775807 := by omega
  refine S_of_X EVp_ok (by kernel_rfl) ?_
  refine X_rg fun R hR => ?_
  simp only [inr_i64, Int.reduceLE, Int.reduceNeg, aops, astep, awant, aeff, aop, abin, aint, ev, ofValue, St.put, zg1, zg0, zgd, zmo, if_true, zs1, zs0, and_self, nat_succ hbig]
  with_reducible refine hR _ ?_
  clear hR R
  show ∃ m, m < _ ∧ _
  have hbl := BL_snoc hlt
  exact ⟨p.procs.length - (i + 1), by omega, i + 1, nx + 1, nx + 1 + 1 + 1, _, _, by rw [hbl, List.map_append, List.map_append, List.map_append]; rfl, rfl, by omega, by simp only [Own.cut, List.mem_cons, List.mem_filter]; right; refine ⟨?_, by simp; omega⟩; right; left; trivial, by simp, by omega, by omega, by omega⟩
 ·intro b2
  have c2 := b2
  try simp only [decide_eq_false_iff_not] at c2
  refine S_exit ?_
  show S _ _ _ _ _
  refine S_seq ?_
  refine S_seq ?_
  have hiz : i = p.procs.length := by first | omega | (simp_all; omega)
  subst hiz
  refine S_of_X EVp_ok (by kernel_rfl) ?_
  refine X_rg fun R hR => ?_
  simp only [EVpP, inr_i64, Int.reduceLE, Int.reduceNeg, aops, astep, awant, aeff, aop, ev, ofValue, St.put, zg1, zg0, zgd, zmo, if_true, zs1, zs0, zlm, and_self, und_api_Node, b2]
  with_reducible refine hR _ ?_
  clear hR R
  show S _ _ _ _ _
  refine S_block ?_
  refine S_loop (fun m σ => ∃ (j : Nat) (r : List (List D)) (nx2 : Nat) (lv2 : List Nat), σ = ⟨[slotOf σ 0, .ptr 0 0, slotOf σ 2, .ptr 1 0, .slice (.own s1 24) 4 ((BL p p.procs.length).map dN), .slice (.own s2 24) 4 (((BL p p.procs.length).map stmtT).map dN), slotOf σ 6, slotOf σ 7, slotOf σ 8, slotOf σ 9, slotOf σ 10, slotOf σ 11, slotOf σ 12, slotOf σ 13, slotOf σ 14, slotOf σ 15, slotOf σ 16, slotOf σ 17, slotOf σ 18, slotOf σ 19, slotOf σ 20, slotOf σ 21, slotOf σ 22, slotOf σ 23, slotOf σ 24, slotOf σ 25, slotOf σ 26, slotOf σ 27, slotOf σ 28, slotOf σ 29, slotOf σ 30, slotOf σ 31, slotOf σ 32, slotOf σ 33, slotOf σ 34, slotOf σ 35, slotOf σ 36, slotOf σ 37, slotOf σ 38, slotOf σ 39, slotOf σ 40, slotOf σ 41, slotOf σ 42, slotOf σ 43, slotOf σ 44, slotOf σ 45, slotOf σ 46, slotOf σ 47, slotOf σ 48, slotOf σ 49, slotOf σ 50, slotOf σ 51, slotOf σ 52, slotOf σ 53, slotOf σ 54, slotOf σ 55, slotOf σ 56, slotOf σ 57, slotOf σ 58, slotOf σ 59, slotOf σ 60, slotOf σ 61, slotOf σ 62, slotOf σ 63, slotOf σ 64, slotOf σ 65, slotOf σ 66, .int .i64 (BL p p.procs.length).length, .int .i64 j, slotOf σ 69, slotOf σ 70, slotOf σ 71, slotOf σ 72, slotOf σ 73, slotOf σ 74, slotOf σ 75, slotOf σ 76, slotOf σ 77, slotOf σ 78, slotOf σ 79, slotOf σ 80, slotOf σ 81, slotOf σ 82, slotOf σ 83, slotOf σ 84, slotOf σ 85, slotOf σ 86, slotOf σ 87, slotOf σ 88, slotOf σ 89, slotOf σ 90, slotOf σ 91, slotOf σ 92, slotOf σ 93, slotOf σ 94, slotOf σ 95, slotOf σ 96, slotOf σ 97, slotOf σ 98, slotOf σ 99, slotOf σ 100, slotOf σ 101, slotOf σ 102, slotOf σ 103, slotOf σ 104, slotOf σ 105, slotOf σ 106, slotOf σ 107, slotOf σ 108, slotOf σ 109, slotOf σ 110, slotOf σ 111, slotOf σ 112, slotOf σ 113, slotOf σ 114, slotOf σ 115, slotOf σ 116, slotOf σ 117, slotOf σ 118, slotOf σ 119, slotOf σ 120, slotOf σ 121, slotOf σ 122, slotOf σ 123, slotOf σ 124, slotOf σ 125, slotOf σ 126, slotOf σ 127, slotOf σ 128], [.slice .imm (if (p.vars.map dV).isEmpty = true then 0 else 3) (p.vars.map dV), .slice .imm (if (p.procs.map dP).isEmpty = true then 0 else 6) (p.procs.map dP), .int .u8 p.main.kind, .int .i64 p.main.num, .str p.main.name, .slice .imm (if (p.main.kids.map dN).isEmpty = true then 0 else 4) (p.main.kids.map dN)] :: [.slice .imm (if ((mapG stmtT p).vars.map dV).isEmpty = true then 0 else 3) ((mapG stmtT p).vars.map dV), .slice .imm (if ((mapG stmtT p).procs.map dP).isEmpty = true then 0 else 6) ((mapG stmtT p).procs.map dP), .int .u8 (mapG stmtT p).main.kind, .int .i64 (mapG stmtT p).main.num, .str (mapG stmtT p).main.name, .slice .imm (if ((mapG stmtT p).main.kids.map dN).isEmpty = true then 0 else 4) ((mapG stmtT p).main.kids.map dN)] :: r, nx2, lv2⟩ ∧ m = (BL p p.procs.length).length - j ∧ j ≤ (BL p p.procs.length).length ∧ Hid (Free r)) ?_ ((BL p p.procs.length).length) ?_
  rotate_left
  ·exact ⟨0, [], nx, lv, rfl, rfl, Nat.zero_le _, Lib.hid (fun c hc => by simp at hc)⟩
  rintro m σ ⟨j, r, nx2, lv2, hσ, rfl, hj, hr⟩
  generalize slotOf σ = x at hσ
  subst hσ
  refine S_seq ?_
  refine S_of_X EVp_ok (by kernel_rfl) ?_
  refine X_rg fun R hR => ?_
  simp only [nat_lt, aops, astep, awant, aeff, aop, abin, aint, ev, St.put, zg1, zg0, zgd, zmo, if_true, zs1, zs0]
  with_reducible refine hR _ ?_
  clear hR R
  show S _ _ _ _ _
  refine S_seq ?_
  refine S_ite (by simp only [ev, zg1, zg0, zgd]; exact rfl) ?_ ?_
  ·intro b3
   have c3 := b3
   try simp only [decide_eq_true_eq] at c3
   refine S_skip ?_
   show S _ _ _ _ _
   refine S_seq ?_
   refine S_block ?_
   refine S_seq ?_
   refine S_of_X EVp_ok (by kernel_rfl) ?_
   refine X_rg fun R hR => ?_
   simp only [aops, astep, awant, aeff, aop, ev, St.put, zg1, zg0, zgd, zmo, if_true, zs1, zs0, b3]
   with_reducible refine hR _ ?_
   clear hR R
   show S _ _ _ _ _
   refine S_seq ?_
   refine S_of_X EVp_ok (by kernel_rfl) ?_
   refine X_rg fun R hR => ?_
   simp only [aops, astep, awant, aeff, aop, ev, St.put, zg1, zg0, zgd, zmo, if_true, zs1, zs0, zlc, zln, zca, zna, zaa, Nat.zero_add, Option.isNone_none, zla]
   with_reducible refine hR _ ?_
   clear hR R
   show S _ _ _ _ _
   refine S_seq ?_
   have hjl : j < (BL p p.procs.length).length := by first | assumption | omega | simp_all
   have d1 : ((BL p p.procs.length).map dN)[j]? = some (dN (BL p p.procs.length)[j]) := by rw [List.getElem?_map, List.getElem?_eq_getElem hjl]; rfl
   have d2 : (((BL p p.procs.length).map stmtT).map dN)[j]? = some (dN (stmtT (BL p p.procs.length)[j])) := by rw [List.getElem?_map, List.getElem?_map, List.getElem?_eq_getElem hjl]; rfl
   obtain ⟨k1, k2, k3, k4⟩ := BL_ok hv hh (List.getElem_mem hjl)
   have hss := stmt_small (BL p p.procs.length)[j] k1 k2
   have hnm := stmt_nm (BL p p.procs.length)[j] k1
   have hF0 : Free ([.slice .imm (if (p.vars.map dV).isEmpty = true then 0 else 3) (p.vars.map dV), .slice .imm (if (p.procs.map dP).isEmpty = true then 0 else 6) (p.procs.map dP), .int .u8 p.main.kind, .int .i64 p.main.num, .str p.main.name, .slice .imm (if (p.main.kids.map dN).isEmpty = true then 0 else 4) (p.main.kids.map dN)] :: [.slice .imm (if ((mapG stmtT p).vars.map dV).isEmpty = true then 0 else 3) ((mapG stmtT p).vars.map dV), .slice .imm (if ((mapG stmtT p).procs.map dP).isEmpty = true then 0 else 6) ((mapG stmtT p).procs.map dP), .int .u8 (mapG stmtT p).main.kind, .int .i64 (mapG stmtT p).main.num, .str (mapG stmtT p).main.name, .slice .imm (if ((mapG stmtT p).main.kids.map dN).isEmpty = true then 0 else 4) ((mapG stmtT p).main.kids.map dN)] :: (r ++ [nD [], nD []])) := by have := free_mm (freeG (p := p) (q := (mapG stmtT p)) hr.out) [] []; simpa [dG_cells] using this
   obtain ⟨_, B3, nx3, lv3, hc3, rfl, hB3⟩ := names_cal _ (BL p p.procs.length)[j] (Nat.le_refl _) ([.slice .imm (if (p.vars.map dV).isEmpty = true then 0 else 3) (p.vars.map dV), .slice .imm (if (p.procs.map dP).isEmpty = true then 0 else 6) (p.procs.map dP), .int .u8 p.main.kind, .int .i64 p.main.num, .str p.main.name, .slice .imm (if (p.main.kids.map dN).isEmpty = true then 0 else 4) (p.main.kids.map dN)] :: [.slice .imm (if ((mapG stmtT p).vars.map dV).isEmpty = true then 0 else 3) ((mapG stmtT p).vars.map dV), .slice .imm (if ((mapG stmtT p).procs.map dP).isEmpty = true then 0 else 6) ((mapG stmtT p).procs.map dP), .int .u8 (mapG stmtT p).main.kind, .int .i64 (mapG stmtT p).main.num, .str (mapG stmtT p).main.name, .slice .imm (if ((mapG stmtT p).main.kids.map dN).isEmpty = true then 0 else 4) ((mapG stmtT p).main.kids.map dN)] :: (r ++ [[], []])) nx2 lv2 (r.length + 1 + 1) [] (by simp; rfl) (unB_free hF0) (by simp; omega)
   have hB3b : B3 = ([.slice .imm (if (p.vars.map dV).isEmpty = true then 0 else 3) (p.vars.map dV), .slice .imm (if (p.procs.map dP).isEmpty = true then 0 else 6) (p.procs.map dP), .int .u8 p.main.kind, .int .i64 p.main.num, .str p.main.name, .slice .imm (if (p.main.kids.map dN).isEmpty = true then 0 else 4) (p.main.kids.map dN)] :: [.slice .imm (if ((mapG stmtT p).vars.map dV).isEmpty = true then 0 else 3) ((mapG stmtT p).vars.map dV), .slice .imm (if ((mapG stmtT p).procs.map dP).isEmpty = true then 0 else 6) ((mapG stmtT p).procs.map dP), .int .u8 (mapG stmtT p).main.kind, .int .i64 (mapG stmtT p).main.num, .str (mapG stmtT p).main.name, .slice .imm (if ((mapG stmtT p).main.kids.map dN).isEmpty = true then 0 else 4) ((mapG stmtT p).main.kids.map dN)] :: (r ++ [nD (visN [] (nmT (BL p p.procs.length)[j])), []])) := by rw [hB3]; simp []
   subst hB3b
   refine S_of_X EVp_ok (by kernel_rfl) ?_
   refine X_rc fun R hR => ?_
   simp only [EVpP, nat_lt, nat_0, nat_to, aops, astep, awant, aeff, aop, ev, St.put, zmc, zmn, zg1, zg0, zgd, zmo, if_true, zs1, zs0, zlm, zlc, zln, zca, zna, Nat.reduceAdd, Nat.zero_add, and_self, zis, ty_api_Node, und_api_Node, siz_api_Node, inf_api_Node_eq, any34, dN_cells, dN_isAgg, sl, hjl, d1, hc3, any34]
   with_reducible refine hR _ ?_
   clear hR R
   show S _ _ _ _ _
   refine S_seq ?_
   have hF1 : Free ([.slice .imm (if (p.vars.map dV).isEmpty = true then 0 else 3) (p.vars.map dV), .slice .imm (if (p.procs.map dP).isEmpty = true then 0 else 6) (p.procs.map dP), .int .u8 p.main.kind, .int .i64 p.main.num, .str p.main.name, .slice .imm (if (p.main.kids.map dN).isEmpty = true then 0 else 4) (p.main.kids.map dN)] :: [.slice .imm (if ((mapG stmtT p).vars.map dV).isEmpty = true then 0 else 3) ((mapG stmtT p).vars.map dV), .slice .imm (if ((mapG stmtT p).procs.map dP).isEmpty = true then 0 else 6) ((mapG stmtT p).procs.map dP), .int .u8 (mapG stmtT p).main.kind, .int .i64 (mapG stmtT p).main.num, .str (mapG stmtT p).main.name, .slice .imm (if ((mapG stmtT p).main.kids.map dN).isEmpty = true then 0 else 4) ((mapG stmtT p).main.kids.map dN)] :: (r ++ [nD (visN [] (nmT (BL p p.procs.length)[j])), nD []])) := by have := free_mm (freeG (p := p) (q := (mapG stmtT p)) hr.out) (visN [] (nmT (BL p p.procs.length)[j])) []; simpa [dG_cells] using this
   obtain ⟨_, B4, nx4, lv4, hc4, rfl, hB4⟩ := names_cal _ (stmtT (BL p p.procs.length)[j]) (Nat.le_refl _) ([.slice .imm (if (p.vars.map dV).isEmpty = true then 0 else 3) (p.vars.map dV), .slice .imm (if (p.procs.map dP).isEmpty = true then 0 else 6) (p.procs.map dP), .int .u8 p.main.kind, .int .i64 p.main.num, .str p.main.name, .slice .imm (if (p.main.kids.map dN).isEmpty = true then 0 else 4) (p.main.kids.map dN)] :: [.slice .imm (if ((mapG stmtT p).vars.map dV).isEmpty = true then 0 else 3) ((mapG stmtT p).vars.map dV), .slice .imm (if ((mapG stmtT p).procs.map dP).isEmpty = true then 0 else 6) ((mapG stmtT p).procs.map dP), .int .u8 (mapG stmtT p).main.kind, .int .i64 (mapG stmtT p).main.num, .str (mapG stmtT p).main.name, .slice .imm (if ((mapG stmtT p).main.kids.map dN).isEmpty = true then 0 else 4) ((mapG stmtT p).main.kids.map dN)] :: (r ++ [nD (visN [] (nmT (BL p p.procs.length)[j])), []])) nx3 lv3 (r.length + 1 + 1 + 1) [] (by simp; rfl) (unB_free hF1) (by simp; omega)
   have hB4b : B4 = ([.slice .imm (if (p.vars.map dV).isEmpty = true then 0 else 3) (p.vars.map dV), .slice .imm (if (p.procs.map dP).isEmpty = true then 0 else 6) (p.procs.map dP), .int .u8 p.main.kind, .int .i64 p.main.num, .str p.main.name, .slice .imm (if (p.main.kids.map dN).isEmpty = true then 0 else 4) (p.main.kids.map dN)] :: [.slice .imm (if ((mapG stmtT p).vars.map dV).isEmpty = true then 0 else 3) ((mapG stmtT p).vars.map dV), .slice .imm (if ((mapG stmtT p).procs.map dP).isEmpty = true then 0 else 6) ((mapG stmtT p).procs.map dP), .int .u8 (mapG stmtT p).main.kind, .int .i64 (mapG stmtT p).main.num, .str (mapG stmtT p).main.name, .slice .imm (if ((mapG stmtT p).main.kids.map dN).isEmpty = true then 0 else 4) ((mapG stmtT p).main.kids.map dN)] :: (r ++ [nD (visN [] (nmT (BL p p.procs.length)[j])), nD (visN [] (nmT (BL p p.procs.length)[j]))])) := by rw [hB4, hnm]; simp []
   subst hB4b
   refine S_of_X EVp_ok (by kernel_rfl) ?_
   refine X_rc fun R hR => ?_
   simp only [EVpP, nat_lt, nat_0, nat_to, aops, astep, awant, aeff, aop, ev, St.put, zmc, zmn, zg1, zg0, zgd, zmo, if_true, zs1, zs0, zlm, zlc, zln, zca, zna, Nat.reduceAdd, Nat.zero_add, and_self, zis, ty_api_Node, und_api_Node, siz_api_Node, inf_api_Node_eq, any34, dN_cells, dN_isAgg, sl, hjl, d2, hc4, any34]
   with_reducible refine hR _ ?_
   clear hR R
   show S _ _ _ _ _
   refine S_seq ?_
   refine S_seq ?_
   have z1 : fn EVp _ _ = _ := by_up (o_ast_Size (BL p p.procs.length)[j] (by omega))
   have z2 : fn EVp _ _ = _ := by_up (o_ast_Size (stmtT (BL p p.procs.length)[j]) (by omega))
   have z3 : fn EVp _ _ = _ := by_up (o_ast_Depth (BL p p.procs.length)[j] (by omega))
   have z4 : fn EVp _ _ = _ := by_up (o_ast_Depth (stmtT (BL p p.procs.length)[j]) (by omega))
   have w1 : decide ((BL p p.procs.length)[j].size < (stmtT (BL p p.procs.length)[j]).size) = false := by simp; omega
   have w2 : decide ((BL p p.procs.length)[j].depth < (stmtT (BL p p.procs.length)[j]).depth) = false := by simp; omega
   have w3 : decide ((((BL p p.procs.length)[j].size : Nat) : Int) < ((stmtT (BL p p.procs.length)[j]).size : Int)) = false := by simp; omega
   have w4 : decide ((((BL p p.procs.length)[j].depth : Nat) : Int) < ((stmtT (BL p p.procs.length)[j]).depth : Int)) = false := by simp; omega
   refine S_of_X EVp_ok (by kernel_rfl) ?_
   refine X_rg fun R hR => ?_
   simp only [EVpP, app_get0, app_get1, nat_lt, nat_0, nat_to, aops, astep, awant, aeff, aop, abin, aint, ev, ofValue, St.put, pcall, zmc, zmn, zg1, zg0, zgd, zmo, zbs, if_true, zs1, zs0, zlm, zlc, zln, zca, zna, Nat.reduceAdd, Nat.zero_add, zft, if_false, and_self, beq_self_eq_true, bne_self_eq_false, zis, ty_api_Node, und_api_Node, siz_api_Node, inf_api_Node_eq, any25, any35, dN_cells, dN_isAgg, sl, hjl, d1, d2, z1, z2, z3, z4, w1, w2, gt_iff_lt, und_msi, bne_self_eq_false]
   with_reducible refine hR _ ?_
   clear hR R
   show S _ _ _ _ _
   refine S_false (by simp only [ev, zg1, zg0, zgd]) ?_
   refine S_skip ?_
   show S _ _ _ _ _
   have hnd := visN_nodup (nmT (BL p p.procs.length)[j]) (M := []) List.nodup_nil
   refine S_mapAllT (σ1 := ?s1) (T := [10, 11, 117, 118, 119, 120, 121, 122, 123, 124, 125, 126, 127]) (it := 117) (t1 := 118) (t2 := 119) (t3 := 120) (t9 := 127) (x0 := 116) (i := (r.length + 1 + 1)) (cs := nD (visN [] (nmT (BL p p.procs.length)[j]))) (by decide) (by rfl) (by rfl) (by rfl) (by rfl) (by rfl) (by rfl) (by rfl) (by rfl) (by rfl) (by decide) (by decide) (by kernel_rfl) (by kernel_rfl) (by kernel_rfl) (by kernel_rfl) und_msi (nD_agg _) ?hpre ?hm ?hi ?hit ?hround ?hdone
   case hpre => simp only [readsD, aop, ev, St.put, zgd, zg1, zg0, zs1, zs0]; exact rfl
   case hm => rfl
   case hi => simp
   case hit => simp only [zlc]; omega
   case hround =>
    intro y k hk
    obtain ⟨z, hz, e1, e2⟩ := nD_at _ k hk
    have hcz := cnt_mem hnd hz
    have hlkb := look_n (r.length + 1 + 1 + 1) (visN [] (nmT (BL p p.procs.length)[j])) z.1 (fun i => (([.slice .imm (if (p.vars.map dV).isEmpty = true then 0 else 3) (p.vars.map dV), .slice .imm (if (p.procs.map dP).isEmpty = true then 0 else 6) (p.procs.map dP), .int .u8 p.main.kind, .int .i64 p.main.num, .str p.main.name, .slice .imm (if (p.main.kids.map dN).isEmpty = true then 0 else 4) (p.main.kids.map dN)] :: [.slice .imm (if ((mapG stmtT p).vars.map dV).isEmpty = true then 0 else 3) ((mapG stmtT p).vars.map dV), .slice .imm (if ((mapG stmtT p).procs.map dP).isEmpty = true then 0 else 6) ((mapG stmtT p).procs.map dP), .int .u8 (mapG stmtT p).main.kind, .int .i64 (mapG stmtT p).main.num, .str (mapG stmtT p).main.name, .slice .imm (if ((mapG stmtT p).main.kids.map dN).isEmpty = true then 0 else 4) ((mapG stmtT p).main.kids.map dN)] :: (r ++ [nD (visN [] (nmT (BL p p.procs.length)[j])), nD (visN [] (nmT (BL p p.procs.length)[j]))])) : List (List D))[i]?) (by simp)
    rw [hcz] at hlkb
    refine ⟨?sa, ?sb, ?sc, fun t => match t with | 10 => .str z.1 | 11 => .int .i64 z.2 | 117 => y 117 | 118 => .tup [.bool true, .str z.1, .int .i64 z.2] | 119 => .bool true | 120 => .tup [.str z.1, .int .i64 z.2] | 121 => .str z.1 | 122 => .int .i64 z.2 | 123 => .mref (r.length + 1 + 1 + 1) | 124 => .str z.1 | 125 => .int .i64 z.2 | 126 => .int .i64 z.2 | 127 => .bool false | _ => .undef, ?g1, ?g2, ?g3, ?g4, ?g5, ?g6⟩
    case g1 => simp only [readsD, aop, ev, setT, List.foldl_cons, List.foldl_nil, St.put, zgd, zg1, zg0, zs1, zs0, e1, e2]; exact rfl
    case g2 => rfl
    case g3 => simp only [readsD, aop, ev, St.put, zgd, zg1, zg0, zs1, zs0, e1, e2]; exact rfl
    case g4 => simp only [readsD, aop, ev, St.put, zgd, zg1, zg0, zs1, zs0, abin, aint, if_true, bne_self_eq_false, hlkb]; exact rfl
    case g5 => rfl
    case g6 => rfl
   intro y
   refine ⟨?sd, ?h1, ?h2, ?h3⟩
   case h1 => simp only [readsD, aop, ev, setT, List.foldl_cons, List.foldl_nil, St.put, zgd, zg1, zg0, zs1, zs0]; exact rfl
   case h2 => rfl
   show S _ _ _ _ _
   have hbl2 := BL_len p
   have hbig2 : j < 9223372036854775807 := by omega
   refine S_of_X EVp_ok (by kernel_rfl) ?_
   refine X_rg fun R hR => ?_
   simp only [inr_i64, Int.reduceLE, Int.reduceNeg, aops, astep, awant, aeff, aop, abin, aint, ev, ofValue, St.put, zg1, zg0, zgd, zmo, if_true, zs1, zs0, and_self, nat_succ hbig2]
   with_reducible refine hR _ ?_
   clear hR R
   show ∃ m, m < _ ∧ _
   exact ⟨(BL p p.procs.length).length - (j + 1), by omega, j + 1, r ++ [nD (visN [] (nmT (BL p p.procs.length)[j])), nD (visN [] (nmT (BL p p.procs.length)[j]))], nx4, lv4, rfl, rfl, by omega, Lib.hid (free_mm hr.out _ _)⟩
  ·intro b4
   have c4 := b4
   try simp only [decide_eq_false_iff_not] at c4
   refine S_exit ?_
   show S _ _ _ _ _
   refine S_seq ?_
   refine S_of_X EVp_ok (by kernel_rfl) ?_
   refine X_rg fun R hR => ?_
   simp only [aops, astep, awant, aeff, aop, ev, ofValue, St.put, zgd, zmo, if_true, zs1, zs0, b4]
   with_reducible refine hR _ ?_
   clear hR R
   show S _ _ _ _ _
   refine S_ret ?_
   refine ⟨.inr rfl, .bool true, ?_, rfl, rfl⟩
   simp only [resD, resAll, resOne, resTup, Try.results9, zg1, zg0, D.good, if_true, zmo]; try rfl

end Go.Proofs.Ytlpgapmbajblmaa
