/- Folding programs: statements, and all procedures. -/
import Derived.Test.YtlpgapmbajblmaaCf
import Derived.Test.YtlpgapmbajblmaaCl
import Derived.Test.YtlpgapmbajblmaaBs
namespace Go.Proofs.Ytlpgapmbajblmaa
open Go.RowKit

theorem ty_func_api_Node__api_Node : tyOf Try.prog 29 = some { sz := 1, agg := false, flds := [], elem := none, zero := some [.nfn], bytes := 8 } := by kernel_rfl
theorem dP_pl (t : Pr) : ((dP t).under 0 && (dP t).good) = true := by rw [dP_under]; rfl
theorem dP_cells (q : Pr) : (dP q).cells = [.str q.name, .slice .imm (if (q.params.map dV).isEmpty = true then 0 else 3) (q.params.map dV), .int .u8 q.body.kind, .int .i64 q.body.num, .str q.body.name, .slice .imm (if (q.body.kids.map dN).isEmpty = true then 0 else 4) (q.body.kids.map dN)] := rfl
theorem dP_agg (q : Pr) : D.agg [.str q.name, .slice .imm (if (q.params.map dV).isEmpty = true then 0 else 3) (q.params.map dV), .int .u8 q.body.kind, .int .i64 q.body.num, .str q.body.name, .slice .imm (if (q.body.kids.map dN).isEmpty = true then 0 else 4) (q.body.kids.map dN)] = dP q := rfl
theorem dP_isAgg (q : Pr) : (dP q).isAgg = true := rfl
theorem dP_good (q : Pr) : (dP q).good = true := rfl
mutual
/-- a statement, block or expression with all expressions folded -/
def stmtT : Tr → Tr
 | .mk k n s c => if 1 ≤ k ∧ k ≤ 23 then (foldT (.mk k n s c)).1 else .mk k n s (stmtsT c)
def stmtsT : List Tr → List Tr
 | [] => []
 | t :: r => stmtT t :: stmtsT r
end
theorem stmtsT_map : ∀ c : List Tr, stmtsT c = c.map stmtT
 | [] => rfl
 | t :: r => by simp only [stmtsT, zmc, stmtsT_map r]
theorem stmtT_eq (t : Tr) : stmtT t = if 1 ≤ t.kind ∧ t.kind ≤ 23 then (foldT t).1 else .mk t.kind t.num t.name (t.kids.map stmtT) := by
 cases t; simp only [stmtT, stmtsT_map, Tr.kind, Tr.num, Tr.name, Tr.kids]; rfl
/-- nodes in whose reach the parts that are folded are expressions -/
def catK (t : Tr) : Prop := ∃ q, cat q t = true
theorem catK_kid {t x : Tr} (h : catK t) (hx : x ∈ t.kids) : catK x := by
 obtain ⟨q, hq⟩ := h
 cases t with
 | mk k n s c =>
  obtain ⟨i, hi, rfl⟩ := List.getElem_of_mem hx
  exact ⟨_, (cat_step hq hi).1⟩
theorem catK_expr {t : Tr} (h : catK t) (h1 : t.kind ≤ 23) : exprB t = true := by
 obtain ⟨q, hq⟩ := h
 rcases cat_any hq with h9 | h9 | h9
 ·exact h9
 ·have := block_kind h9; omega
 ·have := stmt_kind h9; omega
set_option maxRecDepth 100000 in
set_option maxHeartbeats 4000000 in
theorem stmt_at (t : Tr) (hs : t.size ≤ 1000000) (hc : catK t) (ih : ∀ x ∈ t.kids, fn EV 53 [dN x] = some (dN (stmtT x))) : fn EV 53 [dN t] = some (dN (stmtT t)) := by
 have hkl := t.kids_len
 refine fn_Xs rfl Try.func53 rfl (by simp only [plain, List.all_cons, List.all_nil, dN_pl, Bool.and_true]) (rfl) ?_
 simp only [zmc, zmn, dN_strip]
 simp only [enterSt, Try.ntmps53, zlc, zln, Nat.reduceAdd, Nat.reduceSub, zr1, zr0, zca, zna]
 refine X_seq ?_
 refine X_rg fun R hR => ?_
 simp only [EVP, aops, astep, awant, aeff, ev, St.put, zg0, zgd, zmo, zbs, if_true, zs1, zs0, zlc, zln, zca, zna, Nat.zero_add, ty_api_Node, dN_cells, dN_good, sl]
 with_reducible refine hR _ ?_
 clear hR R
 show X _ _ _ _
 refine X_seq ?_
 refine X_seq ?_
 refine X_y ?_
 refine Y_k 4 fun R hR => ?_
 simp only [EVP, inr_u8, Int.reduceLE, aops, astep, awant, aeff, aop, abin, aint, mkD, ev, ofValue, St.put, ia_int, zg1, zg0, zgd, zmo, if_true, zs1, zs0, zlc, zln, zd0, zt1, zt0, Nat.reduceAdd, Nat.reduceLeDiff, Nat.zero_add, Nat.add_zero, zft, if_false, and_self, reduceCtorEq, ty_uint8, ty_api_Node]
 with_reducible refine hR _ ?_
 clear hR R
 simp only [zd1, zd0]
 refine Y_if 6 (by simp only [ev, zg1, zg0, zgd]; exact rfl) ?_ ?_
 ·intro b1
  have c1 := b1
  try simp only [decide_eq_true_eq, ge_iff_le] at c1
  refine Y_end fun R hR => ?_
  simp only [EVP, inr_u8, Int.reduceLE, aops, astep, awant, aeff, aop, abin, aint, mkD, ev, ofValue, St.put, ia_int, zg1, zg0, zgd, zmo, zbs, if_true, zs1, zs0, zlc, zln, zd0, zt1, zt0, Nat.reduceAdd, Nat.reduceLeDiff, Nat.zero_add, Nat.add_zero, zft, if_false, and_self, reduceCtorEq, beq_self_eq_true, ty_uint8, ty_api_Node, b1]
  with_reducible refine hR _ ?_
  clear hR R
  show X _ _ _ _
  refine X_ite (by simp only [ev, zg1, zg0, zgd]; exact rfl) ?_ ?_
  ·intro b2
   have c2 := b2
   try simp only [decide_eq_true_eq] at c2
   refine X_seq ?_
   have hF := fold_fn t hs (catK_expr hc (by first | omega | (simp_all; omega)))
   refine X_rg fun R hR => ?_
   simp only [EVP, aops, astep, awant, aeff, aop, mkD, astore, ev, St.put, pcall, zmc, zmn, zg1, zg0, zgd, zmo, if_true, zs1, zs0, zlc, zln, zd1, zd0, zt1, zt0, zca, zna, Nat.reduceAdd, Nat.reduceLeDiff, Nat.zero_add, and_self, ty_api_Node, st_constfold_folded, any38, dN_agg, dN_cells, dN_good, sl, dF, b2, hF, fd0_e, fd0_t, fd0_o]
   with_reducible refine hR _ ?_
   clear hR R
   show X _ _ _ _
   refine X_ret ?_
   show ∃ d, resD _ _ _ = some d ∧ _ ∧ _
   refine ⟨dN (foldT t).1, by simp only [resD, resAll, resOne, resTup, Try.results53, EVP, mkD, ty_api_Node, zg1, zg0, zd0, zt1, zt0, zlc, zln, Nat.reduceAdd, Nat.reduceLeDiff, Nat.zero_add, if_true, zmo]; try simp only [dN_agg], dN_under 0 _, ?_⟩
   rw [dN_strip, stmtT_eq, if_pos (by first | omega | (simp_all; omega))]
  ·intro b3
   have c3 := b3
   try simp only [decide_eq_false_iff_not, Int.not_le] at c3
   refine X_skip ?_
   show X _ _ _ _
   refine X_seq ?_
   have hE : fn EV 73 [.slice .imm (if (t.kids.map dN).isEmpty = true then 0 else 4) (t.kids.map dN), .fn 53 []] = some (.slice .imm (if ((t.kids.map stmtT).map dN).isEmpty = true then 0 else 4) ((t.kids.map stmtT).map dN)) := by have := eachNN any53 t.kids (fun x => dN (stmtT x)) (by omega) ih (fun x => dN_good _) (fun x => by rw [dN_cells]; rfl) (fun x => dN_strip _) (fun x => dN_under 0 _); rw [show t.kids.map (fun x => dN (stmtT x)) = (t.kids.map stmtT).map dN from by rw [List.map_map]; rfl] at this; exact this
   refine X_rg fun R hR => ?_
   simp only [EVP, aops, astep, awant, aeff, aop, mkD, astore, ev, St.put, pcall, gd_slice, ia_slice, cl_slice, zmc, zmn, zg1, zg0, zgd, zmo, if_true, zs1, zs0, zlc, zln, zd1, zd0, zt1, zt0, zca, zna, Nat.reduceAdd, Nat.reduceLeDiff, Nat.zero_add, zft, if_false, and_self, reduceCtorEq, ty_s_api_Node, ty_api_Node, any73, b3, hE]
   with_reducible refine hR _ ?_
   clear hR R
   show X _ _ _ _
   refine X_seq ?_
   refine X_rg fun R hR => ?_
   simp only [EVP, aops, astep, awant, aeff, aop, mkD, astore, ev, St.put, gd_agg, cl_agg, zg1, zg0, zgd, zmo, if_true, zs1, zs0, zlc, zln, zd1, zd0, zt1, zt0, zca, zna, Nat.reduceAdd, Nat.reduceLeDiff, Nat.zero_add, and_self, ty_api_Node]
   with_reducible refine hR _ ?_
   clear hR R
   show X _ _ _ _
   refine X_ret ?_
   show ∃ d, resD _ _ _ = some d ∧ _ ∧ _
   refine ⟨dN (.mk t.kind t.num t.name (t.kids.map stmtT)), by simp only [resD, resAll, resOne, resTup, Try.results53, EVP, mkD, ty_api_Node, zg1, zg0, zd0, zt1, zt0, zlc, zln, Nat.reduceAdd, Nat.reduceLeDiff, Nat.zero_add, if_true, zmo]; rw [dN_eq]; rfl, dN_under 0 _, ?_⟩
   rw [dN_strip, stmtT_eq, if_neg (by first | omega | (simp_all; omega))]
 ·intro b4
  have c4 := b4
  try simp only [decide_eq_false_iff_not, Int.not_le, ge_iff_le] at c4
  refine Y_end fun R hR => ?_
  simp only [EVP, inr_u8, Int.reduceLE, aops, astep, awant, aeff, aop, abin, ev, ofValue, St.put, zg1, zg0, zgd, zmo, Option.map_none, zbs, if_true, zs1, zs0, Nat.add_zero, zft, if_false, and_self, reduceCtorEq, bq_ft, ty_uint8, ty_api_Node, b4]
  with_reducible refine hR _ ?_
  clear hR R
  show X _ _ _ _
  refine X_false (by simp only [ev, zg1, zg0, zgd]) ?_
  refine X_skip ?_
  show X _ _ _ _
  refine X_seq ?_
  have hE : fn EV 73 [.slice .imm (if (t.kids.map dN).isEmpty = true then 0 else 4) (t.kids.map dN), .fn 53 []] = some (.slice .imm (if ((t.kids.map stmtT).map dN).isEmpty = true then 0 else 4) ((t.kids.map stmtT).map dN)) := by have := eachNN any53 t.kids (fun x => dN (stmtT x)) (by omega) ih (fun x => dN_good _) (fun x => by rw [dN_cells]; rfl) (fun x => dN_strip _) (fun x => dN_under 0 _); rw [show t.kids.map (fun x => dN (stmtT x)) = (t.kids.map stmtT).map dN from by rw [List.map_map]; rfl] at this; exact this
  refine X_rg fun R hR => ?_
  simp only [EVP, aops, astep, awant, aeff, aop, mkD, astore, ev, St.put, pcall, gd_slice, ia_slice, cl_slice, zmc, zmn, zg1, zg0, zgd, zmo, if_true, zs1, zs0, zlc, zln, zd1, zd0, zt1, zt0, zca, zna, Nat.reduceAdd, Nat.reduceLeDiff, Nat.zero_add, zft, if_false, and_self, reduceCtorEq, ty_s_api_Node, ty_api_Node, any73, hE]
  with_reducible refine hR _ ?_
  clear hR R
  show X _ _ _ _
  refine X_seq ?_
  refine X_rg fun R hR => ?_
  simp only [EVP, aops, astep, awant, aeff, aop, mkD, astore, ev, St.put, gd_agg, cl_agg, zg1, zg0, zgd, zmo, if_true, zs1, zs0, zlc, zln, zd1, zd0, zt1, zt0, zca, zna, Nat.reduceAdd, Nat.reduceLeDiff, Nat.zero_add, and_self, ty_api_Node]
  with_reducible refine hR _ ?_
  clear hR R
  show X _ _ _ _
  refine X_ret ?_
  show ∃ d, resD _ _ _ = some d ∧ _ ∧ _
  refine ⟨dN (.mk t.kind t.num t.name (t.kids.map stmtT)), by simp only [resD, resAll, resOne, resTup, Try.results53, EVP, mkD, ty_api_Node, zg1, zg0, zd0, zt1, zt0, zlc, zln, Nat.reduceAdd, Nat.reduceLeDiff, Nat.zero_add, if_true, zmo]; rw [dN_eq]; rfl, dN_under 0 _, ?_⟩
  rw [dN_strip, stmtT_eq, if_neg (by first | omega | (simp_all; omega))]

theorem stmt_fn (t : Tr) : t.size ≤ 1000000 → catK t → fn EV 53 [dN t] = some (dN (stmtT t)) := by
 induction t using Tr.ind with
 | h k n s c ih =>
  intro hs hc
  exact stmt_at _ hs hc (fun x hx => ih x hx (by have := Tr.kid_size hx; omega) (catK_kid hc hx))
set_option maxRecDepth 100000 in
set_option maxHeartbeats 4000000 in
theorem cloneV_fn1 (l : List Vd) (h0 : l.length ≠ 0) (hl : l.length ≤ 1000000) : fn EV 54 [sl 3 (l.map dV)] = some (sl 3 (l.map dV)) := by
 have hn : (if (l.map dV).isEmpty = true then 0 else 3) = 3 := sl_n (j := 0) (by simp; omega)
 refine fn_Xs rfl Try.func54 rfl (by simp only [plain, List.all_cons, List.all_nil, sl_pl (f := dV) (fun _ _ => rfl), Bool.and_true]) (by cases l with | nil => exact absurd rfl h0 | cons a r => rfl) ?_
 simp only [zmc, zmn, sl_strip (map_strip (f := dV) (fun _ => rfl) _)]
 simp only [enterSt, Try.ntmps54, zlc, zln, Nat.reduceAdd, Nat.reduceSub, zr1, zr0, zca, zna]
 refine X_seq ?_
 refine X_rg fun R hR => ?_
 simp only [aops, astep, awant, aeff, aop, ev, ofValue, St.put, zgd, zmo, if_true, zs1, zs0, sl]
 with_reducible refine hR _ ?_
 clear hR R
 show X _ _ _ _
 refine X_seq ?_
 refine X_seq ?_
 refine X_rg fun R hR => ?_
 simp only [EVP, aops, astep, awant, aeff, aop, abin, ev, ofValue, St.put, zg1, zg0, zgd, zmo, if_true, zs1, zs0, if_false, reduceCtorEq, und_api_VarDecl, sl_ne h0]
 with_reducible refine hR _ ?_
 clear hR R
 show X _ _ _ _
 refine X_false (by simp only [ev, zg1, zg0, zgd]) ?_
 refine X_skip ?_
 show X _ _ _ _
 refine X_seq ?_
 have hap := fun fr => Acc.app (P := Try.prog) (σ := ⟨fr, [], 1, [0]⟩) (t := 45) (e := 72) (o := .own 0 72) (n := 3) (L := []) (o2 := .imm) (l2 := l.map dV) (.own (by simp)) und_api_VarDecl inf_api_VarDecl_eq inf_api_VarDecl_size (by omega) (by rw [inf_api_VarDecl_bytes]; omega) inf_api_VarDecl_zc (by simp; omega) (by rw [ne_eq, sl_ne h0]; simp)
 refine X_rg fun R hR => ?_
 simp only [EVP, aops, astep, awant, aeff, aop, abuild, ev, ofValue, St.put, zmn, zg1, zg0, zgd, zmo, if_true, zs1, zs0, zna, Nat.reduceAdd, Nat.reduceLeDiff, Nat.reduceLT, Nat.zero_add, and_self, List.all_nil, Nat.reduceMul, rng_0, und_api_VarDecl, inf_api_VarDecl_eq, inf_api_VarDecl_size, inf_api_VarDecl_zero, hap, hn]
 with_reducible refine hR _ ?_
 clear hR R
 show X _ _ _ _
 refine X_ret ?_
 show ∃ d, resD _ _ _ = some d ∧ _ ∧ _
 simp only [resD, resAll, resOne, resTup, Try.results54, EVP, zg1, zg0, D.good, if_true, zmo]
 refine ⟨_, rfl, ?_, ?_⟩
 ·simp only [D.under, unders_id (f := dV) (fun _ _ => rfl)]
 ·simp only [D.strip, strips_id (f := dV) (fun _ => rfl), Own.st, sl, hn]
theorem cloneV_fn (l : List Vd) (hl : l.length ≤ 1000000) : fn EV 54 [sl 3 (l.map dV)] = some (sl 3 (l.map dV)) := by
 by_cases h0 : l.length = 0
 ·rw [List.length_eq_zero_iff] at h0
  subst h0
  exact fn_orc EV rfl rfl
 ·exact cloneV_fn1 l h0 hl
set_option maxRecDepth 100000 in
set_option maxHeartbeats 4000000 in
theorem pr1_fn {k : Nat} (any_k : (Try.prog.funcs[k]?).any (fun fn => fn.body.isSome && fn.name != "runtime.NumGoroutine") = true) (f : Pr) (b : Tr) (hp : f.params.length ≤ 1000000) (hb : fn EV k [dN f.body] = some (dN b)) : fn EV 56 [dP f, .elem (.fn k [])] = some (dP ⟨f.name, f.params, b⟩) := by
 refine fn_Xs rfl Try.func56 rfl (by simp only [plain, List.all_cons, List.all_nil, dP_pl, Bool.true_and]; rfl) (rfl) ?_
 simp only [zmc, zmn, D.strip, dP_strip, D.strips]
 simp only [enterSt, Try.ntmps56, zlc, zln, Nat.reduceAdd, Nat.reduceSub, zr1, zr0, zca, zna]
 refine X_seq ?_
 refine X_rg fun R hR => ?_
 simp only [EVP, aops, astep, awant, aeff, ev, St.put, zg0, zgd, zmo, zbs, if_true, zs1, zs0, zlc, zln, zca, zna, Nat.zero_add, ty_api_Proc, dP_cells, dP_good]
 with_reducible refine hR _ ?_
 clear hR R
 show X _ _ _ _
 refine X_seq ?_
 have hV := cloneV_fn f.params hp
 simp only [sl] at hV
 refine X_rg fun R hR => ?_
 simp only [EVP, aops, astep, awant, aeff, aop, mkD, afill, astore, ev, ofValue, St.put, pcall, gd_str, ia_str, cl_str, gd_agg, cl_agg, gd_slice, ia_slice, cl_slice, ia_fn, cl_fn, zmc, zmn, zg1, zg0, zgd, zmo, if_true, zs1, zs0, zlc, zln, zd1, zd0, zt1, zt0, zca, zna, Nat.reduceAdd, Nat.reduceLeDiff, Nat.zero_add, Nat.add_zero, zft, if_false, and_self, reduceCtorEq, ty_string, ty_s_api_VarDecl, ty_api_Node, ty_api_Proc, st_api_Proc, sta_api_Proc, ty_func_api_Node__api_Node, any54, dN_agg, dN_cells, dN_good, sl, any_k, hV, hb]
 with_reducible refine hR _ ?_
 clear hR R
 show X _ _ _ _
 refine X_ret ?_
 show ∃ d, resD _ _ _ = some d ∧ _ ∧ _
 refine ⟨dP ⟨f.name, f.params, b⟩, by simp only [resD, resAll, resOne, resTup, Try.results56, EVP, mkD, ty_api_Proc, zg1, zg0, zd0, zt1, zt0, zlc, zln, Nat.reduceAdd, Nat.reduceLeDiff, Nat.zero_add, if_true, zmo]; try rfl, dP_under 0 _, ?_⟩
 rw [dP_strip]
set_option maxRecDepth 100000 in
set_option maxHeartbeats 4000000 in
theorem eachPP {k : Nat} (any_k : (Try.prog.funcs[k]?).any (fun fn => fn.body.isSome && fn.name != "runtime.NumGoroutine") = true) (cp : D) (hcp : (cp.under 0 && cp.good) = true) (hcs : cp.strip = cp) (l : List Pr) (g : Pr → D) (hl : l.length ≤ 1000000) (hg : ∀ x ∈ l, fn EV k [dP x, cp] = some (g x)) (hgd : ∀ x, (g x).good = true) (hgc : ∀ x, (g x).cells.length = 6) (hgs : ∀ x, (g x).strip = g x) (hgu : ∀ x, (g x).under 0 = true) : fn EV 55 [sl 6 (l.map dP), .fn k [cp]] = some (sl 6 (l.map g)) := by
 refine fn_Xs rfl Try.func55 rfl (by have hcu : cp.under 0 = true := (Bool.and_eq_true_iff.1 hcp).1; simp only [plain, List.all_cons, List.all_nil, sl_pl (f := dP) dP_under, D.under, D.unders, hcu, gd_fn, Bool.and_self]) (rfl) ?_
 simp only [zmc, zmn, D.strip, sl_strip (map_strip dP_strip l), D.strips, hcs]
 simp only [enterSt, Try.ntmps55, zlc, zln, Nat.reduceAdd, Nat.reduceSub, zr1, zr0, zca, zna]
 refine X_seq ?_
 refine X_rg fun R hR => ?_
 simp only [aops, astep, awant, aeff, aop, ev, ofValue, St.put, zgd, zmo, if_true, zs1, zs0, sl]
 with_reducible refine hR _ ?_
 clear hR R
 show X _ _ _ _
 refine X_seq ?_
 refine X_rg fun R hR => ?_
 simp only [aops, astep, awant, aeff, aop, ev, ofValue, St.put, zgd, zmo, if_true, zs1, zs0]
 with_reducible refine hR _ ?_
 clear hR R
 show X _ _ _ _
 refine X_seq ?_
 refine X_seq ?_
 refine X_rg fun R hR => ?_
 simp only [EVP, inr_i64, Int.reduceLE, Int.reduceNeg, aops, astep, awant, aeff, aop, ev, ofValue, St.put, zg1, zg0, zgd, zmo, if_true, zs1, zs0, zlm, and_self, und_api_Proc]
 with_reducible refine hR _ ?_
 clear hR R
 show X _ _ _ _
 refine X_block ?_
 refine X_loop (fun m σ => ∃ (i : Nat) (r : List (List D)) (o : Own) (n : Nat) (nx : Nat) (lv : List Nat), σ = ⟨[slotOf σ 0, .fn k [cp], slotOf σ 2, slotOf σ 3, slotOf σ 4, .slice o n ((l.take i).map g), slotOf σ 6, slotOf σ 7, .slice .imm (if (l.map dP).isEmpty = true then 0 else 6) (l.map dP), .int .i64 l.length, .int .i64 i, slotOf σ 11, slotOf σ 12, slotOf σ 13, slotOf σ 14, slotOf σ 15, slotOf σ 16, slotOf σ 17, slotOf σ 18, slotOf σ 19, slotOf σ 20, slotOf σ 21], r, nx, lv⟩ ∧ m = l.length - i ∧ i ≤ l.length ∧ Acc 53 6 o n ((l.take i).map g) lv) ?_ (l.length) _ ?_
 rotate_left
 ·exact ⟨0, [], .nil, 0, 0, [], rfl, rfl, Nat.zero_le _, .nil _ _ _⟩
 rintro m σ ⟨i, r, o, n, nx, lv, hσ, rfl, hi, hacc⟩
 generalize slotOf σ = x at hσ
 subst hσ
 have hn : i < l.length → ((if (l.map dP).isEmpty = true then 0 else 6) = 6) = True := fun h => eq_true (sl_n (j := i) (by simpa using h))
 refine X_seq ?_
 refine X_rg fun R hR => ?_
 simp only [nat_lt, aops, astep, awant, aeff, aop, abin, aint, ev, St.put, zg1, zg0, zgd, zmo, if_true, zs1, zs0]
 with_reducible refine hR _ ?_
 clear hR R
 show X _ _ _ _
 refine X_seq ?_
 refine X_ite (by simp only [ev, zg1, zg0, zgd]; exact rfl) ?_ ?_
 ·intro b1
  have c1 := b1
  try simp only [decide_eq_true_eq] at c1
  refine X_skip ?_
  show X _ _ _ _
  refine X_seq ?_
  refine X_block ?_
  refine X_seq ?_
  have hlt : i < l.length := by first | assumption | (simpa using c1) | omega
  have hn1 := hn hlt
  have e1 : (l.map dP)[i]? = some (dP l[i]) := by simp [hlt]
  refine X_rg fun R hR => ?_
  simp only [EVP, app_get0, app_set0, nat_lt, nat_0, nat_to, aops, astep, awant, aeff, aop, astore, ev, St.put, zg1, zg0, zgd, zmo, zbs, if_true, zs1, zs0, zlm, zlc, zln, zd1, zd0, zt0, zca, zna, Nat.reduceAdd, Nat.reduceLeDiff, Nat.zero_add, and_self, decide_true, zis, ty_api_Proc, und_api_Proc, siz_api_Proc, inf_api_Proc_eq, dP_cells, dP_isAgg, dP_good, c1, hn1, e1]
  with_reducible refine hR _ ?_
  clear hR R
  show X _ _ _ _
  have hgx := hg l[i] (List.getElem_mem hlt)
  have hgd1 := hgd l[i]
  have hgc1 := hgc l[i]
  have hap := fun fr bx => (hacc.more nx).app (P := Try.prog) (σ := ⟨fr, bx, nx + 1, nx :: lv⟩) (t := 46) (o2 := .own nx 53) (l2 := [g l[i]]) und_api_Proc inf_api_Proc_eq inf_api_Proc_size (by omega) (by rw [inf_api_Proc_bytes]; omega) inf_api_Proc_zc (by simp; omega) (by simp)
  refine X_rg fun R hR => ?_
  simp only [EVP, app_get0, aops, astep, awant, aeff, aop, mkD, abuild, ev, ofValue, St.put, pcall, zmc, zmn, zg1, zg0, zgd, zmo, if_true, zs1, zs0, zlc, zln, zd0, zt1, zt0, zca, zna, Nat.reduceAdd, Nat.reduceLeDiff, Nat.reduceLT, Nat.zero_add, Bool.and_true, and_self, List.all_cons, List.all_nil, beq_self_eq_true, Nat.reduceMul, rng_1, ty_api_Proc, und_api_Proc, inf_api_Proc_eq, inf_api_Proc_size, inf_api_Proc_zero, dP_agg, any_k, hgx, hgd1, hgc1, hap, take_succ_map hlt]
  with_reducible refine hR _ ?_
  clear hR R
  show X _ _ _ _
  have hbig : i < 9223372036854775807 := by omega
  refine X_rg fun R hR => ?_
  simp only [inr_i64, Int.reduceLE, Int.reduceNeg, aops, astep, awant, aeff, aop, abin, aint, ev, ofValue, St.put, zg1, zg0, zgd, zmo, if_true, zs1, zs0, and_self, nat_succ hbig]
  with_reducible refine hR _ ?_
  clear hR R
  show ∃ m, m < _ ∧ _
  exact ⟨l.length - (i + 1), by omega, i + 1, _, _, _, _, _, rfl, rfl, by omega, .own (by simp)⟩
 ·intro b2
  have c2 := b2
  try simp only [decide_eq_false_iff_not] at c2
  refine X_exit ?_
  show X _ _ _ _
  refine X_seq ?_
  refine X_rg fun R hR => ?_
  simp only [aops, astep, awant, aeff, aop, ev, St.put, zg1, zg0, zgd, zmo, if_true, zs1, zs0, decide_false, c2]
  with_reducible refine hR _ ?_
  clear hR R
  show X _ _ _ _
  refine X_ret ?_
  show ∃ d, resD _ _ _ = some d ∧ _ ∧ _
  refine ⟨_, by simp only [resD, resAll, resOne, resTup, Try.results55, EVP, zg1, zg0, D.good, if_true, zmo]; exact rfl, ?_, ?_⟩
  ·simp only [D.under, D.unders_all, List.all_eq_true]; intro d hd; obtain ⟨x, hx, rfl⟩ := List.mem_map.1 hd; exact hgu x
  ·have hil : i = l.length := by omega
   rw [hacc.strip, hil, List.take_length, List.map_map]
   have : (D.strip ∘ g) = g := funext hgs
   rw [this]; rfl

end Go.Proofs.Ytlpgapmbajblmaa
