/- The law CheckerMends: its walk. -/
import Derived.Test.YtmglacjcefajlaaSo9
import Derived.Test.YtmglacjcefajlaaPl9b
namespace Go.Proofs.Ytmglacjcefajlaa
open Go.RowKit

theorem Acc.appN {P : Program} {t e : TypeId} {i : TypeInfo} {sz : Nat} {o : Own} {n : Nat} {L : List D} {lv : List Nat} (h : Acc e sz o n L lv) (hu : P.underlying t = some (.slice e)) (hi : P.info? e = some i) (hs : i.size = sz) (hp : 0 < sz) (hb : i.bytes ≤ 4096) (hz : (i.zero.map fun z => z.cells.size) = some sz) (nx : Nat) (n2 : Nat) (l2 : List D)
  (hl : L.length + l2.length ≤ 16777216) (hn2 : l2 ≠ [] → n2 = sz) : ∃ o' n' nx' lv', Acc e sz o' n' (L ++ l2) lv' ∧ ∀ fr bx, aappend P ⟨fr, bx, nx, lv⟩ t (.slice o n L) (.slice .imm n2 l2) = some (.slice o' n' (L ++ l2), ⟨fr, bx, nx', lv'⟩) := by
 cases l2 with
 | nil => exact ⟨o, n, nx, lv, by rw [List.append_nil]; exact h, fun fr bx => by rw [List.append_nil]; exact Acc.app0 hu hi⟩
 | cons a r =>
  obtain rfl := hn2 (by simp)
  refine ⟨.own nx e, n2, nx + 1, nx :: o.cut lv, .own (List.mem_cons_self), fun fr bx => ?_⟩
  exact Acc.app (σ := ⟨fr, bx, nx, lv⟩) (o2 := .imm) h hu hi hs hp hb hz hl (by simp)
theorem acc_node {o : Own} {n : Nat} {c : List Tr} {lv : List Nat} (ha : Acc 26 4 o n (c.map dN) lv) : (D.slice o n (c.map dN)).strip = sl 4 (c.map dN) := by
 have h1 : (c.map dN).map D.strip = c.map dN := by rw [List.map_map]; exact List.map_congr_left fun x _ => dN_strip x
 rw [ha.strip, h1]; rfl
/-- a call of a program whose main block's row is the caller's own -/
theorem call_withM {k : Nat} {d : D} {p : Pg} {c : List Tr} (h : fn EV k [dG (withM p c)] = some d) {o : Own} {n : Nat} (hst : (D.slice o n (c.map dN)).strip = sl 4 (c.map dN)) : fn EV k [.agg [.slice .imm (if (p.vars.map dV).isEmpty = true then 0 else 3) (p.vars.map dV), .slice .imm (if (p.procs.map dP).isEmpty = true then 0 else 6) (p.procs.map dP), .int .u8 57, .int .i64 0, .str ⟨#[]⟩, .slice o n (c.map dN)]] = some d := by
 rw [← h]
 refine fn_strip ?_ (by simp only [plain, List.all_cons, List.all_nil, dG_pl, Bool.and_true]) ?_
 ·have h1 := sl_under (n := 3) (map_under (dV_under 0) p.vars)
  have h2 := sl_under (n := 6) (map_under (dP_under 0) p.procs)
  simp only [sl] at h1 h2
  simp only [plain, List.all_cons, List.all_nil, D.under, D.unders, Bool.and_true, unders_id (f := dN) dN_under]
  simp only [D.under] at h1 h2
  rw [h1, h2]; rfl
 ·simp only [List.map_cons, List.map_nil, dG_strip]
  have h1 : ∀ A B x y z C : D, (D.agg [A, B, x, y, z, C]).strip = .agg [A.strip, B.strip, x.strip, y.strip, z.strip, C.strip] := fun _ _ _ _ _ _ => by simp only [D.strip, D.strips]
  have h2 := sl_strip (n := 3) (map_strip dV_strip p.vars)
  have h3 := sl_strip (n := 6) (map_strip dP_strip p.procs)
  simp only [sl] at h2 h3
  rw [h1, hst, h2, h3]
  rfl
theorem nat_sub1 {a : Nat} (h : 0 < a) (h' : a ≤ 1000000) : IntKind.i64.wrap ((a : Int) - 1) = ((a - 1 : Nat) : Int) := by
 simp only [IntKind.wrap, IntKind.bits, IntKind.signed]; simp; omega
set_option maxRecDepth 100000 in
set_option maxHeartbeats 4000000 in
theorem law7_e (p : Pg) (he : chkF p = []) : fn EV 7 [dG p] = some (.bool true) := by
 refine fn_X rfl Try.func7 rfl (by simp only [plain, List.all_cons, List.all_nil, dG_pl, Bool.and_true]) (rfl) (rfl) (rfl) ?_
 simp only [List.map_cons, List.map_nil, dG_strip]
 simp only [enterSt, Try.ntmps7, List.length_cons, List.length_nil, Nat.reduceAdd, Nat.reduceSub, List.replicate_succ, List.replicate_zero, List.cons_append, List.nil_append]
 refine X_seq ?_
 refine X_rg fun R hR => ?_
 simp only [aops, astep, awant, aeff, aop, ev, ofValue, St.put, zg0, zgd, zmo, if_true, zs1, zs0, List.length_nil, List.nil_append, dG_cells, dG_good]
 with_reducible refine hR _ ?_
 clear hR R
 show X _ _ _ _
 refine X_seq ?_
 refine X_seq ?_
 refine X_rg fun R hR => ?_
 simp only [EVP, aops, astep, awant, aeff, aop, ev, St.put, pcall, List.map_nil, zg1, zg0, zgd, zmo, if_true, zs1, zs0, List.nil_append, Bool.not_true, any11, awake_ok]
 with_reducible refine hR _ ?_
 clear hR R
 show X _ _ _ _
 refine X_ite (by simp only [ev, zg1, zg0, zgd]; exact rfl) ?_ ?_
 ·intro b1
  have c1 := b1
  try simp only [Bool.not_eq_true', Bool.not_eq_false', decide_eq_true_eq, decide_eq_false_iff_not, beq_iff_eq, Int.not_lt, Int.not_le, ge_iff_le, gt_iff_lt, bne_iff_ne, ne_eq, bne_eq_false_iff_eq, beq_eq_false_iff_ne, Bool.and_eq_true, Bool.or_eq_false_iff] at c1
  refine X_seq ?_
  refine X_rg fun R hR => ?_
  simp only [aops, astep, awant, aeff, aop, ev, ofValue, St.put, zgd, zmo, if_true, zs1, zs0, b1]
  with_reducible refine hR _ ?_
  clear hR R
  show X _ _ _ _
  refine X_ret ?_
  show resD _ _ _ = some _
  simp only [resD, resAll, resOne, resTup, Try.results7, EVP, zg1, zg0, D.good, if_true, zmo] <;> (first | (rfl; done) | (simp_all; done) | (exfalso; simp_all; done))
 ·intro b2
  have c2 := b2
  try simp only [] at c2
  refine X_skip ?_
  show X _ _ _ _
  refine X_seq ?_
  refine X_seq ?_
  have hV := valid_fn p
  have hF := check_fn p
  have hC := chk_fn p
  obtain ⟨dg, hG, g, rfl⟩ := great_p p
  have h0 : ∀ l : List Ft, decide ((l.length : Int) > 0) = !l.isEmpty := fun l => by cases l with | nil => rfl | cons a r => (first | (simp; done) | (simp; omega))
  have h1 : ∀ l : List Ft, ((l.length : Int) == 0) = l.isEmpty := fun l => by cases l with | nil => rfl | cons a r => (simp only [List.isEmpty_cons, beq_eq_false_iff_ne]; first | (simp; done) | (simp; omega))
  rw [he] at hC
  simp only [List.map_nil, sl, List.isEmpty_nil, if_true] at hC
  refine X_rg fun R hR => ?_
  simp only [EVP, inr_i64, Int.reduceLE, Int.reduceNeg, aops, astep, awant, aeff, aop, abin, aint, mkD, ev, ofValue, St.put, pcall, List.map_cons, List.map_nil, zg1, zg0, zgd, zmo, if_true, zs1, zs0, List.length_cons, List.length_nil, List.drop_zero, List.take_succ_cons, List.take_zero, List.cons_append, List.nil_append, Nat.reduceAdd, Nat.reduceLeDiff, Nat.zero_add, and_self, ty_api_Program, any12, dG_agg, hG]
  with_reducible refine hR _ ?_
  clear hR R
  show X _ _ _ _
  refine X_ite (by simp only [ev, zg1, zg0, zgd]; exact rfl) ?_ ?_
  ·intro b3
   have c3 := b3
   try simp only [beq_iff_eq] at c3
   refine X_seq ?_
   refine X_rg fun R hR => ?_
   simp only [aops, astep, awant, aeff, aop, ev, ofValue, St.put, zgd, zmo, if_true, zs1, zs0, b3]
   with_reducible refine hR _ ?_
   clear hR R
   show X _ _ _ _
   refine X_ret ?_
   show resD _ _ _ = some _
   simp only [resD, resAll, resOne, resTup, Try.results7, EVP, zg1, zg0, D.good, if_true, zmo] <;> (first | (rfl; done) | (simp_all; done) | (exfalso; simp_all; done))
  ·intro b4
   have c4 := b4
   try simp only [ne_eq, beq_eq_false_iff_ne] at c4
   refine X_skip ?_
   show X _ _ _ _
   refine X_seq ?_
   refine X_rg fun R hR => ?_
   simp only [EVP, aops, astep, awant, aeff, aop, mkD, ev, St.put, pcall, List.map_cons, List.map_nil, zg1, zg0, zgd, zmo, if_true, zs1, zs0, List.length_cons, List.length_nil, List.drop_zero, List.take_succ_cons, List.take_zero, List.cons_append, List.nil_append, Nat.reduceAdd, Nat.reduceLeDiff, Nat.zero_add, ty_api_Program, any13, dG_agg, b4, hC]
   with_reducible refine hR _ ?_
   clear hR R
   show X _ _ _ _
   refine X_seq ?_
   refine X_seq ?_
   have hz0 : (((0 : Nat) : Int) == 0) = true := rfl
   refine X_rg fun R hR => ?_
   simp only [EVP, inr_i64, Int.reduceLE, Int.reduceNeg, aops, astep, awant, aeff, aop, abin, aint, ev, ofValue, St.put, zg1, zg0, zgd, zmo, Option.map_none, Option.bind_some, if_true, zs1, zs0, List.length_nil, Bool.false_eq_true, if_false, and_self, reduceCtorEq, bq_tf, ty_int, ty_s_int, und_int, ty_checker_Rejection, und_checker_Rejection, List.length_nil, hz0]
   with_reducible refine hR _ ?_
   clear hR R
   show X _ _ _ _
   refine X_true (by simp only [ev, zg1, zg0, zgd]) ?_
   refine X_seq ?_
   refine X_rg fun R hR => ?_
   simp only [aops, astep, awant, aeff, aop, ev, ofValue, St.put, zgd, zmo, if_true, zs1, zs0]
   with_reducible refine hR _ ?_
   clear hR R
   show X _ _ _ _
   refine X_ret ?_
   show resD _ _ _ = some _
   simp only [resD, resAll, resOne, resTup, Try.results7, EVP, zg1, zg0, D.good, if_true, zmo] <;> (first | (rfl; done) | (simp_all; done) | (exfalso; simp_all; done))
set_option maxRecDepth 100000 in
set_option maxHeartbeats 4000000 in
theorem law7_y (p : Pg) (L : List Ft) (f : Ft) (hl : chkF p = L ++ [f]) : fn EV 7 [dG p] = some (.bool true) := by
 refine fn_X rfl Try.func7 rfl (by simp only [plain, List.all_cons, List.all_nil, dG_pl, Bool.and_true]) (rfl) (rfl) (rfl) ?_
 simp only [List.map_cons, List.map_nil, dG_strip]
 simp only [enterSt, Try.ntmps7, List.length_cons, List.length_nil, Nat.reduceAdd, Nat.reduceSub, List.replicate_succ, List.replicate_zero, List.cons_append, List.nil_append]
 refine X_seq ?_
 refine X_rg fun R hR => ?_
 simp only [aops, astep, awant, aeff, aop, ev, ofValue, St.put, zg0, zgd, zmo, if_true, zs1, zs0, List.length_nil, List.nil_append, dG_cells, dG_good]
 with_reducible refine hR _ ?_
 clear hR R
 show X _ _ _ _
 refine X_seq ?_
 refine X_seq ?_
 refine X_rg fun R hR => ?_
 simp only [EVP, aops, astep, awant, aeff, aop, ev, St.put, pcall, List.map_nil, zg1, zg0, zgd, zmo, if_true, zs1, zs0, List.nil_append, Bool.not_true, any11, awake_ok]
 with_reducible refine hR _ ?_
 clear hR R
 show X _ _ _ _
 refine X_ite (by simp only [ev, zg1, zg0, zgd]; exact rfl) ?_ ?_
 ·intro b1
  have c1 := b1
  try simp only [Bool.not_eq_true', Bool.not_eq_false', decide_eq_true_eq, decide_eq_false_iff_not, beq_iff_eq, Int.not_lt, Int.not_le, ge_iff_le, gt_iff_lt, bne_iff_ne, ne_eq, bne_eq_false_iff_eq, beq_eq_false_iff_ne, Bool.and_eq_true, Bool.or_eq_false_iff] at c1
  refine X_seq ?_
  refine X_rg fun R hR => ?_
  simp only [aops, astep, awant, aeff, aop, ev, ofValue, St.put, zgd, zmo, if_true, zs1, zs0, b1]
  with_reducible refine hR _ ?_
  clear hR R
  show X _ _ _ _
  refine X_ret ?_
  show resD _ _ _ = some _
  simp only [resD, resAll, resOne, resTup, Try.results7, EVP, zg1, zg0, D.good, if_true, zmo] <;> (first | (rfl; done) | (simp_all; done) | (exfalso; simp_all; done))
 ·intro b2
  have c2 := b2
  try simp only [] at c2
  refine X_skip ?_
  show X _ _ _ _
  refine X_seq ?_
  refine X_seq ?_
  have hV := valid_fn p
  have hF := check_fn p
  have hC := chk_fn p
  obtain ⟨dg, hG, g, rfl⟩ := great_p p
  have h0 : ∀ l : List Ft, decide ((l.length : Int) > 0) = !l.isEmpty := fun l => by cases l with | nil => rfl | cons a r => (first | (simp; done) | (simp; omega))
  have h1 : ∀ l : List Ft, ((l.length : Int) == 0) = l.isEmpty := fun l => by cases l with | nil => rfl | cons a r => (simp only [List.isEmpty_cons, beq_eq_false_iff_ne]; first | (simp; done) | (simp; omega))
  refine X_rg fun R hR => ?_
  simp only [EVP, inr_i64, Int.reduceLE, Int.reduceNeg, aops, astep, awant, aeff, aop, abin, aint, mkD, ev, ofValue, St.put, pcall, List.map_cons, List.map_nil, zg1, zg0, zgd, zmo, if_true, zs1, zs0, List.length_cons, List.length_nil, List.drop_zero, List.take_succ_cons, List.take_zero, List.cons_append, List.nil_append, Nat.reduceAdd, Nat.reduceLeDiff, Nat.zero_add, and_self, ty_api_Program, any12, dG_agg, hG]
  with_reducible refine hR _ ?_
  clear hR R
  show X _ _ _ _
  refine X_ite (by simp only [ev, zg1, zg0, zgd]; exact rfl) ?_ ?_
  ·intro b3
   have c3 := b3
   try simp only [beq_iff_eq] at c3
   refine X_seq ?_
   refine X_rg fun R hR => ?_
   simp only [aops, astep, awant, aeff, aop, ev, ofValue, St.put, zgd, zmo, if_true, zs1, zs0, b3]
   with_reducible refine hR _ ?_
   clear hR R
   show X _ _ _ _
   refine X_ret ?_
   show resD _ _ _ = some _
   simp only [resD, resAll, resOne, resTup, Try.results7, EVP, zg1, zg0, D.good, if_true, zmo] <;> (first | (rfl; done) | (simp_all; done) | (exfalso; simp_all; done))
  ·intro b4
   have c4 := b4
   try simp only [ne_eq, beq_eq_false_iff_ne] at c4
   refine X_skip ?_
   show X _ _ _ _
   refine X_seq ?_
   refine X_rg fun R hR => ?_
   simp only [EVP, aops, astep, awant, aeff, aop, mkD, ev, St.put, pcall, List.map_cons, List.map_nil, zg1, zg0, zgd, zmo, if_true, zs1, zs0, List.length_cons, List.length_nil, List.drop_zero, List.take_succ_cons, List.take_zero, List.cons_append, List.nil_append, Nat.reduceAdd, Nat.reduceLeDiff, Nat.zero_add, ty_api_Program, any13, sl, dG_agg, b4, hC]
   with_reducible refine hR _ ?_
   clear hR R
   show X _ _ _ _
   refine X_seq ?_
   refine X_seq ?_
   have hln : ((chkF p).map dFt).length = L.length + 1 := by rw [hl]; simp
   have hln2 : (chkF p).length = L.length + 1 := by rw [hl]; simp
   have hlb := (chk_bd p).1
   have hw := nat_sub1 (a := (chkF p).length) (by omega) hlb
   have hlt : ((((chkF p).length - 1 : Nat) : Int) < (((chkF p).length : Nat) : Int)) = True := eq_true (by omega)
   have hn1 : ((if ((chkF p).map dFt).isEmpty = true then 0 else 4) = 4) = True := eq_true (sl_n (j := 0) (by rw [hln]; omega))
   have e1 : ((chkF p).map dFt)[(chkF p).length - 1]? = some (.agg [.int .i64 f.proc, .slice .imm (if (f.path.map dI).isEmpty = true then 0 else 1) (f.path.map dI), .int .i64 f.err, .str f.name]) := by rw [hln2, Nat.add_sub_cancel, hl, List.map_append, List.getElem?_append_right (by simp), List.length_map, Nat.sub_self]; rfl
   have hz : (((chkF p).length : Int) == 0) = false := by rw [beq_eq_false_iff_ne]; omega
   refine X_y ?_
   refine Y_k 14 fun R hR => ?_
   simp only [EVP, inr_i64, Int.reduceLE, Int.reduceNeg, nat_0, nat_to, aops, astep, awant, aeff, aop, abin, aint, ev, ofValue, St.put, ia_int, cl_int, zg1, zg0, zgd, zmo, Option.bind_some, if_true, zs1, zs0, List.length_map, List.length_cons, List.length_nil, List.drop_zero, List.take_succ_cons, List.take_zero, Nat.reduceAdd, Nat.reduceLeDiff, Nat.zero_add, Bool.false_eq_true, if_false, and_self, reduceCtorEq, beq_self_eq_true, Option.isSome_some, ty_int, ty_checker_Rejection, und_checker_Rejection, siz_checker_Rejection, inf_checker_Rejection_eq, hw, hlt, hn1, e1, hz]
   with_reducible refine hR _ ?_
   clear hR R
   simp only [List.drop_succ_cons, List.drop_zero]
   refine Y_if 26 (by simp only [ev, zg1, zg0, zgd]; exact rfl) ?_ ?_
   ·intro b5
    have c5 := b5
    try simp only [bne_iff_ne, ne_eq] at c5
    refine Y_end fun R hR => ?_
    simp only [EVP, inr_i64, Int.reduceLE, Int.reduceNeg, aops, astep, awant, aeff, aop, abin, ev, ofValue, St.put, zg1, zg0, zgd, zmo, Option.map_none, Option.bind_some, if_true, zs1, zs0, Bool.false_eq_true, if_false, and_self, reduceCtorEq, bq_tf, ty_s_int, und_int, ty_checker_Rejection, und_checker_Rejection, b5]
    with_reducible refine hR _ ?_
    clear hR R
    show X _ _ _ _
    refine X_true (by simp only [ev, zg1, zg0, zgd]) ?_
    refine X_seq ?_
    refine X_rg fun R hR => ?_
    simp only [aops, astep, awant, aeff, aop, ev, ofValue, St.put, zgd, zmo, if_true, zs1, zs0]
    with_reducible refine hR _ ?_
    clear hR R
    show X _ _ _ _
    refine X_ret ?_
    show resD _ _ _ = some _
    simp only [resD, resAll, resOne, resTup, Try.results7, EVP, zg1, zg0, D.good, if_true, zmo] <;> (first | (rfl; done) | (simp_all; done) | (exfalso; simp_all; done))
   ·intro b6
    have c6 := b6
    try simp only [bne_eq_false_iff_eq] at c6
    refine Y_end fun R hR => ?_
    simp only [EVP, inr_i64, Int.reduceLE, Int.reduceNeg, nat_0, nat_to, aops, astep, awant, aeff, aop, abin, aint, ev, ofValue, St.put, ia_slice, cl_slice, zg1, zg0, zgd, zmo, Option.bind_some, if_true, zs1, zs0, List.length_map, List.length_cons, List.length_nil, List.drop_succ_cons, List.drop_zero, List.take_succ_cons, List.take_zero, Nat.reduceAdd, Nat.reduceLeDiff, Nat.zero_add, Bool.false_eq_true, if_false, and_self, reduceCtorEq, beq_self_eq_true, Option.isSome_some, ty_s_int, und_int, ty_checker_Rejection, und_checker_Rejection, siz_checker_Rejection, inf_checker_Rejection_eq, b6, hw, hlt, hn1, e1]
    with_reducible refine hR _ ?_
    clear hR R
    show X _ _ _ _
    refine X_ite (by simp only [ev, zg1, zg0, zgd]; exact rfl) ?_ ?_
    ·intro b7
     have c7 := b7
     try simp only [bne_iff_ne, ne_eq] at c7
     refine X_seq ?_
     refine X_rg fun R hR => ?_
     simp only [aops, astep, awant, aeff, aop, ev, ofValue, St.put, zgd, zmo, if_true, zs1, zs0, b7]
     with_reducible refine hR _ ?_
     clear hR R
     show X _ _ _ _
     refine X_ret ?_
     show resD _ _ _ = some _
     simp only [resD, resAll, resOne, resTup, Try.results7, EVP, zg1, zg0, D.good, if_true, zmo] <;> (first | (rfl; done) | (simp_all; done) | (exfalso; simp_all; done))
    ·intro b8
     have c8 := b8
     try simp only [bne_eq_false_iff_eq] at c8
     refine X_skip ?_
     show X _ _ _ _
     refine X_seq ?_
     have hpr : f.proc = -1 := by first | assumption | (simp_all; done)
     have hpl : f.path.length = 1 := by first | assumption | omega | (simp_all; done) | (simp at *; omega)
     have hvc : validB p = true ∧ checkF p = [] := by
      by_cases q : validB p = true ∧ checkF p = []
      ·exact q
      ·exfalso; unfold chkF at hl; rw [if_neg q] at hl; simp at hl
     obtain ⟨hv, hno⟩ := hvc
     obtain ⟨j, hj, hpath, hcut⟩ := mends hv hno hl hpr hpl
     have hn3 : ((if (f.path.map dI).isEmpty = true then 0 else 1) = 1) = True := eq_true (sl_n (j := 0) (by rw [hpath]; simp))
     have e3 : (f.path.map dI)[0]? = some (.int .i64 (j : Int)) := by rw [hpath]; rfl
     have hl3 : ((0 : Int) < (f.path.length : Int)) = True := eq_true (by omega)
     refine X_rg fun R hR => ?_
     simp only [EVP, inr_i64, Int.reduceLE, Int.reduceNeg, nat_0, nat_to, aops, astep, awant, aeff, aop, abin, aint, ev, ofValue, St.put, ia_int, cl_int, ia_slice, cl_slice, zg1, zg0, zgd, zmo, if_true, zs1, zs0, List.length_map, List.length_cons, List.length_nil, List.drop_succ_cons, List.drop_zero, List.take_succ_cons, List.take_zero, Nat.reduceAdd, Nat.reduceLeDiff, Nat.zero_add, Bool.false_eq_true, if_false, and_self, reduceCtorEq, Option.isSome_some, ty_int, ty_s_int, und_int, siz_int, inf_int_eq, ty_checker_Rejection, und_checker_Rejection, siz_checker_Rejection, inf_checker_Rejection_eq, b8, hw, hlt, hn1, e1, hn3, e3, hl3, Int.toNat_zero]
     with_reducible refine hR _ ?_
     clear hR R
     show X _ _ _ _
     refine X_seq ?_
     refine X_rg fun R hR => ?_
     simp only [EVP, aops, astep, awant, aeff, aop, mkD, astore, ev, St.put, zg1, zg0, zgd, zmo, Option.bind_some, if_true, zs1, zs0, List.length_cons, List.length_nil, List.drop_succ_cons, List.drop_zero, List.take_succ_cons, List.take_zero, List.cons_append, List.nil_append, Nat.reduceAdd, Nat.reduceLeDiff, Nat.zero_add, and_self, ty_api_Program, dG_agg, dG_cells, dG_good]
     with_reducible refine hR _ ?_
     clear hR R
     show X _ _ _ _
     refine X_seq ?_
     have hmz := (main_block hv).2.2
     have hkl := p.main.kids_len
     have hT : (p.main.kids.map dN).take j = (p.main.kids.take j).map dN := by simp
     have hD : (p.main.kids.map dN).drop (j + 1) = (p.main.kids.drop (j + 1)).map dN := by simp
     have hle : ((j : Int) ≤ (p.main.kids.length : Int)) = True := eq_true (by omega)
     have hle2 : (((j + 1 : Nat) : Int) ≤ (p.main.kids.length : Int)) = True := eq_true (by omega)
     have hle0 : ((0 : Int) ≤ ((j + 1 : Nat) : Int)) = True := eq_true (by omega)
     have hw1 : IntKind.i64.wrap ((j : Int) + 1) = ((j + 1 : Nat) : Int) := nat_succ (by omega)
     have hTk : ((p.main.kids.drop (j + 1)).map dN).take (p.main.kids.length - (j + 1)) = (p.main.kids.drop (j + 1)).map dN := by rw [List.take_of_length_le (by simp)]
     obtain ⟨o1, n1, nx1, lv1, ha1, hap1⟩ := (Acc.own (e := 26) (sz := 4) (st := 0) (L := []) (lv := [0]) (by simp)).appN (P := Try.prog) (t := 24) und_api_Node inf_api_Node_eq inf_api_Node_size (by omega) (by rw [inf_api_Node_bytes]; omega) inf_api_Node_zc 1 (if (p.main.kids.map dN).isEmpty = true then 0 else 4) ((p.main.kids.take j).map dN) (by simp; omega) (fun h => sl_n (j := 0) (by simp; omega))
     rw [List.nil_append] at ha1 hap1
     obtain ⟨o2, n2, nx2, lv2, ha2, hap2⟩ := ha1.appN (P := Try.prog) (t := 24) und_api_Node inf_api_Node_eq inf_api_Node_size (by omega) (by rw [inf_api_Node_bytes]; omega) inf_api_Node_zc nx1 (if (p.main.kids.map dN).isEmpty = true then 0 else 4) ((p.main.kids.drop (j + 1)).map dN) (by simp; omega) (fun h => sl_n (j := 0) (by simp; omega))
     rw [← List.map_append] at ha2 hap2
     refine X_rg fun R hR => ?_
     simp only [EVP, inr_i64, inr_u8, Int.reduceLE, Int.reduceNeg, nat_to, aops, astep, awant, aeff, aop, abin, aint, mkD, idx, aslice, afill, abuild, astore, ev, ofValue, St.put, gd_int, cl_int, gd_agg, cl_agg, gd_slice, ia_slice, cl_slice, List.map_cons, List.map_nil, zg1, zg0, zgd, zmo, Option.map_none, if_true, zs1, zs0, List.length_map, List.length_cons, List.length_nil, List.drop_succ_cons, List.drop_zero, List.take_succ_cons, List.take_zero, List.cons_append, List.nil_append, Nat.reduceAdd, Nat.reduceLeDiff, Nat.reduceLT, Nat.zero_add, Bool.false_eq_true, if_false, and_self, reduceCtorEq, List.all_nil, Option.isSome_some, Nat.reduceMul, rng_0, ty_s_api_Node, ty_api_Node, ty_api_Program, st_api_Node, sta_api_Node, und_api_Node, siz_api_Node, inf_api_Node_eq, inf_api_Node_size, inf_api_Node_zero, hle, hle2, hw1, hT, hD, hap1, hap2, sl_or, Nat.sub_zero, Nat.zero_le, List.drop_zero, nat_le, hTk]
     with_reducible refine hR _ ?_
     clear hR R
     show X _ _ _ _
     refine X_seq ?_
     have hln : ((chkF p).map dFt).length = L.length + 1 := by rw [hl]; simp
     have hln2 : (chkF p).length = L.length + 1 := by rw [hl]; simp
     have hlb := (chk_bd p).1
     have hw := nat_sub1 (a := (chkF p).length) (by omega) hlb
     have hlt : ((((chkF p).length - 1 : Nat) : Int) < (((chkF p).length : Nat) : Int)) = True := eq_true (by omega)
     have hn1 : ((if ((chkF p).map dFt).isEmpty = true then 0 else 4) = 4) = True := eq_true (sl_n (j := 0) (by rw [hln]; omega))
     have e1 : ((chkF p).map dFt)[(chkF p).length - 1]? = some (.agg [.int .i64 f.proc, .slice .imm (if (f.path.map dI).isEmpty = true then 0 else 1) (f.path.map dI), .int .i64 f.err, .str f.name]) := by rw [hln2, Nat.add_sub_cancel, hl, List.map_append, List.getElem?_append_right (by simp), List.length_map, Nat.sub_self]; rfl
     have hz : (((chkF p).length : Int) == 0) = false := by rw [beq_eq_false_iff_ne]; omega
     have hC2 := call_withM (chk_fn (withM p (p.main.kids.take j ++ p.main.kids.drop (j + 1)))) (acc_node ha2)
     rw [hcut] at hC2
     have hTL : ((chkF p).map dFt).take ((chkF p).length - 1) = L.map dFt := by rw [hln2, Nat.add_sub_cancel, hl, List.map_append, List.take_left' (by simp)]
     have hle4 : ((((chkF p).length - 1 : Nat) : Int) ≤ ((chkF p).length : Int)) = True := eq_true (by omega)
     have hL1 : ∀ f ∈ L, f.path.length ≤ 1000000 := fun g hg => (chk_bd p).2 g (by rw [hl]; simp [hg])
     have hst : (D.slice .imm (if ((chkF p).map dFt).isEmpty = true then 0 else 4) (L.map dFt)).strip = sl 4 (L.map dFt) := by
      have hi : ((chkF p).map dFt).isEmpty = false := by rw [hl]; simp
      rw [hi]; simp only [D.strip, strips_id (f := dFt) dFt_strip, Own.st, sl]; cases L <;> rfl
     have hpl4 : ((D.slice .imm (if ((chkF p).map dFt).isEmpty = true then 0 else 4) (L.map dFt)).under 0 && (D.slice .imm (if ((chkF p).map dFt).isEmpty = true then 0 else 4) (L.map dFt)).good) = true := by
      have : (D.slice .imm (if ((chkF p).map dFt).isEmpty = true then 0 else 4) (L.map dFt)).under 0 = true := by simp only [D.under, unders_id (f := dFt) dFt_under]
      rw [this]; rfl
     have hS := same_self L true (by omega) hL1 (sl_own4 L).1 (sl_own4 L).2 hst hpl4
     refine X_rg fun R hR => ?_
     simp only [EVP, inr_i64, Int.reduceLE, Int.reduceNeg, nat_to, aops, astep, awant, aeff, aop, abin, aint, mkD, idx, aslice, ev, ofValue, St.put, pcall, List.map_cons, List.map_nil, zg1, zg0, zgd, zmo, Option.map_none, if_true, zs1, zs0, List.length_map, List.length_cons, List.length_nil, List.drop_zero, List.take_succ_cons, List.take_zero, List.cons_append, List.nil_append, Nat.reduceAdd, Nat.reduceLeDiff, Nat.zero_add, and_self, Option.isSome_some, ty_api_Program, und_checker_Rejection, siz_checker_Rejection, inf_checker_Rejection_eq, any13, any17, sl, hw, hn1, hC2, hTL, hle4, hS, true_or, Nat.sub_zero, Nat.zero_le, List.drop_zero, nat_le]
     with_reducible refine hR _ ?_
     clear hR R
     show X _ _ _ _
     refine X_ret ?_
     show resD _ _ _ = some _
     simp only [resD, resAll, resOne, resTup, Try.results7, EVP, zg1, zg0, D.good, if_true, zmo] <;> (first | (rfl; done) | (simp_all; done) | (exfalso; simp_all; done))
theorem law7_fn (p : Pg) : fn EV 7 [dG p] = some (.bool true) := by
 by_cases h : chkF p = []
 ·exact law7_e p h
 ·exact law7_y p _ _ (List.dropLast_concat_getLast h).symm

end Go.Proofs.Ytmglacjcefajlaa
