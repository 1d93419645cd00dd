/- The reference's Visible and Decls. -/
import Derived.Test.YtjikokmhknnnoaaSc3
import Derived.Test.YtjikokmhknnnoaaVs
namespace Go.Proofs.Ytjikokmhknnnoaa
open Go.RowKit

theorem copy_app2 (os : Own) {P : Program} {t e : TypeId} {i : TypeInfo} {sz : Nat} (nx : Nat) (lv : List Nat) (hu : P.underlying t = some (.slice e)) (hi : P.info? e = some i) (hs : i.size = sz) (hp : 0 < sz) (hb : i.bytes ≤ 4096) (hz : (i.zero.map fun z => z.cells.size) = some sz) (l : List D) (x : D) (hl : l.length + 1 ≤ 16777216) :
  ∃ o1 n1 nx1 lv1 o2 nx2 lv2, (∀ fr bx, aappend P ⟨fr, bx, nx + 1, nx :: lv⟩ t (.slice (.own nx e) sz []) (.slice os (if l.isEmpty = true then 0 else sz) l) = some (.slice o1 n1 l, ⟨fr, bx, nx1, lv1⟩)) ∧
   (∀ fr bx, aappend P ⟨fr, bx, nx1 + 1, nx1 :: lv1⟩ t (.slice o1 n1 l) (.slice (.own nx1 e) sz [x]) = some (.slice o2 sz (l ++ [x]), ⟨fr, bx, nx2, lv2⟩)) ∧ Keep nx lv nx2 lv2 ∧ o2.st = .imm := by
 have h0 : Acc e sz (.own nx e) sz [] (nx :: lv) := .own List.mem_cons_self
 cases l with
 | nil =>
  refine ⟨.own nx e, sz, nx + 1, nx :: lv, .own (nx + 2) e, nx + 3, (nx + 2) :: Own.cut (.own nx e) ((nx + 1) :: nx :: lv), fun fr bx => Acc.app0 hu hi, fun fr bx => ?_, ⟨by omega, fun s h1 h2 => ?_⟩, rfl⟩
  ·exact Acc.app (σ := ⟨fr, bx, nx + 1 + 1, (nx + 1) :: nx :: lv⟩) (o2 := .own (nx + 1) e) (h0.more (nx + 1)) hu hi hs hp hb hz hl (by simp)
  ·simp only [Own.cut, List.mem_cons, List.mem_filter, bne_iff_ne, ne_eq]; exact .inr ⟨.inr (.inr h2), by omega⟩
 | cons a r =>
  refine ⟨.own (nx + 1) e, sz, nx + 2, (nx + 1) :: Own.cut (.own nx e) (nx :: lv), .own (nx + 3) e, nx + 4, (nx + 3) :: Own.cut (.own (nx + 1) e) ((nx + 2) :: (nx + 1) :: Own.cut (.own nx e) (nx :: lv)), fun fr bx => ?_, fun fr bx => ?_, ⟨by omega, fun s h1 h2 => ?_⟩, rfl⟩
  ·exact Acc.app (σ := ⟨fr, bx, nx + 1, nx :: lv⟩) (o2 := os) h0 hu hi hs hp hb hz (by simp at hl ⊢; omega) (by simp)
  ·exact Acc.app (σ := ⟨fr, bx, nx + 2 + 1, (nx + 2) :: (nx + 1) :: Own.cut (.own nx e) (nx :: lv)⟩) (o2 := .own (nx + 2) e) (.own (by simp)) hu hi hs hp hb hz hl (by simp)
  ·simp only [Own.cut, List.mem_cons, List.mem_filter, bne_iff_ne, ne_eq]; exact .inr ⟨.inr (.inr ⟨.inr h2, by omega⟩), by omega⟩
theorem slO_strip {o : Own} {n : Nat} (vs : List Vd) (ho : o.st = .imm) (hn : n = (if (vs.map dV).isEmpty = true then 0 else 3)) : (D.slice o n (vs.map dV)).strip = sl 3 (vs.map dV) := by
 subst hn
 simp only [D.strip, strips_id (f := dV) (fun _ => rfl), ho, sl]
 cases vs <;> rfl
set_option maxRecDepth 100000 in
set_option maxHeartbeats 4000000 in
theorem rvis_proc (p : Pg) (k : Nat) (path : List Int) (hv : validB p = true) (hk : k < p.procs.length) (hpl : path.length ≤ 100000) : fn EV 34 [dG p, .int .i64 (k : Int), sl 1 (path.map dI)] = some (visD 21 (visW path (p.procs[k].body) (p.procs[k].params))) := by
 obtain ⟨bv, bp, bq, bm, _⟩ := valid_bd hv
 obtain ⟨bq1, bq2, _⟩ := bq p.procs[k] (List.getElem_mem hk)
 refine fn_Xs rfl Try.func34 rfl (by simp only [plain, List.all_cons, List.all_nil, sl_pl (f := dI) (fun _ _ => rfl), int_pl, dG_pl, Bool.and_true]) (rfl) ?_
 simp only [zmc, zmn, D.strip, sl_strip (map_strip (f := dI) (fun _ => rfl) _), dG_strip]
 simp only [enterSt, Try.ntmps34, zlc, zln, Nat.reduceAdd, Nat.reduceSub, zr1, zr0, zca, zna]
 refine X_seq ?_
 refine X_rg fun R hR => ?_
 simp only [inr_i64, Int.reduceLE, Int.reduceNeg, aops, astep, awant, aeff, aop, ev, ofValue, St.put, zg0, zgd, zmo, if_true, zs1, zs0, zln, zna, and_self, sl, sl, dG_cells, dG_good]
 with_reducible refine hR _ ?_
 clear hR R
 show X _ _ _ _
 refine X_seq ?_
 refine X_seq ?_
 have hlt0 : decide ((k : Int) < 0) = false := by simp; try omega
 have hgt0 : decide ((k : Int) > (p.procs.length : Int)) = false := by simp; try omega
 have hgt9 : decide (p.procs.length < k) = false := by simp; try omega
 refine X_rg fun R hR => ?_
 simp only [EVP, inr_i64, Int.reduceLE, Int.reduceNeg, nat_lt, aops, astep, awant, aeff, aop, abin, aint, mkD, ev, ofValue, St.put, ia_slice, zg1, zg0, zgd, zmo, zbs, if_true, zs1, zs0, zlm, zlc, zln, zd1, zd0, zt1, zt0, Nat.reduceAdd, Nat.reduceLeDiff, Nat.zero_add, zft, if_false, and_self, reduceCtorEq, beq_self_eq_true, ty_s_api_Proc, ty_api_Program, und_api_Proc, hlt0, hgt9]
 with_reducible refine hR _ ?_
 clear hR R
 show X _ _ _ _
 refine X_false (by simp only [ev, zg1, zg0, zgd]) ?_
 refine X_skip ?_
 show X _ _ _ _
 refine X_seq ?_
 refine X_rg fun R hR => ?_
 simp only [EVP, aops, astep, awant, aeff, aop, mkD, astore, ev, St.put, ia_slice, zg1, zg0, zgd, zmo, zbs, if_true, zs1, zs0, zlc, zln, zd1, zd0, zt1, zt0, zca, zna, Nat.reduceAdd, Nat.reduceLeDiff, Nat.zero_add, Nat.add_zero, zft, if_false, and_self, reduceCtorEq, ty_s_api_VarDecl, ty_api_Node, ty_api_Program, sl, dN_agg, dN_cells, dN_good, sl]
 with_reducible refine hR _ ?_
 clear hR R
 show X _ _ _ _
 refine X_seq ?_
 refine X_seq ?_
 have hlt1 : decide ((k : Int) < (p.procs.length : Int)) = true := by simp; try omega
 have hlt9 : decide (k < p.procs.length) = true := by simp; try omega
 refine X_rg fun R hR => ?_
 simp only [EVP, nat_lt, aops, astep, awant, aeff, aop, abin, aint, mkD, ev, St.put, ia_slice, zg1, zg0, zgd, zmo, if_true, zs1, zs0, zlm, zlc, zln, zd1, zd0, zt1, zt0, Nat.reduceAdd, Nat.reduceLeDiff, Nat.zero_add, zft, if_false, reduceCtorEq, ty_s_api_Proc, ty_api_Program, und_api_Proc, hlt9]
 with_reducible refine hR _ ?_
 clear hR R
 show X _ _ _ _
 refine X_true (by simp only [ev, zg1, zg0, zgd]) ?_
 have hkn : ((k : Int)).toNat = k := Int.toNat_natCast k
 have hk0 : (0 ≤ (k : Int)) = True := eq_true (by omega)
 have hkl : ((k : Int) < (p.procs.length : Int)) = True := eq_true (by omega)
 have hn6 : ((if (p.procs.map dP).isEmpty = true then 0 else 6) = 6) = True := eq_true (sl_n (j := k) (by simpa using hk))
 have e6 : (p.procs.map dP)[k]? = some (dP p.procs[k]) := by simp [hk]
 refine X_rg fun R hR => ?_
 simp only [EVP, aops, astep, awant, aeff, aop, mkD, astore, ev, St.put, ia_slice, cl_slice, zg1, zg0, zgd, zmo, if_true, zs1, zs0, zlm, zlc, zln, zd1, zd0, zt1, zt0, zca, zna, Nat.reduceAdd, Nat.reduceLeDiff, Nat.zero_add, zft, if_false, and_self, reduceCtorEq, zis, ty_s_api_VarDecl, ty_s_api_Proc, ty_api_Node, ty_api_Proc, ty_api_Program, und_api_Proc, siz_api_Proc, inf_api_Proc_eq, sl, dN_agg, dN_cells, dN_isAgg, dN_good, sl, dP, hkn, hk0, hkl, hn6, e6]
 with_reducible refine hR _ ?_
 clear hR R
 show X _ _ _ _
 refine X_seq ?_
 refine X_seq ?_
 refine X_rg fun R hR => ?_
 simp only [inr_i64, Int.reduceLE, Int.reduceNeg, aops, astep, awant, aeff, aop, ev, ofValue, St.put, zgd, zmo, if_true, zs1, zs0, and_self]
 with_reducible refine hR _ ?_
 clear hR R
 show X _ _ _ _
 refine X_block ?_
 refine X_loop (fun m σ => ∃ (j : Nat) (t : Tr) (vs : List Vd) (o : Own) (n : Nat) (r : List (List D)) (nx : Nat) (lv : List Nat), σ = ⟨[slotOf σ 0, slotOf σ 1, .slice .imm (if (path.map dI).isEmpty = true then 0 else 1) (path.map dI), .ptr 0 0, slotOf σ 4, slotOf σ 5, slotOf σ 6, slotOf σ 7, .slice o n (vs.map dV), .ptr 1 0, .int .i64 j, slotOf σ 11, slotOf σ 12, slotOf σ 13, slotOf σ 14, slotOf σ 15, slotOf σ 16, slotOf σ 17, slotOf σ 18, slotOf σ 19, slotOf σ 20, slotOf σ 21, slotOf σ 22, slotOf σ 23, slotOf σ 24, slotOf σ 25, slotOf σ 26, slotOf σ 27, slotOf σ 28, slotOf σ 29, slotOf σ 30, slotOf σ 31, slotOf σ 32, slotOf σ 33, slotOf σ 34, slotOf σ 35, slotOf σ 36, slotOf σ 37, slotOf σ 38, slotOf σ 39, slotOf σ 40, slotOf σ 41, slotOf σ 42, slotOf σ 43, slotOf σ 44, slotOf σ 45, slotOf σ 46, slotOf σ 47, slotOf σ 48, slotOf σ 49, slotOf σ 50, slotOf σ 51, slotOf σ 52, slotOf σ 53, slotOf σ 54, slotOf σ 55, slotOf σ 56, slotOf σ 57, slotOf σ 58, slotOf σ 59, slotOf σ 60, slotOf σ 61, slotOf σ 62, slotOf σ 63, slotOf σ 64, slotOf σ 65, slotOf σ 66, slotOf σ 67, slotOf σ 68, slotOf σ 69, slotOf σ 70, slotOf σ 71, slotOf σ 72, slotOf σ 73, slotOf σ 74, slotOf σ 75, slotOf σ 76, slotOf σ 77, slotOf σ 78, slotOf σ 79, slotOf σ 80, slotOf σ 81, slotOf σ 82, slotOf σ 83, slotOf σ 84, slotOf σ 85, slotOf σ 86, slotOf σ 87, slotOf σ 88, slotOf σ 89, slotOf σ 90, slotOf σ 91, slotOf σ 92, slotOf σ 93], [.slice .imm (if (p.vars.map dV).isEmpty = true then 0 else 3) (p.vars.map dV), .slice .imm (if (p.procs.map dP).isEmpty = true then 0 else 6) (p.procs.map dP), .int .u8 p.main.kind, .int .i64 p.main.num, .str p.main.name, .slice .imm (if (p.main.kids.map dN).isEmpty = true then 0 else 4) (p.main.kids.map dN)] :: [.int .u8 t.kind, .int .i64 t.num, .str t.name, .slice .imm (if (t.kids.map dN).isEmpty = true then 0 else 4) (t.kids.map dN)] :: r, nx, lv⟩ ∧ m = path.length - j ∧ j ≤ path.length ∧ Hid (visW (path.drop j) t vs = visW path (p.procs[k].body) (p.procs[k].params)) ∧ vs.length ≤ 64 + j ∧ o.st = .imm ∧ n = (if (vs.map dV).isEmpty = true then 0 else 3)) ?_ (path.length) _ ?_
 rotate_left
 ·exact ⟨0, p.procs[k].body, p.procs[k].params, .imm, _, [], 0, [], rfl, rfl, Nat.zero_le _, Lib.hid rfl, by omega, rfl, rfl⟩
 rintro m σ ⟨j, t, vs, o, n, r, nx, lv, hσ, rfl, hj, hW, hvl, ho, hn⟩
 generalize slotOf σ = x at hσ
 subst hσ
 refine X_seq ?_
 refine X_seq ?_
 refine X_rg fun R hR => ?_
 simp only [EVP, nat_lt, aops, astep, awant, aeff, aop, abin, aint, ev, St.put, zg1, zg0, zgd, zmo, if_true, zs1, zs0, zlm, und_int]
 with_reducible refine hR _ ?_
 clear hR R
 show X _ _ _ _
 refine X_ite (by simp only [ev, zg1, zg0, zgd]; exact rfl) ?_ ?_
 ·intro b1
  have c1 := b1
  try simp only [decide_eq_true_eq] at c1
  refine X_skip ?_
  show X _ _ _ _
  refine X_seq ?_
  refine X_block ?_
  refine X_seq ?_
  refine X_seq ?_
  have hjl : j < path.length := by first | assumption | omega
  have hn1 : ((if (path.map dI).isEmpty = true then 0 else 1) = 1) = True := eq_true (sl_n (j := j) (by simpa using hjl))
  have ej : (path.map dI)[j]? = some (.int .i64 path[j]) := by simp [dI, hjl]
  refine X_y ?_
  refine Y_k 6 fun R hR => ?_
  simp only [EVP, inr_i64, Int.reduceLE, Int.reduceNeg, nat_lt, nat_0, nat_to, aops, astep, awant, aeff, aop, abin, aint, ev, ofValue, St.put, ia_int, cl_int, zg1, zg0, zgd, zmo, if_true, zs1, zs0, zlm, zlc, zln, zt1, zt0, Nat.zero_add, and_self, decide_true, zis, ty_int, und_int, siz_int, inf_int_eq, hjl, hn1, ej]
  with_reducible refine hR _ ?_
  clear hR R
  simp only [zd1, zd0]
  refine Y_if 54 (by simp only [ev, zg1, zg0, zgd]; exact rfl) ?_ ?_
  ·intro b2
   have c2 := b2
   try simp only [decide_eq_true_eq] at c2
   refine Y_end fun R hR => ?_
   simp only [EVP, aops, astep, awant, aeff, aop, abin, ev, ofValue, St.put, zg1, zg0, zgd, zmo, Option.map_none, zbs, if_true, zs1, zs0, Nat.zero_add, zft, if_false, reduceCtorEq, bq_tf, ty_int, ty_s_api_Node, ty_api_Node, und_int, und_api_Node, b2]
   with_reducible refine hR _ ?_
   clear hR R
   show X _ _ _ _
   refine X_true (by simp only [ev, zg1, zg0, zgd]) ?_
   refine X_seq ?_
   refine X_rg fun R hR => ?_
   simp only [inr_i64, Int.reduceLE, Int.reduceNeg, aops, astep, awant, aeff, aop, ev, ofValue, St.put, zgd, zmo, if_true, zs1, zs0, and_self]
   with_reducible refine hR _ ?_
   clear hR R
   show X _ _ _ _
   refine X_ret ?_
   show ∃ d, resD _ _ _ = some d ∧ _ ∧ _
   simp only [resD, resAll, resOne, resTup, Try.results34, EVP, zg1, zg0, D.good, if_true, zmo]
   refine ⟨_, rfl, rfl, ?_⟩
   have h1 := hW.out; rw [visW_drop path j hjl] at h1; rw [← h1]; rw [visW_neg (by assumption)]; rfl
  ·intro b3
   have c3 := b3
   try simp only [decide_eq_false_iff_not, Int.not_lt] at c3
   refine Y_end fun R hR => ?_
   simp only [EVP, nat_lt, nat_0, nat_to, aops, astep, awant, aeff, aop, abin, aint, mkD, ev, ofValue, St.put, ia_int, cl_int, ia_slice, zg1, zg0, zgd, zmo, zbs, if_true, zs1, zs0, zlm, zlc, zln, zd1, zd0, zt1, zt0, Nat.reduceAdd, Nat.reduceLeDiff, Nat.zero_add, zft, if_false, and_self, reduceCtorEq, beq_self_eq_true, zis, ty_int, ty_s_api_Node, ty_api_Node, und_int, siz_int, inf_int_eq, und_api_Node, b3, hjl, hn1, ej]
   with_reducible refine hR _ ?_
   clear hR R
   show X _ _ _ _
   refine X_ite (by simp only [ev, zg1, zg0, zgd]; exact rfl) ?_ ?_
   ·intro b4
    have c4 := b4
    try simp only [decide_eq_true_eq, ge_iff_le] at c4
    refine X_seq ?_
    refine X_rg fun R hR => ?_
    simp only [inr_i64, Int.reduceLE, Int.reduceNeg, aops, astep, awant, aeff, aop, ev, ofValue, St.put, zgd, zmo, if_true, zs1, zs0, and_self, b4]
    with_reducible refine hR _ ?_
    clear hR R
    show X _ _ _ _
    refine X_ret ?_
    show ∃ d, resD _ _ _ = some d ∧ _ ∧ _
    simp only [resD, resAll, resOne, resTup, Try.results34, EVP, zg1, zg0, D.good, if_true, zmo]
    refine ⟨_, rfl, rfl, ?_⟩
    have h1 := hW.out; rw [visW_drop path j hjl] at h1; rw [← h1]; rw [visW_big (by assumption)]; rfl
   ·intro b5
    have c5 := b5
    try simp only [decide_eq_false_iff_not, Int.not_le, ge_iff_le] at c5
    refine X_skip ?_
    show X _ _ _ _
    refine X_seq ?_
    refine X_seq ?_
    have hde := declared6_fn t
    refine X_rg fun R hR => ?_
    simp only [EVP, app_get0, app_set0, aops, astep, awant, aeff, aop, mkD, astore, ev, St.put, pcall, zmc, zmn, zg1, zg0, zgd, zmo, zbs, if_true, zs1, zs0, zlc, zln, zd1, zd0, zt1, zt0, zca, zna, Nat.reduceAdd, Nat.reduceLeDiff, Nat.zero_add, and_self, ty_api_Node, ty_api_VarDecl, any53, dN_agg, dV_cells, dV_good, b5, hde]
    with_reducible refine hR _ ?_
    clear hR R
    show X _ _ _ _
    refine X_seq ?_
    have hbl := block6_fn t
    refine X_y ?_
    refine Y_k 2 fun R hR => ?_
    simp only [EVP, aops, astep, awant, aeff, aop, ev, St.put, zg1, zg0, zgd, zmo, if_true, zs1, zs0, zt1, zt0]
    with_reducible refine hR _ ?_
    clear hR R
    simp only [zd1, zd0]
    refine Y_if 70 (by simp only [ev, zg1, zg0, zgd]; exact rfl) ?_ ?_
    ·intro b6
     have c6 := b6
     try simp only [znt, znf, decide_eq_true_eq, decide_eq_false_iff_not, beq_iff_eq, Int.not_lt, Int.not_le, ge_iff_le, gt_iff_lt, bne_iff_ne, ne_eq, bne_eq_false_iff_eq, beq_eq_false_iff_ne, zat, zof] at c6
     refine Y_end fun R hR => ?_
     simp only [EVP, nat_lt, nat_0, nat_to, aops, astep, awant, aeff, aop, abin, aint, mkD, ev, ofValue, St.put, pcall, ia_int, cl_int, zmc, zmn, zg1, zg0, zgd, zmo, zbs, if_true, zs1, zs0, zlm, zlc, zln, zd0, zt1, zt0, zca, zna, Nat.reduceAdd, Nat.reduceLeDiff, Nat.zero_add, and_self, beq_self_eq_true, zis, ty_int, ty_api_Node, und_int, siz_int, inf_int_eq, any56, dN_agg, b6, hbl, hjl, hn1, ej]
     with_reducible refine hR _ ?_
     clear hR R
     show X _ _ _ _
     refine X_ite (by simp only [ev, zg1, zg0, zgd]; exact rfl) ?_ ?_
     ·intro b7
      have c7 := b7
      try simp only [beq_iff_eq] at c7
      obtain ⟨o1, n1, nx1, lv1, o2, nx2, lv2, hap1, hap2, hkp, ho2⟩ := copy_app2 o (P := Try.prog) (t := 22) nx lv und_api_VarDecl inf_api_VarDecl_eq inf_api_VarDecl_size (by omega) (by rw [inf_api_VarDecl_bytes]; omega) inf_api_VarDecl_zc (vs.map dV) (dV (declV t).1) (by simp; omega)
      rw [← hn] at hap1
      refine X_rg fun R hR => ?_
      simp only [EVP, app_get0, aops, astep, awant, aeff, aop, mkD, abuild, ev, ofValue, St.put, zmc, zmn, zg1, zg0, zgd, zmo, if_true, zs1, zs0, zlc, zln, zd0, zt1, zt0, Nat.reduceAdd, Nat.reduceLeDiff, Nat.reduceLT, Nat.zero_add, Bool.and_true, and_self, List.all_cons, List.all_nil, beq_self_eq_true, Nat.reduceMul, rng_0, rng_1, ty_api_VarDecl, und_api_VarDecl, inf_api_VarDecl_eq, inf_api_VarDecl_size, inf_api_VarDecl_zero, dV_cells, dV_good, b7, hap1, hap2, dV_agg]
      with_reducible refine hR _ ?_
      clear hR R
      show X _ _ _ _
      obtain ⟨m, hm⟩ : ∃ m : Nat, path[j] = (m : Int) := ⟨path[j].toNat, by first | (simp_all; done) | (simp_all; omega)⟩
      have hml : m < t.kids.length := by first | (simp_all; done) | (simp_all; omega)
      have hmn : ((m : Int)).toNat = m := Int.toNat_natCast m
      have hm0 : (0 ≤ (m : Int)) = True := eq_true (by omega)
      have hmk : ((m : Int) < (t.kids.length : Int)) = True := eq_true (by omega)
      have hn4 : ((if (t.kids.map dN).isEmpty = true then 0 else 4) = 4) = True := eq_true (sl_n (j := m) (by simpa using hml))
      have em : (t.kids.map dN)[m]? = some (.agg [.int .u8 t.kids[m].kind, .int .i64 t.kids[m].num, .str t.kids[m].name, sl 4 (t.kids[m].kids.map dN)]) := by rw [show D.agg _ = dN t.kids[m] from (dN_eq _).symm]; simp [hml]
      refine X_rg fun R hR => ?_
      simp only [EVP, nat_lt, nat_0, nat_to, aops, astep, awant, aeff, aop, mkD, astore, ev, St.put, ia_int, cl_int, ia_slice, zg1, zg0, zgd, zmo, if_true, zs1, zs0, zlm, zlc, zln, zd1, zd0, zt1, zt0, zca, zna, Nat.reduceAdd, Nat.reduceLeDiff, Nat.zero_add, zft, if_false, and_self, reduceCtorEq, zis, ty_int, ty_s_api_Node, ty_api_Node, und_int, siz_int, inf_int_eq, und_api_Node, siz_api_Node, inf_api_Node_eq, sl, dN_agg, dN_cells, dN_isAgg, dN_good, sl, hjl, hn1, ej, hm, hmn, hm0, hmk, hn4, em]
      with_reducible refine hR _ ?_
      clear hR R
      show X _ _ _ _
      have hbig : j < 9223372036854775807 := by omega
      refine X_rg fun R hR => ?_
      simp only [inr_i64, Int.reduceLE, Int.reduceNeg, aops, astep, awant, aeff, aop, abin, aint, ev, ofValue, St.put, zg1, zg0, zgd, zmo, if_true, zs1, zs0, and_self, nat_succ hbig]
      with_reducible refine hR _ ?_
      clear hR R
      show ∃ m, m < _ ∧ _
      have hin : innerV t path[j] vs = vs ++ [(declV t).1] := inner_y (by first | assumption | (simp_all; done)) (by first | assumption | (simp_all; done))
      rw [hm] at hin
      have hil := innerV_le t (m : Int) vs
      exact ⟨path.length - (j + 1), by omega, j + 1, t.kids[m], innerV t (m : Int) vs, o2, 3, _, nx2, lv2, by rw [hin, List.map_append]; rfl, rfl, by omega, Lib.hid (by have h1 := hW.out; rw [visW_drop path j hjl, visW_in hm hml, hm] at h1; exact h1), by omega, ho2, by rw [hin]; simp⟩
     ·intro b8
      have c8 := b8
      try simp only [ne_eq, beq_eq_false_iff_ne] at c8
      refine X_skip ?_
      show X _ _ _ _
      obtain ⟨m, hm⟩ : ∃ m : Nat, path[j] = (m : Int) := ⟨path[j].toNat, by first | (simp_all; done) | (simp_all; omega)⟩
      have hml : m < t.kids.length := by first | (simp_all; done) | (simp_all; omega)
      have hmn : ((m : Int)).toNat = m := Int.toNat_natCast m
      have hm0 : (0 ≤ (m : Int)) = True := eq_true (by omega)
      have hmk : ((m : Int) < (t.kids.length : Int)) = True := eq_true (by omega)
      have hn4 : ((if (t.kids.map dN).isEmpty = true then 0 else 4) = 4) = True := eq_true (sl_n (j := m) (by simpa using hml))
      have em : (t.kids.map dN)[m]? = some (.agg [.int .u8 t.kids[m].kind, .int .i64 t.kids[m].num, .str t.kids[m].name, sl 4 (t.kids[m].kids.map dN)]) := by rw [show D.agg _ = dN t.kids[m] from (dN_eq _).symm]; simp [hml]
      refine X_rg fun R hR => ?_
      simp only [EVP, nat_lt, nat_0, nat_to, aops, astep, awant, aeff, aop, mkD, astore, ev, St.put, ia_int, cl_int, ia_slice, zg1, zg0, zgd, zmo, if_true, zs1, zs0, zlm, zlc, zln, zd1, zd0, zt1, zt0, zca, zna, Nat.reduceAdd, Nat.reduceLeDiff, Nat.zero_add, zft, if_false, and_self, reduceCtorEq, zis, ty_int, ty_s_api_Node, ty_api_Node, und_int, siz_int, inf_int_eq, und_api_Node, siz_api_Node, inf_api_Node_eq, sl, dN_agg, dN_cells, dN_isAgg, dN_good, sl, hjl, hn1, ej, hm, hmn, hm0, hmk, hn4, em]
      with_reducible refine hR _ ?_
      clear hR R
      show X _ _ _ _
      have hbig : j < 9223372036854775807 := by omega
      refine X_rg fun R hR => ?_
      simp only [inr_i64, Int.reduceLE, Int.reduceNeg, aops, astep, awant, aeff, aop, abin, aint, ev, ofValue, St.put, zg1, zg0, zgd, zmo, if_true, zs1, zs0, and_self, nat_succ hbig]
      with_reducible refine hR _ ?_
      clear hR R
      show ∃ m, m < _ ∧ _
      have hin : innerV t path[j] vs = vs := inner_n (by first | (left; assumption) | (right; assumption) | (simp_all; done))
      rw [hm] at hin
      exact ⟨path.length - (j + 1), by omega, j + 1, t.kids[m], innerV t (m : Int) vs, o, n, _, nx, lv, by rw [hin]; rfl, rfl, by omega, Lib.hid (by have h1 := hW.out; rw [visW_drop path j hjl, visW_in hm hml, hm] at h1; exact h1), by rw [hin]; omega, ho, by rw [hin]; exact hn⟩
    ·intro b9
     have c9 := b9
     try simp only [znt, znf, decide_eq_true_eq, decide_eq_false_iff_not, beq_iff_eq, Int.not_lt, Int.not_le, ge_iff_le, gt_iff_lt, bne_iff_ne, ne_eq, bne_eq_false_iff_eq, beq_eq_false_iff_ne, zat, zof] at c9
     refine Y_end fun R hR => ?_
     simp only [EVP, aops, astep, awant, aeff, aop, abin, mkD, ev, ofValue, St.put, pcall, zmc, zmn, zg1, zg0, zgd, zmo, Option.map_none, zbs, if_true, zs1, zs0, zlc, zln, zd0, zt1, zt0, zca, zna, Nat.reduceAdd, Nat.reduceLeDiff, Nat.zero_add, zft, if_false, bq_ft, ty_int, ty_api_Node, und_int, any56, dN_agg, b9]
     with_reducible refine hR _ ?_
     clear hR R
     show X _ _ _ _
     refine X_false (by simp only [ev, zg1, zg0, zgd]) ?_
     refine X_skip ?_
     show X _ _ _ _
     obtain ⟨m, hm⟩ : ∃ m : Nat, path[j] = (m : Int) := ⟨path[j].toNat, by first | (simp_all; done) | (simp_all; omega)⟩
     have hml : m < t.kids.length := by first | (simp_all; done) | (simp_all; omega)
     have hmn : ((m : Int)).toNat = m := Int.toNat_natCast m
     have hm0 : (0 ≤ (m : Int)) = True := eq_true (by omega)
     have hmk : ((m : Int) < (t.kids.length : Int)) = True := eq_true (by omega)
     have hn4 : ((if (t.kids.map dN).isEmpty = true then 0 else 4) = 4) = True := eq_true (sl_n (j := m) (by simpa using hml))
     have em : (t.kids.map dN)[m]? = some (.agg [.int .u8 t.kids[m].kind, .int .i64 t.kids[m].num, .str t.kids[m].name, sl 4 (t.kids[m].kids.map dN)]) := by rw [show D.agg _ = dN t.kids[m] from (dN_eq _).symm]; simp [hml]
     refine X_rg fun R hR => ?_
     simp only [EVP, nat_lt, nat_0, nat_to, aops, astep, awant, aeff, aop, mkD, astore, ev, St.put, ia_int, cl_int, ia_slice, zg1, zg0, zgd, zmo, if_true, zs1, zs0, zlm, zlc, zln, zd1, zd0, zt1, zt0, zca, zna, Nat.reduceAdd, Nat.reduceLeDiff, Nat.zero_add, zft, if_false, and_self, reduceCtorEq, zis, ty_int, ty_s_api_Node, ty_api_Node, und_int, siz_int, inf_int_eq, und_api_Node, siz_api_Node, inf_api_Node_eq, sl, dN_agg, dN_cells, dN_isAgg, dN_good, sl, hjl, hn1, ej, hm, hmn, hm0, hmk, hn4, em]
     with_reducible refine hR _ ?_
     clear hR R
     show X _ _ _ _
     have hbig : j < 9223372036854775807 := by omega
     refine X_rg fun R hR => ?_
     simp only [inr_i64, Int.reduceLE, Int.reduceNeg, aops, astep, awant, aeff, aop, abin, aint, ev, ofValue, St.put, zg1, zg0, zgd, zmo, if_true, zs1, zs0, and_self, nat_succ hbig]
     with_reducible refine hR _ ?_
     clear hR R
     show ∃ m, m < _ ∧ _
     have hin : innerV t path[j] vs = vs := inner_n (by first | (left; assumption) | (right; assumption) | (simp_all; done))
     rw [hm] at hin
     exact ⟨path.length - (j + 1), by omega, j + 1, t.kids[m], innerV t (m : Int) vs, o, n, _, nx, lv, by rw [hin]; rfl, rfl, by omega, Lib.hid (by have h1 := hW.out; rw [visW_drop path j hjl, visW_in hm hml, hm] at h1; exact h1), by rw [hin]; omega, ho, by rw [hin]; exact hn⟩
 ·intro b10
  have c10 := b10
  try simp only [decide_eq_false_iff_not] at c10
  refine X_exit ?_
  show X _ _ _ _
  refine X_seq ?_
  refine X_rg fun R hR => ?_
  simp only [inr_i64, Int.reduceLE, Int.reduceNeg, aops, astep, awant, aeff, aop, ev, ofValue, St.put, zg1, zg0, zgd, zmo, if_true, zs1, zs0, and_self, b10]
  with_reducible refine hR _ ?_
  clear hR R
  show X _ _ _ _
  refine X_ret ?_
  show ∃ d, resD _ _ _ = some d ∧ _ ∧ _
  simp only [resD, resAll, resOne, resTup, Try.results34, EVP, zg1, zg0, D.good, if_true, zmo]
  refine ⟨_, rfl, ?_, ?_⟩
  ·simp only [D.under, D.unders, unders_id (f := dV) (fun _ _ => rfl), Bool.and_true]
  ·have h1 := hW.out; rw [List.drop_of_length_le (by first | omega | (simp_all; done) | (simp_all; omega)), visW] at h1; rw [← h1]; have h9 := slO_strip vs ho hn; simp only [D.strip, D.strips, visD] at h9 ⊢; rw [h9]
set_option maxRecDepth 100000 in
set_option maxHeartbeats 4000000 in
theorem rvis_main (p : Pg) (path : List Int) (hv : validB p = true) (hpl : path.length ≤ 100000) : fn EV 34 [dG p, .int .i64 (p.procs.length : Int), sl 1 (path.map dI)] = some (visD 21 (visW path (p.main) (p.vars))) := by
 obtain ⟨bv, bp, bq, bm, _⟩ := valid_bd hv
 obtain ⟨k, hkk⟩ : ∃ k, k = p.procs.length := ⟨_, rfl⟩
 rw [← hkk]
 refine fn_Xs rfl Try.func34 rfl (by simp only [plain, List.all_cons, List.all_nil, sl_pl (f := dI) (fun _ _ => rfl), int_pl, dG_pl, Bool.and_true]) (rfl) ?_
 simp only [zmc, zmn, D.strip, sl_strip (map_strip (f := dI) (fun _ => rfl) _), dG_strip]
 simp only [enterSt, Try.ntmps34, zlc, zln, Nat.reduceAdd, Nat.reduceSub, zr1, zr0, zca, zna]
 refine X_seq ?_
 refine X_rg fun R hR => ?_
 simp only [inr_i64, Int.reduceLE, Int.reduceNeg, aops, astep, awant, aeff, aop, ev, ofValue, St.put, zg0, zgd, zmo, if_true, zs1, zs0, zln, zna, and_self, sl, sl, dG_cells, dG_good]
 with_reducible refine hR _ ?_
 clear hR R
 show X _ _ _ _
 refine X_seq ?_
 refine X_seq ?_
 have hlt0 : decide ((k : Int) < 0) = false := by simp; try omega
 have hgt0 : decide ((k : Int) > (p.procs.length : Int)) = false := by simp; try omega
 have hgt9 : decide (p.procs.length < k) = false := by simp; try omega
 refine X_rg fun R hR => ?_
 simp only [EVP, inr_i64, Int.reduceLE, Int.reduceNeg, nat_lt, aops, astep, awant, aeff, aop, abin, aint, mkD, ev, ofValue, St.put, ia_slice, zg1, zg0, zgd, zmo, zbs, if_true, zs1, zs0, zlm, zlc, zln, zd1, zd0, zt1, zt0, Nat.reduceAdd, Nat.reduceLeDiff, Nat.zero_add, zft, if_false, and_self, reduceCtorEq, beq_self_eq_true, ty_s_api_Proc, ty_api_Program, und_api_Proc, hlt0, hgt9]
 with_reducible refine hR _ ?_
 clear hR R
 show X _ _ _ _
 refine X_false (by simp only [ev, zg1, zg0, zgd]) ?_
 refine X_skip ?_
 show X _ _ _ _
 refine X_seq ?_
 refine X_rg fun R hR => ?_
 simp only [EVP, aops, astep, awant, aeff, aop, mkD, astore, ev, St.put, ia_slice, zg1, zg0, zgd, zmo, zbs, if_true, zs1, zs0, zlc, zln, zd1, zd0, zt1, zt0, zca, zna, Nat.reduceAdd, Nat.reduceLeDiff, Nat.zero_add, Nat.add_zero, zft, if_false, and_self, reduceCtorEq, ty_s_api_VarDecl, ty_api_Node, ty_api_Program, sl, dN_agg, dN_cells, dN_good, sl]
 with_reducible refine hR _ ?_
 clear hR R
 show X _ _ _ _
 refine X_seq ?_
 refine X_seq ?_
 have hlt1 : decide ((k : Int) < (p.procs.length : Int)) = false := by simp; try omega
 have hlt9 : decide (k < p.procs.length) = false := by simp; try omega
 refine X_rg fun R hR => ?_
 simp only [EVP, nat_lt, aops, astep, awant, aeff, aop, abin, aint, mkD, ev, St.put, ia_slice, zg1, zg0, zgd, zmo, if_true, zs1, zs0, zlm, zlc, zln, zd1, zd0, zt1, zt0, Nat.reduceAdd, Nat.reduceLeDiff, Nat.zero_add, zft, if_false, reduceCtorEq, ty_s_api_Proc, ty_api_Program, und_api_Proc, hlt9]
 with_reducible refine hR _ ?_
 clear hR R
 show X _ _ _ _
 refine X_false (by simp only [ev, zg1, zg0, zgd]) ?_
 refine X_skip ?_
 show X _ _ _ _
 refine X_seq ?_
 refine X_seq ?_
 refine X_rg fun R hR => ?_
 simp only [inr_i64, Int.reduceLE, Int.reduceNeg, aops, astep, awant, aeff, aop, ev, ofValue, St.put, zgd, zmo, if_true, zs1, zs0, and_self]
 with_reducible refine hR _ ?_
 clear hR R
 show X _ _ _ _
 refine X_block ?_
 refine X_loop (fun m σ => ∃ (j : Nat) (t : Tr) (vs : List Vd) (o : Own) (n : Nat) (r : List (List D)) (nx : Nat) (lv : List Nat), σ = ⟨[slotOf σ 0, slotOf σ 1, .slice .imm (if (path.map dI).isEmpty = true then 0 else 1) (path.map dI), .ptr 0 0, slotOf σ 4, slotOf σ 5, slotOf σ 6, slotOf σ 7, .slice o n (vs.map dV), .ptr 1 0, .int .i64 j, slotOf σ 11, slotOf σ 12, slotOf σ 13, slotOf σ 14, slotOf σ 15, slotOf σ 16, slotOf σ 17, slotOf σ 18, slotOf σ 19, slotOf σ 20, slotOf σ 21, slotOf σ 22, slotOf σ 23, slotOf σ 24, slotOf σ 25, slotOf σ 26, slotOf σ 27, slotOf σ 28, slotOf σ 29, slotOf σ 30, slotOf σ 31, slotOf σ 32, slotOf σ 33, slotOf σ 34, slotOf σ 35, slotOf σ 36, slotOf σ 37, slotOf σ 38, slotOf σ 39, slotOf σ 40, slotOf σ 41, slotOf σ 42, slotOf σ 43, slotOf σ 44, slotOf σ 45, slotOf σ 46, slotOf σ 47, slotOf σ 48, slotOf σ 49, slotOf σ 50, slotOf σ 51, slotOf σ 52, slotOf σ 53, slotOf σ 54, slotOf σ 55, slotOf σ 56, slotOf σ 57, slotOf σ 58, slotOf σ 59, slotOf σ 60, slotOf σ 61, slotOf σ 62, slotOf σ 63, slotOf σ 64, slotOf σ 65, slotOf σ 66, slotOf σ 67, slotOf σ 68, slotOf σ 69, slotOf σ 70, slotOf σ 71, slotOf σ 72, slotOf σ 73, slotOf σ 74, slotOf σ 75, slotOf σ 76, slotOf σ 77, slotOf σ 78, slotOf σ 79, slotOf σ 80, slotOf σ 81, slotOf σ 82, slotOf σ 83, slotOf σ 84, slotOf σ 85, slotOf σ 86, slotOf σ 87, slotOf σ 88, slotOf σ 89, slotOf σ 90, slotOf σ 91, slotOf σ 92, slotOf σ 93], [.slice .imm (if (p.vars.map dV).isEmpty = true then 0 else 3) (p.vars.map dV), .slice .imm (if (p.procs.map dP).isEmpty = true then 0 else 6) (p.procs.map dP), .int .u8 p.main.kind, .int .i64 p.main.num, .str p.main.name, .slice .imm (if (p.main.kids.map dN).isEmpty = true then 0 else 4) (p.main.kids.map dN)] :: [.int .u8 t.kind, .int .i64 t.num, .str t.name, .slice .imm (if (t.kids.map dN).isEmpty = true then 0 else 4) (t.kids.map dN)] :: r, nx, lv⟩ ∧ m = path.length - j ∧ j ≤ path.length ∧ Hid (visW (path.drop j) t vs = visW path (p.main) (p.vars)) ∧ vs.length ≤ 64 + j ∧ o.st = .imm ∧ n = (if (vs.map dV).isEmpty = true then 0 else 3)) ?_ (path.length) _ ?_
 rotate_left
 ·exact ⟨0, p.main, p.vars, .imm, _, [], 0, [], rfl, rfl, Nat.zero_le _, Lib.hid rfl, by omega, rfl, rfl⟩
 rintro m σ ⟨j, t, vs, o, n, r, nx, lv, hσ, rfl, hj, hW, hvl, ho, hn⟩
 generalize slotOf σ = x at hσ
 subst hσ
 refine X_seq ?_
 refine X_seq ?_
 refine X_rg fun R hR => ?_
 simp only [EVP, nat_lt, aops, astep, awant, aeff, aop, abin, aint, ev, St.put, zg1, zg0, zgd, zmo, if_true, zs1, zs0, zlm, und_int]
 with_reducible refine hR _ ?_
 clear hR R
 show X _ _ _ _
 refine X_ite (by simp only [ev, zg1, zg0, zgd]; exact rfl) ?_ ?_
 ·intro b1
  have c1 := b1
  try simp only [decide_eq_true_eq] at c1
  refine X_skip ?_
  show X _ _ _ _
  refine X_seq ?_
  refine X_block ?_
  refine X_seq ?_
  refine X_seq ?_
  have hjl : j < path.length := by first | assumption | omega
  have hn1 : ((if (path.map dI).isEmpty = true then 0 else 1) = 1) = True := eq_true (sl_n (j := j) (by simpa using hjl))
  have ej : (path.map dI)[j]? = some (.int .i64 path[j]) := by simp [dI, hjl]
  refine X_y ?_
  refine Y_k 6 fun R hR => ?_
  simp only [EVP, inr_i64, Int.reduceLE, Int.reduceNeg, nat_lt, nat_0, nat_to, aops, astep, awant, aeff, aop, abin, aint, ev, ofValue, St.put, ia_int, cl_int, zg1, zg0, zgd, zmo, if_true, zs1, zs0, zlm, zlc, zln, zt1, zt0, Nat.zero_add, and_self, decide_true, zis, ty_int, und_int, siz_int, inf_int_eq, hjl, hn1, ej]
  with_reducible refine hR _ ?_
  clear hR R
  simp only [zd1, zd0]
  refine Y_if 54 (by simp only [ev, zg1, zg0, zgd]; exact rfl) ?_ ?_
  ·intro b2
   have c2 := b2
   try simp only [decide_eq_true_eq] at c2
   refine Y_end fun R hR => ?_
   simp only [EVP, aops, astep, awant, aeff, aop, abin, ev, ofValue, St.put, zg1, zg0, zgd, zmo, Option.map_none, zbs, if_true, zs1, zs0, Nat.zero_add, zft, if_false, reduceCtorEq, bq_tf, ty_int, ty_s_api_Node, ty_api_Node, und_int, und_api_Node, b2]
   with_reducible refine hR _ ?_
   clear hR R
   show X _ _ _ _
   refine X_true (by simp only [ev, zg1, zg0, zgd]) ?_
   refine X_seq ?_
   refine X_rg fun R hR => ?_
   simp only [inr_i64, Int.reduceLE, Int.reduceNeg, aops, astep, awant, aeff, aop, ev, ofValue, St.put, zgd, zmo, if_true, zs1, zs0, and_self]
   with_reducible refine hR _ ?_
   clear hR R
   show X _ _ _ _
   refine X_ret ?_
   show ∃ d, resD _ _ _ = some d ∧ _ ∧ _
   simp only [resD, resAll, resOne, resTup, Try.results34, EVP, zg1, zg0, D.good, if_true, zmo]
   refine ⟨_, rfl, rfl, ?_⟩
   have h1 := hW.out; rw [visW_drop path j hjl] at h1; rw [← h1]; rw [visW_neg (by assumption)]; rfl
  ·intro b3
   have c3 := b3
   try simp only [decide_eq_false_iff_not, Int.not_lt] at c3
   refine Y_end fun R hR => ?_
   simp only [EVP, nat_lt, nat_0, nat_to, aops, astep, awant, aeff, aop, abin, aint, mkD, ev, ofValue, St.put, ia_int, cl_int, ia_slice, zg1, zg0, zgd, zmo, zbs, if_true, zs1, zs0, zlm, zlc, zln, zd1, zd0, zt1, zt0, Nat.reduceAdd, Nat.reduceLeDiff, Nat.zero_add, zft, if_false, and_self, reduceCtorEq, beq_self_eq_true, zis, ty_int, ty_s_api_Node, ty_api_Node, und_int, siz_int, inf_int_eq, und_api_Node, b3, hjl, hn1, ej]
   with_reducible refine hR _ ?_
   clear hR R
   show X _ _ _ _
   refine X_ite (by simp only [ev, zg1, zg0, zgd]; exact rfl) ?_ ?_
   ·intro b4
    have c4 := b4
    try simp only [decide_eq_true_eq, ge_iff_le] at c4
    refine X_seq ?_
    refine X_rg fun R hR => ?_
    simp only [inr_i64, Int.reduceLE, Int.reduceNeg, aops, astep, awant, aeff, aop, ev, ofValue, St.put, zgd, zmo, if_true, zs1, zs0, and_self, b4]
    with_reducible refine hR _ ?_
    clear hR R
    show X _ _ _ _
    refine X_ret ?_
    show ∃ d, resD _ _ _ = some d ∧ _ ∧ _
    simp only [resD, resAll, resOne, resTup, Try.results34, EVP, zg1, zg0, D.good, if_true, zmo]
    refine ⟨_, rfl, rfl, ?_⟩
    have h1 := hW.out; rw [visW_drop path j hjl] at h1; rw [← h1]; rw [visW_big (by assumption)]; rfl
   ·intro b5
    have c5 := b5
    try simp only [decide_eq_false_iff_not, Int.not_le, ge_iff_le] at c5
    refine X_skip ?_
    show X _ _ _ _
    refine X_seq ?_
    refine X_seq ?_
    have hde := declared6_fn t
    refine X_rg fun R hR => ?_
    simp only [EVP, app_get0, app_set0, aops, astep, awant, aeff, aop, mkD, astore, ev, St.put, pcall, zmc, zmn, zg1, zg0, zgd, zmo, zbs, if_true, zs1, zs0, zlc, zln, zd1, zd0, zt1, zt0, zca, zna, Nat.reduceAdd, Nat.reduceLeDiff, Nat.zero_add, and_self, ty_api_Node, ty_api_VarDecl, any53, dN_agg, dV_cells, dV_good, b5, hde]
    with_reducible refine hR _ ?_
    clear hR R
    show X _ _ _ _
    refine X_seq ?_
    have hbl := block6_fn t
    refine X_y ?_
    refine Y_k 2 fun R hR => ?_
    simp only [EVP, aops, astep, awant, aeff, aop, ev, St.put, zg1, zg0, zgd, zmo, if_true, zs1, zs0, zt1, zt0]
    with_reducible refine hR _ ?_
    clear hR R
    simp only [zd1, zd0]
    refine Y_if 70 (by simp only [ev, zg1, zg0, zgd]; exact rfl) ?_ ?_
    ·intro b6
     have c6 := b6
     try simp only [znt, znf, decide_eq_true_eq, decide_eq_false_iff_not, beq_iff_eq, Int.not_lt, Int.not_le, ge_iff_le, gt_iff_lt, bne_iff_ne, ne_eq, bne_eq_false_iff_eq, beq_eq_false_iff_ne, zat, zof] at c6
     refine Y_end fun R hR => ?_
     simp only [EVP, nat_lt, nat_0, nat_to, aops, astep, awant, aeff, aop, abin, aint, mkD, ev, ofValue, St.put, pcall, ia_int, cl_int, zmc, zmn, zg1, zg0, zgd, zmo, zbs, if_true, zs1, zs0, zlm, zlc, zln, zd0, zt1, zt0, zca, zna, Nat.reduceAdd, Nat.reduceLeDiff, Nat.zero_add, and_self, beq_self_eq_true, zis, ty_int, ty_api_Node, und_int, siz_int, inf_int_eq, any56, dN_agg, b6, hbl, hjl, hn1, ej]
     with_reducible refine hR _ ?_
     clear hR R
     show X _ _ _ _
     refine X_ite (by simp only [ev, zg1, zg0, zgd]; exact rfl) ?_ ?_
     ·intro b7
      have c7 := b7
      try simp only [beq_iff_eq] at c7
      obtain ⟨o1, n1, nx1, lv1, o2, nx2, lv2, hap1, hap2, hkp, ho2⟩ := copy_app2 o (P := Try.prog) (t := 22) nx lv und_api_VarDecl inf_api_VarDecl_eq inf_api_VarDecl_size (by omega) (by rw [inf_api_VarDecl_bytes]; omega) inf_api_VarDecl_zc (vs.map dV) (dV (declV t).1) (by simp; omega)
      rw [← hn] at hap1
      refine X_rg fun R hR => ?_
      simp only [EVP, app_get0, aops, astep, awant, aeff, aop, mkD, abuild, ev, ofValue, St.put, zmc, zmn, zg1, zg0, zgd, zmo, if_true, zs1, zs0, zlc, zln, zd0, zt1, zt0, Nat.reduceAdd, Nat.reduceLeDiff, Nat.reduceLT, Nat.zero_add, Bool.and_true, and_self, List.all_cons, List.all_nil, beq_self_eq_true, Nat.reduceMul, rng_0, rng_1, ty_api_VarDecl, und_api_VarDecl, inf_api_VarDecl_eq, inf_api_VarDecl_size, inf_api_VarDecl_zero, dV_cells, dV_good, b7, hap1, hap2, dV_agg]
      with_reducible refine hR _ ?_
      clear hR R
      show X _ _ _ _
      obtain ⟨m, hm⟩ : ∃ m : Nat, path[j] = (m : Int) := ⟨path[j].toNat, by first | (simp_all; done) | (simp_all; omega)⟩
      have hml : m < t.kids.length := by first | (simp_all; done) | (simp_all; omega)
      have hmn : ((m : Int)).toNat = m := Int.toNat_natCast m
      have hm0 : (0 ≤ (m : Int)) = True := eq_true (by omega)
      have hmk : ((m : Int) < (t.kids.length : Int)) = True := eq_true (by omega)
      have hn4 : ((if (t.kids.map dN).isEmpty = true then 0 else 4) = 4) = True := eq_true (sl_n (j := m) (by simpa using hml))
      have em : (t.kids.map dN)[m]? = some (.agg [.int .u8 t.kids[m].kind, .int .i64 t.kids[m].num, .str t.kids[m].name, sl 4 (t.kids[m].kids.map dN)]) := by rw [show D.agg _ = dN t.kids[m] from (dN_eq _).symm]; simp [hml]
      refine X_rg fun R hR => ?_
      simp only [EVP, nat_lt, nat_0, nat_to, aops, astep, awant, aeff, aop, mkD, astore, ev, St.put, ia_int, cl_int, ia_slice, zg1, zg0, zgd, zmo, if_true, zs1, zs0, zlm, zlc, zln, zd1, zd0, zt1, zt0, zca, zna, Nat.reduceAdd, Nat.reduceLeDiff, Nat.zero_add, zft, if_false, and_self, reduceCtorEq, zis, ty_int, ty_s_api_Node, ty_api_Node, und_int, siz_int, inf_int_eq, und_api_Node, siz_api_Node, inf_api_Node_eq, sl, dN_agg, dN_cells, dN_isAgg, dN_good, sl, hjl, hn1, ej, hm, hmn, hm0, hmk, hn4, em]
      with_reducible refine hR _ ?_
      clear hR R
      show X _ _ _ _
      have hbig : j < 9223372036854775807 := by omega
      refine X_rg fun R hR => ?_
      simp only [inr_i64, Int.reduceLE, Int.reduceNeg, aops, astep, awant, aeff, aop, abin, aint, ev, ofValue, St.put, zg1, zg0, zgd, zmo, if_true, zs1, zs0, and_self, nat_succ hbig]
      with_reducible refine hR _ ?_
      clear hR R
      show ∃ m, m < _ ∧ _
      have hin : innerV t path[j] vs = vs ++ [(declV t).1] := inner_y (by first | assumption | (simp_all; done)) (by first | assumption | (simp_all; done))
      rw [hm] at hin
      have hil := innerV_le t (m : Int) vs
      exact ⟨path.length - (j + 1), by omega, j + 1, t.kids[m], innerV t (m : Int) vs, o2, 3, _, nx2, lv2, by rw [hin, List.map_append]; rfl, rfl, by omega, Lib.hid (by have h1 := hW.out; rw [visW_drop path j hjl, visW_in hm hml, hm] at h1; exact h1), by omega, ho2, by rw [hin]; simp⟩
     ·intro b8
      have c8 := b8
      try simp only [ne_eq, beq_eq_false_iff_ne] at c8
      refine X_skip ?_
      show X _ _ _ _
      obtain ⟨m, hm⟩ : ∃ m : Nat, path[j] = (m : Int) := ⟨path[j].toNat, by first | (simp_all; done) | (simp_all; omega)⟩
      have hml : m < t.kids.length := by first | (simp_all; done) | (simp_all; omega)
      have hmn : ((m : Int)).toNat = m := Int.toNat_natCast m
      have hm0 : (0 ≤ (m : Int)) = True := eq_true (by omega)
      have hmk : ((m : Int) < (t.kids.length : Int)) = True := eq_true (by omega)
      have hn4 : ((if (t.kids.map dN).isEmpty = true then 0 else 4) = 4) = True := eq_true (sl_n (j := m) (by simpa using hml))
      have em : (t.kids.map dN)[m]? = some (.agg [.int .u8 t.kids[m].kind, .int .i64 t.kids[m].num, .str t.kids[m].name, sl 4 (t.kids[m].kids.map dN)]) := by rw [show D.agg _ = dN t.kids[m] from (dN_eq _).symm]; simp [hml]
      refine X_rg fun R hR => ?_
      simp only [EVP, nat_lt, nat_0, nat_to, aops, astep, awant, aeff, aop, mkD, astore, ev, St.put, ia_int, cl_int, ia_slice, zg1, zg0, zgd, zmo, if_true, zs1, zs0, zlm, zlc, zln, zd1, zd0, zt1, zt0, zca, zna, Nat.reduceAdd, Nat.reduceLeDiff, Nat.zero_add, zft, if_false, and_self, reduceCtorEq, zis, ty_int, ty_s_api_Node, ty_api_Node, und_int, siz_int, inf_int_eq, und_api_Node, siz_api_Node, inf_api_Node_eq, sl, dN_agg, dN_cells, dN_isAgg, dN_good, sl, hjl, hn1, ej, hm, hmn, hm0, hmk, hn4, em]
      with_reducible refine hR _ ?_
      clear hR R
      show X _ _ _ _
      have hbig : j < 9223372036854775807 := by omega
      refine X_rg fun R hR => ?_
      simp only [inr_i64, Int.reduceLE, Int.reduceNeg, aops, astep, awant, aeff, aop, abin, aint, ev, ofValue, St.put, zg1, zg0, zgd, zmo, if_true, zs1, zs0, and_self, nat_succ hbig]
      with_reducible refine hR _ ?_
      clear hR R
      show ∃ m, m < _ ∧ _
      have hin : innerV t path[j] vs = vs := inner_n (by first | (left; assumption) | (right; assumption) | (simp_all; done))
      rw [hm] at hin
      exact ⟨path.length - (j + 1), by omega, j + 1, t.kids[m], innerV t (m : Int) vs, o, n, _, nx, lv, by rw [hin]; rfl, rfl, by omega, Lib.hid (by have h1 := hW.out; rw [visW_drop path j hjl, visW_in hm hml, hm] at h1; exact h1), by rw [hin]; omega, ho, by rw [hin]; exact hn⟩
    ·intro b9
     have c9 := b9
     try simp only [znt, znf, decide_eq_true_eq, decide_eq_false_iff_not, beq_iff_eq, Int.not_lt, Int.not_le, ge_iff_le, gt_iff_lt, bne_iff_ne, ne_eq, bne_eq_false_iff_eq, beq_eq_false_iff_ne, zat, zof] at c9
     refine Y_end fun R hR => ?_
     simp only [EVP, aops, astep, awant, aeff, aop, abin, mkD, ev, ofValue, St.put, pcall, zmc, zmn, zg1, zg0, zgd, zmo, Option.map_none, zbs, if_true, zs1, zs0, zlc, zln, zd0, zt1, zt0, zca, zna, Nat.reduceAdd, Nat.reduceLeDiff, Nat.zero_add, zft, if_false, bq_ft, ty_int, ty_api_Node, und_int, any56, dN_agg, b9]
     with_reducible refine hR _ ?_
     clear hR R
     show X _ _ _ _
     refine X_false (by simp only [ev, zg1, zg0, zgd]) ?_
     refine X_skip ?_
     show X _ _ _ _
     obtain ⟨m, hm⟩ : ∃ m : Nat, path[j] = (m : Int) := ⟨path[j].toNat, by first | (simp_all; done) | (simp_all; omega)⟩
     have hml : m < t.kids.length := by first | (simp_all; done) | (simp_all; omega)
     have hmn : ((m : Int)).toNat = m := Int.toNat_natCast m
     have hm0 : (0 ≤ (m : Int)) = True := eq_true (by omega)
     have hmk : ((m : Int) < (t.kids.length : Int)) = True := eq_true (by omega)
     have hn4 : ((if (t.kids.map dN).isEmpty = true then 0 else 4) = 4) = True := eq_true (sl_n (j := m) (by simpa using hml))
     have em : (t.kids.map dN)[m]? = some (.agg [.int .u8 t.kids[m].kind, .int .i64 t.kids[m].num, .str t.kids[m].name, sl 4 (t.kids[m].kids.map dN)]) := by rw [show D.agg _ = dN t.kids[m] from (dN_eq _).symm]; simp [hml]
     refine X_rg fun R hR => ?_
     simp only [EVP, nat_lt, nat_0, nat_to, aops, astep, awant, aeff, aop, mkD, astore, ev, St.put, ia_int, cl_int, ia_slice, zg1, zg0, zgd, zmo, if_true, zs1, zs0, zlm, zlc, zln, zd1, zd0, zt1, zt0, zca, zna, Nat.reduceAdd, Nat.reduceLeDiff, Nat.zero_add, zft, if_false, and_self, reduceCtorEq, zis, ty_int, ty_s_api_Node, ty_api_Node, und_int, siz_int, inf_int_eq, und_api_Node, siz_api_Node, inf_api_Node_eq, sl, dN_agg, dN_cells, dN_isAgg, dN_good, sl, hjl, hn1, ej, hm, hmn, hm0, hmk, hn4, em]
     with_reducible refine hR _ ?_
     clear hR R
     show X _ _ _ _
     have hbig : j < 9223372036854775807 := by omega
     refine X_rg fun R hR => ?_
     simp only [inr_i64, Int.reduceLE, Int.reduceNeg, aops, astep, awant, aeff, aop, abin, aint, ev, ofValue, St.put, zg1, zg0, zgd, zmo, if_true, zs1, zs0, and_self, nat_succ hbig]
     with_reducible refine hR _ ?_
     clear hR R
     show ∃ m, m < _ ∧ _
     have hin : innerV t path[j] vs = vs := inner_n (by first | (left; assumption) | (right; assumption) | (simp_all; done))
     rw [hm] at hin
     exact ⟨path.length - (j + 1), by omega, j + 1, t.kids[m], innerV t (m : Int) vs, o, n, _, nx, lv, by rw [hin]; rfl, rfl, by omega, Lib.hid (by have h1 := hW.out; rw [visW_drop path j hjl, visW_in hm hml, hm] at h1; exact h1), by rw [hin]; omega, ho, by rw [hin]; exact hn⟩
 ·intro b10
  have c10 := b10
  try simp only [decide_eq_false_iff_not] at c10
  refine X_exit ?_
  show X _ _ _ _
  refine X_seq ?_
  refine X_rg fun R hR => ?_
  simp only [inr_i64, Int.reduceLE, Int.reduceNeg, aops, astep, awant, aeff, aop, ev, ofValue, St.put, zg1, zg0, zgd, zmo, if_true, zs1, zs0, and_self, b10]
  with_reducible refine hR _ ?_
  clear hR R
  show X _ _ _ _
  refine X_ret ?_
  show ∃ d, resD _ _ _ = some d ∧ _ ∧ _
  simp only [resD, resAll, resOne, resTup, Try.results34, EVP, zg1, zg0, D.good, if_true, zmo]
  refine ⟨_, rfl, ?_, ?_⟩
  ·simp only [D.under, D.unders, unders_id (f := dV) (fun _ _ => rfl), Bool.and_true]
  ·have h1 := hW.out; rw [List.drop_of_length_le (by first | omega | (simp_all; done) | (simp_all; omega)), visW] at h1; rw [← h1]; have h9 := slO_strip vs ho hn; simp only [D.strip, D.strips, visD] at h9 ⊢; rw [h9]
set_option maxRecDepth 100000 in
set_option maxHeartbeats 4000000 in
theorem rvis_neg (p : Pg) (q : Int) (path : List Int) (h : q < 0) : fn EV 34 [dG p, .int .i64 q, sl 1 (path.map dI)] = some (visD 2 none) := by
 refine fn_Xs rfl Try.func34 rfl (by simp only [plain, List.all_cons, List.all_nil, sl_pl (f := dI) (fun _ _ => rfl), int_pl, dG_pl, Bool.and_true]) (rfl) ?_
 simp only [zmc, zmn, D.strip, sl_strip (map_strip (f := dI) (fun _ => rfl) _), dG_strip]
 simp only [enterSt, Try.ntmps34, zlc, zln, Nat.reduceAdd, Nat.reduceSub, zr1, zr0, zca, zna]
 refine X_seq ?_
 refine X_rg fun R hR => ?_
 simp only [inr_i64, Int.reduceLE, Int.reduceNeg, aops, astep, awant, aeff, aop, ev, ofValue, St.put, zg0, zgd, zmo, if_true, zs1, zs0, zln, zna, and_self, sl, sl, dG_cells, dG_good]
 with_reducible refine hR _ ?_
 clear hR R
 show X _ _ _ _
 refine X_seq ?_
 refine X_seq ?_
 have hlt0 : decide (q < 0) = true := by simp; omega
 refine X_rg fun R hR => ?_
 simp only [EVP, inr_i64, Int.reduceLE, Int.reduceNeg, aops, astep, awant, aeff, aop, abin, aint, ev, ofValue, St.put, zg1, zg0, zgd, zmo, Option.map_none, zbs, if_true, zs1, zs0, Nat.zero_add, zft, if_false, and_self, reduceCtorEq, bq_tf, ty_s_api_Proc, ty_api_Program, und_api_Proc, hlt0]
 with_reducible refine hR _ ?_
 clear hR R
 show X _ _ _ _
 refine X_true (by simp only [ev, zg1, zg0, zgd]) ?_
 refine X_seq ?_
 refine X_rg fun R hR => ?_
 simp only [inr_i64, Int.reduceLE, Int.reduceNeg, aops, astep, awant, aeff, aop, ev, ofValue, St.put, zgd, zmo, if_true, zs1, zs0, and_self]
 with_reducible refine hR _ ?_
 clear hR R
 show X _ _ _ _
 refine X_ret ?_
 show ∃ d, resD _ _ _ = some d ∧ _ ∧ _
 simp only [resD, resAll, resOne, resTup, Try.results34, EVP, zg1, zg0, D.good, if_true, zmo]
 exact ⟨_, rfl, rfl, rfl⟩
set_option maxRecDepth 100000 in
set_option maxHeartbeats 4000000 in
theorem rvis_far (p : Pg) (q : Int) (path : List Int) (h0 : 0 ≤ q) (h : (p.procs.length : Int) < q) : fn EV 34 [dG p, .int .i64 q, sl 1 (path.map dI)] = some (visD 2 none) := by
 refine fn_Xs rfl Try.func34 rfl (by simp only [plain, List.all_cons, List.all_nil, sl_pl (f := dI) (fun _ _ => rfl), int_pl, dG_pl, Bool.and_true]) (rfl) ?_
 simp only [zmc, zmn, D.strip, sl_strip (map_strip (f := dI) (fun _ => rfl) _), dG_strip]
 simp only [enterSt, Try.ntmps34, zlc, zln, Nat.reduceAdd, Nat.reduceSub, zr1, zr0, zca, zna]
 refine X_seq ?_
 refine X_rg fun R hR => ?_
 simp only [inr_i64, Int.reduceLE, Int.reduceNeg, aops, astep, awant, aeff, aop, ev, ofValue, St.put, zg0, zgd, zmo, if_true, zs1, zs0, zln, zna, and_self, sl, sl, dG_cells, dG_good]
 with_reducible refine hR _ ?_
 clear hR R
 show X _ _ _ _
 refine X_seq ?_
 refine X_seq ?_
 have hlt0 : decide (q < 0) = false := by simp; omega
 have hgt0 : decide (q > (p.procs.length : Int)) = true := by simp; omega
 refine X_rg fun R hR => ?_
 simp only [EVP, inr_i64, Int.reduceLE, Int.reduceNeg, aops, astep, awant, aeff, aop, abin, aint, mkD, ev, ofValue, St.put, ia_slice, zg1, zg0, zgd, zmo, zbs, if_true, zs1, zs0, zlm, zlc, zln, zd1, zd0, zt1, zt0, Nat.reduceAdd, Nat.reduceLeDiff, Nat.zero_add, zft, if_false, and_self, reduceCtorEq, beq_self_eq_true, ty_s_api_Proc, ty_api_Program, und_api_Proc, hlt0, hgt0]
 with_reducible refine hR _ ?_
 clear hR R
 show X _ _ _ _
 refine X_true (by simp only [ev, zg1, zg0, zgd]) ?_
 refine X_seq ?_
 refine X_rg fun R hR => ?_
 simp only [inr_i64, Int.reduceLE, Int.reduceNeg, aops, astep, awant, aeff, aop, ev, ofValue, St.put, zgd, zmo, if_true, zs1, zs0, and_self]
 with_reducible refine hR _ ?_
 clear hR R
 show X _ _ _ _
 refine X_ret ?_
 show ∃ d, resD _ _ _ = some d ∧ _ ∧ _
 simp only [resD, resAll, resOne, resTup, Try.results34, EVP, zg1, zg0, D.good, if_true, zmo]
 exact ⟨_, rfl, rfl, rfl⟩
theorem rvis_fn (p : Pg) (q : Int) (path : List Int) (hv : validB p = true) (hpl : path.length ≤ 100000) : fn EV 34 [dG p, .int .i64 q, sl 1 (path.map dI)] = some (visA p q path) := by
 unfold visA
 by_cases h1 : q < 0
 ·rw [if_neg (by omega)]; exact rvis_neg p q path h1
 ·by_cases h2 : (p.procs.length : Int) < q
  ·rw [if_neg (by omega)]; exact rvis_far p q path (by omega) h2
  ·rw [if_pos (by omega)]
   by_cases h3 : q = (p.procs.length : Int)
   ·subst h3
    have e1 : bdT p (p.procs.length : Int) = p.main := dif_neg (by omega)
    have e2 : bdV p (p.procs.length : Int) = p.vars := dif_neg (by omega)
    rw [e1, e2]
    exact rvis_main p path hv hpl
   ·obtain ⟨k, rfl⟩ := Int.eq_ofNat_of_zero_le (by omega : 0 ≤ q)
    have hk : k < p.procs.length := by omega
    have e1 : bdT p (k : Int) = p.procs[k].body := by unfold bdT; rw [dif_pos (by omega)]; rfl
    have e2 : bdV p (k : Int) = p.procs[k].params := by unfold bdV; rw [dif_pos (by omega)]; rfl
    rw [e1, e2]
    exact rvis_proc p k path hv hk hpl
theorem q34a : Try.prog.stoodInHeld 34 = false := by kernel_rfl
theorem q34b : Try.prog.eqGuardType Try.prog.depth 34 = false := by kernel_rfl
theorem vd_fs : fs_api_VarDecl.toList.map (fun f => (decide (f.name = "_"), f.offset, Try.prog.underlying f.type)) = [(false, 0, some .string), (false, 1, some (.int .u8)), (false, 2, some (.int .i64))] := by kernel_rfl
theorem vd_eq (v : Vd) : aggEq Try.prog [.str v.name, .int .u8 v.kind, .int .i64 v.len] [.str v.name, .int .u8 v.kind, .int .i64 v.len] fs_api_VarDecl.toList = some true := by
 have h := vd_fs
 match hf : fs_api_VarDecl.toList, h with
 | [a, b, c], h =>
  simp only [zmc, zmn, List.cons.injEq, Prod.mk.injEq, and_true, decide_eq_false_iff_not] at h
  obtain ⟨⟨a1, a2, a3⟩, ⟨b1, b2, b3⟩, c1, c2, c3⟩ := h
  simp [aggEq, a1, a2, b1, b2, c1, c2, scEq, a3, b3, c3]
 | [], h => simp at h
 | [_], h => simp at h
 | [_, _], h => simp at h
 | _ :: _ :: _ :: _ :: _, h => simp at h
set_option maxRecDepth 100000 in
set_option maxHeartbeats 4000000 in
theorem decls_fn (l : List Vd) (hl : l.length ≤ 1000000) : fn EV 35 [sl 3 (l.map dV), sl 3 (l.map dV)] = some (.bool true) := by
 refine fn_X rfl Try.func35 rfl (by simp only [plain, List.all_cons, List.all_nil, sl_pl (f := dV) (fun _ _ => rfl), Bool.and_true]) (rfl) (rfl) (rfl) ?_
 simp only [zmc, zmn, sl_strip (map_strip (f := dV) (fun _ => rfl) _)]
 simp only [enterSt, Try.ntmps35, zlc, zln, Nat.reduceAdd, Nat.reduceSub, zr1, zr0, zca, zna]
 refine X_seq ?_
 refine X_rg fun R hR => ?_
 simp only [aops, astep, awant, aeff, aop, ev, ofValue, St.put, zgd, zmo, if_true, zs1, zs0, sl]
 with_reducible refine hR _ ?_
 clear hR R
 show X _ _ _ _
 refine X_seq ?_
 refine X_seq ?_
 refine X_rg fun R hR => ?_
 simp only [EVP, aops, astep, awant, aeff, aop, abin, aint, ev, St.put, zg1, zg0, zgd, zmo, if_true, zs1, zs0, zlm, bne_self_eq_false, und_api_VarDecl, bne_self_eq_false]
 with_reducible refine hR _ ?_
 clear hR R
 show X _ _ _ _
 refine X_false (by simp only [ev, zg1, zg0, zgd]) ?_
 refine X_skip ?_
 show X _ _ _ _
 refine X_seq ?_
 refine X_seq ?_
 refine X_rg fun R hR => ?_
 simp only [inr_i64, Int.reduceLE, Int.reduceNeg, aops, astep, awant, aeff, aop, ev, ofValue, St.put, zgd, zmo, if_true, zs1, zs0, and_self]
 with_reducible refine hR _ ?_
 clear hR R
 show X _ _ _ _
 refine X_block ?_
 refine X_loop (fun m σ => ∃ (j : Nat), σ = ⟨[.slice .imm (if (l.map dV).isEmpty = true then 0 else 3) (l.map dV), .slice .imm (if (l.map dV).isEmpty = true then 0 else 3) (l.map dV), slotOf σ 2, slotOf σ 3, slotOf σ 4, .int .i64 j, slotOf σ 6, slotOf σ 7, slotOf σ 8, slotOf σ 9, slotOf σ 10, slotOf σ 11, slotOf σ 12, slotOf σ 13, slotOf σ 14, slotOf σ 15, slotOf σ 16, slotOf σ 17, slotOf σ 18, slotOf σ 19, slotOf σ 20, slotOf σ 21, slotOf σ 22, slotOf σ 23, slotOf σ 24, slotOf σ 25], [], 0, []⟩ ∧ m = l.length - j ∧ j ≤ l.length) ?_ (l.length) _ ?_
 rotate_left
 ·exact ⟨0, rfl, rfl, Nat.zero_le _⟩
 rintro m σ ⟨j, hσ, rfl, hj⟩
 generalize slotOf σ = x at hσ
 subst hσ
 refine X_seq ?_
 refine X_seq ?_
 refine X_rg fun R hR => ?_
 simp only [EVP, nat_lt, aops, astep, awant, aeff, aop, abin, aint, ev, St.put, zg1, zg0, zgd, zmo, if_true, zs1, zs0, zlm, und_api_VarDecl]
 with_reducible refine hR _ ?_
 clear hR R
 show X _ _ _ _
 refine X_ite (by simp only [ev, zg1, zg0, zgd]; exact rfl) ?_ ?_
 ·intro b1
  have c1 := b1
  try simp only [decide_eq_true_eq] at c1
  refine X_skip ?_
  show X _ _ _ _
  refine X_seq ?_
  refine X_block ?_
  refine X_seq ?_
  have hjl : j < l.length := by first | assumption | omega
  have hn3 : ((if (l.map dV).isEmpty = true then 0 else 3) = 3) = True := eq_true (sl_n (j := j) (by simpa using hjl))
  have ej : (l.map dV)[j]? = some (.agg [.str l[j].name, .int .u8 l[j].kind, .int .i64 l[j].len]) := by simp [dV, hjl]
  have hve := vd_eq l[j]
  refine X_rg fun R hR => ?_
  simp only [EVP, nat_lt, nat_0, nat_to, aops, astep, awant, aeff, aop, abin, ev, St.put, ia_agg, cl_agg, zg1, zg0, zgd, zmo, if_true, zs1, zs0, zlm, zlc, zln, Nat.reduceAdd, Nat.zero_add, Bool.not_true, and_self, decide_true, zis, ty_api_VarDecl, st_api_VarDecl, und_api_VarDecl, siz_api_VarDecl, inf_api_VarDecl_eq, q34a, q34b, hve, hjl, hn3, ej, Bool.not_true]
  with_reducible refine hR _ ?_
  clear hR R
  show X _ _ _ _
  refine X_false (by simp only [ev, zg1, zg0, zgd]) ?_
  refine X_skip ?_
  show X _ _ _ _
  have hbig : j < 9223372036854775807 := by omega
  refine X_rg fun R hR => ?_
  simp only [inr_i64, Int.reduceLE, Int.reduceNeg, aops, astep, awant, aeff, aop, abin, aint, ev, ofValue, St.put, zg1, zg0, zgd, zmo, if_true, zs1, zs0, and_self, nat_succ hbig]
  with_reducible refine hR _ ?_
  clear hR R
  show ∃ m, m < _ ∧ _
  exact ⟨l.length - (j + 1), by omega, j + 1, rfl, rfl, by omega⟩
 ·intro b2
  have c2 := b2
  try simp only [decide_eq_false_iff_not] at c2
  refine X_exit ?_
  show X _ _ _ _
  refine X_seq ?_
  refine X_rg fun R hR => ?_
  simp only [aops, astep, awant, aeff, aop, ev, ofValue, St.put, zgd, zmo, if_true, zs1, zs0, b2]
  with_reducible refine hR _ ?_
  clear hR R
  show X _ _ _ _
  refine X_ret ?_
  show resD _ _ _ = some _
  simp only [resD, resAll, resOne, resTup, Try.results35, EVP, zg1, zg0, D.good, if_true, zmo]

end Go.Proofs.Ytjikokmhknnnoaa
