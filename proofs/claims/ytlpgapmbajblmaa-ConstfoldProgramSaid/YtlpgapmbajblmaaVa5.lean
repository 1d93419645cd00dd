/- Valid: the reference and the law. -/
import Derived.Test.YtlpgapmbajblmaaVa4
namespace Go.Proofs.Ytlpgapmbajblmaa
open Go.RowKit

set_option maxRecDepth 100000 in
set_option maxHeartbeats 4000000 in
theorem rvalid_fn (p : Pg) (h : bigP p = false) : fn EV 57 [dG p] = some (.bool (validB p)) := by
 refine fn_X rfl Try.func57 rfl ?_ rfl rfl rfl ?_
 ·simp [plain, dG_under]; rfl
 simp only [zmc, zmn, dG_strip]
 simp only [enterSt, Try.ntmps57, zlc, zln, Nat.reduceAdd, Nat.reduceSub, zr1, zr0, zca, zna]
 obtain ⟨hvl, hpl, hmb, hqs⟩ := small h
 refine X_seq ?_
 refine X_rg fun R hR => ?_
 simp only [aops, astep, awant, aeff, aop, ev, ofValue, St.put, D.cells, D.good, zg0, zgd, zmo, if_true, zs1, zs0, zln, zna, sl, dG]
 with_reducible refine hR _ ?_
 clear hR R
 show X _ _ _ _
 refine X_seq ?_
 refine X_seq ?_
 have fmb := rbody_f p.main hmb
 cases hc1 : (decide ((p.vars.length : Int) > 32) : Bool)
 case true =>
  refine X_rg fun R hR => ?_
  simp only [EVP, inr_i64, Int.reduceLE, Int.reduceNeg, aops, astep, awant, aeff, aop, abin, aint, mkD, ev, ofValue, St.put, pcall, D.isAgg, zmc, zmn, zg1, zg0, zgd, zmo, Option.map_none, zbs, if_true, zs1, zs0, zlm, zlc, zln, zd0, zt1, zt0, zca, zna, Nat.reduceAdd, Nat.reduceLeDiff, Nat.zero_add, Nat.add_zero, zft, if_false, and_self, reduceCtorEq, ty_api_Program, ty_api_Node, ty_s_api_VarDecl, ty_s_api_Proc, und_api_VarDecl, und_api_Proc, any_11, bq_tf, hc1]
  with_reducible refine hR _ ?_
  clear hR R
  show X _ _ _ _
  refine X_true (by simp only [ev, zg1, zg0, zgd]) ?_
  refine X_seq ?_
  refine X_rg fun R hR => ?_
  simp only [aops, astep, awant, aeff, aop, ev, ofValue, St.put, zgd, zmo, if_true, zs1, zs0]
  with_reducible refine hR _ ?_
  clear hR R
  show X _ _ _ _
  refine X_ret ?_
  show resD _ _ _ = some _
  simp only [resD, resAll, resOne, resTup, Try.results57, zg1, zg0, D.good, if_true, zmo]
  refine congrArg (fun b => some (D.bool b)) ?_
  rw [val_1 hc1]
 case false =>
  cases hc2 : (decide ((p.procs.length : Int) > 64) : Bool)
  case true =>
   refine X_rg fun R hR => ?_
   simp only [EVP, inr_i64, Int.reduceLE, Int.reduceNeg, aops, astep, awant, aeff, aop, abin, aint, mkD, ev, ofValue, St.put, pcall, D.isAgg, zmc, zmn, zg1, zg0, zgd, zmo, Option.map_none, zbs, if_true, zs1, zs0, zlm, zlc, zln, zd1, zd0, zt1, zt0, zca, zna, Nat.reduceAdd, Nat.reduceLeDiff, Nat.zero_add, Nat.add_zero, zft, if_false, and_self, reduceCtorEq, beq_self_eq_true, ty_api_Program, ty_api_Node, ty_s_api_VarDecl, ty_s_api_Proc, und_api_VarDecl, und_api_Proc, any_11, bq_tf, hc1, hc2]
   with_reducible refine hR _ ?_
   clear hR R
   show X _ _ _ _
   refine X_true (by simp only [ev, zg1, zg0, zgd]) ?_
   refine X_seq ?_
   refine X_rg fun R hR => ?_
   simp only [aops, astep, awant, aeff, aop, ev, ofValue, St.put, zgd, zmo, if_true, zs1, zs0]
   with_reducible refine hR _ ?_
   clear hR R
   show X _ _ _ _
   refine X_ret ?_
   show resD _ _ _ = some _
   simp only [resD, resAll, resOne, resTup, Try.results57, zg1, zg0, D.good, if_true, zmo]
   refine congrArg (fun b => some (D.bool b)) ?_
   rw [val_2 hc2]
  case false =>
   cases hc3 : (bodyB p.main : Bool)
   case true =>
    refine X_rg fun R hR => ?_
    simp only [EVP, inr_i64, Int.reduceLE, Int.reduceNeg, aops, astep, awant, aeff, aop, abin, aint, mkD, ev, ofValue, St.put, pcall, D.isAgg, zmc, zmn, zg1, zg0, zgd, zmo, zbs, if_true, zs1, zs0, zlm, zlc, zln, zd1, zd0, zt1, zt0, zca, zna, Nat.reduceAdd, Nat.reduceLeDiff, Nat.zero_add, Nat.add_zero, Bool.not_true, zft, if_false, and_self, reduceCtorEq, beq_self_eq_true, ty_api_Program, ty_api_Node, ty_s_api_VarDecl, ty_s_api_Proc, und_api_VarDecl, und_api_Proc, any_11, hc1, hc2, fmb, hc3]
    with_reducible refine hR _ ?_
    clear hR R
    show X _ _ _ _
    refine X_false (by simp only [ev, zg1, zg0, zgd]) ?_
    refine X_skip ?_
    show X _ _ _ _
    refine X_seq ?_
    refine X_seq ?_
    refine X_rg fun R hR => ?_
    simp only [inr_i64, Int.reduceLE, Int.reduceNeg, aops, astep, awant, aeff, aop, ev, ofValue, St.put, zgd, zmo, if_true, zs1, zs0, and_self]
    with_reducible refine hR _ ?_
    clear hR R
    show X _ _ _ _
    refine X_block ?_
    refine X_loop (fun n σ => ∃ (i : Nat), σ = ⟨[slotOf σ 0, .ptr 0 0, slotOf σ 2, .int .i64 i, slotOf σ 4, slotOf σ 5, slotOf σ 6, slotOf σ 7, slotOf σ 8, slotOf σ 9, slotOf σ 10, slotOf σ 11, slotOf σ 12, slotOf σ 13, slotOf σ 14, slotOf σ 15, slotOf σ 16, slotOf σ 17, slotOf σ 18, slotOf σ 19, slotOf σ 20, slotOf σ 21, slotOf σ 22, slotOf σ 23, slotOf σ 24, slotOf σ 25, slotOf σ 26, slotOf σ 27, slotOf σ 28, slotOf σ 29, slotOf σ 30, slotOf σ 31, slotOf σ 32, slotOf σ 33, slotOf σ 34, slotOf σ 35, slotOf σ 36, slotOf σ 37, slotOf σ 38, slotOf σ 39, slotOf σ 40, slotOf σ 41, slotOf σ 42, slotOf σ 43, slotOf σ 44, slotOf σ 45, slotOf σ 46, slotOf σ 47, slotOf σ 48, slotOf σ 49, slotOf σ 50, slotOf σ 51, slotOf σ 52, slotOf σ 53, slotOf σ 54, slotOf σ 55, slotOf σ 56, slotOf σ 57, slotOf σ 58, slotOf σ 59, slotOf σ 60, slotOf σ 61, slotOf σ 62, slotOf σ 63, slotOf σ 64, slotOf σ 65, slotOf σ 66, slotOf σ 67, slotOf σ 68, slotOf σ 69, slotOf σ 70, slotOf σ 71, slotOf σ 72, slotOf σ 73, slotOf σ 74, slotOf σ 75, slotOf σ 76, slotOf σ 77, slotOf σ 78], [[.slice .imm (if (p.vars.map dV).isEmpty = true then 0 else 3) (p.vars.map dV), .slice .imm (if (p.procs.map dP).isEmpty = true then 0 else 6) (p.procs.map dP), .int .u8 p.main.kind, .int .i64 p.main.num, .str p.main.name, .slice .imm (if (p.main.kids.map dN).isEmpty = true then 0 else 4) (p.main.kids.map dN)]], 0, []⟩ ∧ i ≤ p.vars.length ∧ n = p.vars.length - i ∧ Hid ((p.vars.take i).all declB = true)) ?_ (p.vars.length) _ ?_
    rotate_left
    ·exact ⟨0, rfl, Nat.zero_le _, rfl, Lib.hid (by simp)⟩
    rintro n σ ⟨i, hσ, hi, rfl, hall⟩
    generalize slotOf σ = x at hσ
    subst hσ
    refine X_seq ?_
    refine X_seq ?_
    by_cases hlt : i < p.vars.length
    ·skip
     have hn : ((if (p.vars.map dV).isEmpty = true then 0 else 3) = 3) = True := eq_true (sl_n (j := i) (by simpa using hlt))
     have e1 : (p.vars.map dV)[i]? = some (dV p.vars[i]) := by simp [hlt]
     have hbig : i < 9223372036854775807 := by omega
     have fd : fn EV 75 [.agg [.str p.vars[i].name, .int .u8 p.vars[i].kind, .int .i64 p.vars[i].len]] = some (.bool (declB p.vars[i])) := decl_fn _
     refine X_rg fun R hR => ?_
     simp only [EVP, nat_lt, aops, astep, awant, aeff, aop, abin, aint, mkD, ev, St.put, D.isAgg, zg1, zg0, zgd, zmo, if_true, zs1, zs0, zlm, zlc, zln, zd0, zt1, zt0, Nat.reduceAdd, Nat.reduceLeDiff, Nat.zero_add, Nat.add_zero, zft, if_false, reduceCtorEq, ty_api_Program, ty_s_api_VarDecl, und_api_VarDecl]
     with_reducible refine hR _ ?_
     clear hR R
     show X _ _ _ _
     refine X_true (by simp only [ev, zg1, zg0, zgd, decide_true, hlt]) ?_
     refine X_skip ?_
     show X _ _ _ _
     refine X_seq ?_
     refine X_block ?_
     refine X_seq ?_
     cases hd : (declB p.vars[i] : Bool)
     case true =>
      refine X_rg fun R hR => ?_
      simp only [EVP, nat_lt, nat_0, nat_to, aops, astep, awant, aeff, aop, mkD, ev, St.put, pcall, D.cells, D.isAgg, zmc, zmn, zg1, zg0, zgd, zmo, if_true, zs1, zs0, zlm, zlc, zln, zd0, zt1, zt0, zca, zna, Nat.reduceAdd, Nat.reduceLeDiff, Nat.zero_add, Nat.add_zero, Bool.not_true, zft, if_false, and_self, reduceCtorEq, decide_true, ty_api_VarDecl, ty_api_Program, ty_s_api_VarDecl, und_api_VarDecl, siz_api_VarDecl, has_api_VarDecl, any_7, dV, hlt, hn, e1, fd, hd]
      with_reducible refine hR _ ?_
      clear hR R
      show X _ _ _ _
      refine X_false (by simp only [ev, zg1, zg0, zgd]) ?_
      refine X_skip ?_
      show X _ _ _ _
      refine X_rg fun R hR => ?_
      simp only [inr_i64, Int.reduceLE, Int.reduceNeg, aops, astep, awant, aeff, aop, abin, aint, ev, ofValue, St.put, zg1, zg0, zgd, zmo, if_true, zs1, zs0, and_self, nat_succ hbig]
      with_reducible refine hR _ ?_
      clear hR R
      show ∃ m, m < _ ∧ _
      exact ⟨p.vars.length - (i + 1), by omega, i + 1, rfl, by omega, rfl, Lib.hid (all_yes declB p.vars i hlt hall.out hd)⟩
     case false =>
      refine X_rg fun R hR => ?_
      simp only [EVP, nat_lt, nat_0, nat_to, aops, astep, awant, aeff, aop, mkD, ev, St.put, pcall, D.cells, D.isAgg, zmc, zmn, zg1, zg0, zgd, zmo, if_true, zs1, zs0, zlm, zlc, zln, zd0, zt1, zt0, zca, zna, Nat.reduceAdd, Nat.reduceLeDiff, Nat.zero_add, Nat.add_zero, Bool.not_false, zft, if_false, and_self, reduceCtorEq, decide_true, ty_api_VarDecl, ty_api_Program, ty_s_api_VarDecl, und_api_VarDecl, siz_api_VarDecl, has_api_VarDecl, any_7, dV, hlt, hn, e1, fd, hd]
      with_reducible refine hR _ ?_
      clear hR R
      show X _ _ _ _
      refine X_true (by simp only [ev, zg1, zg0, zgd]) ?_
      refine X_seq ?_
      refine X_rg fun R hR => ?_
      simp only [aops, astep, awant, aeff, aop, ev, ofValue, St.put, zgd, zmo, if_true, zs1, zs0]
      with_reducible refine hR _ ?_
      clear hR R
      show X _ _ _ _
      refine X_ret ?_
      show resD _ _ _ = some _
      simp only [resD, resAll, resOne, resTup, Try.results57, zg1, zg0, D.good, if_true, zmo]
      refine congrArg (fun b => some (D.bool b)) ?_
      rw [val_v (all_no declB p.vars i hlt hd)]
    ·skip
     refine X_rg fun R hR => ?_
     simp only [EVP, nat_lt, aops, astep, awant, aeff, aop, abin, aint, mkD, ev, St.put, D.isAgg, zg1, zg0, zgd, zmo, if_true, zs1, zs0, zlm, zlc, zln, zd0, zt1, zt0, Nat.reduceAdd, Nat.reduceLeDiff, Nat.zero_add, Nat.add_zero, zft, if_false, reduceCtorEq, ty_api_Program, ty_s_api_VarDecl, und_api_VarDecl]
     with_reducible refine hR _ ?_
     clear hR R
     show X _ _ _ _
     refine X_false (by simp only [ev, zg1, zg0, zgd, decide_false, hlt]) ?_
     refine X_exit ?_
     show X _ _ _ _
     refine X_seq ?_
     refine X_seq ?_
     have hav := hall.out
     rw [List.take_of_length_le (by omega)] at hav
     clear hlt hall hi
     refine X_rg fun R hR => ?_
     simp only [inr_i64, Int.reduceLE, Int.reduceNeg, aops, astep, awant, aeff, aop, ev, ofValue, St.put, zgd, zmo, if_true, zs1, zs0, and_self]
     with_reducible refine hR _ ?_
     clear hR R
     show X _ _ _ _
     refine X_block ?_
     refine X_loop (fun n σ => ∃ (i : Nat) (r : List (List D)), σ = ⟨[slotOf σ 0, .ptr 0 0, slotOf σ 2, slotOf σ 3, .int .i64 i, slotOf σ 5, slotOf σ 6, slotOf σ 7, slotOf σ 8, slotOf σ 9, slotOf σ 10, slotOf σ 11, slotOf σ 12, slotOf σ 13, slotOf σ 14, slotOf σ 15, slotOf σ 16, slotOf σ 17, slotOf σ 18, slotOf σ 19, slotOf σ 20, slotOf σ 21, slotOf σ 22, slotOf σ 23, slotOf σ 24, slotOf σ 25, slotOf σ 26, slotOf σ 27, slotOf σ 28, slotOf σ 29, slotOf σ 30, slotOf σ 31, slotOf σ 32, slotOf σ 33, slotOf σ 34, slotOf σ 35, slotOf σ 36, slotOf σ 37, slotOf σ 38, slotOf σ 39, slotOf σ 40, slotOf σ 41, slotOf σ 42, slotOf σ 43, slotOf σ 44, slotOf σ 45, slotOf σ 46, slotOf σ 47, slotOf σ 48, slotOf σ 49, slotOf σ 50, slotOf σ 51, slotOf σ 52, slotOf σ 53, slotOf σ 54, slotOf σ 55, slotOf σ 56, slotOf σ 57, slotOf σ 58, slotOf σ 59, slotOf σ 60, slotOf σ 61, slotOf σ 62, slotOf σ 63, slotOf σ 64, slotOf σ 65, slotOf σ 66, slotOf σ 67, slotOf σ 68, slotOf σ 69, slotOf σ 70, slotOf σ 71, slotOf σ 72, slotOf σ 73, slotOf σ 74, slotOf σ 75, slotOf σ 76, slotOf σ 77, slotOf σ 78], [.slice .imm (if (p.vars.map dV).isEmpty = true then 0 else 3) (p.vars.map dV), .slice .imm (if (p.procs.map dP).isEmpty = true then 0 else 6) (p.procs.map dP), .int .u8 p.main.kind, .int .i64 p.main.num, .str p.main.name, .slice .imm (if (p.main.kids.map dN).isEmpty = true then 0 else 4) (p.main.kids.map dN)] :: r, 0, []⟩ ∧ i ≤ p.procs.length ∧ n = p.procs.length - i ∧ Hid ((p.procs.take i).all procB = true)) ?_ (p.procs.length) _ ?_
     rotate_left
     ·exact ⟨0, [], rfl, Nat.zero_le _, rfl, Lib.hid (by simp)⟩
     rintro n σ ⟨i, r, hσ, hi, rfl, hall⟩
     generalize slotOf σ = x at hσ
     subst hσ
     refine X_seq ?_
     refine X_seq ?_
     by_cases hlt : i < p.procs.length
     ·skip
      have hn : ((if (p.procs.map dP).isEmpty = true then 0 else 6) = 6) = True := eq_true (sl_n (j := i) (by simpa using hlt))
      have e1 : (p.procs.map dP)[i]? = some (dP p.procs[i]) := by simp [hlt]
      have hbig : i < 9223372036854775807 := by omega
      obtain ⟨hq1, hq2⟩ := hqs p.procs[i] (List.getElem_mem hlt)
      have fnm : fn EV 42 [.str p.procs[i].name] = some (.bool (nameB p.procs[i].name)) := fn_orc EV rfl rfl
      have fbo := rbody_f p.procs[i].body hq2
      refine X_rg fun R hR => ?_
      simp only [EVP, nat_lt, aops, astep, awant, aeff, aop, abin, aint, mkD, ev, St.put, D.isAgg, zg1, zg0, zgd, zmo, if_true, zs1, zs0, zlm, zlc, zln, zd1, zd0, zt1, zt0, Nat.reduceAdd, Nat.reduceLeDiff, Nat.zero_add, zft, if_false, reduceCtorEq, ty_api_Program, ty_s_api_Proc, und_api_Proc]
      with_reducible refine hR _ ?_
      clear hR R
      show X _ _ _ _
      refine X_true (by simp only [ev, zg1, zg0, zgd, decide_true, hlt]) ?_
      refine X_skip ?_
      show X _ _ _ _
      refine X_seq ?_
      refine X_block ?_
      refine X_seq ?_
      refine X_rg fun R hR => ?_
      simp only [EVP, app_get0, app_set0, nat_lt, nat_0, nat_to, aops, astep, awant, aeff, aop, mkD, astore, ev, St.put, D.cells, D.good, D.isAgg, zg1, zg0, zgd, zmo, zbs, if_true, zs1, zs0, zlm, zlc, zln, zd1, zd0, zt1, zt0, zca, zna, Nat.reduceAdd, Nat.reduceLeDiff, Nat.zero_add, zft, if_false, and_self, reduceCtorEq, decide_true, ty_api_Proc, ty_api_Program, ty_s_api_Proc, und_api_Proc, siz_api_Proc, has_api_Proc, sl, dP, hlt, hn, e1]
      with_reducible refine hR _ ?_
      clear hR R
      show X _ _ _ _
      refine X_seq ?_
      refine X_seq ?_
      cases h1 : (nameB p.procs[i].name : Bool)
      case true =>
       cases h2 : (decide ((p.procs[i].params.length : Int) > 8) : Bool)
       case true =>
        refine X_rg fun R hR => ?_
        simp only [EVP, inr_i64, Int.reduceLE, Int.reduceNeg, app_get0, aops, astep, awant, aeff, aop, abin, aint, mkD, ev, ofValue, St.put, pcall, D.isAgg, zmc, zmn, zg1, zg0, zgd, zmo, Option.map_none, zbs, if_true, zs1, zs0, zlm, zlc, zln, zd1, zd0, zt1, zt0, zca, zna, Nat.reduceAdd, Nat.reduceLeDiff, Nat.zero_add, Nat.add_zero, Bool.not_true, zft, if_false, and_self, reduceCtorEq, beq_self_eq_true, ty_string, ty_api_Proc, ty_api_Node, ty_s_api_VarDecl, und_api_VarDecl, any_9, any_11, bq_tf, fnm, h1, h2]
        with_reducible refine hR _ ?_
        clear hR R
        show X _ _ _ _
        refine X_true (by simp only [ev, zg1, zg0, zgd]) ?_
        refine X_seq ?_
        refine X_rg fun R hR => ?_
        simp only [aops, astep, awant, aeff, aop, ev, ofValue, St.put, zgd, zmo, if_true, zs1, zs0]
        with_reducible refine hR _ ?_
        clear hR R
        show X _ _ _ _
        refine X_ret ?_
        show resD _ _ _ = some _
        simp only [resD, resAll, resOne, resTup, Try.results57, zg1, zg0, D.good, if_true, zmo]
        refine congrArg (fun b => some (D.bool b)) ?_
        rw [val_p (all_no procB p.procs i hlt (by simp only [procB, h2, Bool.not_true, Bool.false_and, Bool.and_false]))]
       case false =>
        cases h4 : (bodyB p.procs[i].body : Bool)
        case true =>
         refine X_rg fun R hR => ?_
         simp only [EVP, inr_i64, Int.reduceLE, Int.reduceNeg, app_get0, aops, astep, awant, aeff, aop, abin, aint, mkD, ev, ofValue, St.put, pcall, D.isAgg, zmc, zmn, zg1, zg0, zgd, zmo, zbs, if_true, zs1, zs0, zlm, zlc, zln, zd1, zd0, zt1, zt0, zca, zna, Nat.reduceAdd, Nat.reduceLeDiff, Nat.zero_add, Nat.add_zero, Bool.not_true, zft, if_false, and_self, reduceCtorEq, beq_self_eq_true, ty_string, ty_api_Proc, ty_api_Node, ty_s_api_VarDecl, und_api_VarDecl, any_9, any_11, fnm, h1, h2, fbo, h4]
         with_reducible refine hR _ ?_
         clear hR R
         show X _ _ _ _
         refine X_false (by simp only [ev, zg1, zg0, zgd]) ?_
         refine X_skip ?_
         show X _ _ _ _
         refine X_seq ?_
         refine X_rg fun R hR => ?_
         simp only [inr_i64, Int.reduceLE, Int.reduceNeg, aops, astep, awant, aeff, aop, ev, ofValue, St.put, zgd, zmo, if_true, zs1, zs0, and_self]
         with_reducible refine hR _ ?_
         clear hR R
         show X _ _ _ _
         refine X_block ?_
         refine X_loop (fun n σ => ∃ (j : Nat), σ = ⟨[slotOf σ 0, .ptr 0 0, slotOf σ 2, slotOf σ 3, .int .i64 i, .ptr (r.length + 1) 0, .int .i64 j, slotOf σ 7, slotOf σ 8, slotOf σ 9, slotOf σ 10, slotOf σ 11, slotOf σ 12, slotOf σ 13, slotOf σ 14, slotOf σ 15, slotOf σ 16, slotOf σ 17, slotOf σ 18, slotOf σ 19, slotOf σ 20, slotOf σ 21, slotOf σ 22, slotOf σ 23, slotOf σ 24, slotOf σ 25, slotOf σ 26, slotOf σ 27, slotOf σ 28, slotOf σ 29, slotOf σ 30, slotOf σ 31, slotOf σ 32, slotOf σ 33, slotOf σ 34, slotOf σ 35, slotOf σ 36, slotOf σ 37, slotOf σ 38, slotOf σ 39, slotOf σ 40, slotOf σ 41, slotOf σ 42, slotOf σ 43, slotOf σ 44, slotOf σ 45, slotOf σ 46, slotOf σ 47, slotOf σ 48, slotOf σ 49, slotOf σ 50, slotOf σ 51, slotOf σ 52, slotOf σ 53, slotOf σ 54, slotOf σ 55, slotOf σ 56, slotOf σ 57, slotOf σ 58, slotOf σ 59, slotOf σ 60, slotOf σ 61, slotOf σ 62, slotOf σ 63, slotOf σ 64, slotOf σ 65, slotOf σ 66, slotOf σ 67, slotOf σ 68, slotOf σ 69, slotOf σ 70, slotOf σ 71, slotOf σ 72, slotOf σ 73, slotOf σ 74, slotOf σ 75, slotOf σ 76, slotOf σ 77, slotOf σ 78], [.slice .imm (if (p.vars.map dV).isEmpty = true then 0 else 3) (p.vars.map dV), .slice .imm (if (p.procs.map dP).isEmpty = true then 0 else 6) (p.procs.map dP), .int .u8 p.main.kind, .int .i64 p.main.num, .str p.main.name, .slice .imm (if (p.main.kids.map dN).isEmpty = true then 0 else 4) (p.main.kids.map dN)] :: (r ++ [[.str p.procs[i].name, .slice .imm (if (p.procs[i].params.map dV).isEmpty = true then 0 else 3) (p.procs[i].params.map dV), .int .u8 p.procs[i].body.kind, .int .i64 p.procs[i].body.num, .str p.procs[i].body.name, .slice .imm (if (p.procs[i].body.kids.map dN).isEmpty = true then 0 else 4) (p.procs[i].body.kids.map dN)]]), 0, []⟩ ∧ j ≤ p.procs[i].params.length ∧ n = p.procs[i].params.length - j ∧ Hid ((p.procs[i].params.take j).all declB = true)) ?_ (p.procs[i].params.length) _ ?_
         rotate_left
         ·exact ⟨0, rfl, Nat.zero_le _, rfl, Lib.hid (by simp)⟩
         rintro n σ ⟨j, hσ, hj, rfl, hall3⟩
         generalize slotOf σ = y at hσ
         subst hσ
         refine X_seq ?_
         refine X_seq ?_
         by_cases hlt3 : j < p.procs[i].params.length
         ·skip
          have hn3 : ((if (p.procs[i].params.map dV).isEmpty = true then 0 else 3) = 3) = True := eq_true (sl_n (j := j) (by simpa using hlt3))
          have e3 : (p.procs[i].params.map dV)[j]? = some (dV p.procs[i].params[j]) := by simp [hlt3]
          have hbig3 : j < 9223372036854775807 := by omega
          have fd : fn EV 75 [.agg [.str p.procs[i].params[j].name, .int .u8 p.procs[i].params[j].kind, .int .i64 p.procs[i].params[j].len]] = some (.bool (declB p.procs[i].params[j])) := decl_fn _
          refine X_rg fun R hR => ?_
          simp only [EVP, app_get0, nat_lt, aops, astep, awant, aeff, aop, abin, aint, mkD, ev, St.put, D.isAgg, zg1, zg0, zgd, zmo, if_true, zs1, zs0, zlm, zlc, zln, zd1, zd0, zt1, zt0, Nat.reduceAdd, Nat.reduceLeDiff, Nat.zero_add, zft, if_false, reduceCtorEq, ty_api_Proc, ty_s_api_VarDecl, und_api_VarDecl]
          with_reducible refine hR _ ?_
          clear hR R
          show X _ _ _ _
          refine X_true (by simp only [ev, zg1, zg0, zgd, decide_true, hlt3]) ?_
          refine X_skip ?_
          show X _ _ _ _
          refine X_seq ?_
          refine X_block ?_
          refine X_seq ?_
          cases hd : (declB p.procs[i].params[j] : Bool)
          case true =>
           refine X_rg fun R hR => ?_
           simp only [EVP, app_get0, nat_lt, nat_0, nat_to, aops, astep, awant, aeff, aop, mkD, ev, St.put, pcall, D.cells, D.isAgg, zmc, zmn, zg1, zg0, zgd, zmo, if_true, zs1, zs0, zlm, zlc, zln, zd1, zd0, zt1, zt0, zca, zna, Nat.reduceAdd, Nat.reduceLeDiff, Nat.zero_add, Bool.not_true, zft, if_false, and_self, reduceCtorEq, decide_true, ty_api_VarDecl, ty_api_Proc, ty_s_api_VarDecl, und_api_VarDecl, siz_api_VarDecl, has_api_VarDecl, any_7, dV, hlt3, hn3, e3, fd, hd]
           with_reducible refine hR _ ?_
           clear hR R
           show X _ _ _ _
           refine X_false (by simp only [ev, zg1, zg0, zgd]) ?_
           refine X_skip ?_
           show X _ _ _ _
           refine X_rg fun R hR => ?_
           simp only [inr_i64, Int.reduceLE, Int.reduceNeg, aops, astep, awant, aeff, aop, abin, aint, ev, ofValue, St.put, zg1, zg0, zgd, zmo, if_true, zs1, zs0, and_self, nat_succ hbig3]
           with_reducible refine hR _ ?_
           clear hR R
           show ∃ m, m < _ ∧ _
           exact ⟨p.procs[i].params.length - (j + 1), by omega, j + 1, rfl, by omega, rfl, Lib.hid (all_yes declB p.procs[i].params j hlt3 hall3.out hd)⟩
          case false =>
           refine X_rg fun R hR => ?_
           simp only [EVP, app_get0, nat_lt, nat_0, nat_to, aops, astep, awant, aeff, aop, mkD, ev, St.put, pcall, D.cells, D.isAgg, zmc, zmn, zg1, zg0, zgd, zmo, if_true, zs1, zs0, zlm, zlc, zln, zd1, zd0, zt1, zt0, zca, zna, Nat.reduceAdd, Nat.reduceLeDiff, Nat.zero_add, Bool.not_false, zft, if_false, and_self, reduceCtorEq, decide_true, ty_api_VarDecl, ty_api_Proc, ty_s_api_VarDecl, und_api_VarDecl, siz_api_VarDecl, has_api_VarDecl, any_7, dV, hlt3, hn3, e3, fd, hd]
           with_reducible refine hR _ ?_
           clear hR R
           show X _ _ _ _
           refine X_true (by simp only [ev, zg1, zg0, zgd]) ?_
           refine X_seq ?_
           refine X_rg fun R hR => ?_
           simp only [aops, astep, awant, aeff, aop, ev, ofValue, St.put, zgd, zmo, if_true, zs1, zs0]
           with_reducible refine hR _ ?_
           clear hR R
           show X _ _ _ _
           refine X_ret ?_
           show resD _ _ _ = some _
           simp only [resD, resAll, resOne, resTup, Try.results57, zg1, zg0, D.good, if_true, zmo]
           refine congrArg (fun b => some (D.bool b)) ?_
           rw [val_p (all_no procB p.procs i hlt (by simp only [procB, all_no declB p.procs[i].params j hlt3 hd, Bool.false_and, Bool.and_false]))]
         ·skip
          refine X_rg fun R hR => ?_
          simp only [EVP, app_get0, nat_lt, aops, astep, awant, aeff, aop, abin, aint, mkD, ev, St.put, D.isAgg, zg1, zg0, zgd, zmo, if_true, zs1, zs0, zlm, zlc, zln, zd1, zd0, zt1, zt0, Nat.reduceAdd, Nat.reduceLeDiff, Nat.zero_add, zft, if_false, reduceCtorEq, ty_api_Proc, ty_s_api_VarDecl, und_api_VarDecl]
          with_reducible refine hR _ ?_
          clear hR R
          show X _ _ _ _
          refine X_false (by simp only [ev, zg1, zg0, zgd, decide_false, hlt3]) ?_
          refine X_exit ?_
          show X _ _ _ _
          refine X_rg fun R hR => ?_
          simp only [inr_i64, Int.reduceLE, Int.reduceNeg, aops, astep, awant, aeff, aop, abin, aint, ev, ofValue, St.put, zg1, zg0, zgd, zmo, if_true, zs1, zs0, and_self, nat_succ hbig]
          with_reducible refine hR _ ?_
          clear hR R
          show ∃ m, m < _ ∧ _
          have hh := hall3.out
          rw [List.take_of_length_le (by omega)] at hh
          exact ⟨p.procs.length - (i + 1), by omega, i + 1, _, rfl, by omega, rfl, Lib.hid (all_yes procB p.procs i hlt hall.out (by simp only [procB, h1, h2, hh, h4, Bool.not_false, Bool.and_true]))⟩
        case false =>
         refine X_rg fun R hR => ?_
         simp only [EVP, inr_i64, Int.reduceLE, Int.reduceNeg, app_get0, aops, astep, awant, aeff, aop, abin, aint, mkD, ev, ofValue, St.put, pcall, D.isAgg, zmc, zmn, zg1, zg0, zgd, zmo, zbs, if_true, zs1, zs0, zlm, zlc, zln, zd1, zd0, zt1, zt0, zca, zna, Nat.reduceAdd, Nat.reduceLeDiff, Nat.zero_add, Nat.add_zero, Bool.not_true, Bool.not_false, zft, if_false, and_self, reduceCtorEq, beq_self_eq_true, ty_string, ty_api_Proc, ty_api_Node, ty_s_api_VarDecl, und_api_VarDecl, any_9, any_11, fnm, h1, h2, fbo, h4]
         with_reducible refine hR _ ?_
         clear hR R
         show X _ _ _ _
         refine X_true (by simp only [ev, zg1, zg0, zgd]) ?_
         refine X_seq ?_
         refine X_rg fun R hR => ?_
         simp only [aops, astep, awant, aeff, aop, ev, ofValue, St.put, zgd, zmo, if_true, zs1, zs0]
         with_reducible refine hR _ ?_
         clear hR R
         show X _ _ _ _
         refine X_ret ?_
         show resD _ _ _ = some _
         simp only [resD, resAll, resOne, resTup, Try.results57, zg1, zg0, D.good, if_true, zmo]
         refine congrArg (fun b => some (D.bool b)) ?_
         rw [val_p (all_no procB p.procs i hlt (by simp only [procB, h4, Bool.and_false]))]
      case false =>
       refine X_rg fun R hR => ?_
       simp only [EVP, inr_i64, Int.reduceLE, Int.reduceNeg, app_get0, aops, astep, awant, aeff, aop, abin, mkD, ev, ofValue, St.put, pcall, D.isAgg, zmc, zmn, zg1, zg0, zgd, zmo, Option.map_none, zbs, if_true, zs1, zs0, zlc, zln, zd0, zt1, zt0, zca, zna, Nat.reduceAdd, Nat.reduceLeDiff, Nat.zero_add, Nat.add_zero, Bool.not_false, zft, if_false, and_self, reduceCtorEq, ty_string, ty_api_Proc, ty_api_Node, ty_s_api_VarDecl, und_api_VarDecl, any_9, any_11, bq_tf, fnm, h1]
       with_reducible refine hR _ ?_
       clear hR R
       show X _ _ _ _
       refine X_true (by simp only [ev, zg1, zg0, zgd]) ?_
       refine X_seq ?_
       refine X_rg fun R hR => ?_
       simp only [aops, astep, awant, aeff, aop, ev, ofValue, St.put, zgd, zmo, if_true, zs1, zs0]
       with_reducible refine hR _ ?_
       clear hR R
       show X _ _ _ _
       refine X_ret ?_
       show resD _ _ _ = some _
       simp only [resD, resAll, resOne, resTup, Try.results57, zg1, zg0, D.good, if_true, zmo]
       refine congrArg (fun b => some (D.bool b)) ?_
       rw [val_p (all_no procB p.procs i hlt (by simp only [procB, h1, Bool.false_and]))]
     ·skip
      refine X_rg fun R hR => ?_
      simp only [EVP, nat_lt, aops, astep, awant, aeff, aop, abin, aint, mkD, ev, St.put, D.isAgg, zg1, zg0, zgd, zmo, if_true, zs1, zs0, zlm, zlc, zln, zd1, zd0, zt1, zt0, Nat.reduceAdd, Nat.reduceLeDiff, Nat.zero_add, zft, if_false, reduceCtorEq, ty_api_Program, ty_s_api_Proc, und_api_Proc]
      with_reducible refine hR _ ?_
      clear hR R
      show X _ _ _ _
      refine X_false (by simp only [ev, zg1, zg0, zgd, decide_false, hlt]) ?_
      refine X_exit ?_
      show X _ _ _ _
      refine X_seq ?_
      refine X_rg fun R hR => ?_
      simp only [aops, astep, awant, aeff, aop, ev, ofValue, St.put, zgd, zmo, if_true, zs1, zs0]
      with_reducible refine hR _ ?_
      clear hR R
      show X _ _ _ _
      refine X_ret ?_
      show resD _ _ _ = some _
      simp only [resD, resAll, resOne, resTup, Try.results57, zg1, zg0, D.good, if_true, zmo]
      refine congrArg (fun b => some (D.bool b)) ?_
      have hh := hall.out
      rw [List.take_of_length_le (by omega)] at hh
      rw [val_y hc1 hc2 hav hh, hc3]
   case false =>
    refine X_rg fun R hR => ?_
    simp only [EVP, inr_i64, Int.reduceLE, Int.reduceNeg, aops, astep, awant, aeff, aop, abin, aint, mkD, ev, ofValue, St.put, pcall, D.isAgg, zmc, zmn, zg1, zg0, zgd, zmo, zbs, if_true, zs1, zs0, zlm, zlc, zln, zd1, zd0, zt1, zt0, zca, zna, Nat.reduceAdd, Nat.reduceLeDiff, Nat.zero_add, Nat.add_zero, Bool.not_false, zft, if_false, and_self, reduceCtorEq, beq_self_eq_true, ty_api_Program, ty_api_Node, ty_s_api_VarDecl, ty_s_api_Proc, und_api_VarDecl, und_api_Proc, any_11, hc1, hc2, fmb, hc3]
    with_reducible refine hR _ ?_
    clear hR R
    show X _ _ _ _
    refine X_true (by simp only [ev, zg1, zg0, zgd]) ?_
    refine X_seq ?_
    refine X_rg fun R hR => ?_
    simp only [aops, astep, awant, aeff, aop, ev, ofValue, St.put, zgd, zmo, if_true, zs1, zs0]
    with_reducible refine hR _ ?_
    clear hR R
    show X _ _ _ _
    refine X_ret ?_
    show resD _ _ _ = some _
    simp only [resD, resAll, resOne, resTup, Try.results57, zg1, zg0, D.good, if_true, zmo]
    refine congrArg (fun b => some (D.bool b)) ?_
    rw [val_m hc3]

end Go.Proofs.Ytlpgapmbajblmaa
