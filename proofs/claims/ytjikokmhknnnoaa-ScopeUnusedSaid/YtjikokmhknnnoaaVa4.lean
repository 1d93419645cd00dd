/- Valid: the programs, joined. -/
import Derived.Test.YtjikokmhknnnoaaVa3
namespace Go.Proofs.Ytjikokmhknnnoaa
open Go.RowKit

def procB (q : Pr) : Bool := nameB q.name && !decide ((q.params.length : Int) > 8) && q.params.all declB && bodyB q.body
def validB (p : Pg) : Bool := !decide ((p.vars.length : Int) > 32) && !decide ((p.procs.length : Int) > 64) && p.vars.all declB && p.procs.all procB && bodyB p.main
theorem val_1 {p : Pg} (h : decide ((p.vars.length : Int) > 32) = true) : validB p = false := by simp only [validB, h, Bool.not_true, Bool.false_and]
theorem val_2 {p : Pg} (h : decide ((p.procs.length : Int) > 64) = true) : validB p = false := by simp only [validB, h, Bool.not_true, Bool.false_and, Bool.and_false]
theorem val_v {p : Pg} (h : p.vars.all declB = false) : validB p = false := by simp only [validB, h, Bool.false_and, Bool.and_false]
theorem val_p {p : Pg} (h : p.procs.all procB = false) : validB p = false := by simp only [validB, h, Bool.false_and, Bool.and_false]
theorem val_y {p : Pg} (h1 : decide ((p.vars.length : Int) > 32) = false) (h2 : decide ((p.procs.length : Int) > 64) = false) (h3 : p.vars.all declB = true) (h4 : p.procs.all procB = true) : validB p = bodyB p.main := by simp only [validB, h1, h2, h3, h4, Bool.not_false, Bool.true_and]
theorem small {p : Pg} (h : bigP p = false) : p.vars.length ≤ 40 ∧ p.procs.length ≤ 70 ∧ bigB p.main = false ∧ ∀ q ∈ p.procs, q.params.length ≤ 10 ∧ bigB q.body = false := by
 simp only [bigP, zof, decide_eq_false_iff_not, List.any_eq_false, bigQ, Bool.or_eq_true, not_or, decide_eq_true_eq, Bool.not_eq_true] at h
 obtain ⟨⟨⟨h1, h2⟩, h3⟩, h4⟩ := h
 refine ⟨by omega, by omega, h3, fun q hq => ?_⟩
 obtain ⟨a, b⟩ := h4 q hq
 exact ⟨by omega, b⟩
theorem isBody_f (t : Tr) : fn EV 43 [.agg [.int .u8 t.kind, .int .i64 t.num, .str t.name, .slice .imm (if (t.kids.map dN).isEmpty = true then 0 else 4) (t.kids.map dN)]] = some (.bool (bodyB t)) := by have := isBody_fn t; rw [dN_eq] at this; exact this
theorem declared_f (l : List Vd) (h : l.length ≤ 4000000) : fn EV 41 [.slice .imm (if (l.map dV).isEmpty = true then 0 else 3) (l.map dV)] = some (.bool (l.all declB)) := declared_fn l (by omega)
set_option maxRecDepth 100000 in
set_option maxHeartbeats 4000000 in
theorem valid_fn (p : Pg) : fn EV 17 [dG p] = some (.bool (validB p)) := by
 refine fn_X rfl Try.func17 rfl ?_ rfl rfl rfl ?_
 ·simp [plain, dG_under]; rfl
 simp only [zmc, zmn, dG_strip]
 simp only [enterSt, Try.ntmps17, zlc, zln, Nat.reduceAdd, Nat.reduceSub, zr1, zr0, zca, zna]
 refine X_seq ?_
 refine X_rg fun R hR => ?_
 simp only [aops, astep, awant, aeff, aop, ev, ofValue, St.put, D.cells, D.good, zg0, zgd, zmo, if_true, zs1, zs0, zln, zna, sl, dG]
 with_reducible refine hR _ ?_
 clear hR R
 show X _ _ _ _
 refine X_seq ?_
 refine X_seq ?_
 have fva : decide ((p.vars.length : Int) > 32) = false → _ := fun h => declared_f p.vars (by simp at h; omega)
 cases hc1 : (decide ((p.vars.length : Int) > 32) : Bool)
 case true =>
  refine X_rg fun R hR => ?_
  simp only [EVP, inr_i64, Int.reduceLE, Int.reduceNeg, aops, astep, awant, aeff, aop, abin, aint, mkD, ev, ofValue, St.put, pcall, D.isAgg, zmc, zmn, zg1, zg0, zgd, zmo, Option.map_none, zbs, if_true, zs1, zs0, zlm, zlc, zln, zd0, zt1, zt0, zca, zna, Nat.reduceAdd, Nat.reduceLeDiff, Nat.zero_add, Nat.add_zero, zft, if_false, and_self, reduceCtorEq, ty_api_Program, ty_s_api_VarDecl, ty_s_api_Proc, und_api_VarDecl, und_api_Proc, any_6, bq_tf, hc1]
  with_reducible refine hR _ ?_
  clear hR R
  show X _ _ _ _
  refine X_true (by simp only [ev, zg1, zg0, zgd]) ?_
  refine X_seq ?_
  refine X_rg fun R hR => ?_
  simp only [aops, astep, awant, aeff, aop, ev, ofValue, St.put, zgd, zmo, if_true, zs1, zs0]
  with_reducible refine hR _ ?_
  clear hR R
  show X _ _ _ _
  refine X_ret ?_
  show resD _ _ _ = some _
  simp only [resD, resAll, resOne, resTup, Try.results17, zg1, zg0, D.good, if_true, zmo]
  refine congrArg (fun b => some (D.bool b)) ?_
  rw [val_1 hc1]
 case false =>
  cases hc2 : (decide ((p.procs.length : Int) > 64) : Bool)
  case true =>
   refine X_rg fun R hR => ?_
   simp only [EVP, inr_i64, Int.reduceLE, Int.reduceNeg, aops, astep, awant, aeff, aop, abin, aint, mkD, ev, ofValue, St.put, pcall, D.isAgg, zmc, zmn, zg1, zg0, zgd, zmo, Option.map_none, zbs, if_true, zs1, zs0, zlm, zlc, zln, zd1, zd0, zt1, zt0, zca, zna, Nat.reduceAdd, Nat.reduceLeDiff, Nat.zero_add, Nat.add_zero, zft, if_false, and_self, reduceCtorEq, beq_self_eq_true, ty_api_Program, ty_s_api_VarDecl, ty_s_api_Proc, und_api_VarDecl, und_api_Proc, any_6, bq_tf, hc1, hc2]
   with_reducible refine hR _ ?_
   clear hR R
   show X _ _ _ _
   refine X_true (by simp only [ev, zg1, zg0, zgd]) ?_
   refine X_seq ?_
   refine X_rg fun R hR => ?_
   simp only [aops, astep, awant, aeff, aop, ev, ofValue, St.put, zgd, zmo, if_true, zs1, zs0]
   with_reducible refine hR _ ?_
   clear hR R
   show X _ _ _ _
   refine X_ret ?_
   show resD _ _ _ = some _
   simp only [resD, resAll, resOne, resTup, Try.results17, zg1, zg0, D.good, if_true, zmo]
   refine congrArg (fun b => some (D.bool b)) ?_
   rw [val_2 hc2]
  case false =>
   cases hc3 : (p.vars.all declB : Bool)
   case true =>
    refine X_rg fun R hR => ?_
    simp only [EVP, inr_i64, Int.reduceLE, Int.reduceNeg, aops, astep, awant, aeff, aop, abin, aint, mkD, ev, ofValue, St.put, pcall, D.isAgg, zmc, zmn, zg1, zg0, zgd, zmo, zbs, if_true, zs1, zs0, zlm, zlc, zln, zd1, zd0, zt1, zt0, zca, zna, Nat.reduceAdd, Nat.reduceLeDiff, Nat.zero_add, Nat.add_zero, Bool.not_true, zft, if_false, and_self, reduceCtorEq, beq_self_eq_true, ty_api_Program, ty_s_api_VarDecl, ty_s_api_Proc, und_api_VarDecl, und_api_Proc, any_6, hc1, hc2, fva hc1, hc3]
    with_reducible refine hR _ ?_
    clear hR R
    show X _ _ _ _
    refine X_false (by simp only [ev, zg1, zg0, zgd]) ?_
    refine X_skip ?_
    show X _ _ _ _
    refine X_seq ?_
    refine X_seq ?_
    refine X_rg fun R hR => ?_
    simp only [EVP, inr_i64, Int.reduceLE, Int.reduceNeg, aops, astep, awant, aeff, aop, mkD, ev, ofValue, St.put, D.isAgg, zg1, zg0, zgd, zmo, if_true, zs1, zs0, zlm, zlc, zln, zd1, zd0, zt1, zt0, Nat.reduceAdd, Nat.reduceLeDiff, Nat.zero_add, zft, if_false, and_self, reduceCtorEq, ty_api_Program, ty_s_api_Proc, und_api_Proc]
    with_reducible refine hR _ ?_
    clear hR R
    show X _ _ _ _
    refine X_block ?_
    refine X_loop (fun n σ => ∃ (i : Nat) (r : List (List D)) (x0 x2 x3 x4 x5 x6 x7 x8 x9 x10 x11 x12 x13 x14 x15 x16 x17 x18 x19 x20 x21 x25 x26 x27 x28 x29 x30 x31 x32 x33 x34 x35 x36 x37 x38 x39 x40 x41 x42 x43 x44 x45 x46 x47 x48 x49 x50 x51 x52 x53 : D), σ = ⟨[x0, .ptr 0 0, x2, x3, x4, x5, x6, x7, x8, x9, x10, x11, x12, x13, x14, x15, x16, x17, x18, x19, x20, x21, .slice .imm (if (p.procs.map dP).isEmpty = true then 0 else 6) (p.procs.map dP), .int .i64 p.procs.length, .int .i64 i, x25, x26, x27, x28, x29, x30, x31, x32, x33, x34, x35, x36, x37, x38, x39, x40, x41, x42, x43, x44, x45, x46, x47, x48, x49, x50, x51, x52, x53], [.slice .imm (if (p.vars.map dV).isEmpty = true then 0 else 3) (p.vars.map dV), .slice .imm (if (p.procs.map dP).isEmpty = true then 0 else 6) (p.procs.map dP), .int .u8 p.main.kind, .int .i64 p.main.num, .str p.main.name, .slice .imm (if (p.main.kids.map dN).isEmpty = true then 0 else 4) (p.main.kids.map dN)] :: r, 0, []⟩ ∧ i ≤ p.procs.length ∧ n = p.procs.length - i ∧ Hid ((p.procs.take i).all procB = true)) ?_ (p.procs.length) _ ?_
    rotate_left
    ·exact ⟨0, [], _, _, _, _, _, _, _, _, _, _, _, _, _, _, _, _, _, _, _, _, _, _, _, _, _, _, _, _, _, _, _, _, _, _, _, _, _, _, _, _, _, _, _, _, _, _, _, _, _, _, rfl, Nat.zero_le _, rfl, Lib.hid (by simp)⟩
    rintro n _ ⟨i, r, x0, x2, x3, x4, x5, x6, x7, x8, x9, x10, x11, x12, x13, x14, x15, x16, x17, x18, x19, x20, x21, x25, x26, x27, x28, x29, x30, x31, x32, x33, x34, x35, x36, x37, x38, x39, x40, x41, x42, x43, x44, x45, x46, x47, x48, x49, x50, x51, x52, x53, rfl, hi, rfl, hall⟩
    refine X_seq ?_
    by_cases hlt : i < p.procs.length
    ·skip
     have hn : ((if (p.procs.map dP).isEmpty = true then 0 else 6) = 6) = True := eq_true (sl_n (j := i) (by simpa using hlt))
     have e1 : (p.procs.map dP)[i]? = some (dP p.procs[i]) := by simp [hlt]
     have hbig : i < 9223372036854775807 := by have h := hc2; simp at h; omega
     have fnm : fn EV 42 [.str p.procs[i].name] = some (.bool (nameB p.procs[i].name)) := fn_orc EV rfl rfl
     have fpa : decide ((p.procs[i].params.length : Int) > 8) = false → _ := fun h => declared_f p.procs[i].params (by simp at h; omega)
     have fbo := isBody_f p.procs[i].body
     refine X_rg fun R hR => ?_
     simp only [nat_lt, aops, astep, awant, aeff, aop, abin, aint, ev, St.put, zg1, zg0, zgd, zmo, if_true, zs1, zs0]
     with_reducible refine hR _ ?_
     clear hR R
     show X _ _ _ _
     refine X_seq ?_
     refine X_true (by simp only [ev, zg1, zg0, zgd, decide_true, hlt]) ?_
     refine X_skip ?_
     show X _ _ _ _
     refine X_seq ?_
     refine X_block ?_
     refine X_seq ?_
     refine X_rg fun R hR => ?_
     simp only [EVP, app_get0, app_set0, nat_lt, nat_0, nat_to, aops, astep, awant, aeff, aop, astore, ev, St.put, D.cells, D.good, D.isAgg, zg1, zg0, zgd, zmo, zbs, if_true, zs1, zs0, zlm, zlc, zln, zd1, zd0, zt0, zca, zna, Nat.reduceAdd, Nat.reduceLeDiff, Nat.zero_add, and_self, decide_true, ty_api_Proc, und_api_Proc, siz_api_Proc, has_api_Proc, sl, dP, hlt, hn, e1]
     with_reducible refine hR _ ?_
     clear hR R
     show X _ _ _ _
     refine X_seq ?_
     cases h1 : (nameB p.procs[i].name : Bool)
     case true =>
      cases h2 : (decide ((p.procs[i].params.length : Int) > 8) : Bool)
      case true =>
       refine X_rg fun R hR => ?_
       simp only [EVP, inr_i64, Int.reduceLE, Int.reduceNeg, app_get0, aops, astep, awant, aeff, aop, abin, aint, mkD, ev, ofValue, St.put, pcall, D.isAgg, zmc, zmn, zg1, zg0, zgd, zmo, Option.map_none, zbs, if_true, zs1, zs0, zlm, zlc, zln, zd1, zd0, zt1, zt0, zca, zna, Nat.reduceAdd, Nat.reduceLeDiff, Nat.zero_add, Nat.add_zero, Bool.not_true, zft, if_false, and_self, reduceCtorEq, beq_self_eq_true, ty_string, ty_api_Proc, ty_api_Node, ty_s_api_VarDecl, und_api_VarDecl, any_6, any_8, any_10, bq_tf, fnm, h1, h2]
       with_reducible refine hR _ ?_
       clear hR R
       show X _ _ _ _
       refine X_true (by simp only [ev, zg1, zg0, zgd]) ?_
       refine X_seq ?_
       refine X_rg fun R hR => ?_
       simp only [aops, astep, awant, aeff, aop, ev, ofValue, St.put, zgd, zmo, if_true, zs1, zs0]
       with_reducible refine hR _ ?_
       clear hR R
       show X _ _ _ _
       refine X_ret ?_
       show resD _ _ _ = some _
       simp only [resD, resAll, resOne, resTup, Try.results17, zg1, zg0, D.good, if_true, zmo]
       refine congrArg (fun b => some (D.bool b)) ?_
       rw [val_p (all_no procB p.procs i hlt (by simp only [procB, h2, Bool.not_true, Bool.false_and, Bool.and_false]))]
      case false =>
       cases h3 : (p.procs[i].params.all declB : Bool)
       case true =>
        cases h4 : (bodyB p.procs[i].body : Bool)
        case true =>
         refine X_rg fun R hR => ?_
         simp only [EVP, inr_i64, Int.reduceLE, Int.reduceNeg, app_get0, aops, astep, awant, aeff, aop, abin, aint, mkD, ev, ofValue, St.put, pcall, D.isAgg, zmc, zmn, zg1, zg0, zgd, zmo, zbs, if_true, zs1, zs0, zlm, zlc, zln, zd1, zd0, zt1, zt0, zca, zna, Nat.reduceAdd, Nat.reduceLeDiff, Nat.zero_add, Nat.add_zero, Bool.not_true, zft, if_false, and_self, reduceCtorEq, beq_self_eq_true, ty_string, ty_api_Proc, ty_api_Node, ty_s_api_VarDecl, und_api_VarDecl, any_6, any_8, any_10, fnm, h1, h2, fpa h2, h3, fbo, h4]
         with_reducible refine hR _ ?_
         clear hR R
         show X _ _ _ _
         refine X_false (by simp only [ev, zg1, zg0, zgd]) ?_
         refine X_skip ?_
         show X _ _ _ _
         refine X_rg fun R hR => ?_
         simp only [inr_i64, Int.reduceLE, Int.reduceNeg, aops, astep, awant, aeff, aop, abin, aint, ev, ofValue, St.put, zg1, zg0, zgd, zmo, if_true, zs1, zs0, and_self, nat_succ hbig]
         with_reducible refine hR _ ?_
         clear hR R
         show ∃ m, m < _ ∧ _
         exact ⟨p.procs.length - (i + 1), by omega, i + 1, _, _, _, _, _, _, _, _, _, _, _, _, _, _, _, _, _, _, _, _, _, _, _, _, _, _, _, _, _, _, _, _, _, _, _, _, _, _, _, _, _, _, _, _, _, _, _, _, _, _, _, rfl, by omega, rfl, Lib.hid (all_yes procB p.procs i hlt hall.out (by simp only [procB, h1, h2, h3, h4, Bool.not_false, Bool.and_true]))⟩
        case false =>
         refine X_rg fun R hR => ?_
         simp only [EVP, inr_i64, Int.reduceLE, Int.reduceNeg, app_get0, aops, astep, awant, aeff, aop, abin, aint, mkD, ev, ofValue, St.put, pcall, D.isAgg, zmc, zmn, zg1, zg0, zgd, zmo, zbs, if_true, zs1, zs0, zlm, zlc, zln, zd1, zd0, zt1, zt0, zca, zna, Nat.reduceAdd, Nat.reduceLeDiff, Nat.zero_add, Nat.add_zero, Bool.not_true, Bool.not_false, zft, if_false, and_self, reduceCtorEq, beq_self_eq_true, ty_string, ty_api_Proc, ty_api_Node, ty_s_api_VarDecl, und_api_VarDecl, any_6, any_8, any_10, fnm, h1, h2, fpa h2, h3, fbo, h4]
         with_reducible refine hR _ ?_
         clear hR R
         show X _ _ _ _
         refine X_true (by simp only [ev, zg1, zg0, zgd]) ?_
         refine X_seq ?_
         refine X_rg fun R hR => ?_
         simp only [aops, astep, awant, aeff, aop, ev, ofValue, St.put, zgd, zmo, if_true, zs1, zs0]
         with_reducible refine hR _ ?_
         clear hR R
         show X _ _ _ _
         refine X_ret ?_
         show resD _ _ _ = some _
         simp only [resD, resAll, resOne, resTup, Try.results17, zg1, zg0, D.good, if_true, zmo]
         refine congrArg (fun b => some (D.bool b)) ?_
         rw [val_p (all_no procB p.procs i hlt (by simp only [procB, h4, Bool.and_false]))]
       case false =>
        refine X_rg fun R hR => ?_
        simp only [EVP, inr_i64, Int.reduceLE, Int.reduceNeg, app_get0, aops, astep, awant, aeff, aop, abin, aint, mkD, ev, ofValue, St.put, pcall, D.isAgg, zmc, zmn, zg1, zg0, zgd, zmo, Option.map_none, zbs, if_true, zs1, zs0, zlm, zlc, zln, zd1, zd0, zt1, zt0, zca, zna, Nat.reduceAdd, Nat.reduceLeDiff, Nat.zero_add, Nat.add_zero, Bool.not_true, Bool.not_false, zft, if_false, and_self, reduceCtorEq, beq_self_eq_true, ty_string, ty_api_Proc, ty_api_Node, ty_s_api_VarDecl, und_api_VarDecl, any_6, any_8, any_10, bq_tf, fnm, h1, h2, fpa h2, h3]
        with_reducible refine hR _ ?_
        clear hR R
        show X _ _ _ _
        refine X_true (by simp only [ev, zg1, zg0, zgd]) ?_
        refine X_seq ?_
        refine X_rg fun R hR => ?_
        simp only [aops, astep, awant, aeff, aop, ev, ofValue, St.put, zgd, zmo, if_true, zs1, zs0]
        with_reducible refine hR _ ?_
        clear hR R
        show X _ _ _ _
        refine X_ret ?_
        show resD _ _ _ = some _
        simp only [resD, resAll, resOne, resTup, Try.results17, zg1, zg0, D.good, if_true, zmo]
        refine congrArg (fun b => some (D.bool b)) ?_
        rw [val_p (all_no procB p.procs i hlt (by simp only [procB, h3, Bool.false_and, Bool.and_false]))]
     case false =>
      refine X_rg fun R hR => ?_
      simp only [EVP, inr_i64, Int.reduceLE, Int.reduceNeg, app_get0, aops, astep, awant, aeff, aop, abin, mkD, ev, ofValue, St.put, pcall, D.isAgg, zmc, zmn, zg1, zg0, zgd, zmo, Option.map_none, zbs, if_true, zs1, zs0, zlc, zln, zd0, zt1, zt0, zca, zna, Nat.reduceAdd, Nat.reduceLeDiff, Nat.zero_add, Nat.add_zero, Bool.not_false, zft, if_false, and_self, reduceCtorEq, ty_string, ty_api_Proc, ty_api_Node, ty_s_api_VarDecl, und_api_VarDecl, any_6, any_8, any_10, bq_tf, fnm, h1]
      with_reducible refine hR _ ?_
      clear hR R
      show X _ _ _ _
      refine X_true (by simp only [ev, zg1, zg0, zgd]) ?_
      refine X_seq ?_
      refine X_rg fun R hR => ?_
      simp only [aops, astep, awant, aeff, aop, ev, ofValue, St.put, zgd, zmo, if_true, zs1, zs0]
      with_reducible refine hR _ ?_
      clear hR R
      show X _ _ _ _
      refine X_ret ?_
      show resD _ _ _ = some _
      simp only [resD, resAll, resOne, resTup, Try.results17, zg1, zg0, D.good, if_true, zmo]
      refine congrArg (fun b => some (D.bool b)) ?_
      rw [val_p (all_no procB p.procs i hlt (by simp only [procB, h1, Bool.false_and]))]
    ·skip
     refine X_rg fun R hR => ?_
     simp only [nat_lt, aops, astep, awant, aeff, aop, abin, aint, ev, St.put, zg1, zg0, zgd, zmo, if_true, zs1, zs0]
     with_reducible refine hR _ ?_
     clear hR R
     show X _ _ _ _
     refine X_seq ?_
     refine X_false (by simp only [ev, zg1, zg0, zgd, decide_false, hlt]) ?_
     refine X_exit ?_
     show X _ _ _ _
     refine X_seq ?_
     have fmb := isBody_f p.main
     refine X_rg fun R hR => ?_
     simp only [EVP, aops, astep, awant, aeff, aop, mkD, ev, St.put, pcall, zmc, zmn, zg1, zg0, zgd, zmo, if_true, zs1, zs0, zlc, zln, zd1, zd0, zt1, zt0, zca, zna, Nat.reduceAdd, Nat.reduceLeDiff, Nat.zero_add, if_false, reduceCtorEq, ty_api_Program, ty_api_Node, any_10, fmb]
     with_reducible refine hR _ ?_
     clear hR R
     show X _ _ _ _
     refine X_ret ?_
     show resD _ _ _ = some _
     simp only [resD, resAll, resOne, resTup, Try.results17, zg1, zg0, D.good, if_true, zmo]
     refine congrArg (fun b => some (D.bool b)) ?_
     have hh := hall.out
     rw [List.take_of_length_le (by omega)] at hh
     rw [val_y hc1 hc2 hc3 hh]
   case false =>
    refine X_rg fun R hR => ?_
    simp only [EVP, inr_i64, Int.reduceLE, Int.reduceNeg, aops, astep, awant, aeff, aop, abin, aint, mkD, ev, ofValue, St.put, pcall, D.isAgg, zmc, zmn, zg1, zg0, zgd, zmo, zbs, if_true, zs1, zs0, zlm, zlc, zln, zd1, zd0, zt1, zt0, zca, zna, Nat.reduceAdd, Nat.reduceLeDiff, Nat.zero_add, Nat.add_zero, Bool.not_false, zft, if_false, and_self, reduceCtorEq, beq_self_eq_true, ty_api_Program, ty_s_api_VarDecl, ty_s_api_Proc, und_api_VarDecl, und_api_Proc, any_6, hc1, hc2, fva hc1, hc3]
    with_reducible refine hR _ ?_
    clear hR R
    show X _ _ _ _
    refine X_true (by simp only [ev, zg1, zg0, zgd]) ?_
    refine X_seq ?_
    refine X_rg fun R hR => ?_
    simp only [aops, astep, awant, aeff, aop, ev, ofValue, St.put, zgd, zmo, if_true, zs1, zs0]
    with_reducible refine hR _ ?_
    clear hR R
    show X _ _ _ _
    refine X_ret ?_
    show resD _ _ _ = some _
    simp only [resD, resAll, resOne, resTup, Try.results17, zg1, zg0, D.good, if_true, zmo]
    refine congrArg (fun b => some (D.bool b)) ?_
    rw [val_v hc3]

end Go.Proofs.Ytjikokmhknnnoaa
