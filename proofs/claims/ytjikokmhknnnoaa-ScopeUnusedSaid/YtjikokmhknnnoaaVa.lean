/- Valid: over data. -/
import Derived.Test.YtjikokmhknnnoaaEnv
namespace Go.Proofs.Ytjikokmhknnnoaa
open Go.RowKit

def declB (v : Vd) : Bool := nameB v.name && (if v.kind == 1 || v.kind == 3 then v.len == 0 else if v.kind == 2 then !decide (v.len < 1) && !decide (v.len > 16) else false)
theorem all_no {α : Type} (p : α → Bool) (l : List α) (i : Nat) (h : i < l.length) (hp : p l[i] = false) : l.all p = false := by
 rw [List.all_eq_false]; exact ⟨l[i], List.getElem_mem h, by simp [hp]⟩
theorem all_yes {α : Type} (p : α → Bool) (l : List α) (i : Nat) (h : i < l.length) (h1 : (l.take i).all p = true) (hp : p l[i] = true) : (l.take (i + 1)).all p = true := by
 rw [Tr.take_snoc l i h, List.all_append, h1]; simp [hp]

def bigQ (q : Pr) : Bool := decide ((q.params.length : Int) > 10) || bigB q.body
def bigP (p : Pg) : Bool := decide ((p.vars.length : Int) > 40) || decide ((p.procs.length : Int) > 70) || bigB p.main || p.procs.any bigQ
set_option maxRecDepth 100000 in
set_option maxHeartbeats 4000000 in
theorem declared_fn (l : List Vd) (hll : l.length ≤ 4611686018427387904) : fn EV 41 [sl 3 (l.map dV)] = some (.bool (l.all declB)) := by
 refine fn_X rfl Try.func41 rfl ?_ rfl rfl rfl ?_
 ·simp [plain, sl, D.good, D.under, D.unders_all, dV]
 simp only [zmc, zmn, slV_strip]
 simp only [enterSt, Try.ntmps41, zlc, zln, Nat.reduceAdd, Nat.reduceSub, zr1, zr0, zca, zna]
 refine X_seq ?_
 refine X_rg fun R hR => ?_
 simp only [aops, astep, awant, aeff, aop, ev, ofValue, St.put, zgd, zmo, if_true, zs1, zs0, sl]
 refine hR _ ?_
 clear hR R
 show X _ _ _ _
 refine X_seq ?_
 refine X_seq ?_
 refine X_rg fun R hR => ?_
 simp only [EVP, inr_i64, Int.reduceLE, Int.reduceNeg, aops, astep, awant, aeff, aop, ev, ofValue, St.put, zg1, zg0, zgd, zmo, if_true, zs1, zs0, zlm, and_self, und_api_VarDecl]
 refine hR _ ?_
 clear hR R
 show X _ _ _ _
 refine X_block ?_
 refine X_loop (fun n σ => ∃ (i : Nat) (r : List (List D)) (x0 x1 x2 x3 x4 x8 x9 x10 x11 x12 x13 x14 x15 x16 x17 x18 x19 x20 x21 x22 x23 x24 x25 x26 x27 x28 x29 x30 x31 x32 x33 : D), σ = ⟨[x0, x1, x2, x3, x4, .slice .imm (if (l.map dV).isEmpty then 0 else 3) (l.map dV), .int .i64 l.length, .int .i64 i, x8, x9, x10, x11, x12, x13, x14, x15, x16, x17, x18, x19, x20, x21, x22, x23, x24, x25, x26, x27, x28, x29, x30, x31, x32, x33], r, 0, []⟩ ∧ i ≤ l.length ∧ n = l.length - i ∧ Hid ((l.take i).all declB = true)) ?_ (l.length) _ ?_
 rotate_left
 ·exact ⟨0, _, _, _, _, _, _, _, _, _, _, _, _, _, _, _, _, _, _, _, _, _, _, _, _, _, _, _, _, _, _, _, _, rfl, Nat.zero_le _, rfl, Lib.hid (by simp)⟩
 rintro n _ ⟨i, r, x0, x1, x2, x3, x4, x8, x9, x10, x11, x12, x13, x14, x15, x16, x17, x18, x19, x20, x21, x22, x23, x24, x25, x26, x27, x28, x29, x30, x31, x32, x33, rfl, hi, rfl, hall⟩
 refine X_seq ?_
 by_cases hlt : i < l.length
 ·skip
  have hn : ((if (List.map dV l).isEmpty = true then 0 else 3) = 3) = True := eq_true (sl_n (j := i) (by simpa using hlt))
  have e1 : (List.map dV l)[i]? = some (.agg [.str l[i].name, .int .u8 l[i].kind, .int .i64 l[i].len]) := by simp [hlt, dV]
  have hbig : i < 9223372036854775807 := by omega
  have fnm : fn EV 42 [.str l[i].name] = some (.bool (nameB l[i].name)) := fn_orc EV rfl rfl
  refine X_rg fun R hR => ?_
  simp only [nat_lt, aops, astep, awant, aeff, aop, abin, aint, ev, St.put, zg1, zg0, zgd, zmo, if_true, zs1, zs0]
  refine hR _ ?_
  clear hR R
  show X _ _ _ _
  refine X_seq ?_
  refine X_true (by simp only [ev, zg1, zg0, zgd, decide_true, hlt]) ?_
  refine X_skip ?_
  show X _ _ _ _
  refine X_seq ?_
  refine X_block ?_
  refine X_seq ?_
  refine X_rg fun R hR => ?_
  simp only [EVP, app_get0, app_set0, nat_lt, nat_0, nat_to, aops, astep, awant, aeff, aop, astore, ev, St.put, D.cells, D.good, D.isAgg, zg1, zg0, zgd, zmo, zbs, if_true, zs1, zs0, zlm, zlc, zln, zd1, zd0, zt0, zca, zna, Nat.reduceAdd, Nat.reduceLeDiff, Nat.zero_add, and_self, decide_true, ty_api_VarDecl, und_api_VarDecl, siz_api_VarDecl, has_api_VarDecl, hlt, hn, e1]
  refine hR _ ?_
  clear hR R
  show X _ _ _ _
  refine X_seq ?_
  refine X_seq ?_
  cases hnm : (nameB l[i].name : Bool)
  case true =>
   refine X_rg fun R hR => ?_
   simp only [EVP, app_get0, aops, astep, awant, aeff, aop, mkD, ev, St.put, pcall, D.isAgg, zmc, zmn, zg1, zg0, zgd, zmo, if_true, zs1, zs0, zlc, zln, zd0, zt1, zt0, zca, zna, Nat.reduceAdd, Nat.reduceLeDiff, Nat.zero_add, Nat.add_zero, zft, if_false, reduceCtorEq, ty_string, ty_api_VarDecl, fnm, hnm]
   refine hR _ ?_
   clear hR R
   show X _ _ _ _
   refine X_false (by simp only [ev, zs1, zs0, zg1, zg0, zgd, Bool.not_true]) ?_
   refine X_skip ?_
   show X _ _ _ _
   refine X_seq ?_
   refine X_rg fun R hR => ?_
   simp only [EVP, app_get0, aops, astep, awant, aeff, aop, mkD, ev, St.put, D.isAgg, zg1, zg0, zgd, zmo, if_true, zs1, zs0, zlc, zln, zd1, zd0, zt1, zt0, Nat.reduceAdd, Nat.reduceLeDiff, Nat.zero_add, Bool.not_true, zft, if_false, reduceCtorEq, ty_uint8, ty_api_VarDecl]
   refine hR _ ?_
   clear hR R
   show X _ _ _ _
   refine X_block ?_
   refine X_seq ?_
   refine X_seq ?_
   cases hk1 : (l[i].kind == 1 : Bool)
   case true =>
    refine X_rg fun R hR => ?_
    simp only [inr_u8, Int.reduceLE, aops, astep, awant, aeff, aop, abin, aint, ev, ofValue, St.put, zg1, zg0, zgd, zmo, if_true, zs1, zs0, and_self, hk1]
    refine hR _ ?_
    clear hR R
    show X _ _ _ _
    refine X_true (by simp only [ev, zg1, zg0, zgd]) ?_
    refine X_skip ?_
    show X _ _ _ _
    refine X_true (by simp only [ev, zg1, zg0, zgd]) ?_
    refine X_seq ?_
    cases hl0 : (l[i].len != 0 : Bool)
    case true =>
     refine X_rg fun R hR => ?_
     simp only [EVP, inr_i64, Int.reduceLE, Int.reduceNeg, app_get0, aops, astep, awant, aeff, aop, abin, aint, mkD, ev, ofValue, St.put, D.isAgg, zg1, zg0, zgd, zmo, if_true, zs1, zs0, zlc, zln, zd1, zd0, zt1, zt0, Nat.reduceAdd, Nat.reduceLeDiff, Nat.zero_add, zft, if_false, and_self, reduceCtorEq, ty_int, ty_api_VarDecl, hl0]
     refine hR _ ?_
     clear hR R
     show X _ _ _ _
     refine X_true (by simp only [ev, zg1, zg0, zgd]) ?_
     refine X_seq ?_
     refine X_rg fun R hR => ?_
     simp only [aops, astep, awant, aeff, aop, ev, ofValue, St.put, zgd, zmo, if_true, zs1, zs0]
     refine hR _ ?_
     clear hR R
     show X _ _ _ _
     refine X_ret ?_
     show resD _ _ _ = some _
     simp only [resD, resAll, resOne, resTup, Try.results41, zg1, zg0, D.good, if_true, zmo]
     rw [all_no declB l i hlt (by simp at hl0; simp [declB, hnm, hk1, hl0])]
    case false =>
     refine X_rg fun R hR => ?_
     simp only [EVP, inr_i64, Int.reduceLE, Int.reduceNeg, app_get0, aops, astep, awant, aeff, aop, abin, aint, mkD, ev, ofValue, St.put, D.isAgg, zg1, zg0, zgd, zmo, if_true, zs1, zs0, zlc, zln, zd1, zd0, zt1, zt0, Nat.reduceAdd, Nat.reduceLeDiff, Nat.zero_add, zft, if_false, and_self, reduceCtorEq, ty_int, ty_api_VarDecl, hl0]
     refine hR _ ?_
     clear hR R
     show X _ _ _ _
     refine X_false (by simp only [ev, zg1, zg0, zgd]) ?_
     refine X_skip ?_
     show X _ _ _ _
     refine X_rg fun R hR => ?_
     simp only [inr_i64, Int.reduceLE, Int.reduceNeg, aops, astep, awant, aeff, aop, abin, aint, ev, ofValue, St.put, zg1, zg0, zgd, zmo, if_true, zs1, zs0, and_self, nat_succ hbig]
     refine hR _ ?_
     clear hR R
     show ∃ m, m < _ ∧ _
     exact ⟨l.length - (i + 1), by omega, i + 1, _, _, _, _, _, _, _, _, _, _, _, _, _, _, _, _, _, _, _, _, _, _, _, _, _, _, _, _, _, _, _, _, rfl, by omega, rfl, Lib.hid (all_yes declB l i hlt hall.out (by simp at hl0; simp [declB, hnm, hk1, hl0]))⟩
   case false =>
    refine X_rg fun R hR => ?_
    simp only [inr_u8, Int.reduceLE, aops, astep, awant, aeff, aop, abin, aint, ev, ofValue, St.put, zg1, zg0, zgd, zmo, if_true, zs1, zs0, and_self, hk1]
    refine hR _ ?_
    clear hR R
    show X _ _ _ _
    refine X_false (by simp only [ev, zg1, zg0, zgd]) ?_
    cases hk3 : (l[i].kind == 3 : Bool)
    case true =>
     refine X_rg fun R hR => ?_
     simp only [inr_u8, Int.reduceLE, aops, astep, awant, aeff, aop, abin, aint, ev, ofValue, St.put, zg1, zg0, zgd, zmo, if_true, zs1, zs0, and_self, hk3]
     refine hR _ ?_
     clear hR R
     show X _ _ _ _
     refine X_true (by simp only [ev, zg1, zg0, zgd]) ?_
     refine X_seq ?_
     cases hl0 : (l[i].len != 0 : Bool)
     case true =>
      refine X_rg fun R hR => ?_
      simp only [EVP, inr_i64, Int.reduceLE, Int.reduceNeg, app_get0, aops, astep, awant, aeff, aop, abin, aint, mkD, ev, ofValue, St.put, D.isAgg, zg1, zg0, zgd, zmo, if_true, zs1, zs0, zlc, zln, zd1, zd0, zt1, zt0, Nat.reduceAdd, Nat.reduceLeDiff, Nat.zero_add, zft, if_false, and_self, reduceCtorEq, ty_int, ty_api_VarDecl, hl0]
      refine hR _ ?_
      clear hR R
      show X _ _ _ _
      refine X_true (by simp only [ev, zg1, zg0, zgd]) ?_
      refine X_seq ?_
      refine X_rg fun R hR => ?_
      simp only [aops, astep, awant, aeff, aop, ev, ofValue, St.put, zgd, zmo, if_true, zs1, zs0]
      refine hR _ ?_
      clear hR R
      show X _ _ _ _
      refine X_ret ?_
      show resD _ _ _ = some _
      simp only [resD, resAll, resOne, resTup, Try.results41, zg1, zg0, D.good, if_true, zmo]
      rw [all_no declB l i hlt (by simp at hl0; simp [declB, hnm, hk1, hk3, hl0])]
     case false =>
      refine X_rg fun R hR => ?_
      simp only [EVP, inr_i64, Int.reduceLE, Int.reduceNeg, app_get0, aops, astep, awant, aeff, aop, abin, aint, mkD, ev, ofValue, St.put, D.isAgg, zg1, zg0, zgd, zmo, if_true, zs1, zs0, zlc, zln, zd1, zd0, zt1, zt0, Nat.reduceAdd, Nat.reduceLeDiff, Nat.zero_add, zft, if_false, and_self, reduceCtorEq, ty_int, ty_api_VarDecl, hl0]
      refine hR _ ?_
      clear hR R
      show X _ _ _ _
      refine X_false (by simp only [ev, zg1, zg0, zgd]) ?_
      refine X_skip ?_
      show X _ _ _ _
      refine X_rg fun R hR => ?_
      simp only [inr_i64, Int.reduceLE, Int.reduceNeg, aops, astep, awant, aeff, aop, abin, aint, ev, ofValue, St.put, zg1, zg0, zgd, zmo, if_true, zs1, zs0, and_self, nat_succ hbig]
      refine hR _ ?_
      clear hR R
      show ∃ m, m < _ ∧ _
      exact ⟨l.length - (i + 1), by omega, i + 1, _, _, _, _, _, _, _, _, _, _, _, _, _, _, _, _, _, _, _, _, _, _, _, _, _, _, _, _, _, _, _, _, rfl, by omega, rfl, Lib.hid (all_yes declB l i hlt hall.out (by simp at hl0; simp [declB, hnm, hk1, hk3, hl0]))⟩
    case false =>
     refine X_rg fun R hR => ?_
     simp only [inr_u8, Int.reduceLE, aops, astep, awant, aeff, aop, abin, aint, ev, ofValue, St.put, zg1, zg0, zgd, zmo, if_true, zs1, zs0, and_self, hk3]
     refine hR _ ?_
     clear hR R
     show X _ _ _ _
     refine X_false (by simp only [ev, zg1, zg0, zgd]) ?_
     refine X_seq ?_
     cases hk2 : (l[i].kind == 2 : Bool)
     case true =>
      refine X_rg fun R hR => ?_
      simp only [inr_u8, Int.reduceLE, aops, astep, awant, aeff, aop, abin, aint, ev, ofValue, St.put, zg1, zg0, zgd, zmo, if_true, zs1, zs0, and_self, hk2]
      refine hR _ ?_
      clear hR R
      show X _ _ _ _
      refine X_true (by simp only [ev, zg1, zg0, zgd]) ?_
      refine X_seq ?_
      cases hl1 : (decide (l[i].len < 1) : Bool)
      case true =>
       refine X_rg fun R hR => ?_
       simp only [EVP, inr_i64, Int.reduceLE, Int.reduceNeg, app_get0, aops, astep, awant, aeff, aop, abin, aint, astr, mkD, ev, ofValue, St.put, D.cells, D.isAgg, zg1, zg0, zgd, zmo, zbs, if_true, zs1, zs0, zlc, zln, zd1, zd0, zt1, zt0, Nat.reduceAdd, Nat.reduceLeDiff, Nat.zero_add, zft, if_false, and_self, reduceCtorEq, ty_int, ty_api_VarDecl, und_int', hl1]
       refine hR _ ?_
       clear hR R
       show X _ _ _ _
       refine X_true (by simp only [ev, zs1, zs0, zg1, zg0, zgd, if_true]) ?_
       refine X_seq ?_
       refine X_rg fun R hR => ?_
       simp only [aops, astep, awant, aeff, aop, ev, ofValue, St.put, zg1, zg0, zgd, zmo, if_true, zs1, zs0]
       refine hR _ ?_
       clear hR R
       show X _ _ _ _
       refine X_ret ?_
       show resD _ _ _ = some _
       simp only [resD, resAll, resOne, resTup, Try.results41, zg1, zg0, D.good, if_true, zmo]
       rw [all_no declB l i hlt (by simp [declB, hnm, hk1, hk3, hk2, hl1])]
      case false =>
       cases hl2 : (decide (l[i].len > 16) : Bool)
       case true =>
        refine X_rg fun R hR => ?_
        simp only [EVP, inr_i64, Int.reduceLE, Int.reduceNeg, app_get0, aops, astep, awant, aeff, aop, abin, aint, mkD, ev, ofValue, St.put, D.isAgg, zg1, zg0, zgd, zmo, zbs, if_true, zs1, zs0, zlc, zln, zd1, zd0, zt1, zt0, Nat.reduceAdd, Nat.reduceLeDiff, Nat.zero_add, zft, if_false, and_self, reduceCtorEq, beq_self_eq_true, ty_int, ty_api_VarDecl, hl1, hl2]
        refine hR _ ?_
        clear hR R
        show X _ _ _ _
        refine X_true (by simp only [ev, zg1, zg0, zgd]) ?_
        refine X_seq ?_
        refine X_rg fun R hR => ?_
        simp only [aops, astep, awant, aeff, aop, ev, ofValue, St.put, zgd, zmo, if_true, zs1, zs0]
        refine hR _ ?_
        clear hR R
        show X _ _ _ _
        refine X_ret ?_
        show resD _ _ _ = some _
        simp only [resD, resAll, resOne, resTup, Try.results41, zg1, zg0, D.good, if_true, zmo]
        rw [all_no declB l i hlt (by simp [declB, hnm, hk1, hk3, hk2, hl2])]
       case false =>
        refine X_rg fun R hR => ?_
        simp only [EVP, inr_i64, Int.reduceLE, Int.reduceNeg, app_get0, aops, astep, awant, aeff, aop, abin, aint, mkD, ev, ofValue, St.put, D.isAgg, zg1, zg0, zgd, zmo, zbs, if_true, zs1, zs0, zlc, zln, zd1, zd0, zt1, zt0, Nat.reduceAdd, Nat.reduceLeDiff, Nat.zero_add, zft, if_false, and_self, reduceCtorEq, beq_self_eq_true, ty_int, ty_api_VarDecl, hl1, hl2]
        refine hR _ ?_
        clear hR R
        show X _ _ _ _
        refine X_false (by simp only [ev, zg1, zg0, zgd]) ?_
        refine X_skip ?_
        show X _ _ _ _
        refine X_rg fun R hR => ?_
        simp only [inr_i64, Int.reduceLE, Int.reduceNeg, aops, astep, awant, aeff, aop, abin, aint, ev, ofValue, St.put, zg1, zg0, zgd, zmo, if_true, zs1, zs0, and_self, nat_succ hbig]
        refine hR _ ?_
        clear hR R
        show ∃ m, m < _ ∧ _
        exact ⟨l.length - (i + 1), by omega, i + 1, _, _, _, _, _, _, _, _, _, _, _, _, _, _, _, _, _, _, _, _, _, _, _, _, _, _, _, _, _, _, _, _, rfl, by omega, rfl, Lib.hid (all_yes declB l i hlt hall.out (by simp [declB, hnm, hk1, hk3, hk2, hl1, hl2]))⟩
     case false =>
      refine X_rg fun R hR => ?_
      simp only [inr_u8, Int.reduceLE, aops, astep, awant, aeff, aop, abin, aint, ev, ofValue, St.put, zg1, zg0, zgd, zmo, if_true, zs1, zs0, and_self, hk2]
      refine hR _ ?_
      clear hR R
      show X _ _ _ _
      refine X_false (by simp only [ev, zg1, zg0, zgd]) ?_
      refine X_seq ?_
      refine X_rg fun R hR => ?_
      simp only [aops, astep, awant, aeff, aop, ev, ofValue, St.put, zgd, zmo, if_true, zs1, zs0]
      refine hR _ ?_
      clear hR R
      show X _ _ _ _
      refine X_ret ?_
      show resD _ _ _ = some _
      simp only [resD, resAll, resOne, resTup, Try.results41, zg1, zg0, D.good, if_true, zmo]
      rw [all_no declB l i hlt (by simp [declB, hnm, hk1, hk3, hk2])]
  case false =>
   refine X_rg fun R hR => ?_
   simp only [EVP, app_get0, aops, astep, awant, aeff, aop, mkD, ev, St.put, pcall, D.isAgg, zmc, zmn, zg1, zg0, zgd, zmo, if_true, zs1, zs0, zlc, zln, zd0, zt1, zt0, zca, zna, Nat.reduceAdd, Nat.reduceLeDiff, Nat.zero_add, Nat.add_zero, zft, if_false, reduceCtorEq, ty_string, ty_api_VarDecl, fnm, hnm]
   refine hR _ ?_
   clear hR R
   show X _ _ _ _
   refine X_true (by simp only [ev, zs1, zs0, zg1, zg0, zgd, Bool.not_false]) ?_
   refine X_seq ?_
   refine X_rg fun R hR => ?_
   simp only [aops, astep, awant, aeff, aop, ev, ofValue, St.put, zgd, zmo, if_true, zs1, zs0, Bool.not_false]
   refine hR _ ?_
   clear hR R
   show X _ _ _ _
   refine X_ret ?_
   show resD _ _ _ = some _
   simp only [resD, resAll, resOne, resTup, Try.results41, zg1, zg0, D.good, if_true, zmo]
   rw [all_no declB l i hlt (by simp [declB, hnm])]
 ·skip
  refine X_rg fun R hR => ?_
  simp only [nat_lt, aops, astep, awant, aeff, aop, abin, aint, ev, St.put, zg1, zg0, zgd, zmo, if_true, zs1, zs0]
  refine hR _ ?_
  clear hR R
  show X _ _ _ _
  refine X_seq ?_
  refine X_false (by simp only [ev, zg1, zg0, zgd, decide_false, hlt]) ?_
  refine X_exit ?_
  show X _ _ _ _
  refine X_seq ?_
  refine X_rg fun R hR => ?_
  simp only [aops, astep, awant, aeff, aop, ev, ofValue, St.put, zgd, zmo, if_true, zs1, zs0]
  refine hR _ ?_
  clear hR R
  show X _ _ _ _
  refine X_ret ?_
  show resD _ _ _ = some _
  simp only [resD, resAll, resOne, resTup, Try.results41, zg1, zg0, D.good, if_true, zmo]
  have := hall.out
  rw [List.take_of_length_le (by omega)] at this
  rw [this]
end Go.Proofs.Ytjikokmhknnnoaa
