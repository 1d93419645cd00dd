/- Valid: over data. -/
import Derived.Test.YtmglacjcefajlaaEnv
import Derived.Test.YtmglacjcefajlaaBG
namespace Go.Proofs.Ytmglacjcefajlaa
open Go.RowKit

def declB (v : Vd) : Bool := nameB v.name && (if v.kind == 1 || v.kind == 3 then v.len == 0 else if v.kind == 2 then !decide (v.len < 1) && !decide (v.len > 16) else false)
theorem all_no {α : Type} (p : α → Bool) (l : List α) (i : Nat) (h : i < l.length) (hp : p l[i] = false) : l.all p = false := by
 rw [List.all_eq_false]; exact ⟨l[i], List.getElem_mem h, by simp [hp]⟩
theorem all_yes {α : Type} (p : α → Bool) (l : List α) (i : Nat) (h : i < l.length) (h1 : (l.take i).all p = true) (hp : p l[i] = true) : (l.take (i + 1)).all p = true := by
 rw [Tr.take_snoc l i h, List.all_append, h1]; simp [hp]

def bigQ (q : Pr) : Bool := decide ((q.params.length : Int) > 10) || bigB q.body
def bigP (p : Pg) : Bool := decide ((p.vars.length : Int) > 40) || decide ((p.procs.length : Int) > 70) || bigB p.main || p.procs.any bigQ
set_option maxRecDepth 100000 in
set_option maxHeartbeats 4000000 in
theorem declared_fn (l : List Vd) (hll : l.length ≤ 4611686018427387904) : fn EV 30 [sl 3 (l.map dV)] = some (.bool (l.all declB)) := by
 refine fn_X rfl Try.func30 rfl ?_ rfl rfl rfl ?_
 ·simp [plain, sl, D.good, D.under, D.unders_all, dV]
 simp only [zmc, zmn, slV_strip]
 simp only [enterSt, Try.ntmps30, zlc, zln, Nat.reduceAdd, Nat.reduceSub, zr1, zr0, zca, zna]
 refine X_seq ?_
 refine X_rg fun R hR => ?_
 simp only [aops, astep, awant, aeff, aop, ev, ofValue, St.put, zgd, zmo, if_true, zs1, zs0, sl]
 refine hR _ ?_
 clear hR R
 show X _ _ _ _
 refine X_seq ?_
 refine X_seq ?_
 refine X_rg fun R hR => ?_
 simp only [EVP, inr_i64, Int.reduceLE, Int.reduceNeg, aops, astep, awant, aeff, aop, ev, ofValue, St.put, zg1, zg0, zgd, zmo, if_true, zs1, zs0, zlm, and_self, und_api_VarDecl]
 refine hR _ ?_
 clear hR R
 show X _ _ _ _
 refine X_block ?_
 refine X_loop (fun n σ => ∃ (i : Nat) (r : List (List D)) (x0 x1 x2 x3 x4 x8 x9 x10 x11 x12 x13 x14 x15 x16 x17 x18 x19 x20 x21 x22 x23 x24 x25 x26 x27 x28 x29 x30 x31 x32 x33 : D), σ = ⟨[x0, x1, x2, x3, x4, .slice .imm (if (l.map dV).isEmpty then 0 else 3) (l.map dV), .int .i64 l.length, .int .i64 i, x8, x9, x10, x11, x12, x13, x14, x15, x16, x17, x18, x19, x20, x21, x22, x23, x24, x25, x26, x27, x28, x29, x30, x31, x32, x33], r, 0, []⟩ ∧ i ≤ l.length ∧ n = l.length - i ∧ Hid ((l.take i).all declB = true)) ?_ (l.length) _ ?_
 rotate_left
 ·exact ⟨0, _, _, _, _, _, _, _, _, _, _, _, _, _, _, _, _, _, _, _, _, _, _, _, _, _, _, _, _, _, _, _, _, rfl, Nat.zero_le _, rfl, Lib.hid (by simp)⟩
 rintro n _ ⟨i, r, x0, x1, x2, x3, x4, x8, x9, x10, x11, x12, x13, x14, x15, x16, x17, x18, x19, x20, x21, x22, x23, x24, x25, x26, x27, x28, x29, x30, x31, x32, x33, rfl, hi, rfl, hall⟩
 refine X_seq ?_
 by_cases hlt : i < l.length
 ·skip
  have hn : ((if (List.map dV l).isEmpty = true then 0 else 3) = 3) = True := eq_true (sl_n (j := i) (by simpa using hlt))
  have e1 : (List.map dV l)[i]? = some (.agg [.str l[i].name, .int .u8 l[i].kind, .int .i64 l[i].len]) := by simp [hlt, dV]
  have hbig : i < 9223372036854775807 := by omega
  have fnm : fn EV 31 [.str l[i].name] = some (.bool (nameB l[i].name)) := fn_orc EV rfl rfl
  refine X_rg fun R hR => ?_
  simp only [nat_lt, aops, astep, awant, aeff, aop, abin, aint, ev, St.put, zg1, zg0, zgd, zmo, if_true, zs1, zs0]
  refine hR _ ?_
  clear hR R
  show X _ _ _ _
  refine X_seq ?_
  refine X_true (by simp only [ev, zg1, zg0, zgd, decide_true, hlt]) ?_
  refine X_skip ?_
  show X _ _ _ _
  refine X_seq ?_
  refine X_block ?_
  refine X_seq ?_
  refine X_rg fun R hR => ?_
  simp only [EVP, app_get0, app_set0, nat_lt, nat_0, nat_to, aops, astep, awant, aeff, aop, astore, ev, St.put, D.cells, D.good, D.isAgg, zg1, zg0, zgd, zmo, zbs, if_true, zs1, zs0, zlm, zlc, zln, zd1, zd0, zt0, zca, zna, Nat.reduceAdd, Nat.reduceLeDiff, Nat.zero_add, and_self, decide_true, ty_api_VarDecl, und_api_VarDecl, siz_api_VarDecl, has_api_VarDecl, hlt, hn, e1]
  refine hR _ ?_
  clear hR R
  show X _ _ _ _
  refine X_seq ?_
  refine X_seq ?_
  cases hnm : (nameB l[i].name : Bool)
  case true =>
   refine X_rg fun R hR => ?_
   simp only [EVP, app_get0, aops, astep, awant, aeff, aop, mkD, ev, St.put, pcall, D.isAgg, zmc, zmn, zg1, zg0, zgd, zmo, if_true, zs1, zs0, zlc, zln, zd0, zt1, zt0, zca, zna, Nat.reduceAdd, Nat.reduceLeDiff, Nat.zero_add, Nat.add_zero, zft, if_false, reduceCtorEq, ty_string, ty_api_VarDecl, fnm, hnm]
   refine hR _ ?_
   clear hR R
   show X _ _ _ _
   refine X_false (by simp only [ev, zs1, zs0, zg1, zg0, zgd, Bool.not_true]) ?_
   refine X_skip ?_
   show X _ _ _ _
   refine X_seq ?_
   refine X_rg fun R hR => ?_
   simp only [EVP, app_get0, aops, astep, awant, aeff, aop, mkD, ev, St.put, D.isAgg, zg1, zg0, zgd, zmo, if_true, zs1, zs0, zlc, zln, zd1, zd0, zt1, zt0, Nat.reduceAdd, Nat.reduceLeDiff, Nat.zero_add, Bool.not_true, zft, if_false, reduceCtorEq, ty_uint8, ty_api_VarDecl]
   refine hR _ ?_
   clear hR R
   show X _ _ _ _
   refine X_block ?_
   refine X_seq ?_
   refine X_seq ?_
   cases hk1 : (l[i].kind == 1 : Bool)
   case true =>
    refine X_rg fun R hR => ?_
    simp only [inr_u8, Int.reduceLE, aops, astep, awant, aeff, aop, abin, aint, ev, ofValue, St.put, zg1, zg0, zgd, zmo, if_true, zs1, zs0, and_self, hk1]
    refine hR _ ?_
    clear hR R
    show X _ _ _ _
    refine X_true (by simp only [ev, zg1, zg0, zgd]) ?_
    refine X_skip ?_
    show X _ _ _ _
    refine X_true (by simp only [ev, zg1, zg0, zgd]) ?_
    refine X_seq ?_
    cases hl0 : (l[i].len != 0 : Bool)
    case true =>
     refine X_rg fun R hR => ?_
     simp only [EVP, inr_i64, Int.reduceLE, Int.reduceNeg, app_get0, aops, astep, awant, aeff, aop, abin, aint, mkD, ev, ofValue, St.put, D.isAgg, zg1, zg0, zgd, zmo, if_true, zs1, zs0, zlc, zln, zd1, zd0, zt1, zt0, Nat.reduceAdd, Nat.reduceLeDiff, Nat.zero_add, zft, if_false, and_self, reduceCtorEq, ty_int, ty_api_VarDecl, hl0]
     refine hR _ ?_
     clear hR R
     show X _ _ _ _
     refine X_true (by simp only [ev, zg1, zg0, zgd]) ?_
     refine X_seq ?_
     refine X_rg fun R hR => ?_
     simp only [aops, astep, awant, aeff, aop, ev, ofValue, St.put, zgd, zmo, if_true, zs1, zs0]
     refine hR _ ?_
     clear hR R
     show X _ _ _ _
     refine X_ret ?_
     show resD _ _ _ = some _
     simp only [resD, resAll, resOne, resTup, Try.results30, zg1, zg0, D.good, if_true, zmo]
     rw [all_no declB l i hlt (by simp at hl0; simp [declB, hnm, hk1, hl0])]
    case false =>
     refine X_rg fun R hR => ?_
     simp only [EVP, inr_i64, Int.reduceLE, Int.reduceNeg, app_get0, aops, astep, awant, aeff, aop, abin, aint, mkD, ev, ofValue, St.put, D.isAgg, zg1, zg0, zgd, zmo, if_true, zs1, zs0, zlc, zln, zd1, zd0, zt1, zt0, Nat.reduceAdd, Nat.reduceLeDiff, Nat.zero_add, zft, if_false, and_self, reduceCtorEq, ty_int, ty_api_VarDecl, hl0]
     refine hR _ ?_
     clear hR R
     show X _ _ _ _
     refine X_false (by simp only [ev, zg1, zg0, zgd]) ?_
     refine X_skip ?_
     show X _ _ _ _
     refine X_rg fun R hR => ?_
     simp only [inr_i64, Int.reduceLE, Int.reduceNeg, aops, astep, awant, aeff, aop, abin, aint, ev, ofValue, St.put, zg1, zg0, zgd, zmo, if_true, zs1, zs0, and_self, nat_succ hbig]
     refine hR _ ?_
     clear hR R
     show ∃ m, m < _ ∧ _
     exact ⟨l.length - (i + 1), by omega, i + 1, _, _, _, _, _, _, _, _, _, _, _, _, _, _, _, _, _, _, _, _, _, _, _, _, _, _, _, _, _, _, _, _, rfl, by omega, rfl, Lib.hid (all_yes declB l i hlt hall.out (by simp at hl0; simp [declB, hnm, hk1, hl0]))⟩
   case false =>
    refine X_rg fun R hR => ?_
    simp only [inr_u8, Int.reduceLE, aops, astep, awant, aeff, aop, abin, aint, ev, ofValue, St.put, zg1, zg0, zgd, zmo, if_true, zs1, zs0, and_self, hk1]
    refine hR _ ?_
    clear hR R
    show X _ _ _ _
    refine X_false (by simp only [ev, zg1, zg0, zgd]) ?_
    cases hk3 : (l[i].kind == 3 : Bool)
    case true =>
     refine X_rg fun R hR => ?_
     simp only [inr_u8, Int.reduceLE, aops, astep, awant, aeff, aop, abin, aint, ev, ofValue, St.put, zg1, zg0, zgd, zmo, if_true, zs1, zs0, and_self, hk3]
     refine hR _ ?_
     clear hR R
     show X _ _ _ _
     refine X_true (by simp only [ev, zg1, zg0, zgd]) ?_
     refine X_seq ?_
     cases hl0 : (l[i].len != 0 : Bool)
     case true =>
      refine X_rg fun R hR => ?_
      simp only [EVP, inr_i64, Int.reduceLE, Int.reduceNeg, app_get0, aops, astep, awant, aeff, aop, abin, aint, mkD, ev, ofValue, St.put, D.isAgg, zg1, zg0, zgd, zmo, if_true, zs1, zs0, zlc, zln, zd1, zd0, zt1, zt0, Nat.reduceAdd, Nat.reduceLeDiff, Nat.zero_add, zft, if_false, and_self, reduceCtorEq, ty_int, ty_api_VarDecl, hl0]
      refine hR _ ?_
      clear hR R
      show X _ _ _ _
      refine X_true (by simp only [ev, zg1, zg0, zgd]) ?_
      refine X_seq ?_
      refine X_rg fun R hR => ?_
      simp only [aops, astep, awant, aeff, aop, ev, ofValue, St.put, zgd, zmo, if_true, zs1, zs0]
      refine hR _ ?_
      clear hR R
      show X _ _ _ _
      refine X_ret ?_
      show resD _ _ _ = some _
      simp only [resD, resAll, resOne, resTup, Try.results30, zg1, zg0, D.good, if_true, zmo]
      rw [all_no declB l i hlt (by simp at hl0; simp [declB, hnm, hk1, hk3, hl0])]
     case false =>
      refine X_rg fun R hR => ?_
      simp only [EVP, inr_i64, Int.reduceLE, Int.reduceNeg, app_get0, aops, astep, awant, aeff, aop, abin, aint, mkD, ev, ofValue, St.put, D.isAgg, zg1, zg0, zgd, zmo, if_true, zs1, zs0, zlc, zln, zd1, zd0, zt1, zt0, Nat.reduceAdd, Nat.reduceLeDiff, Nat.zero_add, zft, if_false, and_self, reduceCtorEq, ty_int, ty_api_VarDecl, hl0]
      refine hR _ ?_
      clear hR R
      show X _ _ _ _
      refine X_false (by simp only [ev, zg1, zg0, zgd]) ?_
      refine X_skip ?_
      show X _ _ _ _
      refine X_rg fun R hR => ?_
      simp only [inr_i64, Int.reduceLE, Int.reduceNeg, aops, astep, awant, aeff, aop, abin, aint, ev, ofValue, St.put, zg1, zg0, zgd, zmo, if_true, zs1, zs0, and_self, nat_succ hbig]
      refine hR _ ?_
      clear hR R
      show ∃ m, m < _ ∧ _
      exact ⟨l.length - (i + 1), by omega, i + 1, _, _, _, _, _, _, _, _, _, _, _, _, _, _, _, _, _, _, _, _, _, _, _, _, _, _, _, _, _, _, _, _, rfl, by omega, rfl, Lib.hid (all_yes declB l i hlt hall.out (by simp at hl0; simp [declB, hnm, hk1, hk3, hl0]))⟩
    case false =>
     refine X_rg fun R hR => ?_
     simp only [inr_u8, Int.reduceLE, aops, astep, awant, aeff, aop, abin, aint, ev, ofValue, St.put, zg1, zg0, zgd, zmo, if_true, zs1, zs0, and_self, hk3]
     refine hR _ ?_
     clear hR R
     show X _ _ _ _
     refine X_false (by simp only [ev, zg1, zg0, zgd]) ?_
     refine X_seq ?_
     cases hk2 : (l[i].kind == 2 : Bool)
     case true =>
      refine X_rg fun R hR => ?_
      simp only [inr_u8, Int.reduceLE, aops, astep, awant, aeff, aop, abin, aint, ev, ofValue, St.put, zg1, zg0, zgd, zmo, if_true, zs1, zs0, and_self, hk2]
      refine hR _ ?_
      clear hR R
      show X _ _ _ _
      refine X_true (by simp only [ev, zg1, zg0, zgd]) ?_
      refine X_seq ?_
      cases hl1 : (decide (l[i].len < 1) : Bool)
      case true =>
       refine X_rg fun R hR => ?_
       simp only [EVP, inr_i64, Int.reduceLE, Int.reduceNeg, app_get0, aops, astep, awant, aeff, aop, abin, aint, astr, mkD, ev, ofValue, St.put, D.cells, D.isAgg, zg1, zg0, zgd, zmo, zbs, if_true, zs1, zs0, zlc, zln, zd1, zd0, zt1, zt0, Nat.reduceAdd, Nat.reduceLeDiff, Nat.zero_add, zft, if_false, and_self, reduceCtorEq, ty_int, ty_api_VarDecl, und_int', hl1]
       refine hR _ ?_
       clear hR R
       show X _ _ _ _
       refine X_true (by simp only [ev, zs1, zs0, zg1, zg0, zgd, if_true]) ?_
       refine X_seq ?_
       refine X_rg fun R hR => ?_
       simp only [aops, astep, awant, aeff, aop, ev, ofValue, St.put, zg1, zg0, zgd, zmo, if_true, zs1, zs0]
       refine hR _ ?_
       clear hR R
       show X _ _ _ _
       refine X_ret ?_
       show resD _ _ _ = some _
       simp only [resD, resAll, resOne, resTup, Try.results30, zg1, zg0, D.good, if_true, zmo]
       rw [all_no declB l i hlt (by simp [declB, hnm, hk1, hk3, hk2, hl1])]
      case false =>
       cases hl2 : (decide (l[i].len > 16) : Bool)
       case true =>
        refine X_rg fun R hR => ?_
        simp only [EVP, inr_i64, Int.reduceLE, Int.reduceNeg, app_get0, aops, astep, awant, aeff, aop, abin, aint, mkD, ev, ofValue, St.put, D.isAgg, zg1, zg0, zgd, zmo, zbs, if_true, zs1, zs0, zlc, zln, zd1, zd0, zt1, zt0, Nat.reduceAdd, Nat.reduceLeDiff, Nat.zero_add, zft, if_false, and_self, reduceCtorEq, beq_self_eq_true, ty_int, ty_api_VarDecl, hl1, hl2]
        refine hR _ ?_
        clear hR R
        show X _ _ _ _
        refine X_true (by simp only [ev, zg1, zg0, zgd]) ?_
        refine X_seq ?_
        refine X_rg fun R hR => ?_
        simp only [aops, astep, awant, aeff, aop, ev, ofValue, St.put, zgd, zmo, if_true, zs1, zs0]
        refine hR _ ?_
        clear hR R
        show X _ _ _ _
        refine X_ret ?_
        show resD _ _ _ = some _
        simp only [resD, resAll, resOne, resTup, Try.results30, zg1, zg0, D.good, if_true, zmo]
        rw [all_no declB l i hlt (by simp [declB, hnm, hk1, hk3, hk2, hl2])]
       case false =>
        refine X_rg fun R hR => ?_
        simp only [EVP, inr_i64, Int.reduceLE, Int.reduceNeg, app_get0, aops, astep, awant, aeff, aop, abin, aint, mkD, ev, ofValue, St.put, D.isAgg, zg1, zg0, zgd, zmo, zbs, if_true, zs1, zs0, zlc, zln, zd1, zd0, zt1, zt0, Nat.reduceAdd, Nat.reduceLeDiff, Nat.zero_add, zft, if_false, and_self, reduceCtorEq, beq_self_eq_true, ty_int, ty_api_VarDecl, hl1, hl2]
        refine hR _ ?_
        clear hR R
        show X _ _ _ _
        refine X_false (by simp only [ev, zg1, zg0, zgd]) ?_
        refine X_skip ?_
        show X _ _ _ _
        refine X_rg fun R hR => ?_
        simp only [inr_i64, Int.reduceLE, Int.reduceNeg, aops, astep, awant, aeff, aop, abin, aint, ev, ofValue, St.put, zg1, zg0, zgd, zmo, if_true, zs1, zs0, and_self, nat_succ hbig]
        refine hR _ ?_
        clear hR R
        show ∃ m, m < _ ∧ _
        exact ⟨l.length - (i + 1), by omega, i + 1, _, _, _, _, _, _, _, _, _, _, _, _, _, _, _, _, _, _, _, _, _, _, _, _, _, _, _, _, _, _, _, _, rfl, by omega, rfl, Lib.hid (all_yes declB l i hlt hall.out (by simp [declB, hnm, hk1, hk3, hk2, hl1, hl2]))⟩
     case false =>
      refine X_rg fun R hR => ?_
      simp only [inr_u8, Int.reduceLE, aops, astep, awant, aeff, aop, abin, aint, ev, ofValue, St.put, zg1, zg0, zgd, zmo, if_true, zs1, zs0, and_self, hk2]
      refine hR _ ?_
      clear hR R
      show X _ _ _ _
      refine X_false (by simp only [ev, zg1, zg0, zgd]) ?_
      refine X_seq ?_
      refine X_rg fun R hR => ?_
      simp only [aops, astep, awant, aeff, aop, ev, ofValue, St.put, zgd, zmo, if_true, zs1, zs0]
      refine hR _ ?_
      clear hR R
      show X _ _ _ _
      refine X_ret ?_
      show resD _ _ _ = some _
      simp only [resD, resAll, resOne, resTup, Try.results30, zg1, zg0, D.good, if_true, zmo]
      rw [all_no declB l i hlt (by simp [declB, hnm, hk1, hk3, hk2])]
  case false =>
   refine X_rg fun R hR => ?_
   simp only [EVP, app_get0, aops, astep, awant, aeff, aop, mkD, ev, St.put, pcall, D.isAgg, zmc, zmn, zg1, zg0, zgd, zmo, if_true, zs1, zs0, zlc, zln, zd0, zt1, zt0, zca, zna, Nat.reduceAdd, Nat.reduceLeDiff, Nat.zero_add, Nat.add_zero, zft, if_false, reduceCtorEq, ty_string, ty_api_VarDecl, fnm, hnm]
   refine hR _ ?_
   clear hR R
   show X _ _ _ _
   refine X_true (by simp only [ev, zs1, zs0, zg1, zg0, zgd, Bool.not_false]) ?_
   refine X_seq ?_
   refine X_rg fun R hR => ?_
   simp only [aops, astep, awant, aeff, aop, ev, ofValue, St.put, zgd, zmo, if_true, zs1, zs0, Bool.not_false]
   refine hR _ ?_
   clear hR R
   show X _ _ _ _
   refine X_ret ?_
   show resD _ _ _ = some _
   simp only [resD, resAll, resOne, resTup, Try.results30, zg1, zg0, D.good, if_true, zmo]
   rw [all_no declB l i hlt (by simp [declB, hnm])]
 ·skip
  refine X_rg fun R hR => ?_
  simp only [nat_lt, aops, astep, awant, aeff, aop, abin, aint, ev, St.put, zg1, zg0, zgd, zmo, if_true, zs1, zs0]
  refine hR _ ?_
  clear hR R
  show X _ _ _ _
  refine X_seq ?_
  refine X_false (by simp only [ev, zg1, zg0, zgd, decide_false, hlt]) ?_
  refine X_exit ?_
  show X _ _ _ _
  refine X_seq ?_
  refine X_rg fun R hR => ?_
  simp only [aops, astep, awant, aeff, aop, ev, ofValue, St.put, zgd, zmo, if_true, zs1, zs0]
  refine hR _ ?_
  clear hR R
  show X _ _ _ _
  refine X_ret ?_
  show resD _ _ _ = some _
  simp only [resD, resAll, resOne, resTup, Try.results30, zg1, zg0, D.good, if_true, zmo]
  have := hall.out
  rw [List.take_of_length_le (by omega)] at this
  rw [this]
end Go.Proofs.Ytmglacjcefajlaa

/- Valid: bodies. -/
namespace Go.Proofs.Ytmglacjcefajlaa
open Go.RowKit

mutual
def limT : Tr → Nat → Nat → Bool × Nat
 | .mk _ _ _ c, d, n => if d = 0 ∨ n = 0 then (false, n) else limL c (d - 1) (n - 1)
def limL : List Tr → Nat → Nat → Bool × Nat
 | [], _, n => (true, n)
 | t :: ts, d, n => match limT t d n with
  | (true, m) => limL ts d m
  | (false, m) => (false, m)
end
theorem limT_eq (t : Tr) (d n : Nat) : limT t d n = if d = 0 ∨ n = 0 then (false, n) else limL t.kids (d - 1) (n - 1) := by cases t; rfl
mutual
theorem limT_le : ∀ (t : Tr) (d n : Nat), (limT t d n).2 ≤ n
 | .mk _ _ _ c, d, n => by
  unfold limT
  split
  ·exact Nat.le_refl _
  ·have := limL_le c (d - 1) (n - 1); omega
theorem limL_le : ∀ (c : List Tr) (d n : Nat), (limL c d n).2 ≤ n
 | [], _, n => Nat.le_refl _
 | t :: ts, d, n => by
  have := limT_le t d n
  unfold limL
  split
  ·rename_i m e; have h2 := limL_le ts d m; rw [e] at this; simp only at this; omega
  ·rename_i m e; rw [e] at this; exact this
end
mutual
theorem limT_is : ∀ (t : Tr) (d n : Nat), ((limT t d n).1 = true → t.depth ≤ d ∧ t.size ≤ n ∧ (limT t d n).2 = n - t.size) ∧ (t.depth ≤ d → t.size ≤ n → (limT t d n).1 = true)
 | .mk _ _ _ c, d, n => by
  have := limL_is c (d - 1) (n - 1)
  unfold limT
  simp only [Tr.depth, Tr.size]
  split
  ·refine ⟨fun h => (by cases h), fun h1 h2 => (by omega)⟩
  ·refine ⟨fun h => ?_, fun h1 h2 => this.2 (by omega) (by omega)⟩
   obtain ⟨q1, q2, q3⟩ := this.1 h
   refine ⟨by omega, by omega, ?_⟩
   rw [q3]; omega
theorem limL_is : ∀ (c : List Tr) (d n : Nat), ((limL c d n).1 = true → Tr.depths c ≤ d ∧ Tr.sizes c ≤ n ∧ (limL c d n).2 = n - Tr.sizes c) ∧ (Tr.depths c ≤ d → Tr.sizes c ≤ n → (limL c d n).1 = true)
 | [], d, n => by simp [limL, Tr.depths, Tr.sizes]
 | t :: ts, d, n => by
  have h1 := limT_is t d n
  unfold limL
  simp only [Tr.depths, Tr.sizes]
  split
  ·rename_i m e
   rw [e] at h1
   simp only at h1
   obtain ⟨q1, q2, q3⟩ := h1.1 trivial
   have h2 := limL_is ts d m
   refine ⟨fun h => ?_, fun r1 r2 => h2.2 (by omega) (by omega)⟩
   obtain ⟨p1, p2, p3⟩ := h2.1 h
   refine ⟨by omega, by omega, ?_⟩
   rw [p3]; omega
  ·rename_i m e
   rw [e] at h1
   refine ⟨fun h => (by cases h), fun r1 r2 => ?_⟩
   exact absurd (h1.2 (by omega) (by omega)) (by simp)
end
theorem limT_lt (t : Tr) (d n : Nat) (h : (limT t d n).1 = true) : (limT t d n).2 + 1 ≤ n := by
 obtain ⟨_, h2, h3⟩ := (limT_is t d n).1 h
 cases t; simp only [Tr.size] at h2 h3; omega
theorem limT_dec (t : Tr) (d n : Nat) : (limT t d n).1 = decide (t.depth ≤ d ∧ t.size ≤ n) := by
 have h := limT_is t d n
 cases e : (limT t d n).1 with
 | true => obtain ⟨a, b, _⟩ := h.1 e; simp [a, b]
 | false =>
  have : ¬ (t.depth ≤ d ∧ t.size ≤ n) := fun q => by rw [h.2 q.1 q.2] at e; cases e
  simp [this]
theorem limL_drop (c : List Tr) (i : Nat) (h : i < c.length) (d n : Nat) : limL (c.drop i) d n = match limT c[i] d n with | (true, m) => limL (c.drop (i + 1)) d m | (false, m) => (false, m) := by
 rw [List.drop_eq_getElem_cons h]; rfl
theorem nat_pred {a : Nat} (h : 0 < a) (h' : a < 9223372036854775807) : IntKind.i64.wrap ((a : Int) - 1) = ((a - 1 : Nat) : Int) := by
 simp only [IntKind.wrap, IntKind.bits, IntKind.signed]; simp; omega
theorem nat_eq0 (a : Nat) : (((a : Int)) == 0) = decide (a = 0) := by
 rw [Bool.eq_iff_iff]; simp
theorem set_same {α : Type} {B : List α} {b : Nat} {x : α} (h : B[b]? = some x) : B.set b x = B := by
 obtain ⟨hb, rfl⟩ := List.getElem?_eq_some_iff.1 h
 exact List.set_getElem_self hb
theorem lim_get {α : Type} {B : List α} {b : Nat} {y c x : α} (h : B[b]? = some y) : ((B ++ [c]).set b x)[b]? = some x := by
 obtain ⟨hb, _⟩ := List.getElem?_eq_some_iff.1 h
 rw [List.getElem?_set_self (by simp; omega)]
theorem lim_last {α : Type} {B : List α} {b : Nat} {y : α} (h : B[b]? = some y) (c x : α) : ((B ++ [c]).set b x)[B.length]? = some c := by
 obtain ⟨hb, _⟩ := List.getElem?_eq_some_iff.1 h
 rw [List.getElem?_set_ne (by omega), List.getElem?_append_right (Nat.le_refl _)]; simp
theorem lim_take {α : Type} {B0 B : List α} {b : Nat} {y' c x : α} (hl : B0.length ≤ B.length) (h : B.take B0.length = B0.set b y') : ((B ++ [c]).set b x).take B0.length = B0.set b x := by
 rw [List.take_set, List.take_append_of_le_length hl, h, List.set_set]
theorem lim_take0 {α : Type} {B0 : List α} {b : Nat} {c x : α} : ((B0 ++ [c]).set b x).take B0.length = B0.set b x := by
 rw [List.take_set, List.take_append_of_le_length (Nat.le_refl _), List.take_length]
theorem lim_next {c : List Tr} {d m i : Nat} {r : Bool × Nat} (hi : i < c.length) (h : r = limL (c.drop i) d m) (hr : (limT c[i] d m).1 = true) : r = limL (c.drop (i + 1)) d (limT c[i] d m).2 := by
 rw [h, limL_drop c i hi]
 split
 ·rename_i q e; rw [e]
 ·rename_i q e; rw [e] at hr; cases hr
theorem lim_no {t : Tr} {d n m i : Nat} (hi : i < t.kids.length) (hd : ¬ d = 0) (hn : ¬ n = 0) (h : limL t.kids (d - 1) (n - 1) = limL (t.kids.drop i) (d - 1) m) (hr : (limT t.kids[i] (d - 1) m).1 = false) : limT t d n = (false, (limT t.kids[i] (d - 1) m).2) := by
 rw [limT_eq, if_neg (by omega), h, limL_drop _ i hi]
 split
 ·rename_i q e; rw [e] at hr; cases hr
 ·rename_i q e; rw [e]
theorem lim_end {t : Tr} {d n m i : Nat} (hi : t.kids.length ≤ i) (hd : ¬ d = 0) (hn : ¬ n = 0) (h : limL t.kids (d - 1) (n - 1) = limL (t.kids.drop i) (d - 1) m) : limT t d n = (true, m) := by
 rw [limT_eq, if_neg (by omega), h, List.drop_of_length_le hi]; rfl
theorem Tr.length_kids (t : Tr) : t.kids.length ≤ t.size := by
 cases t with
 | mk k n s c =>
  have : ∀ c : List Tr, c.length ≤ Tr.sizes c := by
   intro c
   induction c with
   | nil => simp
   | cons x r ih => cases x; simp only [zlc, Tr.sizes, Tr.size]; omega
  have := this c
  simp only [Tr.size, Tr.kids]; omega
theorem Tr.size_kid {t : Tr} {i : Nat} (h : i < t.kids.length) : t.kids[i].size < t.size := by
 cases t with
 | mk k n s c =>
  have := Tr.size_le_of_mem (List.getElem_mem h)
  simp only [Tr.size, Tr.kids] at this ⊢
  omega
theorem kids_u (t : Tr) (m : Nat) : D.unders m [.int .u8 t.kind, .int .i64 t.num, .str t.name, .slice .imm (if (t.kids.map dN).isEmpty = true then 0 else 4) (t.kids.map dN)] = true := by
 have := dN_under m t
 rw [dN_eq] at this
 exact this
theorem kids_unders (t : Tr) (m : Nat) : D.unders m (dN t).cells = true := by
 have := dN_under m t
 rw [dN_eq] at this ⊢
 exact this

set_option maxRecDepth 100000 in
set_option maxHeartbeats 4000000 in
theorem lim_cal : ∀ (N : Nat) (t : Tr), t.size ≤ N → ∀ (d n : Nat), d ≤ 4611686018427387904 → n ≤ 4611686018427387904 → ∀ (σ : St) (b : Nat), σ.bx[b]? = some [.int .i64 (n : Nat)] → Free σ.bx →
  cal EV 54 [dN t, .int .i64 (d : Nat), .ptr b 0] σ = some (.bool (limT t d n).1, { σ with bx := σ.bx.set b [.int .i64 ((limT t d n).2 : Nat)], nx := σ.nx, lv := σ.lv }) := by
 intro N
 induction N with
 | zero => intro t h; cases t; simp only [Tr.size] at h; omega
 | succ N IH =>
 intro t hN d n hdb hnb ⟨fr, B0, nx, lv⟩ b hb hfr
 have ih : ∀ c : Tr, c.size < t.size → ∀ (d n : Nat), d ≤ 4611686018427387904 → n ≤ 4611686018427387904 → ∀ (σ : St) (b : Nat), σ.bx[b]? = some [.int .i64 (n : Nat)] → Free σ.bx → cal EV 54 [dN c, .int .i64 (d : Nat), .ptr b 0] σ = some (.bool (limT c d n).1, { σ with bx := σ.bx.set b [.int .i64 ((limT c d n).2 : Nat)], nx := σ.nx, lv := σ.lv }) := fun c hc => IH c (by omega)
 simp only at hb hfr
 refine cal_X rfl Try.func54 rfl (by simp [plain, D.under]) rfl ((hfr.set (fun _ => rfl) b).all _) ?_
 clear IH hN
 simp only [enterSt, Try.ntmps54, zlc, zln, Nat.reduceAdd, Nat.reduceSub, zr1, zr0, zca, zna]
 refine X_seq ?_
 refine X_rc fun R hR => ?_
 simp only [aops, astep, awant, aeff, aop, ev, ofValue, St.put, D.cells, D.good, zg0, zgd, zmo, if_true, zs1, zs0, sl, dN_eq]
 refine hR _ ?_
 clear hR R
 show X _ _ _ _
 refine X_seq ?_
 refine X_seq ?_
 by_cases hd : d = 0
 ·skip
  refine X_rc fun R hR => ?_
  simp only [EVP, inr_i64, Int.reduceLE, Int.reduceNeg, aops, astep, awant, aeff, aop, abin, aint, astr, mkD, ev, ofValue, St.put, D.cells, D.isAgg, zg1, zg0, zgd, zmo, zbs, if_true, zs1, zs0, zft, if_false, and_self, decide_true, ty_int, und_int', nat_eq0, hd]
  refine hR _ ?_
  clear hR R
  show X _ _ _ _
  refine X_true (by simp only [ev, zs1, zs0, zg1, zg0, zgd, if_true]) ?_
  refine X_seq ?_
  refine X_rc fun R hR => ?_
  simp only [aops, astep, awant, aeff, aop, ev, ofValue, St.put, zg1, zg0, zgd, zmo, if_true, zs1, zs0]
  refine hR _ ?_
  clear hR R
  show X _ _ _ _
  refine X_ret ?_
  show _ ∧ _
  refine ⟨.inr rfl, ?_, by simp, ?_, rfl, rfl⟩
  ·simp only [resD, resAll, resOne, resTup, Try.results54, zg1, zg0, D.good, if_true, zmo]
   exact congrArg (fun b => some (D.bool b)) (by rw [limT_eq, if_pos (show d = 0 ∨ n = 0 from .inl hd)])
  ·rw [limT_eq, if_pos (show d = 0 ∨ n = 0 from .inl hd)]; simp [set_same hb]
 ·skip
  have hd0 : 0 < d := by omega
  have hd1 : d < 9223372036854775807 := by omega
  have hb1 := fun l => snoc_get hb l
  by_cases hn0 : n = 0
  ·skip
   refine X_rc fun R hR => ?_
   simp only [EVP, inr_i64, Int.reduceLE, Int.reduceNeg, aops, astep, awant, aeff, aop, abin, aint, mkD, ev, ofValue, St.put, D.isAgg, zg1, zg0, zgd, zmo, zbs, if_true, zs1, zs0, zlc, zln, zd0, zt1, zt0, Nat.reduceLeDiff, Nat.zero_add, zft, if_false, and_self, decide_true, decide_false, beq_self_eq_true, ty_int, nat_eq0, hd, hn0, hb1]
   refine hR _ ?_
   clear hR R
   show X _ _ _ _
   refine X_true (by simp only [ev, zg1, zg0, zgd]) ?_
   refine X_seq ?_
   refine X_rc fun R hR => ?_
   simp only [aops, astep, awant, aeff, aop, ev, ofValue, St.put, zgd, zmo, if_true, zs1, zs0]
   refine hR _ ?_
   clear hR R
   show X _ _ _ _
   refine X_ret ?_
   show _ ∧ _
   refine ⟨.inr rfl, ?_, by simp, ?_, rfl, rfl⟩
   ·simp only [resD, resAll, resOne, resTup, Try.results54, zg1, zg0, D.good, if_true, zmo]
    exact congrArg (fun b => some (D.bool b)) (by rw [limT_eq, if_pos (show d = 0 ∨ n = 0 from .inr hn0)])
   ·rw [limT_eq, if_pos (show d = 0 ∨ n = 0 from .inr hn0)]; simp [set_same hb]
  ·skip
   have hn1 : 0 < n := by omega
   have hn2 : n < 9223372036854775807 := by omega
   refine X_rc fun R hR => ?_
   simp only [EVP, inr_i64, Int.reduceLE, Int.reduceNeg, aops, astep, awant, aeff, aop, abin, aint, mkD, ev, ofValue, St.put, D.isAgg, zg1, zg0, zgd, zmo, zbs, if_true, zs1, zs0, zlc, zln, zd0, zt1, zt0, Nat.reduceLeDiff, Nat.zero_add, zft, if_false, and_self, decide_false, beq_self_eq_true, ty_int, nat_eq0, hd, hn0, hb1]
   refine hR _ ?_
   clear hR R
   show X _ _ _ _
   refine X_false (by simp only [ev, zg1, zg0, zgd]) ?_
   refine X_skip ?_
   show X _ _ _ _
   refine X_seq ?_
   refine X_rc fun R hR => ?_
   simp only [EVP, inr_i64, Int.reduceLE, Int.reduceNeg, aops, astep, awant, aeff, aop, abin, aint, mkD, astore, ev, ofValue, St.put, D.cells, D.good, D.isAgg, zg1, zg0, zgd, zmo, if_true, zs1, zs0, zlc, zln, zd1, zd0, zt1, zt0, zca, zna, Nat.reduceLeDiff, Nat.zero_add, zft, if_false, and_self, ty_int, hb1, nat_pred hn1 hn2]
   refine hR _ ?_
   clear hR R
   show X _ _ _ _
   refine X_seq ?_
   refine X_seq ?_
   refine X_rc fun R hR => ?_
   simp only [EVP, inr_i64, Int.reduceLE, Int.reduceNeg, aops, astep, awant, aeff, aop, mkD, ev, ofValue, St.put, D.isAgg, zg1, zg0, zgd, zmo, if_true, zs1, zs0, zlm, zlc, zln, zd1, zd0, zt1, zt0, Nat.reduceAdd, Nat.reduceLeDiff, Nat.zero_add, zft, if_false, and_self, reduceCtorEq, ty_api_Node, ty_s_api_Node, und_api_Node, lim_last hb]
   refine hR _ ?_
   clear hR R
   show X _ _ _ _
   refine X_block ?_
   refine X_loop (fun k σ => ∃ (i m : Nat) (B : List (List D)) (x0 x3 x4 x5 x6 x7 x8 x9 x10 x11 x12 x13 x14 x15 x16 x17 x18 x19 x20 x21 x22 x26 x27 x28 x29 x30 x31 x32 x33 x34 x35 : D), σ = ⟨[x0, .int .i64 (d : Nat), .ptr b 0, x3, x4, x5, x6, x7, x8, x9, x10, x11, x12, x13, x14, x15, x16, x17, x18, x19, x20, x21, x22, .slice .imm (if (t.kids.map dN).isEmpty = true then 0 else 4) (t.kids.map dN), .int .i64 t.kids.length, .int .i64 i, x26, x27, x28, x29, x30, x31, x32, x33, x34, x35], B, nx, lv⟩ ∧ i ≤ t.kids.length ∧ k = t.kids.length - i ∧ m + i ≤ n ∧ B0.length ≤ B.length ∧ B[b]? = some [.int .i64 (m : Nat)] ∧ Hid (B.take B0.length = B0.set b [.int .i64 (m : Nat)]) ∧ Hid (Free B) ∧ Hid (limL t.kids (d - 1) (n - 1) = limL (t.kids.drop i) (d - 1) m)) ?_ (t.kids.length) _ ?_
   rotate_left
   ·exact ⟨0, n - 1, _, _, _, _, _, _, _, _, _, _, _, _, _, _, _, _, _, _, _, _, _, _, _, _, _, _, _, _, _, _, _, _, rfl, Nat.zero_le _, rfl, by omega, by simp, lim_get hb, Lib.hid lim_take0, Lib.hid ((hfr.snoc (kids_u t)).set (fun _ => rfl) b), Lib.hid rfl⟩
   rintro k _ ⟨i, m, B, x0, x3, x4, x5, x6, x7, x8, x9, x10, x11, x12, x13, x14, x15, x16, x17, x18, x19, x20, x21, x22, x26, x27, x28, x29, x30, x31, x32, x33, x34, x35, rfl, hi, rfl, hm, hlB, hB, hT, hF, hL⟩
   refine X_seq ?_
   by_cases hlt : i < t.kids.length
   ·skip
    have hn4 : ((if (t.kids.map dN).isEmpty = true then 0 else 4) = 4) = True := eq_true (sl_n (j := i) (by simpa using hlt))
    have e1 : (t.kids.map dN)[i]? = some (dN t.kids[i]) := by simp [hlt]
    have hbig : i < 9223372036854775807 := by omega
    have hm := limT_le t.kids[i] (d - 1) m
    have hm2 := limT_lt t.kids[i] (d - 1) m
    have hc := fun fr => ih t.kids[i] (Tr.size_kid hlt) (d - 1) m (by omega) (by omega) ⟨fr, B ++ [(dN t.kids[i]).cells], nx, lv⟩ b (snoc_get hB _) (hF.out.snoc (kids_unders _))
    simp only [dN_eq, sl, D.cells] at hc
    refine X_rc fun R hR => ?_
    simp only [nat_lt, aops, astep, awant, aeff, aop, abin, aint, ev, St.put, zg1, zg0, zgd, zmo, if_true, zs1, zs0]
    refine hR _ ?_
    clear hR R
    show X _ _ _ _
    refine X_seq ?_
    refine X_true (by simp only [ev, zg1, zg0, zgd, decide_true, hlt]) ?_
    refine X_skip ?_
    show X _ _ _ _
    refine X_seq ?_
    refine X_block ?_
    refine X_seq ?_
    refine X_rc fun R hR => ?_
    simp only [EVP, app_get0, app_set0, nat_lt, nat_0, nat_to, aops, astep, awant, aeff, aop, astore, ev, St.put, D.cells, D.good, D.isAgg, zg1, zg0, zgd, zmo, zbs, if_true, zs1, zs0, zlm, zlc, zln, zd1, zd0, zt0, zca, zna, Nat.reduceAdd, Nat.reduceLeDiff, Nat.zero_add, and_self, decide_true, ty_api_Node, und_api_Node, siz_api_Node, has_api_Node, sl, hlt, hn4, e1, dN_eq]
    refine hR _ ?_
    clear hR R
    show X _ _ _ _
    refine X_seq ?_
    cases hr : ((limT t.kids[i] (d - 1) m).1 : Bool)
    case true =>
     refine X_rc fun R hR => ?_
     simp only [EVP, inr_i64, Int.reduceLE, Int.reduceNeg, app_get0, aops, astep, awant, aeff, aop, abin, aint, mkD, ev, ofValue, St.put, zmc, zmn, zg1, zg0, zgd, zmo, if_true, zs1, zs0, zlc, zln, zd0, zt1, zt0, zca, zna, Nat.reduceAdd, Nat.reduceLeDiff, Nat.zero_add, and_self, ty_api_Node, nat_pred hd0 hd1, hc, hr]
     refine hR _ ?_
     clear hR R
     show X _ _ _ _
     refine X_false (by simp only [ev, zs1, zs0, zg1, zg0, zgd, Bool.not_true]) ?_
     refine X_skip ?_
     show X _ _ _ _
     refine X_rc fun R hR => ?_
     simp only [inr_i64, Int.reduceLE, Int.reduceNeg, aops, astep, awant, aeff, aop, abin, aint, ev, ofValue, St.put, zg1, zg0, zgd, zmo, if_true, zs1, zs0, Bool.not_true, and_self, nat_succ hbig]
     refine hR _ ?_
     clear hR R
     show ∃ m, m < _ ∧ _
     exact ⟨t.kids.length - (i + 1), by omega, i + 1, (limT t.kids[i] (d - 1) m).2, _, _, _, _, _, _, _, _, _, _, _, _, _, _, _, _, _, _, _, _, _, _, _, _, _, _, _, _, _, _, _, _, rfl, by omega, rfl, by have := hm2 hr; omega, by simp; omega, lim_get hB, Lib.hid (lim_take hlB hT.out), Lib.hid ((hF.out.snoc (kids_u _)).set (fun _ => rfl) b), Lib.hid (lim_next hlt hL.out hr)⟩
    case false =>
     refine X_rc fun R hR => ?_
     simp only [EVP, inr_i64, Int.reduceLE, Int.reduceNeg, app_get0, aops, astep, awant, aeff, aop, abin, aint, mkD, ev, ofValue, St.put, zmc, zmn, zg1, zg0, zgd, zmo, if_true, zs1, zs0, zlc, zln, zd0, zt1, zt0, zca, zna, Nat.reduceAdd, Nat.reduceLeDiff, Nat.zero_add, and_self, ty_api_Node, nat_pred hd0 hd1, hc, hr]
     refine hR _ ?_
     clear hR R
     show X _ _ _ _
     refine X_true (by simp only [ev, zs1, zs0, zg1, zg0, zgd, Bool.not_false]) ?_
     refine X_seq ?_
     refine X_rc fun R hR => ?_
     simp only [aops, astep, awant, aeff, aop, ev, ofValue, St.put, zgd, zmo, if_true, zs1, zs0, Bool.not_false]
     refine hR _ ?_
     clear hR R
     show X _ _ _ _
     refine X_ret ?_
     show _ ∧ _
     refine ⟨.inr rfl, ?_, by simp; omega, ?_, rfl, rfl⟩
     ·simp only [resD, resAll, resOne, resTup, Try.results54, zg1, zg0, D.good, if_true, zmo]
      exact congrArg (fun b => some (D.bool b)) (by rw [lim_no hlt hd hn0 hL.out hr])
     ·rw [lim_no hlt hd hn0 hL.out hr]; exact lim_take hlB hT.out
   ·skip
    refine X_rc fun R hR => ?_
    simp only [nat_lt, aops, astep, awant, aeff, aop, abin, aint, ev, St.put, zg1, zg0, zgd, zmo, if_true, zs1, zs0]
    refine hR _ ?_
    clear hR R
    show X _ _ _ _
    refine X_seq ?_
    refine X_false (by simp only [ev, zg1, zg0, zgd, decide_false, hlt]) ?_
    refine X_exit ?_
    show X _ _ _ _
    refine X_seq ?_
    refine X_rc fun R hR => ?_
    simp only [aops, astep, awant, aeff, aop, ev, ofValue, St.put, zgd, zmo, if_true, zs1, zs0]
    refine hR _ ?_
    clear hR R
    show X _ _ _ _
    refine X_ret ?_
    show _ ∧ _
    refine ⟨.inr rfl, ?_, hlB, ?_, rfl, rfl⟩
    ·simp only [resD, resAll, resOne, resTup, Try.results54, zg1, zg0, D.good, if_true, zmo]
     exact congrArg (fun b => some (D.bool b)) (by rw [lim_end (by omega) hd hn0 hL.out])
    ·rw [lim_end (by omega) hd hn0 hL.out]; exact hT.out

end Go.Proofs.Ytmglacjcefajlaa

/- Valid: the programs. -/
namespace Go.Proofs.Ytmglacjcefajlaa
open Go.RowKit

def bodyB (t : Tr) : Bool := decide (t.depth ≤ 80 ∧ t.size ≤ 2000) && blockB t
theorem Free2 (t : Tr) (x : D) (hx : ∀ m, x.under m = true) : Free [(dN t).cells, [x]] := by
 intro cs hcs m
 simp only [List.mem_cons, List.not_mem_nil, or_false] at hcs
 rcases hcs with rfl | rfl
 ·exact kids_unders t m
 ·simp only [D.unders, hx m, Bool.and_true]
theorem any_0 : (Try.prog.funcs[54]?).any (fun fn => fn.body.isSome && fn.name != "runtime.NumGoroutine") = true := by kernel_rfl
theorem any_1 : (Try.prog.funcs[49]?).any (fun fn => fn.body.isSome && fn.name != "runtime.NumGoroutine") = true := by kernel_rfl
theorem any_6 : (Try.prog.funcs[30]?).any (fun fn => fn.body.isSome && fn.name != "runtime.NumGoroutine") = true := by kernel_rfl
theorem any_8 : (Try.prog.funcs[31]?).any (fun fn => fn.body.isSome && fn.name != "runtime.NumGoroutine") = true := by kernel_rfl
theorem any_10 : (Try.prog.funcs[32]?).any (fun fn => fn.body.isSome && fn.name != "runtime.NumGoroutine") = true := by kernel_rfl
set_option maxRecDepth 100000 in
set_option maxHeartbeats 4000000 in
theorem isBody_fn (t : Tr) : fn EV 32 [dN t] = some (.bool (bodyB t)) := by
 refine fn_X rfl Try.func32 rfl ?_ rfl rfl rfl ?_
 ·simp [plain, dN_under, dN_good]
 simp only [zmc, zmn, dN_strip]
 simp only [enterSt, Try.ntmps32, zlc, zln, Nat.reduceAdd, Nat.reduceSub, zr1, zr0, zca, zna]
 refine X_seq ?_
 refine X_rc fun R hR => ?_
 simp only [aops, astep, awant, aeff, aop, ev, ofValue, St.put, D.cells, D.good, zg0, zgd, zmo, if_true, zs1, zs0, zln, zna, sl, dN_eq]
 refine hR _ ?_
 clear hR R
 show X _ _ _ _
 refine X_seq ?_
 refine X_rc fun R hR => ?_
 simp only [EVP, inr_i64, Int.reduceLE, Int.reduceNeg, aops, astep, awant, aeff, astore, ev, ofValue, St.put, D.cells, D.good, zg1, zg0, zgd, zmo, zbs, if_true, zs1, zs0, zlc, zln, zd1, zd0, zt0, zca, zna, Nat.reduceLeDiff, Nat.zero_add, and_self, ty_int]
 refine hR _ ?_
 clear hR R
 show X _ _ _ _
 refine X_seq ?_
 have fbl : ∀ t, fn EV 49 [.agg [.int .u8 t.kind, .int .i64 t.num, .str t.name, .slice .imm (if (t.kids.map dN).isEmpty = true then 0 else 4) (t.kids.map dN)]] = some (.bool (blockB t)) := fun t => by have := f_node (k := 49) (f := fun t => some (.bool (blockB t))) (t := t) (fun _ => rfl) rfl; rw [dN_eq] at this; exact this
 have hbl := fun σ => cal_pure (fbl t) σ
 have hc := fun fr => lim_cal t.size t (Nat.le_refl _) 80 2000 (by decide) (by decide) ⟨fr, [(dN t).cells, [.int .i64 (2000 : Nat)]], 0, []⟩ 1 rfl (Free2 t _ fun _ => rfl)
 simp only [dN_eq, sl, D.cells, limT_dec, Int.cast_ofNat_Int, zs1, zs0] at hc
 cases hl : (decide (t.depth ≤ 80 ∧ t.size ≤ 2000) : Bool)
 case true =>
  refine X_rc fun R hR => ?_
  simp only [EVP, inr_i64, Int.reduceLE, Int.reduceNeg, aops, astep, awant, aeff, aop, mkD, ev, ofValue, St.put, zmc, zmn, zg1, zg0, zgd, zmo, zbs, if_true, zs1, zs0, zlc, zln, zd0, zt1, zt0, zca, zna, Nat.reduceAdd, Nat.reduceLeDiff, Nat.zero_add, and_self, beq_self_eq_true, ty_api_Node, any_0, any_1, hc, hl, hbl]
  refine hR _ ?_
  clear hR R
  show X _ _ _ _
  refine X_ret ?_
  show resD _ _ _ = some _
  simp only [resD, resAll, resOne, resTup, Try.results32, zg1, zg0, D.good, if_true, zmo]
  refine congrArg (fun b => some (D.bool b)) ?_
  simp only [bodyB, hl, Bool.true_and]
 case false =>
  refine X_rc fun R hR => ?_
  simp only [EVP, inr_i64, Int.reduceLE, Int.reduceNeg, aops, astep, awant, aeff, aop, mkD, ev, ofValue, St.put, zmc, zmn, zg1, zg0, zgd, zmo, zbs, if_true, zs1, zs0, zlc, zln, zd0, zt1, zt0, zca, zna, Nat.reduceAdd, Nat.reduceLeDiff, Nat.zero_add, zft, if_false, and_self, ty_api_Node, any_0, any_1, bq_ft, hc, hl]
  refine hR _ ?_
  clear hR R
  show X _ _ _ _
  refine X_ret ?_
  show resD _ _ _ = some _
  simp only [resD, resAll, resOne, resTup, Try.results32, zg1, zg0, D.good, if_true, zmo]
  refine congrArg (fun b => some (D.bool b)) ?_
  simp only [bodyB, hl, Bool.false_and]
end Go.Proofs.Ytmglacjcefajlaa

/- Valid: the programs, joined. -/
namespace Go.Proofs.Ytmglacjcefajlaa
open Go.RowKit

def procB (q : Pr) : Bool := nameB q.name && !decide ((q.params.length : Int) > 8) && q.params.all declB && bodyB q.body
def validB (p : Pg) : Bool := !decide ((p.vars.length : Int) > 32) && !decide ((p.procs.length : Int) > 64) && p.vars.all declB && p.procs.all procB && bodyB p.main
theorem val_1 {p : Pg} (h : decide ((p.vars.length : Int) > 32) = true) : validB p = false := by simp only [validB, h, Bool.not_true, Bool.false_and]
theorem val_2 {p : Pg} (h : decide ((p.procs.length : Int) > 64) = true) : validB p = false := by simp only [validB, h, Bool.not_true, Bool.false_and, Bool.and_false]
theorem val_v {p : Pg} (h : p.vars.all declB = false) : validB p = false := by simp only [validB, h, Bool.false_and, Bool.and_false]
theorem val_p {p : Pg} (h : p.procs.all procB = false) : validB p = false := by simp only [validB, h, Bool.false_and, Bool.and_false]
theorem val_y {p : Pg} (h1 : decide ((p.vars.length : Int) > 32) = false) (h2 : decide ((p.procs.length : Int) > 64) = false) (h3 : p.vars.all declB = true) (h4 : p.procs.all procB = true) : validB p = bodyB p.main := by simp only [validB, h1, h2, h3, h4, Bool.not_false, Bool.true_and]
theorem small {p : Pg} (h : bigP p = false) : p.vars.length ≤ 40 ∧ p.procs.length ≤ 70 ∧ bigB p.main = false ∧ ∀ q ∈ p.procs, q.params.length ≤ 10 ∧ bigB q.body = false := by
 simp only [bigP, zof, decide_eq_false_iff_not, List.any_eq_false, bigQ, Bool.or_eq_true, not_or, decide_eq_true_eq, Bool.not_eq_true] at h
 obtain ⟨⟨⟨h1, h2⟩, h3⟩, h4⟩ := h
 refine ⟨by omega, by omega, h3, fun q hq => ?_⟩
 obtain ⟨a, b⟩ := h4 q hq
 exact ⟨by omega, b⟩
theorem isBody_f (t : Tr) : fn EV 32 [.agg [.int .u8 t.kind, .int .i64 t.num, .str t.name, .slice .imm (if (t.kids.map dN).isEmpty = true then 0 else 4) (t.kids.map dN)]] = some (.bool (bodyB t)) := by have := isBody_fn t; rw [dN_eq] at this; exact this
theorem declared_f (l : List Vd) (h : l.length ≤ 4000000) : fn EV 30 [.slice .imm (if (l.map dV).isEmpty = true then 0 else 3) (l.map dV)] = some (.bool (l.all declB)) := declared_fn l (by omega)
set_option maxRecDepth 100000 in
set_option maxHeartbeats 4000000 in
theorem valid_fn (p : Pg) : fn EV 14 [dG p] = some (.bool (validB p)) := by
 refine fn_X rfl Try.func14 rfl ?_ rfl rfl rfl ?_
 ·simp [plain, dG_under]; rfl
 simp only [zmc, zmn, dG_strip]
 simp only [enterSt, Try.ntmps14, zlc, zln, Nat.reduceAdd, Nat.reduceSub, zr1, zr0, zca, zna]
 refine X_seq ?_
 refine X_rg fun R hR => ?_
 simp only [aops, astep, awant, aeff, aop, ev, ofValue, St.put, D.cells, D.good, zg0, zgd, zmo, if_true, zs1, zs0, zln, zna, sl, dG]
 with_reducible refine hR _ ?_
 clear hR R
 show X _ _ _ _
 refine X_seq ?_
 refine X_seq ?_
 have fva : decide ((p.vars.length : Int) > 32) = false → _ := fun h => declared_f p.vars (by simp at h; omega)
 cases hc1 : (decide ((p.vars.length : Int) > 32) : Bool)
 case true =>
  refine X_rg fun R hR => ?_
  simp only [EVP, inr_i64, Int.reduceLE, Int.reduceNeg, aops, astep, awant, aeff, aop, abin, aint, mkD, ev, ofValue, St.put, pcall, D.isAgg, zmc, zmn, zg1, zg0, zgd, zmo, Option.map_none, zbs, if_true, zs1, zs0, zlm, zlc, zln, zd0, zt1, zt0, zca, zna, Nat.reduceAdd, Nat.reduceLeDiff, Nat.zero_add, Nat.add_zero, zft, if_false, and_self, reduceCtorEq, ty_api_Program, ty_s_api_VarDecl, ty_s_api_Proc, und_api_VarDecl, und_api_Proc, any_6, bq_tf, hc1]
  with_reducible refine hR _ ?_
  clear hR R
  show X _ _ _ _
  refine X_true (by simp only [ev, zg1, zg0, zgd]) ?_
  refine X_seq ?_
  refine X_rg fun R hR => ?_
  simp only [aops, astep, awant, aeff, aop, ev, ofValue, St.put, zgd, zmo, if_true, zs1, zs0]
  with_reducible refine hR _ ?_
  clear hR R
  show X _ _ _ _
  refine X_ret ?_
  show resD _ _ _ = some _
  simp only [resD, resAll, resOne, resTup, Try.results14, zg1, zg0, D.good, if_true, zmo]
  refine congrArg (fun b => some (D.bool b)) ?_
  rw [val_1 hc1]
 case false =>
  cases hc2 : (decide ((p.procs.length : Int) > 64) : Bool)
  case true =>
   refine X_rg fun R hR => ?_
   simp only [EVP, inr_i64, Int.reduceLE, Int.reduceNeg, aops, astep, awant, aeff, aop, abin, aint, mkD, ev, ofValue, St.put, pcall, D.isAgg, zmc, zmn, zg1, zg0, zgd, zmo, Option.map_none, zbs, if_true, zs1, zs0, zlm, zlc, zln, zd1, zd0, zt1, zt0, zca, zna, Nat.reduceAdd, Nat.reduceLeDiff, Nat.zero_add, Nat.add_zero, zft, if_false, and_self, reduceCtorEq, beq_self_eq_true, ty_api_Program, ty_s_api_VarDecl, ty_s_api_Proc, und_api_VarDecl, und_api_Proc, any_6, bq_tf, hc1, hc2]
   with_reducible refine hR _ ?_
   clear hR R
   show X _ _ _ _
   refine X_true (by simp only [ev, zg1, zg0, zgd]) ?_
   refine X_seq ?_
   refine X_rg fun R hR => ?_
   simp only [aops, astep, awant, aeff, aop, ev, ofValue, St.put, zgd, zmo, if_true, zs1, zs0]
   with_reducible refine hR _ ?_
   clear hR R
   show X _ _ _ _
   refine X_ret ?_
   show resD _ _ _ = some _
   simp only [resD, resAll, resOne, resTup, Try.results14, zg1, zg0, D.good, if_true, zmo]
   refine congrArg (fun b => some (D.bool b)) ?_
   rw [val_2 hc2]
  case false =>
   cases hc3 : (p.vars.all declB : Bool)
   case true =>
    refine X_rg fun R hR => ?_
    simp only [EVP, inr_i64, Int.reduceLE, Int.reduceNeg, aops, astep, awant, aeff, aop, abin, aint, mkD, ev, ofValue, St.put, pcall, D.isAgg, zmc, zmn, zg1, zg0, zgd, zmo, zbs, if_true, zs1, zs0, zlm, zlc, zln, zd1, zd0, zt1, zt0, zca, zna, Nat.reduceAdd, Nat.reduceLeDiff, Nat.zero_add, Nat.add_zero, Bool.not_true, zft, if_false, and_self, reduceCtorEq, beq_self_eq_true, ty_api_Program, ty_s_api_VarDecl, ty_s_api_Proc, und_api_VarDecl, und_api_Proc, any_6, hc1, hc2, fva hc1, hc3]
    with_reducible refine hR _ ?_
    clear hR R
    show X _ _ _ _
    refine X_false (by simp only [ev, zg1, zg0, zgd]) ?_
    refine X_skip ?_
    show X _ _ _ _
    refine X_seq ?_
    refine X_seq ?_
    refine X_rg fun R hR => ?_
    simp only [EVP, inr_i64, Int.reduceLE, Int.reduceNeg, aops, astep, awant, aeff, aop, mkD, ev, ofValue, St.put, D.isAgg, zg1, zg0, zgd, zmo, if_true, zs1, zs0, zlm, zlc, zln, zd1, zd0, zt1, zt0, Nat.reduceAdd, Nat.reduceLeDiff, Nat.zero_add, zft, if_false, and_self, reduceCtorEq, ty_api_Program, ty_s_api_Proc, und_api_Proc]
    with_reducible refine hR _ ?_
    clear hR R
    show X _ _ _ _
    refine X_block ?_
    refine X_loop (fun n σ => ∃ (i : Nat) (r : List (List D)) (x0 x2 x3 x4 x5 x6 x7 x8 x9 x10 x11 x12 x13 x14 x15 x16 x17 x18 x19 x20 x21 x25 x26 x27 x28 x29 x30 x31 x32 x33 x34 x35 x36 x37 x38 x39 x40 x41 x42 x43 x44 x45 x46 x47 x48 x49 x50 x51 x52 x53 : D), σ = ⟨[x0, .ptr 0 0, x2, x3, x4, x5, x6, x7, x8, x9, x10, x11, x12, x13, x14, x15, x16, x17, x18, x19, x20, x21, .slice .imm (if (p.procs.map dP).isEmpty = true then 0 else 6) (p.procs.map dP), .int .i64 p.procs.length, .int .i64 i, x25, x26, x27, x28, x29, x30, x31, x32, x33, x34, x35, x36, x37, x38, x39, x40, x41, x42, x43, x44, x45, x46, x47, x48, x49, x50, x51, x52, x53], [.slice .imm (if (p.vars.map dV).isEmpty = true then 0 else 3) (p.vars.map dV), .slice .imm (if (p.procs.map dP).isEmpty = true then 0 else 6) (p.procs.map dP), .int .u8 p.main.kind, .int .i64 p.main.num, .str p.main.name, .slice .imm (if (p.main.kids.map dN).isEmpty = true then 0 else 4) (p.main.kids.map dN)] :: r, 0, []⟩ ∧ i ≤ p.procs.length ∧ n = p.procs.length - i ∧ Hid ((p.procs.take i).all procB = true)) ?_ (p.procs.length) _ ?_
    rotate_left
    ·exact ⟨0, [], _, _, _, _, _, _, _, _, _, _, _, _, _, _, _, _, _, _, _, _, _, _, _, _, _, _, _, _, _, _, _, _, _, _, _, _, _, _, _, _, _, _, _, _, _, _, _, _, _, _, rfl, Nat.zero_le _, rfl, Lib.hid (by simp)⟩
    rintro n _ ⟨i, r, x0, x2, x3, x4, x5, x6, x7, x8, x9, x10, x11, x12, x13, x14, x15, x16, x17, x18, x19, x20, x21, x25, x26, x27, x28, x29, x30, x31, x32, x33, x34, x35, x36, x37, x38, x39, x40, x41, x42, x43, x44, x45, x46, x47, x48, x49, x50, x51, x52, x53, rfl, hi, rfl, hall⟩
    refine X_seq ?_
    by_cases hlt : i < p.procs.length
    ·skip
     have hn : ((if (p.procs.map dP).isEmpty = true then 0 else 6) = 6) = True := eq_true (sl_n (j := i) (by simpa using hlt))
     have e1 : (p.procs.map dP)[i]? = some (dP p.procs[i]) := by simp [hlt]
     have hbig : i < 9223372036854775807 := by have h := hc2; simp at h; omega
     have fnm : fn EV 31 [.str p.procs[i].name] = some (.bool (nameB p.procs[i].name)) := fn_orc EV rfl rfl
     have fpa : decide ((p.procs[i].params.length : Int) > 8) = false → _ := fun h => declared_f p.procs[i].params (by simp at h; omega)
     have fbo := isBody_f p.procs[i].body
     refine X_rg fun R hR => ?_
     simp only [nat_lt, aops, astep, awant, aeff, aop, abin, aint, ev, St.put, zg1, zg0, zgd, zmo, if_true, zs1, zs0]
     with_reducible refine hR _ ?_
     clear hR R
     show X _ _ _ _
     refine X_seq ?_
     refine X_true (by simp only [ev, zg1, zg0, zgd, decide_true, hlt]) ?_
     refine X_skip ?_
     show X _ _ _ _
     refine X_seq ?_
     refine X_block ?_
     refine X_seq ?_
     refine X_rg fun R hR => ?_
     simp only [EVP, app_get0, app_set0, nat_lt, nat_0, nat_to, aops, astep, awant, aeff, aop, astore, ev, St.put, D.cells, D.good, D.isAgg, zg1, zg0, zgd, zmo, zbs, if_true, zs1, zs0, zlm, zlc, zln, zd1, zd0, zt0, zca, zna, Nat.reduceAdd, Nat.reduceLeDiff, Nat.zero_add, and_self, decide_true, ty_api_Proc, und_api_Proc, siz_api_Proc, has_api_Proc, sl, dP, hlt, hn, e1]
     with_reducible refine hR _ ?_
     clear hR R
     show X _ _ _ _
     refine X_seq ?_
     cases h1 : (nameB p.procs[i].name : Bool)
     case true =>
      cases h2 : (decide ((p.procs[i].params.length : Int) > 8) : Bool)
      case true =>
       refine X_rg fun R hR => ?_
       simp only [EVP, inr_i64, Int.reduceLE, Int.reduceNeg, app_get0, aops, astep, awant, aeff, aop, abin, aint, mkD, ev, ofValue, St.put, pcall, D.isAgg, zmc, zmn, zg1, zg0, zgd, zmo, Option.map_none, zbs, if_true, zs1, zs0, zlm, zlc, zln, zd1, zd0, zt1, zt0, zca, zna, Nat.reduceAdd, Nat.reduceLeDiff, Nat.zero_add, Nat.add_zero, Bool.not_true, zft, if_false, and_self, reduceCtorEq, beq_self_eq_true, ty_string, ty_api_Proc, ty_api_Node, ty_s_api_VarDecl, und_api_VarDecl, any_6, any_8, any_10, bq_tf, fnm, h1, h2]
       with_reducible refine hR _ ?_
       clear hR R
       show X _ _ _ _
       refine X_true (by simp only [ev, zg1, zg0, zgd]) ?_
       refine X_seq ?_
       refine X_rg fun R hR => ?_
       simp only [aops, astep, awant, aeff, aop, ev, ofValue, St.put, zgd, zmo, if_true, zs1, zs0]
       with_reducible refine hR _ ?_
       clear hR R
       show X _ _ _ _
       refine X_ret ?_
       show resD _ _ _ = some _
       simp only [resD, resAll, resOne, resTup, Try.results14, zg1, zg0, D.good, if_true, zmo]
       refine congrArg (fun b => some (D.bool b)) ?_
       rw [val_p (all_no procB p.procs i hlt (by simp only [procB, h2, Bool.not_true, Bool.false_and, Bool.and_false]))]
      case false =>
       cases h3 : (p.procs[i].params.all declB : Bool)
       case true =>
        cases h4 : (bodyB p.procs[i].body : Bool)
        case true =>
         refine X_rg fun R hR => ?_
         simp only [EVP, inr_i64, Int.reduceLE, Int.reduceNeg, app_get0, aops, astep, awant, aeff, aop, abin, aint, mkD, ev, ofValue, St.put, pcall, D.isAgg, zmc, zmn, zg1, zg0, zgd, zmo, zbs, if_true, zs1, zs0, zlm, zlc, zln, zd1, zd0, zt1, zt0, zca, zna, Nat.reduceAdd, Nat.reduceLeDiff, Nat.zero_add, Nat.add_zero, Bool.not_true, zft, if_false, and_self, reduceCtorEq, beq_self_eq_true, ty_string, ty_api_Proc, ty_api_Node, ty_s_api_VarDecl, und_api_VarDecl, any_6, any_8, any_10, fnm, h1, h2, fpa h2, h3, fbo, h4]
         with_reducible refine hR _ ?_
         clear hR R
         show X _ _ _ _
         refine X_false (by simp only [ev, zg1, zg0, zgd]) ?_
         refine X_skip ?_
         show X _ _ _ _
         refine X_rg fun R hR => ?_
         simp only [inr_i64, Int.reduceLE, Int.reduceNeg, aops, astep, awant, aeff, aop, abin, aint, ev, ofValue, St.put, zg1, zg0, zgd, zmo, if_true, zs1, zs0, and_self, nat_succ hbig]
         with_reducible refine hR _ ?_
         clear hR R
         show ∃ m, m < _ ∧ _
         exact ⟨p.procs.length - (i + 1), by omega, i + 1, _, _, _, _, _, _, _, _, _, _, _, _, _, _, _, _, _, _, _, _, _, _, _, _, _, _, _, _, _, _, _, _, _, _, _, _, _, _, _, _, _, _, _, _, _, _, _, _, _, _, _, rfl, by omega, rfl, Lib.hid (all_yes procB p.procs i hlt hall.out (by simp only [procB, h1, h2, h3, h4, Bool.not_false, Bool.and_true]))⟩
        case false =>
         refine X_rg fun R hR => ?_
         simp only [EVP, inr_i64, Int.reduceLE, Int.reduceNeg, app_get0, aops, astep, awant, aeff, aop, abin, aint, mkD, ev, ofValue, St.put, pcall, D.isAgg, zmc, zmn, zg1, zg0, zgd, zmo, zbs, if_true, zs1, zs0, zlm, zlc, zln, zd1, zd0, zt1, zt0, zca, zna, Nat.reduceAdd, Nat.reduceLeDiff, Nat.zero_add, Nat.add_zero, Bool.not_true, Bool.not_false, zft, if_false, and_self, reduceCtorEq, beq_self_eq_true, ty_string, ty_api_Proc, ty_api_Node, ty_s_api_VarDecl, und_api_VarDecl, any_6, any_8, any_10, fnm, h1, h2, fpa h2, h3, fbo, h4]
         with_reducible refine hR _ ?_
         clear hR R
         show X _ _ _ _
         refine X_true (by simp only [ev, zg1, zg0, zgd]) ?_
         refine X_seq ?_
         refine X_rg fun R hR => ?_
         simp only [aops, astep, awant, aeff, aop, ev, ofValue, St.put, zgd, zmo, if_true, zs1, zs0]
         with_reducible refine hR _ ?_
         clear hR R
         show X _ _ _ _
         refine X_ret ?_
         show resD _ _ _ = some _
         simp only [resD, resAll, resOne, resTup, Try.results14, zg1, zg0, D.good, if_true, zmo]
         refine congrArg (fun b => some (D.bool b)) ?_
         rw [val_p (all_no procB p.procs i hlt (by simp only [procB, h4, Bool.and_false]))]
       case false =>
        refine X_rg fun R hR => ?_
        simp only [EVP, inr_i64, Int.reduceLE, Int.reduceNeg, app_get0, aops, astep, awant, aeff, aop, abin, aint, mkD, ev, ofValue, St.put, pcall, D.isAgg, zmc, zmn, zg1, zg0, zgd, zmo, Option.map_none, zbs, if_true, zs1, zs0, zlm, zlc, zln, zd1, zd0, zt1, zt0, zca, zna, Nat.reduceAdd, Nat.reduceLeDiff, Nat.zero_add, Nat.add_zero, Bool.not_true, Bool.not_false, zft, if_false, and_self, reduceCtorEq, beq_self_eq_true, ty_string, ty_api_Proc, ty_api_Node, ty_s_api_VarDecl, und_api_VarDecl, any_6, any_8, any_10, bq_tf, fnm, h1, h2, fpa h2, h3]
        with_reducible refine hR _ ?_
        clear hR R
        show X _ _ _ _
        refine X_true (by simp only [ev, zg1, zg0, zgd]) ?_
        refine X_seq ?_
        refine X_rg fun R hR => ?_
        simp only [aops, astep, awant, aeff, aop, ev, ofValue, St.put, zgd, zmo, if_true, zs1, zs0]
        with_reducible refine hR _ ?_
        clear hR R
        show X _ _ _ _
        refine X_ret ?_
        show resD _ _ _ = some _
        simp only [resD, resAll, resOne, resTup, Try.results14, zg1, zg0, D.good, if_true, zmo]
        refine congrArg (fun b => some (D.bool b)) ?_
        rw [val_p (all_no procB p.procs i hlt (by simp only [procB, h3, Bool.false_and, Bool.and_false]))]
     case false =>
      refine X_rg fun R hR => ?_
      simp only [EVP, inr_i64, Int.reduceLE, Int.reduceNeg, app_get0, aops, astep, awant, aeff, aop, abin, mkD, ev, ofValue, St.put, pcall, D.isAgg, zmc, zmn, zg1, zg0, zgd, zmo, Option.map_none, zbs, if_true, zs1, zs0, zlc, zln, zd0, zt1, zt0, zca, zna, Nat.reduceAdd, Nat.reduceLeDiff, Nat.zero_add, Nat.add_zero, Bool.not_false, zft, if_false, and_self, reduceCtorEq, ty_string, ty_api_Proc, ty_api_Node, ty_s_api_VarDecl, und_api_VarDecl, any_6, any_8, any_10, bq_tf, fnm, h1]
      with_reducible refine hR _ ?_
      clear hR R
      show X _ _ _ _
      refine X_true (by simp only [ev, zg1, zg0, zgd]) ?_
      refine X_seq ?_
      refine X_rg fun R hR => ?_
      simp only [aops, astep, awant, aeff, aop, ev, ofValue, St.put, zgd, zmo, if_true, zs1, zs0]
      with_reducible refine hR _ ?_
      clear hR R
      show X _ _ _ _
      refine X_ret ?_
      show resD _ _ _ = some _
      simp only [resD, resAll, resOne, resTup, Try.results14, zg1, zg0, D.good, if_true, zmo]
      refine congrArg (fun b => some (D.bool b)) ?_
      rw [val_p (all_no procB p.procs i hlt (by simp only [procB, h1, Bool.false_and]))]
    ·skip
     refine X_rg fun R hR => ?_
     simp only [nat_lt, aops, astep, awant, aeff, aop, abin, aint, ev, St.put, zg1, zg0, zgd, zmo, if_true, zs1, zs0]
     with_reducible refine hR _ ?_
     clear hR R
     show X _ _ _ _
     refine X_seq ?_
     refine X_false (by simp only [ev, zg1, zg0, zgd, decide_false, hlt]) ?_
     refine X_exit ?_
     show X _ _ _ _
     refine X_seq ?_
     have fmb := isBody_f p.main
     refine X_rg fun R hR => ?_
     simp only [EVP, aops, astep, awant, aeff, aop, mkD, ev, St.put, pcall, zmc, zmn, zg1, zg0, zgd, zmo, if_true, zs1, zs0, zlc, zln, zd1, zd0, zt1, zt0, zca, zna, Nat.reduceAdd, Nat.reduceLeDiff, Nat.zero_add, if_false, reduceCtorEq, ty_api_Program, ty_api_Node, any_10, fmb]
     with_reducible refine hR _ ?_
     clear hR R
     show X _ _ _ _
     refine X_ret ?_
     show resD _ _ _ = some _
     simp only [resD, resAll, resOne, resTup, Try.results14, zg1, zg0, D.good, if_true, zmo]
     refine congrArg (fun b => some (D.bool b)) ?_
     have hh := hall.out
     rw [List.take_of_length_le (by omega)] at hh
     rw [val_y hc1 hc2 hc3 hh]
   case false =>
    refine X_rg fun R hR => ?_
    simp only [EVP, inr_i64, Int.reduceLE, Int.reduceNeg, aops, astep, awant, aeff, aop, abin, aint, mkD, ev, ofValue, St.put, pcall, D.isAgg, zmc, zmn, zg1, zg0, zgd, zmo, zbs, if_true, zs1, zs0, zlm, zlc, zln, zd1, zd0, zt1, zt0, zca, zna, Nat.reduceAdd, Nat.reduceLeDiff, Nat.zero_add, Nat.add_zero, Bool.not_false, zft, if_false, and_self, reduceCtorEq, beq_self_eq_true, ty_api_Program, ty_s_api_VarDecl, ty_s_api_Proc, und_api_VarDecl, und_api_Proc, any_6, hc1, hc2, fva hc1, hc3]
    with_reducible refine hR _ ?_
    clear hR R
    show X _ _ _ _
    refine X_true (by simp only [ev, zg1, zg0, zgd]) ?_
    refine X_seq ?_
    refine X_rg fun R hR => ?_
    simp only [aops, astep, awant, aeff, aop, ev, ofValue, St.put, zgd, zmo, if_true, zs1, zs0]
    with_reducible refine hR _ ?_
    clear hR R
    show X _ _ _ _
    refine X_ret ?_
    show resD _ _ _ = some _
    simp only [resD, resAll, resOne, resTup, Try.results14, zg1, zg0, D.good, if_true, zmo]
    refine congrArg (fun b => some (D.bool b)) ?_
    rw [val_v hc3]

end Go.Proofs.Ytmglacjcefajlaa
