/- The examples of the chapter. -/
import Derived.Test.YtmglacjcefajlaaCk3
import Derived.Test.YtmglacjcefajlaaCk4
namespace Go.Proofs.Ytmglacjcefajlaa
open Go.RowKit

def vX : ByteArray := ⟨#[120]⟩
def vA : ByteArray := ⟨#[97]⟩
def one9 : Tr := .mk 1 1 ⟨#[]⟩ []
def non9 : Tr := .mk 57 0 ⟨#[]⟩ []
def lf9 (s : ByteArray) : Tr := .mk 2 0 s []
def st9 (k : Int) (l : List Tr) : Tr := .mk k 0 ⟨#[]⟩ l
def m9 : Tr := st9 57 [st9 40 [lf9 vX, lf9 vX], st9 56 [lf9 vX, one9], st9 52 [st9 20 [lf9 vX, one9], non9, non9, one9], st9 52 [one9, non9, non9, one9]]
def p9 : Pg := ⟨[⟨vX, 1, 0⟩, ⟨vA, 2, 2⟩], [], m9⟩
theorem c9 : sl 4 ((chkF p9).map dFt) = .slice .imm 4 [.agg [.int .i64 (-1), .slice .imm 1 [.int .i64 0], .int .i64 8, .str ⟨#[120]⟩], .agg [.int .i64 (-1), .slice .imm 1 [.int .i64 1], .int .i64 9, .str ⟨#[120]⟩], .agg [.int .i64 (-1), .slice .imm 1 [.int .i64 2], .int .i64 10, .str ⟨#[]⟩]] := by kernel_rfl
theorem o9 : (validB p9 && (checkF p9).isEmpty && (chkF p9).isEmpty) = false := by kernel_rfl
theorem leaf9 (s : ByteArray) : fn EV 27 [.str s] = some (dN (lf9 s)) := fn_of (n := 10) (by unfold lf9; kernel_rfl)
set_option maxRecDepth 100000 in
set_option maxHeartbeats 4000000 in
theorem stmt9 (k : Int) (l : List Tr) : fn EV 26 [.int .u8 k, sl 4 (l.map dN)] = some (dN (st9 k l)) := by
 refine fn_Xs rfl Try.func26 rfl (by simp only [plain, List.all_cons, List.all_nil, int_pl, sl_pl (f := dN) dN_under, Bool.and_true]) (rfl) ?_
 simp only [zmc, zmn, D.strip, sl_strip (map_strip (f := dN) dN_strip _)]
 simp only [enterSt, Try.ntmps26, zlc, zln, Nat.reduceAdd, Nat.reduceSub, zr1, zr0, zca, zna]
 refine X_seq ?_
 refine X_rg fun R hR => ?_
 simp only [EVP, aops, astep, awant, aeff, St.put, zmo, zbs, if_true, zs1, zs0, zln, zna, ty_api_Node, sl]
 with_reducible refine hR _ ?_
 clear hR R
 show X _ _ _ _
 refine X_seq ?_
 refine X_rg fun R hR => ?_
 simp only [EVP, aops, astep, awant, aeff, aop, afill, astore, ev, ofValue, St.put, gd_int, cl_int, gd_agg, cl_agg, gd_slice, cl_slice, zmc, zmn, zg1, zg0, zgd, zmo, if_true, zs1, zs0, zlc, zln, zd1, zd0, zt1, zt0, zca, zna, Nat.reduceAdd, Nat.reduceLeDiff, Nat.zero_add, and_self, ty_api_Node, st_api_Node, sta_api_Node]
 with_reducible refine hR _ ?_
 clear hR R
 show X _ _ _ _
 refine X_ret ?_
 show ∃ d, resD _ _ _ = some d ∧ _ ∧ _
 refine ⟨_, by simp only [resD, resAll, resOne, resTup, Try.results26, EVP, mkD, ty_api_Node, zg1, zg0, zd0, zt1, zt0, zlc, zln, Nat.reduceAdd, Nat.reduceLeDiff, Nat.zero_add, if_true, zmo]; exact rfl, ?_, ?_⟩
 ·first | (simp [D.under, D.unders, unders_id (f := dN) dN_under]; done) | (exfalso; simp_all; done)
 ·first | (rw [dN_eq]; simp [st9, D.strip, D.strips, Own.st, Tr.kind, Tr.num, Tr.name, Tr.kids, strips_id (f := dN) dN_strip, sl]; done) | (exfalso; simp_all; done)
theorem stmt9o (k : Int) (l : List D) (ts : List Tr) (h1 : D.unders 0 l = true) (h2 : D.strips l = ts.map dN) (hne : ts ≠ []) (s : Nat) : fn EV 26 [.int .u8 k, .slice (.own s 26) 4 l] = some (dN (st9 k ts)) := by
 rw [← stmt9]
 refine fn_strip (by simp only [plain, List.all_cons, List.all_nil, D.under, h1, Bool.and_true, Bool.true_and]; rfl) (by simp only [plain, List.all_cons, List.all_nil, int_pl, sl_pl (f := dN) dN_under, Bool.and_true]) ?_
 have hl : l.isEmpty = false := by
  cases l with
  | nil => cases ts with
   | nil => exact absurd rfl hne
   | cons a r => cases h2
  | cons a r => rfl
 simp only [zmc, zmn, sl_strip (map_strip (f := dN) dN_strip _)]
 simp only [D.strip, Own.st, h2, hl, zft, if_false, sl]
 cases ts with
 | nil => exact absurd rfl hne
 | cons a r => rfl
theorem gp9 (s : Nat) (e : TypeId) : plain [.agg [.slice (.own s e) 3 [.agg [.str ⟨#[120]⟩, .int .u8 1, .int .i64 0], .agg [.str ⟨#[97]⟩, .int .u8 2, .int .i64 2]], .slice .nil 0 [], .int .u8 m9.kind, .int .i64 m9.num, .str m9.name, .slice .imm (if (m9.kids.map dN).isEmpty = true then 0 else 4) (m9.kids.map dN)]] = true ∧ (D.agg [.slice (.own s e) 3 [.agg [.str ⟨#[120]⟩, .int .u8 1, .int .i64 0], .agg [.str ⟨#[97]⟩, .int .u8 2, .int .i64 2]], .slice .nil 0 [], .int .u8 m9.kind, .int .i64 m9.num, .str m9.name, .slice .imm (if (m9.kids.map dN).isEmpty = true then 0 else 4) (m9.kids.map dN)]).strip = dG p9 := by
 constructor
 ·simp [plain, D.under, D.unders, unders_id (f := dN) dN_under, D.good]
 ·have hN := sl_strip (n := 4) (map_strip dN_strip m9.kids)
  simp only [sl] at hN
  simp only [D.strip, D.strips, Own.st, strips_id (f := dN) dN_strip, dG, sl, p9]
  simp [dV, vX, vA]
theorem call9 {k : Nat} {d : D} (h : fn EV k [dG p9] = some d) (s : Nat) (e : TypeId) : fn EV k [.agg [.slice (.own s e) 3 [.agg [.str ⟨#[120]⟩, .int .u8 1, .int .i64 0], .agg [.str ⟨#[97]⟩, .int .u8 2, .int .i64 2]], .slice .nil 0 [], .int .u8 m9.kind, .int .i64 m9.num, .str m9.name, .slice .imm (if (m9.kids.map dN).isEmpty = true then 0 else 4) (m9.kids.map dN)]] = some d := by
 rw [← h]
 exact fn_strip (gp9 s e).1 (by simp only [plain, List.all_cons, List.all_nil, dG_pl, Bool.and_true]) (by simp only [zmc, zmn, (gp9 s e).2, dG_strip])
set_option maxRecDepth 100000 in
set_option maxHeartbeats 4000000 in
theorem awake_ok  : fn EV 11 [] = some (.bool true) := by
 refine fn_X rfl Try.func11 rfl (rfl) (rfl) (rfl) (rfl) ?_
 simp only [zmn]
 simp only [enterSt, Try.ntmps11, zln, Nat.reduceSub, zr1, zr0, zna]
 refine X_seq ?_
 refine X_rg fun R hR => ?_
 simp only [aops, astep, awant, aeff, aop, ev, ofValue, St.put, zgd, zmo, if_true, zs0]
 with_reducible refine hR _ ?_
 clear hR R
 show X _ _ _ _
 refine X_seq ?_
 refine X_rg fun R hR => ?_
 simp only [EVP, inr_i64, inr_u8, Int.reduceLE, Int.reduceNeg, aops, astep, awant, aeff, aop, afill, astore, ev, ofValue, St.put, gd_int, cl_int, gd_agg, cl_agg, zmc, zmn, zg1, zg0, zgd, zmo, zbs, if_true, zs1, zs0, zlc, zln, zd1, zd0, zt1, zt0, zca, zna, Nat.reduceAdd, Nat.reduceLeDiff, Nat.zero_add, and_self, ty_api_Node, st_api_Node, sta_api_Node]
 with_reducible refine hR _ ?_
 clear hR R
 show X _ _ _ _
 refine X_seq ?_
 refine X_rg fun R hR => ?_
 simp only [EVP, inr_u8, Int.reduceLE, aops, astep, awant, aeff, aop, afill, astore, ev, ofValue, St.put, gd_int, cl_int, gd_agg, cl_agg, zmc, zmn, zg1, zg0, zgd, zmo, zbs, if_true, zs1, zs0, zlc, zln, zd1, zd0, zt0, zca, zna, Nat.reduceAdd, Nat.reduceLeDiff, Nat.zero_add, and_self, ty_api_Node, st_api_Node, sta_api_Node]
 with_reducible refine hR _ ?_
 clear hR R
 show X _ _ _ _
 refine X_seq ?_
 have f1 := stmt9o 40 [dN (lf9 ⟨#[120]⟩), dN (lf9 ⟨#[120]⟩)] [lf9 ⟨#[120]⟩, lf9 ⟨#[120]⟩] (by simp [D.unders, dN_under]) (by simp [D.strips, dN_strip]) (by simp)
 have f2 := stmt9o 56 [dN (lf9 ⟨#[120]⟩), .agg [.int .u8 1, .int .i64 1, .str ⟨#[]⟩, .slice .nil 0 []]] [lf9 ⟨#[120]⟩, one9] (by simp [D.unders, D.under, dN_under]) (by simp [D.strips, D.strip, Own.st, dN_strip, one9, dN, dNs]) (by simp)
 have f3 := stmt9o 20 [dN (lf9 ⟨#[120]⟩), .agg [.int .u8 1, .int .i64 1, .str ⟨#[]⟩, .slice .nil 0 []]] [lf9 ⟨#[120]⟩, one9] (by simp [D.unders, D.under, dN_under]) (by simp [D.strips, D.strip, Own.st, dN_strip, one9, dN, dNs]) (by simp)
 have f4 := stmt9o 52 [dN (st9 20 [lf9 ⟨#[120]⟩, one9]), .agg [.int .u8 57, .int .i64 0, .str ⟨#[]⟩, .slice .nil 0 []], .agg [.int .u8 57, .int .i64 0, .str ⟨#[]⟩, .slice .nil 0 []], .agg [.int .u8 1, .int .i64 1, .str ⟨#[]⟩, .slice .nil 0 []]] [st9 20 [lf9 ⟨#[120]⟩, one9], non9, non9, one9] (by simp [D.unders, D.under, dN_under]) (by simp [D.strips, D.strip, Own.st, dN_strip, one9, non9, dN, dNs]) (by simp)
 have f5 := stmt9o 52 [.agg [.int .u8 1, .int .i64 1, .str ⟨#[]⟩, .slice .nil 0 []], .agg [.int .u8 57, .int .i64 0, .str ⟨#[]⟩, .slice .nil 0 []], .agg [.int .u8 57, .int .i64 0, .str ⟨#[]⟩, .slice .nil 0 []], .agg [.int .u8 1, .int .i64 1, .str ⟨#[]⟩, .slice .nil 0 []]] [one9, non9, non9, one9] (by simp [D.unders, D.under]) (by simp [D.strips, D.strip, Own.st, one9, non9, dN, dNs]) (by simp)
 have f6 := stmt9o 57 [dN (st9 40 [lf9 ⟨#[120]⟩, lf9 ⟨#[120]⟩]), dN (st9 56 [lf9 ⟨#[120]⟩, one9]), dN (st9 52 [st9 20 [lf9 ⟨#[120]⟩, one9], non9, non9, one9]), dN (st9 52 [one9, non9, non9, one9])] [st9 40 [lf9 ⟨#[120]⟩, lf9 ⟨#[120]⟩], st9 56 [lf9 ⟨#[120]⟩, one9], st9 52 [st9 20 [lf9 ⟨#[120]⟩, one9], non9, non9, one9], st9 52 [one9, non9, non9, one9]] (by simp [D.unders, dN_under]) (by simp [D.strips, dN_strip, one9, non9]) (by simp)
 have hm9 : st9 57 [st9 40 [lf9 ⟨#[120]⟩, lf9 ⟨#[120]⟩], st9 56 [lf9 ⟨#[120]⟩, one9], st9 52 [st9 20 [lf9 ⟨#[120]⟩, one9], non9, non9, one9], st9 52 [one9, non9, non9, one9]] = m9 := rfl
 rw [hm9] at f6
 have s1 : (if (⟨#[120]⟩ : ByteArray).size ≤ 9223372036854775807 then some (D.str ⟨#[120]⟩) else none) = some (D.str ⟨#[120]⟩) := rfl
 have s2 : (if (⟨#[97]⟩ : ByteArray).size ≤ 9223372036854775807 then some (D.str ⟨#[97]⟩) else none) = some (D.str ⟨#[97]⟩) := rfl
 refine X_rg fun R hR => ?_
 simp only [EVP, inr_i64, inr_u8, Int.reduceLE, Int.reduceNeg, aops, astep, awant, aeff, aop, mkD, afill, abuild, astore, ev, ofValue, St.put, pcall, gd_int, cl_int, gd_str, cl_str, gd_agg, cl_agg, gd_slice, cl_slice, zmc, zmn, zg1, zg0, zgd, zmo, zbs, if_true, zs1, zs0, zlc, zln, zd1, zd0, zt1, zt0, zca, zna, Nat.reduceAdd, Nat.reduceLeDiff, Nat.reduceLT, Nat.zero_add, Bool.and_true, and_self, List.all_cons, List.all_nil, beq_self_eq_true, Nat.reduceMul, rng_2, rng_4, ty_api_Node, ty_api_VarDecl, ty_api_Program, st_api_VarDecl, sta_api_VarDecl, st_api_Program, sta_api_Program, und_api_Node, inf_api_Node_eq, inf_api_Node_size, inf_api_Node_zero, und_api_VarDecl, inf_api_VarDecl_eq, inf_api_VarDecl_size, inf_api_VarDecl_zero, any26, any27, dN_cells, dN_good, sl, leaf9, f1, f2, f3, f4, f5, f6, s1, s2]
 with_reducible refine hR _ ?_
 clear hR R
 show X _ _ _ _
 refine X_seq ?_
 have hC := call9 (chk_fn p9)
 rw [c9] at hC
 refine X_rg fun R hR => ?_
 simp only [EVP, Int.reduceNeg, aops, astep, awant, aeff, aop, mkD, ev, St.put, pcall, zmc, zmn, zg1, zg0, zgd, zmo, if_true, zs1, zs0, zlc, zln, zd0, zt1, zt0, zca, zna, Nat.reduceAdd, Nat.reduceLeDiff, Nat.zero_add, ty_api_Program, any13, hC]
 with_reducible refine hR _ ?_
 clear hR R
 show X _ _ _ _
 refine X_seq ?_
 have hO := call9 (ok_fn p9)
 rw [o9] at hO
 have nc3 : ((3 : Nat) : Int) = 3 := rfl
 have nc1 : ((1 : Nat) : Int) = 1 := rfl
 refine X_rg fun R hR => ?_
 simp only [EVP, inr_i64, Int.reduceLE, Int.reduceNeg, aops, astep, awant, aeff, aop, abin, aint, astr, mkD, ev, ofValue, St.put, pcall, ia_int, cl_int, ia_str, cl_str, ia_slice, cl_slice, zmc, zmn, zg1, zg0, zgd, zmo, zbs, if_true, zs1, zs0, zlc, zln, zd1, zd0, zt1, zt0, zca, zna, Nat.reduceAdd, Nat.reduceLeDiff, Nat.zero_add, Bool.not_false, zft, if_false, and_self, reduceCtorEq, beq_self_eq_true, zis, Int.reduceLT, ty_int, ty_string, ty_s_int, ty_api_Program, und_int, siz_int, inf_int_eq, ty_checker_Rejection, und_checker_Rejection, siz_checker_Rejection, inf_checker_Rejection_eq, ty_api_Errno, any18, hO, nc3, nc1, Int.reduceLT, Int.toNat_zero, Int.reduceToNat, Int.toNat_one, s1]
 with_reducible refine hR _ ?_
 clear hR R
 show X _ _ _ _
 refine X_ret ?_
 show resD _ _ _ = some _
 simp only [resD, resAll, resOne, resTup, Try.results11, EVP, zg0, D.good, if_true, zmo]

end Go.Proofs.Ytmglacjcefajlaa
