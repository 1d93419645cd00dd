/- Valid: the programs. -/
import Derived.Test.YtjikokmhknnnoaaVa2
namespace Go.Proofs.Ytjikokmhknnnoaa
open Go.RowKit

def bodyB (t : Tr) : Bool := decide (t.depth ≤ 80 ∧ t.size ≤ 2000) && blockB t
theorem Free2 (t : Tr) (x : D) (hx : ∀ m, x.under m = true) : Free [(dN t).cells, [x]] := by
 intro cs hcs m
 simp only [List.mem_cons, List.not_mem_nil, or_false] at hcs
 rcases hcs with rfl | rfl
 ·exact kids_unders t m
 ·simp only [D.unders, hx m, Bool.and_true]
theorem any_0 : (Try.prog.funcs[59]?).any (fun fn => fn.body.isSome && fn.name != "runtime.NumGoroutine") = true := by kernel_rfl
theorem any_1 : (Try.prog.funcs[60]?).any (fun fn => fn.body.isSome && fn.name != "runtime.NumGoroutine") = true := by kernel_rfl
theorem any_6 : (Try.prog.funcs[41]?).any (fun fn => fn.body.isSome && fn.name != "runtime.NumGoroutine") = true := by kernel_rfl
theorem any_8 : (Try.prog.funcs[42]?).any (fun fn => fn.body.isSome && fn.name != "runtime.NumGoroutine") = true := by kernel_rfl
theorem any_10 : (Try.prog.funcs[43]?).any (fun fn => fn.body.isSome && fn.name != "runtime.NumGoroutine") = true := by kernel_rfl
set_option maxRecDepth 100000 in
set_option maxHeartbeats 4000000 in
theorem isBody_fn (t : Tr) : fn EV 43 [dN t] = some (.bool (bodyB t)) := by
 refine fn_X rfl Try.func43 rfl ?_ rfl rfl rfl ?_
 ·simp [plain, dN_under, dN_good]
 simp only [zmc, zmn, dN_strip]
 simp only [enterSt, Try.ntmps43, zlc, zln, Nat.reduceAdd, Nat.reduceSub, zr1, zr0, zca, zna]
 refine X_seq ?_
 refine X_rc fun R hR => ?_
 simp only [aops, astep, awant, aeff, aop, ev, ofValue, St.put, D.cells, D.good, zg0, zgd, zmo, if_true, zs1, zs0, zln, zna, sl, dN_eq]
 refine hR _ ?_
 clear hR R
 show X _ _ _ _
 refine X_seq ?_
 refine X_rc fun R hR => ?_
 simp only [EVP, inr_i64, Int.reduceLE, Int.reduceNeg, aops, astep, awant, aeff, astore, ev, ofValue, St.put, D.cells, D.good, zg1, zg0, zgd, zmo, zbs, if_true, zs1, zs0, zlc, zln, zd1, zd0, zt0, zca, zna, Nat.reduceLeDiff, Nat.zero_add, and_self, ty_int]
 refine hR _ ?_
 clear hR R
 show X _ _ _ _
 refine X_seq ?_
 have fbl : ∀ t, fn EV 60 [.agg [.int .u8 t.kind, .int .i64 t.num, .str t.name, .slice .imm (if (t.kids.map dN).isEmpty = true then 0 else 4) (t.kids.map dN)]] = some (.bool (blockB t)) := fun t => by have := f_node (k := 60) (f := fun t => some (.bool (blockB t))) (t := t) (fun _ => rfl) rfl; rw [dN_eq] at this; exact this
 have hbl := fun σ => cal_pure (fbl t) σ
 have hc := fun fr => lim_cal t.size t (Nat.le_refl _) 80 2000 (by decide) (by decide) ⟨fr, [(dN t).cells, [.int .i64 (2000 : Nat)]], 0, []⟩ 1 rfl (Free2 t _ fun _ => rfl)
 simp only [dN_eq, sl, D.cells, limT_dec, Int.cast_ofNat_Int, zs1, zs0] at hc
 cases hl : (decide (t.depth ≤ 80 ∧ t.size ≤ 2000) : Bool)
 case true =>
  refine X_rc fun R hR => ?_
  simp only [EVP, inr_i64, Int.reduceLE, Int.reduceNeg, aops, astep, awant, aeff, aop, mkD, ev, ofValue, St.put, zmc, zmn, zg1, zg0, zgd, zmo, zbs, if_true, zs1, zs0, zlc, zln, zd0, zt1, zt0, zca, zna, Nat.reduceAdd, Nat.reduceLeDiff, Nat.zero_add, and_self, beq_self_eq_true, ty_api_Node, any_0, any_1, hc, hl, hbl]
  refine hR _ ?_
  clear hR R
  show X _ _ _ _
  refine X_ret ?_
  show resD _ _ _ = some _
  simp only [resD, resAll, resOne, resTup, Try.results43, zg1, zg0, D.good, if_true, zmo]
  refine congrArg (fun b => some (D.bool b)) ?_
  simp only [bodyB, hl, Bool.true_and]
 case false =>
  refine X_rc fun R hR => ?_
  simp only [EVP, inr_i64, Int.reduceLE, Int.reduceNeg, aops, astep, awant, aeff, aop, mkD, ev, ofValue, St.put, zmc, zmn, zg1, zg0, zgd, zmo, zbs, if_true, zs1, zs0, zlc, zln, zd0, zt1, zt0, zca, zna, Nat.reduceAdd, Nat.reduceLeDiff, Nat.zero_add, zft, if_false, and_self, ty_api_Node, any_0, any_1, bq_ft, hc, hl]
  refine hR _ ?_
  clear hR R
  show X _ _ _ _
  refine X_ret ?_
  show resD _ _ _ = some _
  simp only [resD, resAll, resOne, resTup, Try.results43, zg1, zg0, D.good, if_true, zmo]
  refine congrArg (fun b => some (D.bool b)) ?_
  simp only [bodyB, hl, Bool.false_and]
end Go.Proofs.Ytjikokmhknnnoaa
