/- few, names over data. -/
import Derived.Test.YtkkhjpkkjpcbmaaE7
namespace Go.Proofs.Ytkkhjpkkjpcbmaa
open Go.RowKit
theorem size_fn (t : Tr) : ∀ l : Int, 0 ≤ l → l ≤ 1000000 → fn EV 31 [dN t, .int .i64 l] = some (.int .i64 (szT t l)) := by
 induction t using Tr.ind with
 | h k n s c ih =>
  intro l h0 h1
  exact size_step (.mk k n s c) l h0 h1 (fun x hx l h0 h1 => ih x hx l h0 h1)
set_option maxRecDepth 100000 in
set_option maxHeartbeats 4000000 in
theorem few_fn (t : Tr) : fn EV 12 [dN t] = some (.bool (fewB t)) := by
 refine fn_X rfl Try.func12 rfl (by simp only [plain, List.all_cons, List.all_nil, dN_under, dN_good, Bool.and_true]) (rfl) (rfl) (rfl) ?_
 simp only [zmc, zmn, dN_strip]
 simp only [enterSt, Try.ntmps12, zlc, zln, Nat.reduceAdd, Nat.reduceSub, zr1, zr0, zca, zna]
 refine X_seq ?_
 refine X_rg fun R hR => ?_
 simp only [aops, astep, awant, aeff, aop, ev, ofValue, St.put, zg0, zgd, zmo, if_true, zs1, zs0, zln, zna, dN_cells, dN_good, sl]
 with_reducible refine hR _ ?_
 clear hR R
 show X _ _ _ _
 refine X_seq ?_
 have hz := size_fn t 300 (by omega) (by omega)
 refine X_rg fun R hR => ?_
 simp only [EVP, inr_i64, Int.reduceLE, Int.reduceNeg, aops, astep, awant, aeff, aop, abin, aint, mkD, ev, ofValue, St.put, pcall, zmc, zmn, zg1, zg0, zgd, zmo, if_true, zs1, zs0, zlc, zln, zd0, zt1, zt0, zca, zna, Nat.reduceAdd, Nat.reduceLeDiff, Nat.zero_add, and_self, ty_api_Node, any31, dN_agg, hz]
 with_reducible refine hR _ ?_
 clear hR R
 show X _ _ _ _
 refine X_ret ?_
 show resD _ _ _ = some _
 simp only [resD, resAll, resOne, resTup, Try.results12, EVP, zg1, zg0, D.good, if_true, zmo]
 rw [← few_eq]

end Go.Proofs.Ytkkhjpkkjpcbmaa
