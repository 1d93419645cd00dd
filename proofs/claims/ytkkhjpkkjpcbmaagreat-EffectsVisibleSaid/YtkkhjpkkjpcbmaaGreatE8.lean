/- few, names over data. -/
import Derived.Test.YtkkhjpkkjpcbmaaGreatE7
namespace Go.Proofs.YtkkhjpkkjpcbmaaGreat
open Go.RowKit
theorem size_fn (t : Tr) : ∀ l : Int, 0 ≤ l → l ≤ 1000000 → fn EV 37 [dN t, .int .i64 l] = some (.int .i64 (szT t l)) := by
 induction t using Tr.ind with
 | h k n s c ih =>
  intro l h0 h1
  exact size_step (.mk k n s c) l h0 h1 (fun x hx l h0 h1 => ih x hx l h0 h1)
set_option maxRecDepth 100000 in
set_option maxHeartbeats 4000000 in
theorem few_fn (t : Tr) : fn EV 16 [dN t] = some (.bool (fewB t)) := by
 refine fn_X rfl Tryz.func16 rfl (by simp only [plain, List.all_cons, List.all_nil, dN_under, dN_good, Bool.and_true]) (rfl) (rfl) (rfl) ?_
 simp only [zmc, zmn, dN_strip]
 simp only [enterSt, Tryz.ntmps16, zlc, zln, Nat.reduceAdd, Nat.reduceSub, zr1, zr0, zca, zna]
 refine X_seq ?_
 refine X_rg fun R hR => ?_
 simp only [aops, astep, awant, aeff, aop, ev, ofValue, St.put, zg0, zgd, zmo, if_true, zs1, zs0, zln, zna, dN_cells, dN_good, sl]
 with_reducible refine hR _ ?_
 clear hR R
 show X _ _ _ _
 refine X_seq ?_
 have hz := size_fn t 300 (by omega) (by omega)
 refine X_rg fun R hR => ?_
 simp only [EVP, inr_i64, Int.reduceLE, Int.reduceNeg, aops, astep, awant, aeff, aop, abin, aint, mkD, ev, ofValue, St.put, pcall, zmc, zmn, zg1, zg0, zgd, zmo, if_true, zs1, zs0, zlc, zln, zd0, zt1, zt0, zca, zna, Nat.reduceAdd, Nat.reduceLeDiff, Nat.zero_add, and_self, ty_api_Node, any37, dN_agg, hz]
 with_reducible refine hR _ ?_
 clear hR R
 show X _ _ _ _
 refine X_ret ?_
 show resD _ _ _ = some _
 simp only [resD, resAll, resOne, resTup, Tryz.results16, EVP, zg1, zg0, D.good, if_true, zmo]
 rw [← few_eq]

end Go.Proofs.YtkkhjpkkjpcbmaaGreat
