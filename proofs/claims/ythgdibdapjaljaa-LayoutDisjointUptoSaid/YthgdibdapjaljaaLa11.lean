/- Laws about layouts: common facts. -/
import Derived.Test.YthgdibdapjaljaaLa10
import Derived.Test.YthgdibdapjaljaaQ26a
namespace Go.Proofs.Ythgdibdapjaljaa
open Go.RowKit
theorem of_own {X Y : D} {l : List Vd} {t : Tr} (hX : X.strip = sl 3 (l.map dV)) (hXp : (X.under 0 && X.good) = true) (hY : Y.strip = dN t) (hYp : (Y.under 0 && Y.good) = true) (hs : t.size ≤ 900000) : fn EV 14 [X, Y] = some (.tup [dFm (ofF l t).1, .int .i64 (ofF l t).2]) := by
 have p1 : plain [X, Y] = true := by simp only [plain, List.all_cons, List.all_nil, hXp, hYp, Bool.and_true]
 have p2 : plain [sl 3 (l.map dV), dN t] = true := by simp only [plain, List.all_cons, List.all_nil, sl_pl (f := dV) (fun _ _ => rfl), dN_pl, Bool.and_true]
 rw [fn_strip p1 p2 (by simp only [zmc, zmn, hX, hY, dN_strip, sl_strip (map_strip (f := dV) (fun _ => rfl) _)])]
 exact of_fn l t hs
end Go.Proofs.Ythgdibdapjaljaa
