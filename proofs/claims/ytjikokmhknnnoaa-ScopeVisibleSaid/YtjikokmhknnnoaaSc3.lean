/- The reference of the layer scope over data. -/
import Derived.Test.YtjikokmhknnnoaaSc2
namespace Go.Proofs.Ytjikokmhknnnoaa
open Go.RowKit
/-- an accumulator whose stamp is older than the next one -/
structure AccB (e : TypeId) (sz : Nat) (o : Own) (n : Nat) (L : List D) (nx : Nat) (lv : List Nat) : Prop where
 a : Acc e sz o n L lv
 b : ∀ s e', o = .own s e' → s < nx
structure Keep (nx : Nat) (lv : List Nat) (nx' : Nat) (lv' : List Nat) : Prop where
 l : nx ≤ nx'
 k : ∀ s, s < nx → s ∈ lv → s ∈ lv'
theorem AccB.nil (e : TypeId) (sz nx : Nat) (lv : List Nat) : AccB e sz .nil 0 [] nx lv := ⟨.nil _ _ _, fun s e' h => by cases h⟩
theorem AccB.own {e : TypeId} {sz st nx : Nat} {L : List D} {lv : List Nat} (h : st ∈ lv) (h' : st < nx) : AccB e sz (.own st e) sz L nx lv := ⟨.own h, fun s e' q => by cases q; exact h'⟩
theorem AccB.keep {e : TypeId} {sz : Nat} {o : Own} {n : Nat} {L : List D} {nx nx' : Nat} {lv lv' : List Nat} (h : AccB e sz o n L nx lv) (k : Keep nx lv nx' lv') : AccB e sz o n L nx' lv' := by
 refine ⟨?_, fun s e' q => Nat.lt_of_lt_of_le (h.b s e' q) k.l⟩
 rcases h.a with q | ⟨st, q1, q2, q3⟩
 ·exact .inl q
 ·exact .inr ⟨st, q1, k.k st (h.b st e q1) q2, q3⟩
def declV (t : Tr) : Vd × Bool := if t.kind = 54 then (⟨t.name, 1, 0⟩, true) else if t.kind = 55 then (⟨t.name, 3, 0⟩, true) else (noV, false)
def blkI (t : Tr) : Int := if t.kind = 54 then 1 else 0
theorem inner_y {t : Tr} {i : Int} {vs : List Vd} (h1 : (declV t).2 = true) (h2 : i = blkI t) : innerV t i vs = vs ++ [(declV t).1] := by
 subst h2
 unfold declV at h1
 by_cases k1 : t.kind = 54
 ·simp [innerV, blkI, declV, k1]
 ·by_cases k2 : t.kind = 55
  ·simp [innerV, blkI, declV, k2]
  ·simp [k1, k2] at h1
theorem inner_n {t : Tr} {i : Int} {vs : List Vd} (h : (declV t).2 = false ∨ ¬ i = blkI t) : innerV t i vs = vs := by
 unfold declV blkI at h
 by_cases k1 : t.kind = 54
 ·simp_all [innerV]
 ·by_cases k2 : t.kind = 55
  ·simp_all [innerV]
  ·simp [innerV, k1, k2]
set_option maxRecDepth 100000 in
set_option maxHeartbeats 4000000 in
theorem declared6_fn (t : Tr) : fn EV 53 [dN t] = some (.tup [dV (declV t).1, .bool (declV t).2]) := by
 refine fn_X rfl Try.func53 rfl (by simp only [plain, List.all_cons, List.all_nil, dN_pl, Bool.and_true]) (rfl) (rfl) (rfl) ?_
 simp only [zmc, zmn, dN_strip]
 simp only [enterSt, Try.ntmps53, zlc, zln, Nat.reduceAdd, Nat.reduceSub, zr1, zr0, zca, zna]
 refine X_seq ?_
 refine X_rg fun R hR => ?_
 simp only [EVP, aops, astep, awant, aeff, aop, ev, ofValue, St.put, zg0, zgd, zmo, zbs, if_true, zs1, zs0, zlc, zln, zca, zna, Nat.zero_add, ty_api_VarDecl, dN_cells, dN_good, sl]
 with_reducible refine hR _ ?_
 clear hR R
 show X _ _ _ _
 refine X_seq ?_
 refine X_seq ?_
 refine X_rg fun R hR => ?_
 simp only [EVP, inr_u8, Int.reduceLE, aops, astep, awant, aeff, aop, abin, aint, mkD, ev, ofValue, St.put, ia_int, zg1, zg0, zgd, zmo, if_true, zs1, zs0, zlc, zln, zd0, zt1, zt0, Nat.reduceAdd, Nat.reduceLeDiff, Nat.zero_add, Nat.add_zero, zft, if_false, and_self, reduceCtorEq, ty_uint8, ty_api_Node]
 with_reducible refine hR _ ?_
 clear hR R
 show X _ _ _ _
 refine X_ite (by simp only [ev, zg1, zg0, zgd]; exact rfl) ?_ ?_
 ·intro b1
  have c1 := b1
  try simp only [beq_iff_eq] at c1
  refine X_seq ?_
  refine X_rg fun R hR => ?_
  simp only [EVP, inr_u8, Int.reduceLE, aops, astep, awant, aeff, aop, mkD, afill, astore, ev, ofValue, St.put, gd_int, cl_int, gd_str, ia_str, cl_str, gd_agg, cl_agg, zmc, zmn, zg1, zg0, zgd, zmo, if_true, zs1, zs0, zlc, zln, zd1, zd0, zt1, zt0, zca, zna, Nat.reduceAdd, Nat.reduceLeDiff, Nat.zero_add, zft, if_false, and_self, reduceCtorEq, beq_self_eq_true, ty_string, ty_api_Node, ty_api_VarDecl, st_api_VarDecl, sta_api_VarDecl, c1]
  with_reducible refine hR _ ?_
  clear hR R
  show X _ _ _ _
  refine X_ret ?_
  show resD _ _ _ = some _
  simp only [resD, resAll, resOne, resTup, Try.results53, EVP, mkD, ty_api_VarDecl, zg1, zg0, zd0, zt1, zt0, zlc, zln, Nat.reduceAdd, Nat.reduceLeDiff, Nat.zero_add, D.good, if_true, zmo] <;> (first | (rfl; done) | (simp_all [declV, dV]; done) | (simp_all [declV, noV, dV]; rfl; done) | (exfalso; simp_all; done))
 ·intro b2
  have c2 := b2
  try simp only [ne_eq, beq_eq_false_iff_ne] at c2
  refine X_skip ?_
  show X _ _ _ _
  refine X_seq ?_
  refine X_seq ?_
  refine X_rg fun R hR => ?_
  simp only [EVP, inr_u8, Int.reduceLE, aops, astep, awant, aeff, aop, abin, aint, mkD, ev, ofValue, St.put, ia_int, zg1, zg0, zgd, zmo, if_true, zs1, zs0, zlc, zln, zd0, zt1, zt0, Nat.reduceAdd, Nat.reduceLeDiff, Nat.zero_add, Nat.add_zero, zft, if_false, and_self, reduceCtorEq, ty_uint8, ty_api_Node, b2]
  with_reducible refine hR _ ?_
  clear hR R
  show X _ _ _ _
  refine X_ite (by simp only [ev, zg1, zg0, zgd]; exact rfl) ?_ ?_
  ·intro b3
   have c3 := b3
   try simp only [beq_iff_eq] at c3
   refine X_seq ?_
   refine X_rg fun R hR => ?_
   simp only [EVP, inr_u8, Int.reduceLE, aops, astep, awant, aeff, aop, mkD, afill, astore, ev, ofValue, St.put, gd_int, cl_int, gd_str, ia_str, cl_str, gd_agg, cl_agg, zmc, zmn, zg1, zg0, zgd, zmo, if_true, zs1, zs0, zlc, zln, zd1, zd0, zt1, zt0, zca, zna, Nat.reduceAdd, Nat.reduceLeDiff, Nat.zero_add, zft, if_false, and_self, reduceCtorEq, beq_self_eq_true, ty_string, ty_api_Node, ty_api_VarDecl, st_api_VarDecl, sta_api_VarDecl, c3]
   with_reducible refine hR _ ?_
   clear hR R
   show X _ _ _ _
   refine X_ret ?_
   show resD _ _ _ = some _
   simp only [resD, resAll, resOne, resTup, Try.results53, EVP, mkD, ty_api_VarDecl, zg1, zg0, zd0, zt1, zt0, zlc, zln, Nat.reduceAdd, Nat.reduceLeDiff, Nat.zero_add, D.good, if_true, zmo] <;> (first | (rfl; done) | (simp_all [declV, dV]; done) | (simp_all [declV, noV, dV]; rfl; done) | (exfalso; simp_all; done))
  ·intro b4
   have c4 := b4
   try simp only [ne_eq, beq_eq_false_iff_ne] at c4
   refine X_skip ?_
   show X _ _ _ _
   refine X_seq ?_
   refine X_rg fun R hR => ?_
   simp only [EVP, aops, astep, awant, aeff, aop, afill, astore, ev, ofValue, St.put, gd_agg, cl_agg, zmn, zg1, zg0, zgd, zmo, if_true, zs1, zs0, zlc, zln, zd1, zd0, zt0, zca, zna, Nat.reduceAdd, Nat.reduceLeDiff, Nat.zero_add, and_self, ty_api_VarDecl, st_api_VarDecl, sta_api_VarDecl, b4]
   with_reducible refine hR _ ?_
   clear hR R
   show X _ _ _ _
   refine X_ret ?_
   show resD _ _ _ = some _
   simp only [resD, resAll, resOne, resTup, Try.results53, EVP, mkD, ty_api_VarDecl, zg1, zg0, zd0, zt1, zt0, zlc, zln, Nat.reduceAdd, Nat.reduceLeDiff, Nat.zero_add, D.good, if_true, zmo] <;> (first | (rfl; done) | (simp_all [declV, noV, dV]; done) | (simp_all [declV, noV, dV]; rfl; done) | (exfalso; simp_all; done))
set_option maxRecDepth 100000 in
set_option maxHeartbeats 4000000 in
theorem block6_fn (t : Tr) : fn EV 56 [dN t] = some (.int .i64 (blkI t)) := by
 refine fn_X rfl Try.func56 rfl (by simp only [plain, List.all_cons, List.all_nil, dN_pl, Bool.and_true]) (rfl) (rfl) (rfl) ?_
 simp only [zmc, zmn, dN_strip]
 simp only [enterSt, Try.ntmps56, zlc, zln, Nat.reduceAdd, Nat.reduceSub, zr1, zr0, zca, zna]
 refine X_seq ?_
 refine X_rg fun R hR => ?_
 simp only [inr_i64, Int.reduceLE, Int.reduceNeg, aops, astep, awant, aeff, aop, ev, ofValue, St.put, zg0, zgd, zmo, if_true, zs1, zs0, zln, zna, and_self, dN_cells, dN_good, sl]
 with_reducible refine hR _ ?_
 clear hR R
 show X _ _ _ _
 refine X_seq ?_
 refine X_seq ?_
 refine X_rg fun R hR => ?_
 simp only [EVP, inr_u8, Int.reduceLE, aops, astep, awant, aeff, aop, abin, aint, mkD, ev, ofValue, St.put, ia_int, zg1, zg0, zgd, zmo, if_true, zs1, zs0, zlc, zln, zd0, zt1, zt0, Nat.reduceAdd, Nat.reduceLeDiff, Nat.zero_add, Nat.add_zero, zft, if_false, and_self, reduceCtorEq, ty_uint8, ty_api_Node]
 with_reducible refine hR _ ?_
 clear hR R
 show X _ _ _ _
 refine X_ite (by simp only [ev, zg1, zg0, zgd]; exact rfl) ?_ ?_
 ·intro b1
  have c1 := b1
  try simp only [beq_iff_eq] at c1
  refine X_seq ?_
  refine X_rg fun R hR => ?_
  simp only [inr_i64, Int.reduceLE, Int.reduceNeg, aops, astep, awant, aeff, aop, ev, ofValue, St.put, zgd, zmo, if_true, zs1, zs0, and_self, beq_self_eq_true, c1]
  with_reducible refine hR _ ?_
  clear hR R
  show X _ _ _ _
  refine X_ret ?_
  show resD _ _ _ = some _
  simp only [resD, resAll, resOne, resTup, Try.results56, EVP, zg1, zg0, D.good, if_true, zmo] <;> (first | (rfl; done) | (simp_all [blkI]; done) | (exfalso; simp_all; done))
 ·intro b2
  have c2 := b2
  try simp only [ne_eq, beq_eq_false_iff_ne] at c2
  refine X_skip ?_
  show X _ _ _ _
  refine X_seq ?_
  refine X_rg fun R hR => ?_
  simp only [inr_i64, Int.reduceLE, Int.reduceNeg, aops, astep, awant, aeff, aop, ev, ofValue, St.put, zgd, zmo, if_true, zs1, zs0, and_self, b2]
  with_reducible refine hR _ ?_
  clear hR R
  show X _ _ _ _
  refine X_ret ?_
  show resD _ _ _ = some _
  simp only [resD, resAll, resOne, resTup, Try.results56, EVP, zg1, zg0, D.good, if_true, zmo] <;> (first | (rfl; done) | (simp_all [blkI]; done) | (exfalso; simp_all; done))
/-- data that will read as these faults -/
structure Lis (M : List D) (L : List Ft) : Prop where
 s : M.map D.strip = L.map dFt
 u : D.unders 0 M = true
theorem Lis.len {M : List D} {L : List Ft} (h : Lis M L) : M.length = L.length := by have := congrArg List.length h.s; simpa using this
theorem Lis.nil : Lis [] [] := ⟨rfl, rfl⟩
theorem Lis.app {M M' : List D} {L L' : List Ft} (h : Lis M L) (h' : Lis M' L') : Lis (M ++ M') (L ++ L') := by
 refine ⟨by rw [List.map_append, List.map_append, h.s, h'.s], ?_⟩
 have h1 := h.u; have h2 := h'.u
 rw [D.unders_all] at h1 h2 ⊢
 rw [List.all_append, h1, h2]; rfl
theorem Lis.of (L : List Ft) : Lis (L.map dFt) L := ⟨by rw [List.map_map]; exact List.map_congr_left fun x _ => dFt_strip x, unders_id dFt_under 0 L⟩
theorem Lis.one {d : D} {f : Ft} (h : d.strip = dFt f) (h' : d.under 0 = true) : Lis [d] [f] := ⟨by simp [h], by simp only [D.unders, h', Bool.and_true]⟩
end Go.Proofs.Ytjikokmhknnnoaa
