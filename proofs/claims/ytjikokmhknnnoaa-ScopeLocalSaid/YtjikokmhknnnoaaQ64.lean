/- The reference of the layer scope over data. -/
import Derived.Test.YtjikokmhknnnoaaSc2
namespace Go.Proofs.Ytjikokmhknnnoaa
open Go.RowKit
/-- an accumulator whose stamp is older than the next one -/
structure AccB (e : TypeId) (sz : Nat) (o : Own) (n : Nat) (L : List D) (nx : Nat) (lv : List Nat) : Prop where
 a : Acc e sz o n L lv
 b : ∀ s e', o = .own s e' → s < nx
structure Keep (nx : Nat) (lv : List Nat) (nx' : Nat) (lv' : List Nat) : Prop where
 l : nx ≤ nx'
 k : ∀ s, s < nx → s ∈ lv → s ∈ lv'
theorem AccB.nil (e : TypeId) (sz nx : Nat) (lv : List Nat) : AccB e sz .nil 0 [] nx lv := ⟨.nil _ _ _, fun s e' h => by cases h⟩
theorem AccB.own {e : TypeId} {sz st nx : Nat} {L : List D} {lv : List Nat} (h : st ∈ lv) (h' : st < nx) : AccB e sz (.own st e) sz L nx lv := ⟨.own h, fun s e' q => by cases q; exact h'⟩
theorem AccB.keep {e : TypeId} {sz : Nat} {o : Own} {n : Nat} {L : List D} {nx nx' : Nat} {lv lv' : List Nat} (h : AccB e sz o n L nx lv) (k : Keep nx lv nx' lv') : AccB e sz o n L nx' lv' := by
 refine ⟨?_, fun s e' q => Nat.lt_of_lt_of_le (h.b s e' q) k.l⟩
 rcases h.a with q | ⟨st, q1, q2, q3⟩
 ·exact .inl q
 ·exact .inr ⟨st, q1, k.k st (h.b st e q1) q2, q3⟩
/-- data that will read as these faults -/
structure Lis (M : List D) (L : List Ft) : Prop where
 s : M.map D.strip = L.map dFt
 u : D.unders 0 M = true
theorem Lis.len {M : List D} {L : List Ft} (h : Lis M L) : M.length = L.length := by have := congrArg List.length h.s; simpa using this
theorem Lis.nil : Lis [] [] := ⟨rfl, rfl⟩
theorem Lis.app {M M' : List D} {L L' : List Ft} (h : Lis M L) (h' : Lis M' L') : Lis (M ++ M') (L ++ L') := by
 refine ⟨by rw [List.map_append, List.map_append, h.s, h'.s], ?_⟩
 have h1 := h.u; have h2 := h'.u
 rw [D.unders_all] at h1 h2 ⊢
 rw [List.all_append, h1, h2]; rfl
theorem Lis.of (L : List Ft) : Lis (L.map dFt) L := ⟨by rw [List.map_map]; exact List.map_congr_left fun x _ => dFt_strip x, unders_id dFt_under 0 L⟩
theorem Lis.one {d : D} {f : Ft} (h : d.strip = dFt f) (h' : d.under 0 = true) : Lis [d] [f] := ⟨by simp [h], by simp only [D.unders, h', Bool.and_true]⟩
end Go.Proofs.Ytjikokmhknnnoaa

/- The law ScopeChecks: its walk. -/
namespace Go.Proofs.Ytjikokmhknnnoaa
open Go.RowKit

theorem awake_ok : fn EV 12 [] = some (.bool true) := fn_of (n := 200) (by kernel_rfl)
def smallB (p : Pg) : Bool := !decide ((p.procs.length : Int) > 6) && !decide ((p.vars.length : Int) > 20) && validB p && !decide ((p.main.size : Int) > 80) && p.procs.all (fun q => !decide ((q.body.size : Int) > 80))
theorem small_1 {p : Pg} (h : decide ((p.procs.length : Int) > 6) = true) : smallB p = false := by simp only [smallB, h, Bool.not_true, Bool.false_and]
theorem small_2 {p : Pg} (h : decide ((p.vars.length : Int) > 20) = true) : smallB p = false := by simp only [smallB, h, Bool.not_true, Bool.false_and, Bool.and_false]
theorem small_3 {p : Pg} (h : validB p = false) : smallB p = false := by simp only [smallB, h, Bool.false_and, Bool.and_false]
theorem small_4 {p : Pg} (h : decide ((p.main.size : Int) > 80) = true) : smallB p = false := by simp only [smallB, h, Bool.not_true, Bool.false_and, Bool.and_false]
theorem small_5 {p : Pg} {i : Nat} (hi : i < p.procs.length) (h : decide ((p.procs[i].body.size : Int) > 80) = true) : smallB p = false := by
 have : p.procs.all (fun q => !decide ((q.body.size : Int) > 80)) = false := all_no _ _ i hi (by rw [h]; rfl)
 simp only [smallB, this, Bool.and_false]
theorem small_y {p : Pg} (h1 : decide ((p.procs.length : Int) > 6) = false) (h2 : decide ((p.vars.length : Int) > 20) = false) (h3 : validB p = true) (h4 : decide ((p.main.size : Int) > 80) = false) (h5 : (p.procs.all (fun q => !decide ((q.body.size : Int) > 80))) = true) : smallB p = true := by
 simp only [smallB, h1, h2, h3, h4, h5, Bool.not_false, Bool.and_true]
theorem small_valid {p : Pg} (h : smallB p = true) : validB p = true ∧ p.procs.length ≤ 6 ∧ p.vars.length ≤ 20 ∧ p.main.size ≤ 80 := by
 simp only [smallB, zat, znt, decide_eq_false_iff_not] at h
 exact ⟨h.1.1.2, by omega, by omega, by omega⟩
set_option maxRecDepth 100000 in
set_option maxHeartbeats 4000000 in
theorem ints_fn (l w : List Int) (hl : l.length ≤ 1000000) : fn EV 24 [sl 1 (l.map dI), sl 1 (w.map dI)] = some (.bool (decide (l = w))) := by
 refine fn_X rfl Try.func24 rfl (by simp only [plain, List.all_cons, List.all_nil, sl_pl (f := dI) (fun _ _ => rfl), Bool.and_true]) (rfl) (rfl) (rfl) ?_
 simp only [zmc, zmn, sl_strip (map_strip (f := dI) (fun _ => rfl) _)]
 simp only [enterSt, Try.ntmps24, zlc, zln, Nat.reduceAdd, Nat.reduceSub, zr1, zr0, zca, zna]
 refine X_seq ?_
 refine X_rg fun R hR => ?_
 simp only [aops, astep, awant, aeff, aop, ev, ofValue, St.put, zgd, zmo, if_true, zs1, zs0, sl]
 with_reducible refine hR _ ?_
 clear hR R
 show X _ _ _ _
 refine X_seq ?_
 refine X_seq ?_
 refine X_rg fun R hR => ?_
 simp only [EVP, aops, astep, awant, aeff, aop, abin, aint, ev, St.put, zg1, zg0, zgd, zmo, if_true, zs1, zs0, zlm, und_int]
 with_reducible refine hR _ ?_
 clear hR R
 show X _ _ _ _
 refine X_ite (by simp only [ev, zg1, zg0, zgd]; exact rfl) ?_ ?_
 ·intro b1
  have c1 := b1
  try simp only [bne_iff_ne, ne_eq] at c1
  refine X_seq ?_
  refine X_rg fun R hR => ?_
  simp only [aops, astep, awant, aeff, aop, ev, ofValue, St.put, zgd, zmo, if_true, zs1, zs0, b1]
  with_reducible refine hR _ ?_
  clear hR R
  show X _ _ _ _
  refine X_ret ?_
  show resD _ _ _ = some _
  simp only [resD, resAll, resOne, resTup, Try.results24, EVP, zg1, zg0, D.good, if_true, zmo]
  have hne : ¬ l = w := fun q => by have := c1; rw [q] at this; exact this rfl
  simp [hne]
 ·intro b2
  have c2 := b2
  try simp only [bne_eq_false_iff_eq] at c2
  refine X_skip ?_
  show X _ _ _ _
  refine X_seq ?_
  refine X_seq ?_
  refine X_rg fun R hR => ?_
  simp only [inr_i64, Int.reduceLE, Int.reduceNeg, aops, astep, awant, aeff, aop, ev, ofValue, St.put, zgd, zmo, if_true, zs1, zs0, and_self, bne_self_eq_false, c2]
  with_reducible refine hR _ ?_
  clear hR R
  show X _ _ _ _
  refine X_block ?_
  have hlm : l.length = w.length := by have := c2; omega
  refine X_loop (fun m σ => ∃ (i : Nat), σ = ⟨[.slice .imm (if (l.map dI).isEmpty = true then 0 else 1) (l.map dI), .slice .imm (if (w.map dI).isEmpty = true then 0 else 1) (w.map dI), slotOf σ 2, slotOf σ 3, slotOf σ 4, .int .i64 i, slotOf σ 6, slotOf σ 7, slotOf σ 8, slotOf σ 9, slotOf σ 10, slotOf σ 11, slotOf σ 12, slotOf σ 13, slotOf σ 14, slotOf σ 15, slotOf σ 16, slotOf σ 17, slotOf σ 18, slotOf σ 19, slotOf σ 20, slotOf σ 21, slotOf σ 22, slotOf σ 23, slotOf σ 24, slotOf σ 25], [], 0, []⟩ ∧ m = l.length - i ∧ i ≤ l.length ∧ Hid (l.take i = w.take i)) ?_ (l.length) _ ?_
  rotate_left
  ·exact ⟨0, rfl, rfl, Nat.zero_le _, Lib.hid rfl⟩
  rintro m σ ⟨i, hσ, rfl, hi, ht⟩
  generalize slotOf σ = x at hσ
  subst hσ
  have hn1 : ∀ j, j < l.length → ((if (l.map dI).isEmpty = true then 0 else 1) = 1) = True := fun j h => eq_true (sl_n (j := j) (by simpa using h))
  have hn2 : ∀ j, j < w.length → ((if (w.map dI).isEmpty = true then 0 else 1) = 1) = True := fun j h => eq_true (sl_n (j := j) (by simpa using h))
  refine X_seq ?_
  refine X_seq ?_
  refine X_rg fun R hR => ?_
  simp only [EVP, nat_lt, aops, astep, awant, aeff, aop, abin, aint, ev, St.put, zg1, zg0, zgd, zmo, if_true, zs1, zs0, zlm, und_int]
  with_reducible refine hR _ ?_
  clear hR R
  show X _ _ _ _
  refine X_ite (by simp only [ev, zg1, zg0, zgd]; exact rfl) ?_ ?_
  ·intro b3
   have c3 := b3
   try simp only [decide_eq_true_eq] at c3
   refine X_skip ?_
   show X _ _ _ _
   refine X_seq ?_
   refine X_block ?_
   refine X_seq ?_
   have hlt : i < l.length := by first | assumption | omega
   have hlt2 : i < w.length := by omega
   have h1 := hn1 i hlt
   have h2 := hn2 i hlt2
   have e1 : (l.map dI)[i]? = some (.int .i64 l[i]) := by simp [hlt]; rfl
   have e2 : (w.map dI)[i]? = some (.int .i64 w[i]) := by simp [hlt2]; rfl
   refine X_rg fun R hR => ?_
   simp only [EVP, nat_lt, nat_0, nat_to, aops, astep, awant, aeff, aop, abin, aint, ev, St.put, ia_int, cl_int, zg1, zg0, zgd, zmo, if_true, zs1, zs0, zlm, zlc, zln, Nat.zero_add, and_self, decide_true, zis, ty_int, und_int, siz_int, inf_int_eq, c3, hlt2, h1, h2, e1, e2]
   with_reducible refine hR _ ?_
   clear hR R
   show X _ _ _ _
   refine X_ite (by simp only [ev, zg1, zg0, zgd]; exact rfl) ?_ ?_
   ·intro b4
    have c4 := b4
    try simp only [bne_iff_ne, ne_eq] at c4
    refine X_seq ?_
    refine X_rg fun R hR => ?_
    simp only [aops, astep, awant, aeff, aop, ev, ofValue, St.put, zgd, zmo, if_true, zs1, zs0, b4]
    with_reducible refine hR _ ?_
    clear hR R
    show X _ _ _ _
    refine X_ret ?_
    show resD _ _ _ = some _
    simp only [resD, resAll, resOne, resTup, Try.results24, EVP, zg1, zg0, D.good, if_true, zmo]
    have hne : ¬ l = w := fun q => by have h0 := c4; subst q; exact absurd rfl h0
    simp [hne]
   ·intro b5
    have c5 := b5
    try simp only [bne_eq_false_iff_eq] at c5
    refine X_skip ?_
    show X _ _ _ _
    have hbig : i < 9223372036854775807 := by omega
    refine X_rg fun R hR => ?_
    simp only [inr_i64, Int.reduceLE, Int.reduceNeg, aops, astep, awant, aeff, aop, abin, aint, ev, ofValue, St.put, zg1, zg0, zgd, zmo, if_true, zs1, zs0, and_self, bne_self_eq_false, c5, nat_succ hbig]
    with_reducible refine hR _ ?_
    clear hR R
    show ∃ m, m < _ ∧ _
    have hee : l[i] = w[i] := by first | assumption | omega | simp_all
    exact ⟨l.length - (i + 1), by omega, i + 1, rfl, rfl, by omega, Lib.hid (by rw [List.take_succ_eq_append_getElem hlt, List.take_succ_eq_append_getElem hlt2, ht.out, hee])⟩
  ·intro b6
   have c6 := b6
   try simp only [decide_eq_false_iff_not] at c6
   refine X_exit ?_
   show X _ _ _ _
   refine X_seq ?_
   refine X_rg fun R hR => ?_
   simp only [aops, astep, awant, aeff, aop, ev, ofValue, St.put, zgd, zmo, if_true, zs1, zs0, decide_false, c6]
   with_reducible refine hR _ ?_
   clear hR R
   show X _ _ _ _
   refine X_ret ?_
   show resD _ _ _ = some _
   simp only [resD, resAll, resOne, resTup, Try.results24, EVP, zg1, zg0, D.good, if_true, zmo]
   have hee : l = w := by have := ht.out; rw [List.take_of_length_le (by omega), List.take_of_length_le (by omega)] at this; exact this
   simp [hee]
set_option maxRecDepth 100000 in
set_option maxHeartbeats 4000000 in
theorem small_fn (p : Pg) : fn EV 19 [dG p] = some (.int .i64 (if smallB p = true then 1 else 0)) := by
 refine fn_X rfl Try.func19 rfl (by simp only [plain, List.all_cons, List.all_nil, dG_pl, Bool.and_true]) (rfl) (rfl) (rfl) ?_
 simp only [zmc, zmn, dG_strip]
 simp only [enterSt, Try.ntmps19, zlc, zln, Nat.reduceAdd, Nat.reduceSub, zr1, zr0, zca, zna]
 refine X_seq ?_
 refine X_rg fun R hR => ?_
 simp only [inr_i64, Int.reduceLE, Int.reduceNeg, aops, astep, awant, aeff, aop, ev, ofValue, St.put, zg0, zgd, zmo, if_true, zs1, zs0, zln, zna, and_self, dG_cells, dG_good]
 with_reducible refine hR _ ?_
 clear hR R
 show X _ _ _ _
 refine X_seq ?_
 refine X_seq ?_
 have hva := valid_fn p
 have hsz : validB p = true → fn EV 50 [dN p.main] = some (.int .i64 p.main.size) := fun h => o_ast_Size p.main (by have := (valid_bd h).2.2.2.1; omega)
 refine X_y ?_
 refine Y_k 5 fun R hR => ?_
 simp only [EVP, inr_i64, Int.reduceLE, Int.reduceNeg, aops, astep, awant, aeff, aop, abin, aint, mkD, ev, ofValue, St.put, ia_slice, zg1, zg0, zgd, zmo, if_true, zs1, zs0, zlm, zlc, zln, zd1, zd0, zt1, zt0, Nat.reduceAdd, Nat.reduceLeDiff, Nat.zero_add, zft, if_false, and_self, reduceCtorEq, ty_s_api_Proc, ty_api_Program, und_api_Proc]
 with_reducible refine hR _ ?_
 clear hR R
 simp only [zd1, zd0]
 refine Y_if 8 (by simp only [ev, zg1, zg0, zgd]; exact rfl) ?_ ?_
 ·intro b1
  have c1 := b1
  try simp only [decide_eq_true_eq, gt_iff_lt] at c1
  refine Y_end fun R hR => ?_
  simp only [EVP, inr_i64, Int.reduceLE, Int.reduceNeg, aops, astep, awant, aeff, aop, abin, mkD, ev, ofValue, St.put, pcall, zmc, zmn, zg1, zg0, zgd, zmo, Option.map_none, zbs, if_true, zs1, zs0, zlc, zln, zd0, zt1, zt0, zca, zna, Nat.reduceAdd, Nat.reduceLeDiff, Nat.zero_add, Nat.add_zero, zft, if_false, and_self, reduceCtorEq, decide_true, bq_tf, ty_s_api_VarDecl, ty_api_Node, ty_api_Program, und_api_VarDecl, any17, any50, dG_agg, c1]
  with_reducible refine hR _ ?_
  clear hR R
  show X _ _ _ _
  refine X_true (by simp only [ev, zg1, zg0, zgd]) ?_
  refine X_seq ?_
  refine X_rg fun R hR => ?_
  simp only [inr_i64, Int.reduceLE, Int.reduceNeg, aops, astep, awant, aeff, aop, ev, ofValue, St.put, zgd, zmo, if_true, zs1, zs0, and_self]
  with_reducible refine hR _ ?_
  clear hR R
  show X _ _ _ _
  refine X_ret ?_
  show resD _ _ _ = some _
  simp only [resD, resAll, resOne, resTup, Try.results19, EVP, zg1, zg0, D.good, if_true, zmo] <;> (first | (rw [small_1 (by assumption)]; rfl; done) | (rw [small_2 (by assumption)]; rfl; done) | (rw [small_3 (by first | assumption | (simp_all; done))]; rfl; done) | (rw [small_4 (by assumption)]; rfl; done) | (exfalso; simp_all; done))
 ·intro b2
  have c2 := b2
  try simp only [decide_eq_false_iff_not, Int.not_lt, gt_iff_lt] at c2
  refine Y_k 6 fun R hR => ?_
  simp only [EVP, inr_i64, Int.reduceLE, Int.reduceNeg, aops, astep, awant, aeff, aop, abin, aint, mkD, ev, ofValue, St.put, ia_slice, zg1, zg0, zgd, zmo, zbs, if_true, zs1, zs0, zlm, zlc, zln, zd0, zt1, zt0, Nat.reduceAdd, Nat.reduceLeDiff, Nat.zero_add, Nat.add_zero, zft, if_false, and_self, reduceCtorEq, beq_self_eq_true, ty_s_api_VarDecl, ty_api_Program, und_api_VarDecl, b2]
  with_reducible refine hR _ ?_
  clear hR R
  simp only [zd1, zd0]
  refine Y_if 14 (by simp only [ev, zg1, zg0, zgd]; exact rfl) ?_ ?_
  ·intro b3
   have c3 := b3
   try simp only [decide_eq_true_eq, gt_iff_lt] at c3
   refine Y_end fun R hR => ?_
   simp only [EVP, inr_i64, Int.reduceLE, Int.reduceNeg, aops, astep, awant, aeff, aop, abin, mkD, ev, ofValue, St.put, pcall, zmc, zmn, zg1, zg0, zgd, zmo, Option.map_none, zbs, if_true, zs1, zs0, zlc, zln, zd0, zt1, zt0, zca, zna, Nat.reduceAdd, Nat.reduceLeDiff, Nat.zero_add, zft, if_false, and_self, reduceCtorEq, decide_true, bq_tf, ty_api_Node, ty_api_Program, any17, any50, dG_agg, c3]
   with_reducible refine hR _ ?_
   clear hR R
   show X _ _ _ _
   refine X_true (by simp only [ev, zg1, zg0, zgd]) ?_
   refine X_seq ?_
   refine X_rg fun R hR => ?_
   simp only [inr_i64, Int.reduceLE, Int.reduceNeg, aops, astep, awant, aeff, aop, ev, ofValue, St.put, zgd, zmo, if_true, zs1, zs0, and_self]
   with_reducible refine hR _ ?_
   clear hR R
   show X _ _ _ _
   refine X_ret ?_
   show resD _ _ _ = some _
   simp only [resD, resAll, resOne, resTup, Try.results19, EVP, zg1, zg0, D.good, if_true, zmo] <;> (first | (rw [small_1 (by assumption)]; rfl; done) | (rw [small_2 (by assumption)]; rfl; done) | (rw [small_3 (by first | assumption | (simp_all; done))]; rfl; done) | (rw [small_4 (by assumption)]; rfl; done) | (exfalso; simp_all; done))
  ·intro b4
   have c4 := b4
   try simp only [decide_eq_false_iff_not, Int.not_lt, gt_iff_lt] at c4
   refine Y_k 5 fun R hR => ?_
   simp only [EVP, aops, astep, awant, aeff, aop, mkD, ev, ofValue, St.put, pcall, zmc, zmn, zg1, zg0, zgd, zmo, zbs, if_true, zs1, zs0, zlc, zln, zd0, zt1, zt0, zca, zna, Nat.reduceAdd, Nat.reduceLeDiff, Nat.zero_add, zft, if_false, beq_self_eq_true, ty_api_Program, any17, dG_agg, b4, hva]
   with_reducible refine hR _ ?_
   clear hR R
   simp only [zd1, zd0]
   refine Y_if 19 (by simp only [ev, zg1, zg0, zgd]; exact rfl) ?_ ?_
   ·intro b5
    have c5 := b5
    try simp only [znt] at c5
    refine Y_end fun R hR => ?_
    simp only [EVP, inr_i64, Int.reduceLE, Int.reduceNeg, aops, astep, awant, aeff, aop, abin, ev, ofValue, St.put, pcall, zmc, zmn, zg1, zg0, zgd, zmo, Option.map_none, zbs, if_true, zs1, zs0, zca, zna, Nat.zero_add, Bool.not_false, zft, if_false, and_self, reduceCtorEq, bq_tf, ty_api_Node, ty_api_Program, any50, c5]
    with_reducible refine hR _ ?_
    clear hR R
    show X _ _ _ _
    refine X_true (by simp only [ev, zg1, zg0, zgd]) ?_
    refine X_seq ?_
    refine X_rg fun R hR => ?_
    simp only [inr_i64, Int.reduceLE, Int.reduceNeg, aops, astep, awant, aeff, aop, ev, ofValue, St.put, zgd, zmo, if_true, zs1, zs0, and_self]
    with_reducible refine hR _ ?_
    clear hR R
    show X _ _ _ _
    refine X_ret ?_
    show resD _ _ _ = some _
    simp only [resD, resAll, resOne, resTup, Try.results19, EVP, zg1, zg0, D.good, if_true, zmo] <;> (first | (rw [small_1 (by assumption)]; rfl; done) | (rw [small_2 (by assumption)]; rfl; done) | (rw [small_3 (by first | assumption | (simp_all; done))]; rfl; done) | (rw [small_4 (by assumption)]; rfl; done) | (exfalso; simp_all; done))
   ·intro b6
    have c6 := b6
    try simp only [znf] at c6
    refine Y_end fun R hR => ?_
    simp only [EVP, inr_i64, Int.reduceLE, Int.reduceNeg, aops, astep, awant, aeff, aop, abin, aint, mkD, ev, ofValue, St.put, pcall, zmc, zmn, zg1, zg0, zgd, zmo, zbs, if_true, zs1, zs0, zlc, zln, zd1, zd0, zt1, zt0, zca, zna, Nat.reduceAdd, Nat.reduceLeDiff, Nat.zero_add, Bool.not_true, zft, if_false, and_self, reduceCtorEq, beq_self_eq_true, ty_api_Node, ty_api_Program, any50, dN_agg, c6, hsz]
    with_reducible refine hR _ ?_
    clear hR R
    show X _ _ _ _
    refine X_ite (by simp only [ev, zg1, zg0, zgd]; exact rfl) ?_ ?_
    ·intro b7
     have c7 := b7
     try simp only [decide_eq_true_eq, gt_iff_lt] at c7
     refine X_seq ?_
     refine X_rg fun R hR => ?_
     simp only [inr_i64, Int.reduceLE, Int.reduceNeg, aops, astep, awant, aeff, aop, ev, ofValue, St.put, zgd, zmo, if_true, zs1, zs0, and_self, decide_true, c7]
     with_reducible refine hR _ ?_
     clear hR R
     show X _ _ _ _
     refine X_ret ?_
     show resD _ _ _ = some _
     simp only [resD, resAll, resOne, resTup, Try.results19, EVP, zg1, zg0, D.good, if_true, zmo]
     have hq := small_4 (p := p) (by first | assumption | (simp; omega))
     rw [hq]; rfl
    ·intro b8
     have c8 := b8
     try simp only [decide_eq_false_iff_not, Int.not_lt, gt_iff_lt] at c8
     refine X_skip ?_
     show X _ _ _ _
     refine X_seq ?_
     refine X_seq ?_
     refine X_rg fun R hR => ?_
     simp only [inr_i64, Int.reduceLE, Int.reduceNeg, aops, astep, awant, aeff, aop, ev, ofValue, St.put, zgd, zmo, if_true, zs1, zs0, and_self, b8]
     with_reducible refine hR _ ?_
     clear hR R
     show X _ _ _ _
     refine X_block ?_
     have hvd : validB p = true := by first | assumption | simp_all
     obtain ⟨bv, bp, bq, bm, _⟩ := valid_bd hvd
     have k1 : decide ((p.procs.length : Int) > 6) = false := by first | assumption | simp_all
     have k2 : decide ((p.vars.length : Int) > 20) = false := by first | assumption | simp_all
     have k4 : decide ((p.main.size : Int) > 80) = false := by first | assumption | simp_all
     refine X_loop (fun m σ => ∃ (i : Nat) (r : List (List D)), σ = ⟨[slotOf σ 0, .ptr 0 0, slotOf σ 2, .int .i64 i, slotOf σ 4, slotOf σ 5, slotOf σ 6, slotOf σ 7, slotOf σ 8, slotOf σ 9, slotOf σ 10, slotOf σ 11, slotOf σ 12, slotOf σ 13, slotOf σ 14, slotOf σ 15, slotOf σ 16, slotOf σ 17, slotOf σ 18, slotOf σ 19, slotOf σ 20, slotOf σ 21, slotOf σ 22, slotOf σ 23, slotOf σ 24, slotOf σ 25, slotOf σ 26, slotOf σ 27, slotOf σ 28, slotOf σ 29, slotOf σ 30, slotOf σ 31, slotOf σ 32, slotOf σ 33, slotOf σ 34, slotOf σ 35, slotOf σ 36, slotOf σ 37, slotOf σ 38, slotOf σ 39], [.slice .imm (if (p.vars.map dV).isEmpty = true then 0 else 3) (p.vars.map dV), .slice .imm (if (p.procs.map dP).isEmpty = true then 0 else 6) (p.procs.map dP), .int .u8 p.main.kind, .int .i64 p.main.num, .str p.main.name, .slice .imm (if (p.main.kids.map dN).isEmpty = true then 0 else 4) (p.main.kids.map dN)] :: r, 0, []⟩ ∧ m = p.procs.length - i ∧ i ≤ p.procs.length ∧ Hid ((p.procs.take i).all (fun q => !decide ((q.body.size : Int) > 80)) = true)) ?_ (p.procs.length) _ ?_
     rotate_left
     ·exact ⟨0, [], rfl, rfl, Nat.zero_le _, Lib.hid (by simp)⟩
     rintro m σ ⟨i, r, hσ, rfl, hi, hs⟩
     generalize slotOf σ = x at hσ
     subst hσ
     have hn6 : ∀ j, j < p.procs.length → ((if (p.procs.map dP).isEmpty = true then 0 else 6) = 6) = True := fun j h => eq_true (sl_n (j := j) (by simpa using h))
     refine X_seq ?_
     refine X_seq ?_
     refine X_rg fun R hR => ?_
     simp only [EVP, nat_lt, aops, astep, awant, aeff, aop, abin, aint, mkD, ev, St.put, ia_slice, zg1, zg0, zgd, zmo, if_true, zs1, zs0, zlm, zlc, zln, zd1, zd0, zt1, zt0, Nat.reduceAdd, Nat.reduceLeDiff, Nat.zero_add, zft, if_false, reduceCtorEq, ty_s_api_Proc, ty_api_Program, und_api_Proc]
     with_reducible refine hR _ ?_
     clear hR R
     show X _ _ _ _
     refine X_ite (by simp only [ev, zg1, zg0, zgd]; exact rfl) ?_ ?_
     ·intro b9
      have c9 := b9
      try simp only [decide_eq_true_eq] at c9
      refine X_skip ?_
      show X _ _ _ _
      refine X_seq ?_
      refine X_block ?_
      refine X_seq ?_
      have hlt : i < p.procs.length := by first | assumption | omega
      have hn1 := hn6 i hlt
      have e1 : (p.procs.map dP)[i]? = some (dP p.procs[i]) := by simp [hlt]
      have hsi := o_ast_Size p.procs[i].body (by have := (bq p.procs[i] (List.getElem_mem hlt)).2.1; omega)
      refine X_rg fun R hR => ?_
      simp only [EVP, inr_i64, Int.reduceLE, Int.reduceNeg, nat_lt, nat_0, nat_to, aops, astep, awant, aeff, aop, abin, aint, mkD, ev, ofValue, St.put, pcall, ia_slice, zmc, zmn, zg1, zg0, zgd, zmo, if_true, zs1, zs0, zlm, zlc, zln, zd1, zd0, zt1, zt0, zca, zna, Nat.reduceAdd, Nat.reduceLeDiff, Nat.zero_add, zft, if_false, and_self, reduceCtorEq, decide_true, zis, ty_s_api_Proc, ty_api_Node, ty_api_Proc, ty_api_Program, und_api_Proc, siz_api_Proc, inf_api_Proc_eq, any50, dN_agg, dN_cells, dN_isAgg, sl, dP, c9, hn1, e1, hsi]
      with_reducible refine hR _ ?_
      clear hR R
      show X _ _ _ _
      refine X_ite (by simp only [ev, zg1, zg0, zgd]; exact rfl) ?_ ?_
      ·intro b10
       have c10 := b10
       try simp only [decide_eq_true_eq, gt_iff_lt] at c10
       refine X_seq ?_
       refine X_rg fun R hR => ?_
       simp only [inr_i64, Int.reduceLE, Int.reduceNeg, aops, astep, awant, aeff, aop, ev, ofValue, St.put, zgd, zmo, if_true, zs1, zs0, and_self, decide_true, c10]
       with_reducible refine hR _ ?_
       clear hR R
       show X _ _ _ _
       refine X_ret ?_
       show resD _ _ _ = some _
       simp only [resD, resAll, resOne, resTup, Try.results19, EVP, zg1, zg0, D.good, if_true, zmo]
       rw [small_5 hlt (by first | assumption | (simp_all; done))]; rfl
      ·intro b11
       have c11 := b11
       try simp only [decide_eq_false_iff_not, Int.not_lt, gt_iff_lt] at c11
       refine X_skip ?_
       show X _ _ _ _
       have hbig : i < 9223372036854775807 := by omega
       refine X_rg fun R hR => ?_
       simp only [inr_i64, Int.reduceLE, Int.reduceNeg, aops, astep, awant, aeff, aop, abin, aint, ev, ofValue, St.put, zg1, zg0, zgd, zmo, if_true, zs1, zs0, and_self, b11, nat_succ hbig]
       with_reducible refine hR _ ?_
       clear hR R
       show ∃ m, m < _ ∧ _
       exact ⟨p.procs.length - (i + 1), by omega, i + 1, r, rfl, rfl, by omega, Lib.hid (all_yes _ p.procs i hlt hs.out (by first | (simp_all; done) | (simp; omega)))⟩
     ·intro b12
      have c12 := b12
      try simp only [decide_eq_false_iff_not] at c12
      refine X_exit ?_
      show X _ _ _ _
      refine X_seq ?_
      refine X_rg fun R hR => ?_
      simp only [inr_i64, Int.reduceLE, Int.reduceNeg, aops, astep, awant, aeff, aop, ev, ofValue, St.put, zgd, zmo, if_true, zs1, zs0, and_self, decide_false, c12]
      with_reducible refine hR _ ?_
      clear hR R
      show X _ _ _ _
      refine X_ret ?_
      show resD _ _ _ = some _
      simp only [resD, resAll, resOne, resTup, Try.results19, EVP, zg1, zg0, D.good, if_true, zmo]
      have hh := hs.out
      rw [List.take_of_length_le (by omega)] at hh
      rw [small_y k1 k2 hvd k4 hh]; rfl
theorem rep_path {pr : Int} {path : List Int} {err : Int} {name : ByteArray} {f : Ft} (h : f ∈ rep pr path err name) : f.path = path := by
 unfold rep at h; split at h
 ·simp at h
 ·rw [List.mem_singleton.1 h]
theorem argsF_path (p : Pg) (pr : Int) (t : Tr) (path : List Int) (vs : List Vd) : ∀ (c : List Tr) (i : Nat) (f : Ft), f ∈ argsF p pr t path vs c i → f.path.length ≤ path.length + 1
 | [], _, f, h => by simp [argsF] at h
 | c :: r, i, f, h => by
  simp only [argsF, List.mem_append] at h
  rcases h with h | h
  ·rw [rep_path h]; simp
  ·exact argsF_path p pr t path vs r (i + 1) f h
mutual
theorem visF_path (p : Pg) (pr : Int) : ∀ (t : Tr) (path : List Int) (vs : List Vd) (f : Ft), f ∈ visF p pr t path vs → f.path.length ≤ path.length + t.size
 | .mk k n s c, path, vs, f, h => by
  simp only [visF, List.mem_append] at h
  rcases h with h | h
  ·rw [rep_path h]; omega
  ·split at h
   ·have := argsF_path p pr _ path vs c 0 f h; simp only [Tr.size]; omega
   ·have := visL_path p pr _ path vs c 0 f h; simp only [Tr.size]; omega
theorem visL_path (p : Pg) (pr : Int) (t : Tr) (path : List Int) (vs : List Vd) : ∀ (c : List Tr) (i : Nat) (f : Ft), f ∈ visL p pr t path vs c i → f.path.length ≤ path.length + 1 + Tr.sizes c
 | [], _, f, h => by simp [visL] at h
 | c :: r, i, f, h => by
  simp only [visL, List.mem_append] at h
  simp only [Tr.sizes]
  rcases h with h | h
  ·have := visF_path p pr c _ _ f h; simp only [zla, List.length_singleton] at this; omega
  ·have := visL_path p pr t path vs r (i + 1) f h; omega
end
theorem vrF_path (pr : Int) (one : Bool) (l : List Vd) : ∀ (c : List Vd) (i : Nat) (f : Ft), f ∈ vrF pr one l c i → f.path.length ≤ 1
 | [], _, f, h => by simp [vrF] at h
 | v :: r, i, f, h => by
  simp only [vrF, List.mem_append] at h
  rcases h with h | h
  ·rw [rep_path h]; split <;> simp
  ·exact vrF_path pr one l r (i + 1) f h
theorem procsF_path (p : Pg) : ∀ (c : List Pr) (i : Nat) (f : Ft), (∀ q ∈ c, q.body.size ≤ 2000) → f ∈ procsF p c i → f.path.length ≤ 2000
 | [], _, f, _, h => by simp [procsF] at h
 | q :: r, i, f, hq, h => by
  simp only [procsF, procF, List.mem_append] at h
  rcases h with (h | h | h) | h
  ·split at h
   ·rw [List.mem_singleton.1 h]; simp
   ·simp at h
  ·have := vrF_path i false q.params q.params 0 f h; omega
  ·have := visF_path p i q.body [] q.params f h; have := hq q (by simp); simp at *; omega
  ·exact procsF_path p r (i + 1) f (fun q h => hq q (List.mem_cons_of_mem _ h)) h
theorem procsF_len (p : Pg) : ∀ (c : List Pr) (i : Nat), (∀ q ∈ c, q.params.length ≤ 8 ∧ q.body.size ≤ 2000) → (procsF p c i).length ≤ 2009 * c.length
 | [], _, _ => by simp [procsF]
 | q :: r, i, hq => by
  have h1 := procsF_len p r (i + 1) fun q h => hq q (List.mem_cons_of_mem _ h)
  have h2 := vrF_len i false q.params q.params 0
  have h3 := visF_len p i q.body [] q.params
  have h4 := hq q (by simp)
  have h5 : (if procI p q.name < (i : Int) then [Ft.mk i [] 22 q.name] else []).length ≤ 1 := by split <;> simp
  simp only [procsF, procF, zla, zlc] at h5 ⊢; omega
theorem checkF_bd {p : Pg} (h : validB p = true) : (checkF p).length ≤ 1000000 ∧ ∀ f ∈ checkF p, f.path.length ≤ 2000 := by
 obtain ⟨bv, bp, bq, bm, _⟩ := valid_bd h
 have h1 := vrF_len (-1) true p.vars p.vars 0
 have h2 := procsF_len p p.procs 0 fun q hq => ⟨(bq q hq).1, (bq q hq).2.1⟩
 have h3 := visF_len p p.procs.length p.main [] p.vars
 refine ⟨by simp only [checkF, zla]; omega, fun f hf => ?_⟩
 simp only [checkF, List.mem_append] at hf
 rcases hf with hf | hf | hf
 ·have := vrF_path (-1) true p.vars p.vars 0 f hf; omega
 ·exact procsF_path p p.procs 0 f (fun q hq => (bq q hq).2.1) hf
 ·have := visF_path p p.procs.length p.main [] p.vars f hf; simp at this; omega
end Go.Proofs.Ytjikokmhknnnoaa
