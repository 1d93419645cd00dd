/- The law CheckerPaths: its walk. -/
import Derived.Test.YtmglacjcefajlaaSo9
import Derived.Test.YtmglacjcefajlaaPa9
namespace Go.Proofs.Ytmglacjcefajlaa
open Go.RowKit

theorem atT_no {t : Tr} {i : Int} {r : List Int} (h : i < 0 ∨ (t.kids.length : Int) ≤ i) : atT t (i :: r) = (noT, false) := by
 simp only [atT]
 by_cases h0 : i < 0
 ·rw [if_pos h0]
 ·rw [if_neg h0, List.getElem?_eq_none (by omega)]
theorem less_end1 {a b : List Int} {i : Nat} (h1 : a.length ≤ i) (h2 : i ≤ a.length) (h3 : i ≤ b.length) : lessB (a.drop i) (b.drop i) = decide ((a.length : Int) < (b.length : Int)) := by
 rw [List.drop_of_length_le h1]
 by_cases h : i < b.length
 ·rw [List.drop_eq_getElem_cons h]; simp only [lessB]; symm; simp; omega
 ·rw [List.drop_of_length_le (by omega)]; simp only [lessB]; symm; simp; omega
theorem less_end3 {a b : List Int} {i : Nat} (h1 : b.length ≤ i) : lessB (a.drop i) (b.drop i) = false := by
 rw [List.drop_of_length_le h1]; cases a.drop i <;> rfl
theorem less_step {a b : List Int} {i : Nat} (h1 : i < a.length) (h2 : i < b.length) : lessB (a.drop i) (b.drop i) = if a[i] = b[i] then lessB (a.drop (i + 1)) (b.drop (i + 1)) else decide (a[i] < b[i]) := by
 rw [List.drop_eq_getElem_cons h1, List.drop_eq_getElem_cons h2]; rfl
set_option maxRecDepth 100000 in
set_option maxHeartbeats 4000000 in
theorem at_fn (t : Tr) (path : List Int) (hl : path.length ≤ 1000000) : fn EV 23 [dN t, sl 1 (path.map dI)] = some (.tup [dN (atT t path).1, .bool (atT t path).2]) := by
 refine fn_Xs rfl Try.func23 rfl (by simp only [plain, List.all_cons, List.all_nil, dN_pl, sl_pl (f := dI) (fun _ _ => rfl), Bool.and_true]) (rfl) ?_
 simp only [zmc, zmn, dN_strip, sl_strip (map_strip (f := dI) (fun _ => rfl) _)]
 simp only [enterSt, Try.ntmps23, zlc, zln, Nat.reduceAdd, Nat.reduceSub, zr1, zr0, zca, zna]
 refine X_seq ?_
 refine X_rg fun R hR => ?_
 simp only [EVP, aops, astep, awant, aeff, aop, ev, ofValue, St.put, zg0, zgd, zmo, zbs, if_true, zs1, zs0, zlc, zln, zca, zna, Nat.zero_add, ty_api_Node, dN_cells, dN_good, sl]
 with_reducible refine hR _ ?_
 clear hR R
 show X _ _ _ _
 refine X_seq ?_
 refine X_seq ?_
 refine X_rg fun R hR => ?_
 simp only [EVP, inr_i64, Int.reduceLE, Int.reduceNeg, aops, astep, awant, aeff, aop, ev, ofValue, St.put, zg1, zg0, zgd, zmo, if_true, zs1, zs0, zlm, and_self, und_int]
 with_reducible refine hR _ ?_
 clear hR R
 show X _ _ _ _
 refine X_block ?_
 refine X_loop (fun m σ => ∃ (i : Nat) (c : Tr), σ = ⟨[slotOf σ 0, slotOf σ 1, .ptr 0 0, slotOf σ 3, .ptr 1 0, slotOf σ 5, slotOf σ 6, slotOf σ 7, .slice .imm (if (path.map dI).isEmpty = true then 0 else 1) (path.map dI), .int .i64 path.length, .int .i64 i, slotOf σ 11, slotOf σ 12, slotOf σ 13, slotOf σ 14, slotOf σ 15, slotOf σ 16, slotOf σ 17, slotOf σ 18, slotOf σ 19, slotOf σ 20, slotOf σ 21, slotOf σ 22, slotOf σ 23, slotOf σ 24, slotOf σ 25, slotOf σ 26, slotOf σ 27, slotOf σ 28, slotOf σ 29, slotOf σ 30], [[.int .u8 c.kind, .int .i64 c.num, .str c.name, .slice .imm (if (c.kids.map dN).isEmpty = true then 0 else 4) (c.kids.map dN)], [.int .u8 0, .int .i64 0, .str ⟨#[]⟩, .slice .nil 0 []]], 0, []⟩ ∧ m = path.length - i ∧ i ≤ path.length ∧ Hid (atT t path = atT c (path.drop i))) ?_ (path.length) _ ?_
 rotate_left
 ·exact ⟨0, t, rfl, rfl, Nat.zero_le _, Lib.hid rfl⟩
 rintro m σ ⟨i, c, hσ, rfl, hi, ht⟩
 generalize slotOf σ = x at hσ
 subst hσ
 have hn1 : ∀ j, j < path.length → ((if (path.map dI).isEmpty = true then 0 else 1) = 1) = True := fun j h => eq_true (sl_n (j := j) (by simpa using h))
 refine X_seq ?_
 refine X_rg fun R hR => ?_
 simp only [nat_lt, aops, astep, awant, aeff, aop, abin, aint, ev, St.put, zg1, zg0, zgd, zmo, if_true, zs1, zs0]
 with_reducible refine hR _ ?_
 clear hR R
 show X _ _ _ _
 refine X_seq ?_
 refine X_ite (by simp only [ev, zg1, zg0, zgd]; exact rfl) ?_ ?_
 ·intro b1
  have c1 := b1
  try simp only [decide_eq_true_eq] at c1
  refine X_skip ?_
  show X _ _ _ _
  refine X_seq ?_
  refine X_block ?_
  refine X_seq ?_
  have hlt : i < path.length := by first | assumption | omega
  have h1 := hn1 i hlt
  have e1 : (path.map dI)[i]? = some (.int .i64 path[i]) := by simp [hlt]; rfl
  have hdr : path.drop i = path[i] :: path.drop (i + 1) := List.drop_eq_getElem_cons hlt
  refine X_rg fun R hR => ?_
  simp only [EVP, nat_lt, nat_0, nat_to, aops, astep, awant, aeff, aop, ev, St.put, ia_int, cl_int, zg1, zg0, zgd, zmo, if_true, zs1, zs0, zlm, zlc, zln, Nat.zero_add, and_self, decide_true, zis, ty_int, und_int, siz_int, inf_int_eq, c1, h1, e1]
  with_reducible refine hR _ ?_
  clear hR R
  show X _ _ _ _
  refine X_seq ?_
  refine X_seq ?_
  refine X_y ?_
  refine Y_k 3 fun R hR => ?_
  simp only [EVP, inr_i64, Int.reduceLE, Int.reduceNeg, aops, astep, awant, aeff, aop, abin, aint, ev, ofValue, St.put, zg1, zg0, zgd, zmo, if_true, zs1, zs0, zt1, zt0, and_self]
  with_reducible refine hR _ ?_
  clear hR R
  simp only [zd1, zd0]
  refine Y_if 16 (by simp only [ev, zg1, zg0, zgd]; exact rfl) ?_ ?_
  ·intro b2
   have c2 := b2
   try simp only [decide_eq_true_eq] at c2
   refine Y_end fun R hR => ?_
   simp only [EVP, aops, astep, awant, aeff, aop, abin, ev, ofValue, St.put, zg1, zg0, zgd, zmo, Option.map_none, zbs, if_true, zs1, zs0, Nat.zero_add, zft, if_false, reduceCtorEq, decide_true, bq_tf, ty_s_api_Node, ty_api_Node, und_api_Node, c2]
   with_reducible refine hR _ ?_
   clear hR R
   show X _ _ _ _
   refine X_true (by simp only [ev, zg1, zg0, zgd]) ?_
   refine X_seq ?_
   refine X_rg fun R hR => ?_
   simp only [EVP, aops, astep, awant, aeff, aop, afill, astore, ev, ofValue, St.put, gd_agg, cl_agg, zmn, zg1, zg0, zgd, zmo, if_true, zs1, zs0, zlc, zln, zd1, zd0, zt0, zca, zna, Nat.reduceAdd, Nat.reduceLeDiff, Nat.zero_add, and_self, ty_api_Node, st_api_Node, sta_api_Node]
   with_reducible refine hR _ ?_
   clear hR R
   show X _ _ _ _
   refine X_ret ?_
   show ∃ d, resD _ _ _ = some d ∧ _ ∧ _
   simp only [resD, resAll, resOne, resTup, Try.results23, EVP, mkD, ty_api_Node, zg1, zg0, zd0, zt1, zt0, zlc, zln, Nat.reduceAdd, Nat.reduceLeDiff, Nat.zero_add, D.good, if_true, zmo]
   exact ⟨_, rfl, rfl, by rw [ht.out, hdr, atT_no (by first | (left; assumption) | (right; assumption) | omega)]; rw [dN_eq]; rfl⟩
  ·intro b3
   have c3 := b3
   try simp only [decide_eq_false_iff_not, Int.not_lt] at c3
   refine Y_end fun R hR => ?_
   simp only [EVP, aops, astep, awant, aeff, aop, abin, aint, mkD, ev, ofValue, St.put, ia_slice, zg1, zg0, zgd, zmo, zbs, if_true, zs1, zs0, zlm, zlc, zln, zd1, zd0, zt1, zt0, Nat.reduceAdd, Nat.reduceLeDiff, Nat.zero_add, zft, if_false, reduceCtorEq, beq_self_eq_true, ty_s_api_Node, ty_api_Node, und_api_Node, b3]
   with_reducible refine hR _ ?_
   clear hR R
   show X _ _ _ _
   refine X_ite (by simp only [ev, zg1, zg0, zgd]; exact rfl) ?_ ?_
   ·intro b4
    have c4 := b4
    try simp only [decide_eq_true_eq, ge_iff_le] at c4
    refine X_seq ?_
    refine X_rg fun R hR => ?_
    simp only [EVP, aops, astep, awant, aeff, aop, afill, astore, ev, ofValue, St.put, gd_agg, cl_agg, zmn, zg1, zg0, zgd, zmo, if_true, zs1, zs0, zlc, zln, zd1, zd0, zt0, zca, zna, Nat.reduceAdd, Nat.reduceLeDiff, Nat.zero_add, and_self, decide_true, ty_api_Node, st_api_Node, sta_api_Node, c4]
    with_reducible refine hR _ ?_
    clear hR R
    show X _ _ _ _
    refine X_ret ?_
    show ∃ d, resD _ _ _ = some d ∧ _ ∧ _
    simp only [resD, resAll, resOne, resTup, Try.results23, EVP, mkD, ty_api_Node, zg1, zg0, zd0, zt1, zt0, zlc, zln, Nat.reduceAdd, Nat.reduceLeDiff, Nat.zero_add, D.good, if_true, zmo]
    exact ⟨_, rfl, rfl, by rw [ht.out, hdr, atT_no (by first | (left; assumption) | (right; assumption) | omega)]; rw [dN_eq]; rfl⟩
   ·intro b5
    have c5 := b5
    try simp only [decide_eq_false_iff_not, Int.not_le, ge_iff_le] at c5
    refine X_skip ?_
    show X _ _ _ _
    have hk0 : 0 ≤ path[i] := by first | assumption | omega
    have hk1 : path[i] < (c.kids.length : Int) := by first | assumption | omega
    have hk2 : path[i].toNat < c.kids.length := by omega
    have hn4 : ((if (c.kids.map dN).isEmpty = true then 0 else 4) = 4) = True := eq_true (sl_n (j := path[i].toNat) (by simpa using hk2))
    have e2 : (c.kids.map dN)[path[i].toNat]? = some (dN c.kids[path[i].toNat]) := by simp [hk2]
    refine X_rg fun R hR => ?_
    simp only [EVP, aops, astep, awant, aeff, aop, mkD, astore, ev, St.put, ia_slice, zg1, zg0, zgd, zmo, if_true, zs1, zs0, zlm, zlc, zln, zd1, zd0, zt1, zt0, zca, zna, Nat.reduceAdd, Nat.reduceLeDiff, Nat.zero_add, zft, if_false, and_self, reduceCtorEq, zis, ty_s_api_Node, ty_api_Node, und_api_Node, siz_api_Node, inf_api_Node_eq, dN_cells, dN_isAgg, dN_good, sl, c3, b5, c5, hn4, e2]
    with_reducible refine hR _ ?_
    clear hR R
    show X _ _ _ _
    have hbig : i < 9223372036854775807 := by omega
    refine X_rg fun R hR => ?_
    simp only [inr_i64, Int.reduceLE, Int.reduceNeg, aops, astep, awant, aeff, aop, abin, aint, ev, ofValue, St.put, zg1, zg0, zgd, zmo, if_true, zs1, zs0, and_self, nat_succ hbig]
    with_reducible refine hR _ ?_
    clear hR R
    show ∃ m, m < _ ∧ _
    exact ⟨path.length - (i + 1), by omega, i + 1, c.kids[path[i].toNat], rfl, rfl, by omega, Lib.hid (by rw [ht.out, hdr]; have := atT_kid (t := c) (i := path[i].toNat) (r := path.drop (i + 1)) (List.getElem?_eq_getElem hk2); rw [Int.toNat_of_nonneg hk0] at this; exact this)⟩
 ·intro b6
  have c6 := b6
  try simp only [decide_eq_false_iff_not] at c6
  refine X_exit ?_
  show X _ _ _ _
  refine X_seq ?_
  refine X_rg fun R hR => ?_
  simp only [EVP, aops, astep, awant, aeff, aop, mkD, astore, ev, ofValue, St.put, zg1, zg0, zgd, zmo, if_true, zs1, zs0, zlc, zln, zd1, zd0, zt1, zt0, zca, zna, Nat.reduceAdd, Nat.reduceLeDiff, Nat.zero_add, and_self, decide_false, ty_api_Node, dN_agg, dN_cells, dN_good, sl, c6]
  with_reducible refine hR _ ?_
  clear hR R
  show X _ _ _ _
  refine X_ret ?_
  show ∃ d, resD _ _ _ = some d ∧ _ ∧ _
  simp only [resD, resAll, resOne, resTup, Try.results23, EVP, mkD, ty_api_Node, zg1, zg0, zd0, zt1, zt0, zlc, zln, Nat.reduceAdd, Nat.reduceLeDiff, Nat.zero_add, D.good, if_true, zmo]
  simp only [dN_agg]
  exact ⟨_, rfl, by simp only [D.under, D.unders, dN_under, Bool.and_true], by rw [ht.out, List.drop_of_length_le (by omega)]; simp only [atT, D.strip, D.strips, dN_strip]⟩
set_option maxRecDepth 100000 in
set_option maxHeartbeats 4000000 in
theorem before_fn (a b : List Int) (hl : a.length ≤ 1000000) : fn EV 25 [sl 1 (a.map dI), sl 1 (b.map dI)] = some (.bool (lessB a b)) := by
 refine fn_X rfl Try.func25 rfl (by simp only [plain, List.all_cons, List.all_nil, sl_pl (f := dI) (fun _ _ => rfl), Bool.and_true]) (rfl) (rfl) (rfl) ?_
 simp only [zmc, zmn, sl_strip (map_strip (f := dI) (fun _ => rfl) _)]
 simp only [enterSt, Try.ntmps25, zlc, zln, Nat.reduceAdd, Nat.reduceSub, zr1, zr0, zca, zna]
 refine X_seq ?_
 refine X_rg fun R hR => ?_
 simp only [aops, astep, awant, aeff, aop, ev, ofValue, St.put, zgd, zmo, if_true, zs1, zs0, sl]
 with_reducible refine hR _ ?_
 clear hR R
 show X _ _ _ _
 refine X_seq ?_
 refine X_seq ?_
 refine X_rg fun R hR => ?_
 simp only [EVP, inr_i64, Int.reduceLE, Int.reduceNeg, aops, astep, awant, aeff, aop, ev, ofValue, St.put, zg1, zg0, zgd, zmo, if_true, zs1, zs0, zlm, and_self, und_int]
 with_reducible refine hR _ ?_
 clear hR R
 show X _ _ _ _
 refine X_block ?_
 refine X_loop (fun m σ => ∃ (i : Nat), σ = ⟨[.slice .imm (if (a.map dI).isEmpty = true then 0 else 1) (a.map dI), .slice .imm (if (b.map dI).isEmpty = true then 0 else 1) (b.map dI), slotOf σ 2, slotOf σ 3, slotOf σ 4, slotOf σ 5, .slice .imm (if (a.map dI).isEmpty = true then 0 else 1) (a.map dI), .int .i64 a.length, .int .i64 i, slotOf σ 9, slotOf σ 10, slotOf σ 11, slotOf σ 12, slotOf σ 13, slotOf σ 14, slotOf σ 15, slotOf σ 16, slotOf σ 17, slotOf σ 18, slotOf σ 19, slotOf σ 20, slotOf σ 21, slotOf σ 22, slotOf σ 23, slotOf σ 24, slotOf σ 25, slotOf σ 26, slotOf σ 27, slotOf σ 28, slotOf σ 29, slotOf σ 30, slotOf σ 31, slotOf σ 32, slotOf σ 33, slotOf σ 34, slotOf σ 35, slotOf σ 36, slotOf σ 37, slotOf σ 38], [], 0, []⟩ ∧ m = a.length - i ∧ i ≤ a.length ∧ i ≤ b.length ∧ Hid (lessB a b = lessB (a.drop i) (b.drop i))) ?_ (a.length) _ ?_
 rotate_left
 ·exact ⟨0, rfl, rfl, Nat.zero_le _, Nat.zero_le _, Lib.hid rfl⟩
 rintro m σ ⟨i, hσ, rfl, hi, hi2, ht⟩
 generalize slotOf σ = x at hσ
 subst hσ
 have hn1 : ∀ j, j < a.length → ((if (a.map dI).isEmpty = true then 0 else 1) = 1) = True := fun j h => eq_true (sl_n (j := j) (by simpa using h))
 have hn2 : ∀ j, j < b.length → ((if (b.map dI).isEmpty = true then 0 else 1) = 1) = True := fun j h => eq_true (sl_n (j := j) (by simpa using h))
 refine X_seq ?_
 refine X_rg fun R hR => ?_
 simp only [nat_lt, aops, astep, awant, aeff, aop, abin, aint, ev, St.put, zg1, zg0, zgd, zmo, if_true, zs1, zs0]
 with_reducible refine hR _ ?_
 clear hR R
 show X _ _ _ _
 refine X_seq ?_
 refine X_ite (by simp only [ev, zg1, zg0, zgd]; exact rfl) ?_ ?_
 ·intro b1
  have c1 := b1
  try simp only [decide_eq_true_eq] at c1
  refine X_skip ?_
  show X _ _ _ _
  refine X_seq ?_
  refine X_block ?_
  refine X_seq ?_
  refine X_rg fun R hR => ?_
  simp only [aops, astep, awant, aeff, aop, ev, St.put, zg1, zg0, zgd, zmo, if_true, zs1, zs0, b1]
  with_reducible refine hR _ ?_
  clear hR R
  show X _ _ _ _
  refine X_seq ?_
  refine X_seq ?_
  have hlt : i < a.length := by first | assumption | omega
  refine X_rg fun R hR => ?_
  simp only [EVP, aops, astep, awant, aeff, aop, abin, aint, ev, St.put, zg1, zg0, zgd, zmo, if_true, zs1, zs0, zlm, und_int]
  with_reducible refine hR _ ?_
  clear hR R
  show X _ _ _ _
  refine X_ite (by simp only [ev, zg1, zg0, zgd]; exact rfl) ?_ ?_
  ·intro b2
   have c2 := b2
   try simp only [decide_eq_true_eq, ge_iff_le] at c2
   refine X_seq ?_
   refine X_rg fun R hR => ?_
   simp only [aops, astep, awant, aeff, aop, ev, ofValue, St.put, zgd, zmo, if_true, zs1, zs0, b2]
   with_reducible refine hR _ ?_
   clear hR R
   show X _ _ _ _
   refine X_ret ?_
   show resD _ _ _ = some _
   simp only [resD, resAll, resOne, resTup, Try.results25, EVP, zg1, zg0, D.good, if_true, zmo]
   rw [ht.out, less_end3 (by omega)]
  ·intro b3
   have c3 := b3
   try simp only [decide_eq_false_iff_not, Int.not_le, ge_iff_le] at c3
   refine X_skip ?_
   show X _ _ _ _
   refine X_seq ?_
   have hlt2 : i < b.length := by first | assumption | omega
   have h1 := hn1 i hlt
   have h2 := hn2 i hlt2
   have e1 : (a.map dI)[i]? = some (.int .i64 a[i]) := by simp [hlt]; rfl
   have e2 : (b.map dI)[i]? = some (.int .i64 b[i]) := by simp [hlt2]; rfl
   have hst := less_step hlt hlt2
   refine X_rg fun R hR => ?_
   simp only [EVP, nat_lt, nat_0, nat_to, aops, astep, awant, aeff, aop, abin, aint, ev, St.put, ia_int, cl_int, zg1, zg0, zgd, zmo, if_true, zs1, zs0, zlm, zlc, zln, Nat.zero_add, and_self, zis, ty_int, und_int, siz_int, inf_int_eq, b3, hlt, hlt2, h1, h2, e1, e2]
   with_reducible refine hR _ ?_
   clear hR R
   show X _ _ _ _
   refine X_ite (by simp only [ev, zg1, zg0, zgd]; exact rfl) ?_ ?_
   ·intro b4
    have c4 := b4
    try simp only [bne_iff_ne, ne_eq] at c4
    refine X_seq ?_
    refine X_rg fun R hR => ?_
    simp only [EVP, nat_lt, nat_0, nat_to, aops, astep, awant, aeff, aop, abin, aint, ev, St.put, ia_int, cl_int, zg1, zg0, zgd, zmo, if_true, zs1, zs0, zlm, zlc, zln, Nat.zero_add, and_self, zis, ty_int, und_int, siz_int, inf_int_eq, b4, hlt, hlt2, h1, h2, e1, e2]
    with_reducible refine hR _ ?_
    clear hR R
    show X _ _ _ _
    refine X_ret ?_
    show resD _ _ _ = some _
    simp only [resD, resAll, resOne, resTup, Try.results25, EVP, zg1, zg0, D.good, if_true, zmo]
    have hab : ¬ a[i] = b[i] := by first | assumption | omega | (simp_all; done)
    rw [ht.out, hst, if_neg hab]
   ·intro b5
    have c5 := b5
    try simp only [bne_eq_false_iff_eq] at c5
    refine X_skip ?_
    show X _ _ _ _
    have hbig : i < 9223372036854775807 := by omega
    refine X_rg fun R hR => ?_
    simp only [inr_i64, Int.reduceLE, Int.reduceNeg, aops, astep, awant, aeff, aop, abin, aint, ev, ofValue, St.put, zg1, zg0, zgd, zmo, if_true, zs1, zs0, and_self, b5, nat_succ hbig]
    with_reducible refine hR _ ?_
    clear hR R
    show ∃ m, m < _ ∧ _
    have hab : a[i] = b[i] := by first | assumption | omega | (simp_all; done)
    exact ⟨a.length - (i + 1), by omega, i + 1, rfl, rfl, by omega, by omega, Lib.hid (by rw [ht.out, hst, if_pos hab])⟩
 ·intro b6
  have c6 := b6
  try simp only [decide_eq_false_iff_not] at c6
  refine X_exit ?_
  show X _ _ _ _
  refine X_seq ?_
  refine X_rg fun R hR => ?_
  simp only [EVP, nat_lt, aops, astep, awant, aeff, aop, abin, aint, ev, St.put, zg1, zg0, zgd, zmo, if_true, zs1, zs0, zlm, und_int, b6]
  with_reducible refine hR _ ?_
  clear hR R
  show X _ _ _ _
  refine X_ret ?_
  show resD _ _ _ = some _
  simp only [resD, resAll, resOne, resTup, Try.results25, EVP, zg1, zg0, D.good, if_true, zmo]
  rw [ht.out, less_end1 (by omega) (by omega) (by omega)]; simp
theorem sub1o {i : Nat} (h0 : 0 < i) (h : i ≤ 1000000) : IntKind.i64.wrap ((i : Int) - 1) = ((i - 1 : Nat) : Int) := by
 simp only [IntKind.wrap, IntKind.bits, IntKind.signed]; simp; omega
theorem mid_get {α : Type} (r : List α) (a : α) (r2 : List α) (x : α) (l : List α) : (r ++ a :: (r2 ++ x :: l))[(r ++ a :: r2).length]? = some x := by
 rw [show r ++ a :: (r2 ++ x :: l) = (r ++ a :: r2) ++ x :: l by simp, app_get0]; rfl
theorem mid_set {α : Type} (r : List α) (a : α) (r2 : List α) (x : α) (l : List α) (y : α) : (r ++ a :: (r2 ++ x :: l)).set (r ++ a :: r2).length y = r ++ a :: (r2 ++ y :: l) := by
 rw [show r ++ a :: (r2 ++ x :: l) = (r ++ a :: r2) ++ x :: l by simp, app_set0]; simp
set_option maxRecDepth 100000 in
set_option maxHeartbeats 4000000 in
theorem law10_fn (p : Pg) : fn EV 10 [dG p] = some (.bool true) := by
 refine fn_X rfl Try.func10 rfl (by simp only [plain, List.all_cons, List.all_nil, dG_pl, Bool.and_true]) (rfl) (rfl) (rfl) ?_
 simp only [zmc, zmn, dG_strip]
 simp only [enterSt, Try.ntmps10, zlc, zln, Nat.reduceAdd, Nat.reduceSub, zr1, zr0, zca, zna]
 refine X_seq ?_
 refine X_rg fun R hR => ?_
 simp only [aops, astep, awant, aeff, aop, ev, ofValue, St.put, zg0, zgd, zmo, if_true, zs1, zs0, zln, zna, dG_cells, dG_good]
 with_reducible refine hR _ ?_
 clear hR R
 show X _ _ _ _
 refine X_seq ?_
 refine X_seq ?_
 refine X_rg fun R hR => ?_
 simp only [EVP, aops, astep, awant, aeff, aop, ev, St.put, pcall, zmn, zg1, zg0, zgd, zmo, if_true, zs1, zs0, zna, Bool.not_true, any11, awake_ok]
 with_reducible refine hR _ ?_
 clear hR R
 show X _ _ _ _
 refine X_ite (by simp only [ev, zg1, zg0, zgd]; exact rfl) ?_ ?_
 ·intro b1
  have c1 := b1
  try simp only [znt, znf, decide_eq_true_eq, decide_eq_false_iff_not, beq_iff_eq, Int.not_lt, Int.not_le, ge_iff_le, gt_iff_lt, bne_iff_ne, ne_eq, bne_eq_false_iff_eq, beq_eq_false_iff_ne, zat, zof] at c1
  refine X_seq ?_
  refine X_rg fun R hR => ?_
  simp only [aops, astep, awant, aeff, aop, ev, ofValue, St.put, zgd, zmo, if_true, zs1, zs0, b1]
  with_reducible refine hR _ ?_
  clear hR R
  show X _ _ _ _
  refine X_ret ?_
  show resD _ _ _ = some _
  simp only [resD, resAll, resOne, resTup, Try.results10, EVP, zg1, zg0, D.good, if_true, zmo] <;> (first | (rfl; done) | (simp_all; done) | (exfalso; simp_all; done))
 ·intro b2
  have c2 := b2
  try simp only [] at c2
  refine X_skip ?_
  show X _ _ _ _
  refine X_seq ?_
  refine X_seq ?_
  obtain ⟨dg, hG, g, rfl⟩ := great_p p
  refine X_rg fun R hR => ?_
  simp only [EVP, inr_i64, Int.reduceLE, Int.reduceNeg, aops, astep, awant, aeff, aop, abin, aint, mkD, ev, ofValue, St.put, pcall, zmc, zmn, zg1, zg0, zgd, zmo, if_true, zs1, zs0, zlc, zln, zd0, zt1, zt0, zca, zna, Nat.reduceAdd, Nat.reduceLeDiff, Nat.zero_add, and_self, ty_api_Program, any12, dG_agg, hG]
  with_reducible refine hR _ ?_
  clear hR R
  show X _ _ _ _
  refine X_ite (by simp only [ev, zg1, zg0, zgd]; exact rfl) ?_ ?_
  ·intro b3
   have c3 := b3
   try simp only [beq_iff_eq] at c3
   refine X_seq ?_
   refine X_rg fun R hR => ?_
   simp only [aops, astep, awant, aeff, aop, ev, ofValue, St.put, zgd, zmo, if_true, zs1, zs0, b3]
   with_reducible refine hR _ ?_
   clear hR R
   show X _ _ _ _
   refine X_ret ?_
   show resD _ _ _ = some _
   simp only [resD, resAll, resOne, resTup, Try.results10, EVP, zg1, zg0, D.good, if_true, zmo] <;> (first | (rfl; done) | (simp_all; done) | (exfalso; simp_all; done))
  ·intro b4
   have c4 := b4
   try simp only [ne_eq, beq_eq_false_iff_ne] at c4
   refine X_skip ?_
   show X _ _ _ _
   refine X_seq ?_
   have hC := chk_fn p
   obtain ⟨q1, q2⟩ := chk_bd p
   have hok : ∀ f ∈ chkF p, OkR p f := fun f hf => chk_ok hf
   have hrc := chk_rc p
   generalize chkF p = L at hC q1 q2 hok hrc
   simp only [sl] at hC
   refine X_rg fun R hR => ?_
   simp only [EVP, aops, astep, awant, aeff, aop, mkD, ev, St.put, pcall, zmc, zmn, zg1, zg0, zgd, zmo, if_true, zs1, zs0, zlc, zln, zd0, zt1, zt0, zca, zna, Nat.reduceAdd, Nat.reduceLeDiff, Nat.zero_add, ty_api_Program, any13, dG_agg, b4, hC]
   with_reducible refine hR _ ?_
   clear hR R
   show X _ _ _ _
   refine X_seq ?_
   refine X_seq ?_
   refine X_rg fun R hR => ?_
   simp only [EVP, inr_i64, Int.reduceLE, Int.reduceNeg, aops, astep, awant, aeff, aop, ev, ofValue, St.put, zg1, zg0, zgd, zmo, if_true, zs1, zs0, zlm, and_self, und_checker_Rejection]
   with_reducible refine hR _ ?_
   clear hR R
   show X _ _ _ _
   refine X_block ?_
   refine X_loop (fun m σ => ∃ (i : Nat) (r : List (List D)), σ = ⟨[slotOf σ 0, .ptr 0 0, slotOf σ 2, .slice .imm (if (L.map dFt).isEmpty = true then 0 else 4) (L.map dFt), slotOf σ 4, slotOf σ 5, slotOf σ 6, slotOf σ 7, slotOf σ 8, slotOf σ 9, slotOf σ 10, slotOf σ 11, slotOf σ 12, slotOf σ 13, slotOf σ 14, slotOf σ 15, slotOf σ 16, .slice .imm (if (L.map dFt).isEmpty = true then 0 else 4) (L.map dFt), .int .i64 L.length, .int .i64 i, slotOf σ 20, slotOf σ 21, slotOf σ 22, slotOf σ 23, slotOf σ 24, slotOf σ 25, slotOf σ 26, slotOf σ 27, slotOf σ 28, slotOf σ 29, slotOf σ 30, slotOf σ 31, slotOf σ 32, slotOf σ 33, slotOf σ 34, slotOf σ 35, slotOf σ 36, slotOf σ 37, slotOf σ 38, slotOf σ 39, slotOf σ 40, slotOf σ 41, slotOf σ 42, slotOf σ 43, slotOf σ 44, slotOf σ 45, slotOf σ 46, slotOf σ 47, slotOf σ 48, slotOf σ 49, slotOf σ 50, slotOf σ 51, slotOf σ 52, slotOf σ 53, slotOf σ 54, slotOf σ 55, slotOf σ 56, slotOf σ 57, slotOf σ 58, slotOf σ 59, slotOf σ 60, slotOf σ 61, slotOf σ 62, slotOf σ 63, slotOf σ 64, slotOf σ 65, slotOf σ 66, slotOf σ 67, slotOf σ 68, slotOf σ 69, slotOf σ 70, slotOf σ 71, slotOf σ 72, slotOf σ 73, slotOf σ 74, slotOf σ 75, slotOf σ 76, slotOf σ 77, slotOf σ 78, slotOf σ 79, slotOf σ 80, slotOf σ 81, slotOf σ 82, slotOf σ 83, slotOf σ 84, slotOf σ 85, slotOf σ 86, slotOf σ 87, slotOf σ 88, slotOf σ 89, slotOf σ 90, slotOf σ 91, slotOf σ 92, slotOf σ 93, slotOf σ 94, slotOf σ 95, slotOf σ 96, slotOf σ 97, slotOf σ 98, slotOf σ 99, slotOf σ 100, slotOf σ 101, slotOf σ 102, slotOf σ 103, slotOf σ 104, slotOf σ 105, slotOf σ 106, slotOf σ 107, slotOf σ 108, slotOf σ 109, slotOf σ 110, slotOf σ 111, slotOf σ 112, slotOf σ 113, slotOf σ 114, slotOf σ 115, slotOf σ 116, slotOf σ 117, slotOf σ 118, slotOf σ 119, slotOf σ 120], [.slice .imm (if (p.vars.map dV).isEmpty = true then 0 else 3) (p.vars.map dV), .slice .imm (if (p.procs.map dP).isEmpty = true then 0 else 6) (p.procs.map dP), .int .u8 p.main.kind, .int .i64 p.main.num, .str p.main.name, .slice .imm (if (p.main.kids.map dN).isEmpty = true then 0 else 4) (p.main.kids.map dN)] :: r, 0, []⟩ ∧ m = L.length - i ∧ i ≤ L.length) ?_ (L.length) _ ?_
   rotate_left
   ·exact ⟨0, [], rfl, rfl, Nat.zero_le _⟩
   rintro m σ ⟨i, r, hσ, rfl, hi⟩
   generalize slotOf σ = x at hσ
   subst hσ
   have hn4 : ∀ j, j < L.length → ((if (L.map dFt).isEmpty = true then 0 else 4) = 4) = True := fun j h => eq_true (sl_n (j := j) (by simpa using h))
   refine X_seq ?_
   refine X_rg fun R hR => ?_
   simp only [nat_lt, aops, astep, awant, aeff, aop, abin, aint, ev, St.put, zg1, zg0, zgd, zmo, if_true, zs1, zs0]
   with_reducible refine hR _ ?_
   clear hR R
   show X _ _ _ _
   refine X_seq ?_
   refine X_ite (by simp only [ev, zg1, zg0, zgd]; exact rfl) ?_ ?_
   ·intro b5
    have c5 := b5
    try simp only [decide_eq_true_eq] at c5
    refine X_skip ?_
    show X _ _ _ _
    refine X_seq ?_
    refine X_block ?_
    refine X_seq ?_
    have hlt : i < L.length := by first | assumption | omega
    have h1 := hn4 i hlt
    have e1 : (L.map dFt)[i]? = some (.agg [.int .i64 L[i].proc, .slice .imm (if (L[i].path.map dI).isEmpty = true then 0 else 1) (L[i].path.map dI), .int .i64 L[i].err, .str L[i].name]) := by rw [List.getElem?_map, List.getElem?_eq_getElem hlt]; rfl
    have oki := hok L[i] (List.getElem_mem hlt)
    refine X_rg fun R hR => ?_
    simp only [EVP, app_get0, app_set0, nat_lt, nat_0, nat_to, aops, astep, awant, aeff, aop, astore, ev, St.put, gd_agg, ia_agg, cl_agg, zg1, zg0, zgd, zmo, zbs, if_true, zs1, zs0, zlm, zlc, zln, zd1, zd0, zt0, zca, zna, Nat.reduceAdd, Nat.reduceLeDiff, Nat.zero_add, and_self, decide_true, zis, ty_checker_Rejection, und_checker_Rejection, siz_checker_Rejection, inf_checker_Rejection_eq, hlt, h1, e1]
    with_reducible refine hR _ ?_
    clear hR R
    show X _ _ _ _
    refine X_seq ?_
    refine X_rg fun R hR => ?_
    simp only [EVP, app_get1, app_set1, aops, astep, awant, aeff, aop, mkD, astore, ev, St.put, zg1, zg0, zgd, zmo, zbs, if_true, zs1, zs0, zlc, zln, zd1, zd0, zt1, zt0, zca, zna, zaa, Nat.reduceAdd, Nat.reduceLeDiff, Nat.zero_add, if_false, and_self, reduceCtorEq, ty_api_Node, ty_api_Program, dN_agg, dN_cells, dN_good, sl, zla, zlc, zln]
    with_reducible refine hR _ ?_
    clear hR R
    show X _ _ _ _
    refine X_seq ?_
    refine X_seq ?_
    have hlo : (L[i].proc < -1) = False := eq_false (by have := oki.lo; omega)
    have hhi : (L[i].proc ≥ (p.procs.length : Int)) = False := eq_false (by have := oki.hi; omega)
    refine X_rg fun R hR => ?_
    simp only [EVP, inr_i64, Int.reduceLE, Int.reduceNeg, app_get0, aops, astep, awant, aeff, aop, abin, aint, mkD, ev, ofValue, St.put, ia_int, ia_slice, zg1, zg0, zgd, zmo, zbs, if_true, zs1, zs0, zlm, zlc, zln, zd1, zd0, zt1, zt0, Nat.reduceAdd, Nat.reduceLeDiff, Nat.zero_add, Nat.add_zero, zft, if_false, and_self, reduceCtorEq, decide_false, beq_self_eq_true, ty_int, ty_s_api_Proc, ty_api_Program, und_api_Proc, ty_checker_Rejection, hlo, hhi, zlc, zln]
    with_reducible refine hR _ ?_
    clear hR R
    show X _ _ _ _
    refine X_false (by simp only [ev, zg1, zg0, zgd]) ?_
    refine X_skip ?_
    show X _ _ _ _
    refine X_seq ?_
    refine X_seq ?_
    refine X_rg fun R hR => ?_
    simp only [EVP, inr_i64, Int.reduceLE, Int.reduceNeg, app_get0, aops, astep, awant, aeff, aop, abin, aint, mkD, ev, ofValue, St.put, ia_int, zg1, zg0, zgd, zmo, if_true, zs1, zs0, zlc, zln, zd0, zt1, zt0, Nat.reduceAdd, Nat.reduceLeDiff, Nat.zero_add, Nat.add_zero, zft, if_false, and_self, reduceCtorEq, ty_int, ty_checker_Rejection, zlc, zln]
    with_reducible refine hR _ ?_
    clear hR R
    show X _ _ _ _
    refine X_ite (by simp only [ev, zg1, zg0, zgd]; exact rfl) ?_ ?_
    ·intro b6
     have c6 := b6
     try simp only [decide_eq_true_eq, ge_iff_le] at c6
     have hpl : L[i].proc.toNat < p.procs.length := by have := oki.hi; omega
     have hn6 : ((if (p.procs.map dP).isEmpty = true then 0 else 6) = 6) = True := eq_true (sl_n (j := L[i].proc.toNat) (by simpa using hpl))
     have e6 : (p.procs.map dP)[L[i].proc.toNat]? = some (dP p.procs[L[i].proc.toNat]) := by simp [hpl]
     have hge : 0 ≤ L[i].proc := by first | assumption | omega
     have hplz : (L[i].proc < (p.procs.length : Int)) = True := eq_true (by have := oki.hi; omega)
     refine X_rg fun R hR => ?_
     simp only [EVP, app_get0, app_get1, app_set1, aops, astep, awant, aeff, aop, mkD, astore, ev, St.put, ia_int, ia_slice, zg1, zg0, zgd, zmo, if_true, zs1, zs0, zlm, zlc, zln, zd1, zd0, zt1, zt0, zca, zna, Nat.reduceAdd, Nat.reduceLeDiff, Nat.zero_add, Nat.add_zero, zft, if_false, and_self, reduceCtorEq, decide_true, zis, ty_int, ty_s_api_Proc, ty_api_Node, ty_api_Proc, ty_api_Program, und_api_Proc, siz_api_Proc, inf_api_Proc_eq, ty_checker_Rejection, dN_agg, dN_cells, dN_isAgg, dN_good, sl, dP, hn6, e6, hplz, hge, zlc, zln]
     with_reducible refine hR _ ?_
     clear hR R
     show X _ _ _ _
     refine X_seq ?_
     have hbd : bodQ p L[i].proc = p.procs[L[i].proc.toNat].body := by unfold bodQ; rw [if_pos (by omega), List.getElem?_eq_getElem hpl]
     have a1 := oki.r.at'
     have a2 := oki.r.st
     rw [hbd] at a1 a2
     have hat := at_fn (p.procs[L[i].proc.toNat].body) L[i].path (q2 _ (List.getElem_mem hlt))
     rw [a1] at hat
     simp only [sl] at hat
     have his := o_ast_IsStmt (atT (p.procs[L[i].proc.toNat].body) L[i].path).1
     rw [a2] at his
     have her := oki.r.err
     refine X_rg fun R hR => ?_
     simp only [EVP, app_get0, app_get1, app_get2, app_set2, aops, astep, awant, aeff, aop, mkD, astore, ev, St.put, pcall, ia_slice, zmc, zmn, zg1, zg0, zgd, zmo, zbs, if_true, zs1, zs0, zlc, zln, zd1, zd0, zt1, zt0, zca, zna, zaa, Nat.reduceAdd, Nat.reduceLeDiff, Nat.zero_add, zft, if_false, and_self, reduceCtorEq, ty_s_int, ty_api_Node, ty_checker_Rejection, any23, dN_agg, dN_cells, dN_good, sl, hat, zla, zla, zlc, zln]
     with_reducible refine hR _ ?_
     clear hR R
     show X _ _ _ _
     refine X_seqJ (fun σ => ∃ (r1 : List (List D)), σ = ⟨[slotOf σ 0, .ptr 0 0, slotOf σ 2, .slice .imm (if (L.map dFt).isEmpty = true then 0 else 4) (L.map dFt), .int .i64 i, .ptr (r.length + 1) 0, slotOf σ 6, slotOf σ 7, slotOf σ 8, slotOf σ 9, slotOf σ 10, slotOf σ 11, slotOf σ 12, slotOf σ 13, slotOf σ 14, slotOf σ 15, slotOf σ 16, .slice .imm (if (L.map dFt).isEmpty = true then 0 else 4) (L.map dFt), .int .i64 L.length, .int .i64 i, slotOf σ 20, slotOf σ 21, slotOf σ 22, slotOf σ 23, slotOf σ 24, slotOf σ 25, slotOf σ 26, slotOf σ 27, slotOf σ 28, slotOf σ 29, slotOf σ 30, slotOf σ 31, slotOf σ 32, slotOf σ 33, slotOf σ 34, slotOf σ 35, slotOf σ 36, slotOf σ 37, slotOf σ 38, slotOf σ 39, slotOf σ 40, slotOf σ 41, slotOf σ 42, slotOf σ 43, slotOf σ 44, slotOf σ 45, slotOf σ 46, slotOf σ 47, slotOf σ 48, slotOf σ 49, slotOf σ 50, slotOf σ 51, slotOf σ 52, slotOf σ 53, slotOf σ 54, slotOf σ 55, slotOf σ 56, slotOf σ 57, slotOf σ 58, slotOf σ 59, slotOf σ 60, slotOf σ 61, slotOf σ 62, slotOf σ 63, slotOf σ 64, slotOf σ 65, slotOf σ 66, slotOf σ 67, slotOf σ 68, slotOf σ 69, slotOf σ 70, slotOf σ 71, slotOf σ 72, slotOf σ 73, slotOf σ 74, slotOf σ 75, slotOf σ 76, slotOf σ 77, slotOf σ 78, slotOf σ 79, slotOf σ 80, slotOf σ 81, slotOf σ 82, slotOf σ 83, slotOf σ 84, slotOf σ 85, slotOf σ 86, slotOf σ 87, slotOf σ 88, slotOf σ 89, slotOf σ 90, slotOf σ 91, slotOf σ 92, slotOf σ 93, slotOf σ 94, slotOf σ 95, slotOf σ 96, slotOf σ 97, slotOf σ 98, slotOf σ 99, slotOf σ 100, slotOf σ 101, slotOf σ 102, slotOf σ 103, slotOf σ 104, slotOf σ 105, slotOf σ 106, slotOf σ 107, slotOf σ 108, slotOf σ 109, slotOf σ 110, slotOf σ 111, slotOf σ 112, slotOf σ 113, slotOf σ 114, slotOf σ 115, slotOf σ 116, slotOf σ 117, slotOf σ 118, slotOf σ 119, slotOf σ 120], [.slice .imm (if (p.vars.map dV).isEmpty = true then 0 else 3) (p.vars.map dV), .slice .imm (if (p.procs.map dP).isEmpty = true then 0 else 6) (p.procs.map dP), .int .u8 p.main.kind, .int .i64 p.main.num, .str p.main.name, .slice .imm (if (p.main.kids.map dN).isEmpty = true then 0 else 4) (p.main.kids.map dN)] :: (r ++ [.int .i64 L[i].proc, .slice .imm (if (L[i].path.map dI).isEmpty = true then 0 else 1) (L[i].path.map dI), .int .i64 L[i].err, .str L[i].name] :: r1), 0, []⟩ ∧ True) ?_ ?_
     ·skip
      refine X_seq ?_
      refine X_y ?_
      refine Y_k 12 fun R hR => ?_
      simp only [EVP, inr_i64, Int.reduceLE, Int.reduceNeg, app_get0, app_get2, aops, astep, awant, aeff, aop, abin, aint, mkD, ev, ofValue, St.put, pcall, ia_int, zmc, zmn, zg1, zg0, zgd, zmo, zbs, if_true, zs1, zs0, zlc, zln, zd1, zd0, zt1, zt0, zca, zna, Nat.reduceAdd, Nat.reduceLeDiff, Nat.zero_add, Bool.not_true, zft, if_false, and_self, reduceCtorEq, beq_self_eq_true, ty_api_Node, ty_checker_Rejection, ty_api_Errno, any24, dN_agg, his, zlc, zln]
      with_reducible refine hR _ ?_
      clear hR R
      simp only [zd1, zd0]
      refine Y_if 65 (by simp only [ev, zg1, zg0, zgd]; exact rfl) ?_ ?_
      ·intro b7
       have c7 := b7
       try simp only [bne_iff_ne, ne_eq] at c7
       refine Y_k 5 fun R hR => ?_
       simp only [EVP, inr_i64, Int.reduceLE, Int.reduceNeg, app_get0, aops, astep, awant, aeff, aop, abin, aint, mkD, ev, ofValue, St.put, ia_int, zg1, zg0, zgd, zmo, zbs, if_true, zs1, zs0, zlc, zln, zd1, zd0, zt1, zt0, Nat.reduceAdd, Nat.reduceLeDiff, Nat.zero_add, zft, if_false, and_self, reduceCtorEq, beq_self_eq_true, ty_checker_Rejection, ty_api_Errno, b7, zlc, zln]
       with_reducible refine hR _ ?_
       clear hR R
       simp only [zd1, zd0]
       refine Y_if 70 (by simp only [ev, zg1, zg0, zgd]; exact rfl) ?_ ?_
       ·intro b8
        have c8 := b8
        try simp only [bne_iff_ne, ne_eq] at c8
        have k10 : (L[i].err != 10) = false := by rcases her with q | q | q <;> simp_all
        refine Y_end fun R hR => ?_
        simp only [EVP, inr_i64, Int.reduceLE, Int.reduceNeg, app_get0, aops, astep, awant, aeff, aop, abin, aint, mkD, ev, ofValue, St.put, ia_int, zg1, zg0, zgd, zmo, zbs, if_true, zs1, zs0, zlc, zln, zd1, zd0, zt1, zt0, Nat.reduceAdd, Nat.reduceLeDiff, Nat.zero_add, zft, if_false, and_self, reduceCtorEq, beq_self_eq_true, ty_checker_Rejection, ty_api_Errno, b8, k10, zlc, zln]
        with_reducible refine hR _ ?_
        clear hR R
        show X _ _ _ _
        refine X_false (by simp only [ev, zg1, zg0, zgd]) ?_
        refine X_skip ?_
        exact ⟨_, rfl, trivial⟩
       ·intro b9
        have c9 := b9
        try simp only [bne_eq_false_iff_eq] at c9
        refine Y_end fun R hR => ?_
        simp only [EVP, inr_i64, Int.reduceLE, Int.reduceNeg, aops, astep, awant, aeff, aop, abin, ev, ofValue, St.put, zg1, zg0, zgd, zmo, Option.map_none, zbs, if_true, zs1, zs0, Nat.zero_add, zft, if_false, and_self, reduceCtorEq, beq_self_eq_true, bq_ft, ty_checker_Rejection, ty_api_Errno, b9]
        with_reducible refine hR _ ?_
        clear hR R
        show X _ _ _ _
        refine X_false (by simp only [ev, zg1, zg0, zgd]) ?_
        refine X_skip ?_
        exact ⟨_, rfl, trivial⟩
      ·intro b10
       have c10 := b10
       try simp only [bne_eq_false_iff_eq] at c10
       refine Y_end fun R hR => ?_
       simp only [EVP, inr_i64, Int.reduceLE, Int.reduceNeg, aops, astep, awant, aeff, aop, abin, ev, ofValue, St.put, zg1, zg0, zgd, zmo, Option.map_none, zbs, if_true, zs1, zs0, Nat.zero_add, zft, if_false, and_self, reduceCtorEq, beq_self_eq_true, bq_ft, ty_checker_Rejection, ty_api_Errno, b10]
       with_reducible refine hR _ ?_
       clear hR R
       show X _ _ _ _
       refine X_false (by simp only [ev, zg1, zg0, zgd]) ?_
       refine X_skip ?_
       exact ⟨_, rfl, trivial⟩
     ·skip
      rintro σ ⟨r1, hσ, hc0⟩
      generalize slotOf σ = x at hσ
      subst hσ
      refine X_seq ?_
      refine X_seq ?_
      refine X_rg fun R hR => ?_
      simp only [inr_i64, Int.reduceLE, Int.reduceNeg, aops, astep, awant, aeff, aop, abin, aint, ev, ofValue, St.put, zg1, zg0, zgd, zmo, if_true, zs1, zs0, and_self]
      with_reducible refine hR _ ?_
      clear hR R
      show X _ _ _ _
      refine X_ite (by simp only [ev, zg1, zg0, zgd]; exact rfl) ?_ ?_
      ·intro b11
       have c11 := b11
       try simp only [beq_iff_eq] at c11
       refine X_exit ?_
       show X _ _ _ _
       have hbig : i < 9223372036854775807 := by omega
       refine X_rg fun R hR => ?_
       simp only [inr_i64, Int.reduceLE, Int.reduceNeg, aops, astep, awant, aeff, aop, abin, aint, ev, ofValue, St.put, zg1, zg0, zgd, zmo, if_true, zs1, zs0, and_self, b11, nat_succ hbig]
       with_reducible refine hR _ ?_
       clear hR R
       show ∃ m, m < _ ∧ _
       exact ⟨L.length - (i + 1), by omega, i + 1, _, rfl, rfl, by omega⟩
      ·intro b12
       have c12 := b12
       try simp only [ne_eq, beq_eq_false_iff_ne] at c12
       refine X_skip ?_
       show X _ _ _ _
       refine X_seq ?_
       have hi0 : 0 < i := by omega
       have hs2 := sub1o hi0 (by omega)
       have hp1 : i - 1 < L.length := by omega
       have hrr : Rc L[i - 1] L[i] := (List.pairwise_iff_getElem.1 hrc) (i - 1) i hp1 hlt (by omega)
       have e2 : (L.map dFt)[i - 1]? = some (.agg [.int .i64 L[i - 1].proc, .slice .imm (if (L[i - 1].path.map dI).isEmpty = true then 0 else 1) (L[i - 1].path.map dI), .int .i64 L[i - 1].err, .str L[i - 1].name]) := by rw [List.getElem?_map, List.getElem?_eq_getElem hp1]; rfl
       have hl2 : (i - 1 < L.length) = True := eq_true hp1
       have h1b := hn4 i hlt
       have hbf := before_fn L[i - 1].path L[i].path (q2 _ (List.getElem_mem _))
       simp only [sl] at hbf
       refine X_rg fun R hR => ?_
       simp only [EVP, inr_i64, Int.reduceLE, Int.reduceNeg, nat_lt, nat_0, nat_to, aops, astep, awant, aeff, aop, abin, aint, astore, ev, ofValue, St.put, gd_agg, ia_agg, cl_agg, zg1, zg0, zgd, zmo, zbs, if_true, zs1, zs0, zlm, zlc, zln, zd1, zd0, zt0, zca, zna, zaa, Nat.reduceAdd, Nat.reduceLeDiff, Nat.zero_add, and_self, zis, ty_checker_Rejection, und_checker_Rejection, siz_checker_Rejection, inf_checker_Rejection_eq, b12, hs2, e2, hl2, h1b, mid_get, mid_set, zg0, zs0]
       with_reducible refine hR _ ?_
       clear hR R
       show X _ _ _ _
       refine X_seq ?_
       refine X_y ?_
       refine Y_k 6 fun R hR => ?_
       simp only [EVP, Int.reduceNeg, app_get0, aops, astep, awant, aeff, aop, abin, aint, mkD, ev, St.put, ia_int, zg1, zg0, zgd, zmo, if_true, zs1, zs0, zlc, zln, zd0, zt1, zt0, Nat.reduceAdd, Nat.reduceLeDiff, Nat.zero_add, Nat.add_zero, zft, if_false, reduceCtorEq, ty_int, ty_checker_Rejection, mid_get, app_get0, zg0, zs0]
       with_reducible refine hR _ ?_
       clear hR R
       simp only [zd1, zd0]
       refine Y_if 88 (by simp only [ev, zg1, zg0, zgd]; exact rfl) ?_ ?_
       ·intro b13
        have c13 := b13
        try simp only [beq_iff_eq] at c13
        have k0 : L[i - 1].proc = L[i].proc := by first | assumption | (simp_all; done)
        have k1 : lessB L[i - 1].path L[i].path = true := by rcases hrr with ⟨_, q⟩ | ⟨q, _⟩; exact q; exact absurd k0 q
        have k2 := k1
        have k3 : (L[i - 1].proc != L[i].proc) = false := by rw [k0]; simp
        refine Y_end fun R hR => ?_
        simp only [EVP, inr_i64, Int.reduceLE, Int.reduceNeg, app_get0, aops, astep, awant, aeff, aop, abin, aint, mkD, ev, ofValue, St.put, pcall, ia_int, ia_slice, zmc, zmn, zg1, zg0, zgd, zmo, Option.map_none, zbs, if_true, zs1, zs0, zlc, zln, zd1, zd0, zt1, zt0, zca, zna, Nat.reduceAdd, Nat.reduceLeDiff, Nat.zero_add, Nat.add_zero, Bool.not_true, zft, if_false, and_self, reduceCtorEq, beq_self_eq_true, bq_ft, ty_int, ty_s_int, ty_checker_Rejection, any25, b13, k1, k3, mid_get, app_get0, zg0, zs0, hbf]
        with_reducible refine hR _ ?_
        clear hR R
        show X _ _ _ _
        refine X_false (by simp only [ev, zg1, zg0, zgd]) ?_
        refine X_skip ?_
        show X _ _ _ _
        have hbig : i < 9223372036854775807 := by omega
        refine X_rg fun R hR => ?_
        simp only [inr_i64, Int.reduceLE, Int.reduceNeg, aops, astep, awant, aeff, aop, abin, aint, ev, ofValue, St.put, zg1, zg0, zgd, zmo, if_true, zs1, zs0, and_self, nat_succ hbig]
        with_reducible refine hR _ ?_
        clear hR R
        show ∃ m, m < _ ∧ _
        exact ⟨L.length - (i + 1), by omega, i + 1, _, rfl, rfl, by omega⟩
       ·intro b14
        have c14 := b14
        try simp only [ne_eq, beq_eq_false_iff_ne] at c14
        have k0 : ¬ L[i - 1].proc = L[i].proc := by first | assumption | (simp_all; done)
        have k1 : (L[i - 1].proc == -1) = false := by rcases hrr with ⟨q, _⟩ | ⟨_, q, _⟩; exact absurd q k0; exact beq_eq_false_iff_ne.2 q
        have k3 : (L[i - 1].proc != L[i].proc) = true := by rw [bne_iff_ne]; exact k0
        have k2 : (L[i].proc != -1) = true → (L[i - 1].proc > L[i].proc) = False := fun h => eq_false (by rcases hrr with ⟨q, _⟩ | ⟨_, _, q⟩; exact absurd q k0; rw [bne_iff_ne] at h; omega)
        refine Y_k 22 fun R hR => ?_
        simp only [EVP, inr_i64, Int.reduceLE, Int.reduceNeg, app_get0, aops, astep, awant, aeff, aop, abin, aint, mkD, ev, ofValue, St.put, pcall, ia_int, zmc, zmn, zg1, zg0, zgd, zmo, Option.map_none, zbs, if_true, zs1, zs0, zlc, zln, zd0, zt1, zt0, zca, zna, Nat.reduceAdd, Nat.reduceLeDiff, Nat.zero_add, Nat.add_zero, zft, if_false, and_self, reduceCtorEq, beq_self_eq_true, bq_ft, ty_int, ty_s_int, ty_checker_Rejection, any25, b14, k1, k3, mid_get, app_get0, zg0, zs0]
        with_reducible refine hR _ ?_
        clear hR R
        simp only [zd1, zd0]
        refine Y_if 110 (by simp only [ev, zg1, zg0, zgd]; exact rfl) ?_ ?_
        ·intro b15
         have c15 := b15
         try simp only [bne_iff_ne, ne_eq] at c15
         refine Y_end fun R hR => ?_
         simp only [EVP, Int.reduceNeg, app_get0, aops, astep, awant, aeff, aop, abin, aint, mkD, ev, ofValue, St.put, ia_int, zg1, zg0, zgd, zmo, zbs, if_true, zs1, zs0, zlc, zln, zd0, zt1, zt0, Nat.reduceAdd, Nat.reduceLeDiff, Nat.zero_add, Nat.add_zero, zft, if_false, reduceCtorEq, decide_false, beq_self_eq_true, ty_int, ty_checker_Rejection, k2, b15, mid_get, app_get0, zg0, zs0]
         with_reducible refine hR _ ?_
         clear hR R
         show X _ _ _ _
         refine X_false (by simp only [ev, zg1, zg0, zgd]) ?_
         refine X_skip ?_
         show X _ _ _ _
         have hbig : i < 9223372036854775807 := by omega
         refine X_rg fun R hR => ?_
         simp only [inr_i64, Int.reduceLE, Int.reduceNeg, aops, astep, awant, aeff, aop, abin, aint, ev, ofValue, St.put, zg1, zg0, zgd, zmo, if_true, zs1, zs0, and_self, nat_succ hbig]
         with_reducible refine hR _ ?_
         clear hR R
         show ∃ m, m < _ ∧ _
         exact ⟨L.length - (i + 1), by omega, i + 1, _, rfl, rfl, by omega⟩
        ·intro b16
         have c16 := b16
         try simp only [bne_eq_false_iff_eq] at c16
         refine Y_end fun R hR => ?_
         simp only [EVP, Int.reduceNeg, aops, astep, awant, aeff, aop, abin, ev, ofValue, St.put, zg1, zg0, zgd, zmo, Option.map_none, zbs, if_true, zs1, zs0, Nat.add_zero, zft, if_false, reduceCtorEq, beq_self_eq_true, bq_ft, ty_int, ty_checker_Rejection, b16, zg0, zs0]
         with_reducible refine hR _ ?_
         clear hR R
         show X _ _ _ _
         refine X_false (by simp only [ev, zg1, zg0, zgd]) ?_
         refine X_skip ?_
         show X _ _ _ _
         have hbig : i < 9223372036854775807 := by omega
         refine X_rg fun R hR => ?_
         simp only [inr_i64, Int.reduceLE, Int.reduceNeg, aops, astep, awant, aeff, aop, abin, aint, ev, ofValue, St.put, zg1, zg0, zgd, zmo, if_true, zs1, zs0, and_self, nat_succ hbig]
         with_reducible refine hR _ ?_
         clear hR R
         show ∃ m, m < _ ∧ _
         exact ⟨L.length - (i + 1), by omega, i + 1, _, rfl, rfl, by omega⟩
    ·intro b17
     have c17 := b17
     try simp only [decide_eq_false_iff_not, Int.not_le, ge_iff_le] at c17
     refine X_skip ?_
     show X _ _ _ _
     refine X_seq ?_
     have hbd : bodQ p L[i].proc = p.main := by unfold bodQ; rw [if_neg (by omega)]
     have a1 := oki.r.at'
     have a2 := oki.r.st
     rw [hbd] at a1 a2
     have hat := at_fn (p.main) L[i].path (q2 _ (List.getElem_mem hlt))
     rw [a1] at hat
     simp only [sl] at hat
     have his := o_ast_IsStmt (atT (p.main) L[i].path).1
     rw [a2] at his
     have her := oki.r.err
     refine X_rg fun R hR => ?_
     simp only [EVP, app_get0, app_get1, app_get2, app_set2, aops, astep, awant, aeff, aop, mkD, astore, ev, St.put, pcall, ia_slice, zmc, zmn, zg1, zg0, zgd, zmo, zbs, if_true, zs1, zs0, zlc, zln, zd1, zd0, zt1, zt0, zca, zna, zaa, Nat.reduceAdd, Nat.reduceLeDiff, Nat.zero_add, zft, if_false, and_self, reduceCtorEq, ty_s_int, ty_api_Node, ty_checker_Rejection, any23, dN_agg, dN_cells, dN_good, sl, b17, hat, zla, zla, zlc, zln]
     with_reducible refine hR _ ?_
     clear hR R
     show X _ _ _ _
     refine X_seqJ (fun σ => ∃ (r1 : List (List D)), σ = ⟨[slotOf σ 0, .ptr 0 0, slotOf σ 2, .slice .imm (if (L.map dFt).isEmpty = true then 0 else 4) (L.map dFt), .int .i64 i, .ptr (r.length + 1) 0, slotOf σ 6, slotOf σ 7, slotOf σ 8, slotOf σ 9, slotOf σ 10, slotOf σ 11, slotOf σ 12, slotOf σ 13, slotOf σ 14, slotOf σ 15, slotOf σ 16, .slice .imm (if (L.map dFt).isEmpty = true then 0 else 4) (L.map dFt), .int .i64 L.length, .int .i64 i, slotOf σ 20, slotOf σ 21, slotOf σ 22, slotOf σ 23, slotOf σ 24, slotOf σ 25, slotOf σ 26, slotOf σ 27, slotOf σ 28, slotOf σ 29, slotOf σ 30, slotOf σ 31, slotOf σ 32, slotOf σ 33, slotOf σ 34, slotOf σ 35, slotOf σ 36, slotOf σ 37, slotOf σ 38, slotOf σ 39, slotOf σ 40, slotOf σ 41, slotOf σ 42, slotOf σ 43, slotOf σ 44, slotOf σ 45, slotOf σ 46, slotOf σ 47, slotOf σ 48, slotOf σ 49, slotOf σ 50, slotOf σ 51, slotOf σ 52, slotOf σ 53, slotOf σ 54, slotOf σ 55, slotOf σ 56, slotOf σ 57, slotOf σ 58, slotOf σ 59, slotOf σ 60, slotOf σ 61, slotOf σ 62, slotOf σ 63, slotOf σ 64, slotOf σ 65, slotOf σ 66, slotOf σ 67, slotOf σ 68, slotOf σ 69, slotOf σ 70, slotOf σ 71, slotOf σ 72, slotOf σ 73, slotOf σ 74, slotOf σ 75, slotOf σ 76, slotOf σ 77, slotOf σ 78, slotOf σ 79, slotOf σ 80, slotOf σ 81, slotOf σ 82, slotOf σ 83, slotOf σ 84, slotOf σ 85, slotOf σ 86, slotOf σ 87, slotOf σ 88, slotOf σ 89, slotOf σ 90, slotOf σ 91, slotOf σ 92, slotOf σ 93, slotOf σ 94, slotOf σ 95, slotOf σ 96, slotOf σ 97, slotOf σ 98, slotOf σ 99, slotOf σ 100, slotOf σ 101, slotOf σ 102, slotOf σ 103, slotOf σ 104, slotOf σ 105, slotOf σ 106, slotOf σ 107, slotOf σ 108, slotOf σ 109, slotOf σ 110, slotOf σ 111, slotOf σ 112, slotOf σ 113, slotOf σ 114, slotOf σ 115, slotOf σ 116, slotOf σ 117, slotOf σ 118, slotOf σ 119, slotOf σ 120], [.slice .imm (if (p.vars.map dV).isEmpty = true then 0 else 3) (p.vars.map dV), .slice .imm (if (p.procs.map dP).isEmpty = true then 0 else 6) (p.procs.map dP), .int .u8 p.main.kind, .int .i64 p.main.num, .str p.main.name, .slice .imm (if (p.main.kids.map dN).isEmpty = true then 0 else 4) (p.main.kids.map dN)] :: (r ++ [.int .i64 L[i].proc, .slice .imm (if (L[i].path.map dI).isEmpty = true then 0 else 1) (L[i].path.map dI), .int .i64 L[i].err, .str L[i].name] :: r1), 0, []⟩ ∧ True) ?_ ?_
     ·skip
      refine X_seq ?_
      refine X_y ?_
      refine Y_k 12 fun R hR => ?_
      simp only [EVP, inr_i64, Int.reduceLE, Int.reduceNeg, app_get0, app_get2, aops, astep, awant, aeff, aop, abin, aint, mkD, ev, ofValue, St.put, pcall, ia_int, zmc, zmn, zg1, zg0, zgd, zmo, zbs, if_true, zs1, zs0, zlc, zln, zd1, zd0, zt1, zt0, zca, zna, Nat.reduceAdd, Nat.reduceLeDiff, Nat.zero_add, Bool.not_true, zft, if_false, and_self, reduceCtorEq, beq_self_eq_true, ty_api_Node, ty_checker_Rejection, ty_api_Errno, any24, dN_agg, his, zlc, zln]
      with_reducible refine hR _ ?_
      clear hR R
      simp only [zd1, zd0]
      refine Y_if 65 (by simp only [ev, zg1, zg0, zgd]; exact rfl) ?_ ?_
      ·intro b18
       have c18 := b18
       try simp only [bne_iff_ne, ne_eq] at c18
       refine Y_k 5 fun R hR => ?_
       simp only [EVP, inr_i64, Int.reduceLE, Int.reduceNeg, app_get0, aops, astep, awant, aeff, aop, abin, aint, mkD, ev, ofValue, St.put, ia_int, zg1, zg0, zgd, zmo, zbs, if_true, zs1, zs0, zlc, zln, zd1, zd0, zt1, zt0, Nat.reduceAdd, Nat.reduceLeDiff, Nat.zero_add, zft, if_false, and_self, reduceCtorEq, beq_self_eq_true, ty_checker_Rejection, ty_api_Errno, b18, zlc, zln]
       with_reducible refine hR _ ?_
       clear hR R
       simp only [zd1, zd0]
       refine Y_if 70 (by simp only [ev, zg1, zg0, zgd]; exact rfl) ?_ ?_
       ·intro b19
        have c19 := b19
        try simp only [bne_iff_ne, ne_eq] at c19
        have k10 : (L[i].err != 10) = false := by rcases her with q | q | q <;> simp_all
        refine Y_end fun R hR => ?_
        simp only [EVP, inr_i64, Int.reduceLE, Int.reduceNeg, app_get0, aops, astep, awant, aeff, aop, abin, aint, mkD, ev, ofValue, St.put, ia_int, zg1, zg0, zgd, zmo, zbs, if_true, zs1, zs0, zlc, zln, zd1, zd0, zt1, zt0, Nat.reduceAdd, Nat.reduceLeDiff, Nat.zero_add, zft, if_false, and_self, reduceCtorEq, beq_self_eq_true, ty_checker_Rejection, ty_api_Errno, b19, k10, zlc, zln]
        with_reducible refine hR _ ?_
        clear hR R
        show X _ _ _ _
        refine X_false (by simp only [ev, zg1, zg0, zgd]) ?_
        refine X_skip ?_
        exact ⟨_, rfl, trivial⟩
       ·intro b20
        have c20 := b20
        try simp only [bne_eq_false_iff_eq] at c20
        refine Y_end fun R hR => ?_
        simp only [EVP, inr_i64, Int.reduceLE, Int.reduceNeg, aops, astep, awant, aeff, aop, abin, ev, ofValue, St.put, zg1, zg0, zgd, zmo, Option.map_none, zbs, if_true, zs1, zs0, Nat.zero_add, zft, if_false, and_self, reduceCtorEq, beq_self_eq_true, bq_ft, ty_checker_Rejection, ty_api_Errno, b20]
        with_reducible refine hR _ ?_
        clear hR R
        show X _ _ _ _
        refine X_false (by simp only [ev, zg1, zg0, zgd]) ?_
        refine X_skip ?_
        exact ⟨_, rfl, trivial⟩
      ·intro b21
       have c21 := b21
       try simp only [bne_eq_false_iff_eq] at c21
       refine Y_end fun R hR => ?_
       simp only [EVP, inr_i64, Int.reduceLE, Int.reduceNeg, aops, astep, awant, aeff, aop, abin, ev, ofValue, St.put, zg1, zg0, zgd, zmo, Option.map_none, zbs, if_true, zs1, zs0, Nat.zero_add, zft, if_false, and_self, reduceCtorEq, beq_self_eq_true, bq_ft, ty_checker_Rejection, ty_api_Errno, b21]
       with_reducible refine hR _ ?_
       clear hR R
       show X _ _ _ _
       refine X_false (by simp only [ev, zg1, zg0, zgd]) ?_
       refine X_skip ?_
       exact ⟨_, rfl, trivial⟩
     ·skip
      rintro σ ⟨r1, hσ, hc0⟩
      generalize slotOf σ = x at hσ
      subst hσ
      refine X_seq ?_
      refine X_seq ?_
      refine X_rg fun R hR => ?_
      simp only [inr_i64, Int.reduceLE, Int.reduceNeg, aops, astep, awant, aeff, aop, abin, aint, ev, ofValue, St.put, zg1, zg0, zgd, zmo, if_true, zs1, zs0, and_self]
      with_reducible refine hR _ ?_
      clear hR R
      show X _ _ _ _
      refine X_ite (by simp only [ev, zg1, zg0, zgd]; exact rfl) ?_ ?_
      ·intro b22
       have c22 := b22
       try simp only [beq_iff_eq] at c22
       refine X_exit ?_
       show X _ _ _ _
       have hbig : i < 9223372036854775807 := by omega
       refine X_rg fun R hR => ?_
       simp only [inr_i64, Int.reduceLE, Int.reduceNeg, aops, astep, awant, aeff, aop, abin, aint, ev, ofValue, St.put, zg1, zg0, zgd, zmo, if_true, zs1, zs0, and_self, b22, nat_succ hbig]
       with_reducible refine hR _ ?_
       clear hR R
       show ∃ m, m < _ ∧ _
       exact ⟨L.length - (i + 1), by omega, i + 1, _, rfl, rfl, by omega⟩
      ·intro b23
       have c23 := b23
       try simp only [ne_eq, beq_eq_false_iff_ne] at c23
       refine X_skip ?_
       show X _ _ _ _
       refine X_seq ?_
       have hi0 : 0 < i := by omega
       have hs2 := sub1o hi0 (by omega)
       have hp1 : i - 1 < L.length := by omega
       have hrr : Rc L[i - 1] L[i] := (List.pairwise_iff_getElem.1 hrc) (i - 1) i hp1 hlt (by omega)
       have e2 : (L.map dFt)[i - 1]? = some (.agg [.int .i64 L[i - 1].proc, .slice .imm (if (L[i - 1].path.map dI).isEmpty = true then 0 else 1) (L[i - 1].path.map dI), .int .i64 L[i - 1].err, .str L[i - 1].name]) := by rw [List.getElem?_map, List.getElem?_eq_getElem hp1]; rfl
       have hl2 : (i - 1 < L.length) = True := eq_true hp1
       have h1b := hn4 i hlt
       have hbf := before_fn L[i - 1].path L[i].path (q2 _ (List.getElem_mem _))
       simp only [sl] at hbf
       refine X_rg fun R hR => ?_
       simp only [EVP, inr_i64, Int.reduceLE, Int.reduceNeg, nat_lt, nat_0, nat_to, aops, astep, awant, aeff, aop, abin, aint, astore, ev, ofValue, St.put, gd_agg, ia_agg, cl_agg, zg1, zg0, zgd, zmo, zbs, if_true, zs1, zs0, zlm, zlc, zln, zd1, zd0, zt0, zca, zna, zaa, Nat.reduceAdd, Nat.reduceLeDiff, Nat.zero_add, and_self, zis, ty_checker_Rejection, und_checker_Rejection, siz_checker_Rejection, inf_checker_Rejection_eq, b23, hs2, e2, hl2, h1b, mid_get, mid_set, zg0, zs0]
       with_reducible refine hR _ ?_
       clear hR R
       show X _ _ _ _
       refine X_seq ?_
       refine X_y ?_
       refine Y_k 6 fun R hR => ?_
       simp only [EVP, Int.reduceNeg, app_get0, aops, astep, awant, aeff, aop, abin, aint, mkD, ev, St.put, ia_int, zg1, zg0, zgd, zmo, if_true, zs1, zs0, zlc, zln, zd0, zt1, zt0, Nat.reduceAdd, Nat.reduceLeDiff, Nat.zero_add, Nat.add_zero, zft, if_false, reduceCtorEq, ty_int, ty_checker_Rejection, mid_get, app_get0, zg0, zs0]
       with_reducible refine hR _ ?_
       clear hR R
       simp only [zd1, zd0]
       refine Y_if 88 (by simp only [ev, zg1, zg0, zgd]; exact rfl) ?_ ?_
       ·intro b24
        have c24 := b24
        try simp only [beq_iff_eq] at c24
        have k0 : L[i - 1].proc = L[i].proc := by first | assumption | (simp_all; done)
        have k1 : lessB L[i - 1].path L[i].path = true := by rcases hrr with ⟨_, q⟩ | ⟨q, _⟩; exact q; exact absurd k0 q
        have k2 := k1
        have k3 : (L[i - 1].proc != L[i].proc) = false := by rw [k0]; simp
        refine Y_end fun R hR => ?_
        simp only [EVP, inr_i64, Int.reduceLE, Int.reduceNeg, app_get0, aops, astep, awant, aeff, aop, abin, aint, mkD, ev, ofValue, St.put, pcall, ia_int, ia_slice, zmc, zmn, zg1, zg0, zgd, zmo, Option.map_none, zbs, if_true, zs1, zs0, zlc, zln, zd1, zd0, zt1, zt0, zca, zna, Nat.reduceAdd, Nat.reduceLeDiff, Nat.zero_add, Nat.add_zero, Bool.not_true, zft, if_false, and_self, reduceCtorEq, beq_self_eq_true, bq_ft, ty_int, ty_s_int, ty_checker_Rejection, any25, b24, k1, k3, mid_get, app_get0, zg0, zs0, hbf]
        with_reducible refine hR _ ?_
        clear hR R
        show X _ _ _ _
        refine X_false (by simp only [ev, zg1, zg0, zgd]) ?_
        refine X_skip ?_
        show X _ _ _ _
        have hbig : i < 9223372036854775807 := by omega
        refine X_rg fun R hR => ?_
        simp only [inr_i64, Int.reduceLE, Int.reduceNeg, aops, astep, awant, aeff, aop, abin, aint, ev, ofValue, St.put, zg1, zg0, zgd, zmo, if_true, zs1, zs0, and_self, nat_succ hbig]
        with_reducible refine hR _ ?_
        clear hR R
        show ∃ m, m < _ ∧ _
        exact ⟨L.length - (i + 1), by omega, i + 1, _, rfl, rfl, by omega⟩
       ·intro b25
        have c25 := b25
        try simp only [ne_eq, beq_eq_false_iff_ne] at c25
        have k0 : ¬ L[i - 1].proc = L[i].proc := by first | assumption | (simp_all; done)
        have k1 : (L[i - 1].proc == -1) = false := by rcases hrr with ⟨q, _⟩ | ⟨_, q, _⟩; exact absurd q k0; exact beq_eq_false_iff_ne.2 q
        have k3 : (L[i - 1].proc != L[i].proc) = true := by rw [bne_iff_ne]; exact k0
        have k2 : (L[i].proc != -1) = true → (L[i - 1].proc > L[i].proc) = False := fun h => eq_false (by rcases hrr with ⟨q, _⟩ | ⟨_, _, q⟩; exact absurd q k0; rw [bne_iff_ne] at h; omega)
        refine Y_k 22 fun R hR => ?_
        simp only [EVP, inr_i64, Int.reduceLE, Int.reduceNeg, app_get0, aops, astep, awant, aeff, aop, abin, aint, mkD, ev, ofValue, St.put, pcall, ia_int, zmc, zmn, zg1, zg0, zgd, zmo, Option.map_none, zbs, if_true, zs1, zs0, zlc, zln, zd0, zt1, zt0, zca, zna, Nat.reduceAdd, Nat.reduceLeDiff, Nat.zero_add, Nat.add_zero, zft, if_false, and_self, reduceCtorEq, beq_self_eq_true, bq_ft, ty_int, ty_s_int, ty_checker_Rejection, any25, b25, k1, k3, mid_get, app_get0, zg0, zs0]
        with_reducible refine hR _ ?_
        clear hR R
        simp only [zd1, zd0]
        refine Y_if 110 (by simp only [ev, zg1, zg0, zgd]; exact rfl) ?_ ?_
        ·intro b26
         have c26 := b26
         try simp only [bne_iff_ne, ne_eq] at c26
         refine Y_end fun R hR => ?_
         simp only [EVP, Int.reduceNeg, app_get0, aops, astep, awant, aeff, aop, abin, aint, mkD, ev, ofValue, St.put, ia_int, zg1, zg0, zgd, zmo, zbs, if_true, zs1, zs0, zlc, zln, zd0, zt1, zt0, Nat.reduceAdd, Nat.reduceLeDiff, Nat.zero_add, Nat.add_zero, zft, if_false, reduceCtorEq, decide_false, beq_self_eq_true, ty_int, ty_checker_Rejection, k2, b26, mid_get, app_get0, zg0, zs0]
         with_reducible refine hR _ ?_
         clear hR R
         show X _ _ _ _
         refine X_false (by simp only [ev, zg1, zg0, zgd]) ?_
         refine X_skip ?_
         show X _ _ _ _
         have hbig : i < 9223372036854775807 := by omega
         refine X_rg fun R hR => ?_
         simp only [inr_i64, Int.reduceLE, Int.reduceNeg, aops, astep, awant, aeff, aop, abin, aint, ev, ofValue, St.put, zg1, zg0, zgd, zmo, if_true, zs1, zs0, and_self, nat_succ hbig]
         with_reducible refine hR _ ?_
         clear hR R
         show ∃ m, m < _ ∧ _
         exact ⟨L.length - (i + 1), by omega, i + 1, _, rfl, rfl, by omega⟩
        ·intro b27
         have c27 := b27
         try simp only [bne_eq_false_iff_eq] at c27
         refine Y_end fun R hR => ?_
         simp only [EVP, Int.reduceNeg, aops, astep, awant, aeff, aop, abin, ev, ofValue, St.put, zg1, zg0, zgd, zmo, Option.map_none, zbs, if_true, zs1, zs0, Nat.add_zero, zft, if_false, reduceCtorEq, beq_self_eq_true, bq_ft, ty_int, ty_checker_Rejection, b27, zg0, zs0]
         with_reducible refine hR _ ?_
         clear hR R
         show X _ _ _ _
         refine X_false (by simp only [ev, zg1, zg0, zgd]) ?_
         refine X_skip ?_
         show X _ _ _ _
         have hbig : i < 9223372036854775807 := by omega
         refine X_rg fun R hR => ?_
         simp only [inr_i64, Int.reduceLE, Int.reduceNeg, aops, astep, awant, aeff, aop, abin, aint, ev, ofValue, St.put, zg1, zg0, zgd, zmo, if_true, zs1, zs0, and_self, nat_succ hbig]
         with_reducible refine hR _ ?_
         clear hR R
         show ∃ m, m < _ ∧ _
         exact ⟨L.length - (i + 1), by omega, i + 1, _, rfl, rfl, by omega⟩
   ·intro b28
    have c28 := b28
    try simp only [decide_eq_false_iff_not] at c28
    refine X_exit ?_
    show X _ _ _ _
    refine X_seq ?_
    refine X_rg fun R hR => ?_
    simp only [aops, astep, awant, aeff, aop, ev, ofValue, St.put, zgd, zmo, if_true, zs1, zs0, b28]
    with_reducible refine hR _ ?_
    clear hR R
    show X _ _ _ _
    refine X_ret ?_
    show resD _ _ _ = some _
    simp only [resD, resAll, resOne, resTup, Try.results10, EVP, zg1, zg0, D.good, if_true, zmo] <;> (first | (rfl; done) | (simp_all; done) | (exfalso; simp_all; done))

end Go.Proofs.Ytmglacjcefajlaa
