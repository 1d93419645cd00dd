/- The law ScopeOrder: its walk. -/
import Derived.Test.YtjikokmhknnnoaaOd
namespace Go.Proofs.Ytjikokmhknnnoaa
open Go.RowKit

theorem atT_no {t : Tr} {i : Int} {r : List Int} (h : i < 0 ∨ (t.kids.length : Int) ≤ i) : atT t (i :: r) = (noT, false) := by
  simp only [atT]
  by_cases h0 : i < 0
  · rw [if_pos h0]
  · rw [if_neg h0, List.getElem?_eq_none (by omega)]
theorem less_end1 {a b : List Int} {i : Nat} (h1 : a.length ≤ i) (h2 : i ≤ a.length) (h3 : i ≤ b.length) : lessB (a.drop i) (b.drop i) = decide ((a.length : Int) < (b.length : Int)) := by
  rw [List.drop_of_length_le h1]
  by_cases h : i < b.length
  · rw [List.drop_eq_getElem_cons h]; simp only [lessB]; symm; simp; omega
  · rw [List.drop_of_length_le (by omega)]; simp only [lessB]; symm; simp; omega
theorem less_end2 {a b : List Int} {i : Nat} (h1 : b.length ≤ i) (h2 : i ≤ a.length) (h3 : i ≤ b.length) : lessB (a.drop i) (b.drop i) = decide ((a.length : Int) < (b.length : Int)) := by
  rw [List.drop_of_length_le h1]
  have : lessB (a.drop i) [] = false := by cases a.drop i <;> rfl
  rw [this]; symm; simp; omega
theorem less_step {a b : List Int} {i : Nat} (h1 : i < a.length) (h2 : i < b.length) : lessB (a.drop i) (b.drop i) = if a[i] = b[i] then lessB (a.drop (i + 1)) (b.drop (i + 1)) else decide (a[i] < b[i]) := by
  rw [List.drop_eq_getElem_cons h1, List.drop_eq_getElem_cons h2]; rfl
set_option maxRecDepth 100000 in
set_option maxHeartbeats 4000000 in
theorem at_fn (t : Tr) (path : List Int) (hl : path.length ≤ 1000000) : fn EV 29 [dN t, sl 1 (path.map dI)] = some (.tup [dN (atT t path).1, .bool (atT t path).2]) := by
  refine fn_Xs rfl Try.func29 rfl (by simp only [plain, List.all_cons, List.all_nil, sl_pl (f := dI) (fun _ _ => rfl), dN_pl, Bool.and_true]) (rfl) ?_
  simp only [List.map_cons, List.map_nil, sl_strip (map_strip (f := dI) (fun _ => rfl) _), dN_strip]
  simp only [enterSt, Try.ntmps29, List.length_cons, List.length_nil, Nat.reduceAdd, Nat.reduceSub, List.replicate_succ, List.replicate_zero, List.cons_append, List.nil_append]
  refine X_seq ?_
  refine X_rg fun R hR => ?_
  simp only [EVP, aops, astep, awant, aeff, aop, ev, ofValue, St.put, List.getElem?_cons_zero, Option.getD_some, Option.map_some, Option.bind_some, if_true, List.set_cons_succ, List.set_cons_zero, List.length_cons, List.length_nil, List.cons_append, List.nil_append, Nat.zero_add, ty_api_Node, dN_cells, dN_good, sl]
  with_reducible refine hR _ ?_
  clear hR R
  show X _ _ _ _
  refine X_seq ?_
  refine X_seq ?_
  refine X_rg fun R hR => ?_
  simp only [EVP, inr_i64, Int.reduceLE, Int.reduceNeg, aops, astep, awant, aeff, aop, ev, ofValue, St.put, List.getElem?_cons_succ, List.getElem?_cons_zero, Option.getD_some, Option.map_some, if_true, List.set_cons_succ, List.set_cons_zero, List.length_map, and_self, und_int]
  with_reducible refine hR _ ?_
  clear hR R
  show X _ _ _ _
  refine X_block ?_
  refine X_loop (fun m σ => ∃ (i : Nat) (c : Tr), σ = ⟨[slotOf σ 0, slotOf σ 1, .ptr 0 0, slotOf σ 3, .ptr 1 0, slotOf σ 5, slotOf σ 6, slotOf σ 7, .slice .imm (if (path.map dI).isEmpty = true then 0 else 1) (path.map dI), .int .i64 path.length, .int .i64 i, slotOf σ 11, slotOf σ 12, slotOf σ 13, slotOf σ 14, slotOf σ 15, slotOf σ 16, slotOf σ 17, slotOf σ 18, slotOf σ 19, slotOf σ 20, slotOf σ 21, slotOf σ 22, slotOf σ 23, slotOf σ 24, slotOf σ 25, slotOf σ 26, slotOf σ 27, slotOf σ 28, slotOf σ 29, slotOf σ 30], [[.int .u8 c.kind, .int .i64 c.num, .str c.name, .slice .imm (if (c.kids.map dN).isEmpty = true then 0 else 4) (c.kids.map dN)], [.int .u8 0, .int .i64 0, .str ⟨#[]⟩, .slice .nil 0 []]], 0, []⟩ ∧ m = path.length - i ∧ i ≤ path.length ∧ Hid (atT t path = atT c (path.drop i))) ?_ (path.length) _ ?_
  rotate_left
  · exact ⟨0, t, rfl, rfl, Nat.zero_le _, Lib.hid rfl⟩
  rintro m σ ⟨i, c, hσ, rfl, hi, ht⟩
  generalize slotOf σ = x at hσ
  subst hσ
  have hn1 : ∀ j, j < path.length → ((if (path.map dI).isEmpty = true then 0 else 1) = 1) = True := fun j h => eq_true (sl_n (j := j) (by simpa using h))
  refine X_seq ?_
  refine X_rg fun R hR => ?_
  simp only [nat_lt, aops, astep, awant, aeff, aop, abin, aint, ev, St.put, List.getElem?_cons_succ, List.getElem?_cons_zero, Option.getD_some, Option.map_some, if_true, List.set_cons_succ, List.set_cons_zero]
  with_reducible refine hR _ ?_
  clear hR R
  show X _ _ _ _
  refine X_seq ?_
  refine X_ite (by simp only [ev, List.getElem?_cons_succ, List.getElem?_cons_zero, Option.getD_some]; exact rfl) ?_ ?_
  · intro b1
    have c1 := b1
    try simp only [decide_eq_true_eq] at c1
    refine X_skip ?_
    show X _ _ _ _
    refine X_seq ?_
    refine X_block ?_
    refine X_seq ?_
    have hlt : i < path.length := by first | assumption | omega
    have h1 := hn1 i hlt
    have e1 : (path.map dI)[i]? = some (.int .i64 path[i]) := by simp [hlt]; rfl
    have hdr : path.drop i = path[i] :: path.drop (i + 1) := List.drop_eq_getElem_cons hlt
    refine X_rg fun R hR => ?_
    simp only [EVP, nat_lt, nat_0, nat_to, aops, astep, awant, aeff, aop, ev, St.put, ia_int, cl_int, List.getElem?_cons_succ, List.getElem?_cons_zero, Option.getD_some, Option.map_some, if_true, List.set_cons_succ, List.set_cons_zero, List.length_map, List.length_cons, List.length_nil, Nat.zero_add, and_self, decide_true, Option.isSome_some, ty_int, und_int, siz_int, inf_int_eq, c1, h1, e1]
    with_reducible refine hR _ ?_
    clear hR R
    show X _ _ _ _
    refine X_seq ?_
    refine X_seq ?_
    refine X_y ?_
    refine Y_k 3 fun R hR => ?_
    simp only [EVP, inr_i64, Int.reduceLE, Int.reduceNeg, aops, astep, awant, aeff, aop, abin, aint, ev, ofValue, St.put, List.getElem?_cons_succ, List.getElem?_cons_zero, Option.getD_some, Option.map_some, if_true, List.set_cons_succ, List.set_cons_zero, List.take_succ_cons, List.take_zero, and_self]
    with_reducible refine hR _ ?_
    clear hR R
    simp only [List.drop_succ_cons, List.drop_zero]
    refine Y_if 16 (by simp only [ev, List.getElem?_cons_succ, List.getElem?_cons_zero, Option.getD_some]; exact rfl) ?_ ?_
    · intro b2
      have c2 := b2
      try simp only [decide_eq_true_eq] at c2
      refine Y_end fun R hR => ?_
      simp only [EVP, aops, astep, awant, aeff, aop, abin, ev, ofValue, St.put, List.getElem?_cons_succ, List.getElem?_cons_zero, Option.getD_some, Option.map_some, Option.map_none, Option.bind_some, if_true, List.set_cons_succ, List.set_cons_zero, Nat.zero_add, Bool.false_eq_true, if_false, reduceCtorEq, decide_true, bq_tf, ty_s_api_Node, ty_api_Node, und_api_Node, c2]
      with_reducible refine hR _ ?_
      clear hR R
      show X _ _ _ _
      refine X_true (by simp only [ev, List.getElem?_cons_succ, List.getElem?_cons_zero, Option.getD_some]) ?_
      refine X_seq ?_
      refine X_rg fun R hR => ?_
      simp only [EVP, aops, astep, awant, aeff, aop, afill, astore, ev, ofValue, St.put, gd_agg, cl_agg, List.map_nil, List.getElem?_cons_succ, List.getElem?_cons_zero, Option.getD_some, Option.map_some, if_true, List.set_cons_succ, List.set_cons_zero, List.length_cons, List.length_nil, List.drop_succ_cons, List.drop_zero, List.take_zero, List.cons_append, List.nil_append, Nat.reduceAdd, Nat.reduceLeDiff, Nat.zero_add, and_self, ty_api_Node, st_api_Node, sta_api_Node]
      with_reducible refine hR _ ?_
      clear hR R
      show X _ _ _ _
      refine X_ret ?_
      show ∃ d, resD _ _ _ = some d ∧ _ ∧ _
      simp only [resD, resAll, resOne, resTup, Try.results29, EVP, mkD, ty_api_Node, List.getElem?_cons_succ, List.getElem?_cons_zero, List.drop_zero, List.take_succ_cons, List.take_zero, List.length_cons, List.length_nil, Nat.reduceAdd, Nat.reduceLeDiff, Nat.zero_add, D.good, if_true, Option.map_some]
      exact ⟨_, rfl, rfl, by rw [ht.out, hdr, atT_no (by first | (left; assumption) | (right; assumption) | omega)]; rw [dN_eq]; rfl⟩
    · intro b3
      have c3 := b3
      try simp only [decide_eq_false_iff_not, Int.not_lt] at c3
      refine Y_end fun R hR => ?_
      simp only [EVP, aops, astep, awant, aeff, aop, abin, aint, mkD, ev, ofValue, St.put, ia_slice, List.getElem?_cons_succ, List.getElem?_cons_zero, Option.getD_some, Option.map_some, Option.bind_some, if_true, List.set_cons_succ, List.set_cons_zero, List.length_map, List.length_cons, List.length_nil, List.drop_succ_cons, List.drop_zero, List.take_succ_cons, List.take_zero, Nat.reduceAdd, Nat.reduceLeDiff, Nat.zero_add, Bool.false_eq_true, if_false, reduceCtorEq, beq_self_eq_true, ty_s_api_Node, ty_api_Node, und_api_Node, b3]
      with_reducible refine hR _ ?_
      clear hR R
      show X _ _ _ _
      refine X_ite (by simp only [ev, List.getElem?_cons_succ, List.getElem?_cons_zero, Option.getD_some]; exact rfl) ?_ ?_
      · intro b4
        have c4 := b4
        try simp only [decide_eq_true_eq, ge_iff_le] at c4
        refine X_seq ?_
        refine X_rg fun R hR => ?_
        simp only [EVP, aops, astep, awant, aeff, aop, afill, astore, ev, ofValue, St.put, gd_agg, cl_agg, List.map_nil, List.getElem?_cons_succ, List.getElem?_cons_zero, Option.getD_some, Option.map_some, if_true, List.set_cons_succ, List.set_cons_zero, List.length_cons, List.length_nil, List.drop_succ_cons, List.drop_zero, List.take_zero, List.cons_append, List.nil_append, Nat.reduceAdd, Nat.reduceLeDiff, Nat.zero_add, and_self, decide_true, ty_api_Node, st_api_Node, sta_api_Node, c4]
        with_reducible refine hR _ ?_
        clear hR R
        show X _ _ _ _
        refine X_ret ?_
        show ∃ d, resD _ _ _ = some d ∧ _ ∧ _
        simp only [resD, resAll, resOne, resTup, Try.results29, EVP, mkD, ty_api_Node, List.getElem?_cons_succ, List.getElem?_cons_zero, List.drop_zero, List.take_succ_cons, List.take_zero, List.length_cons, List.length_nil, Nat.reduceAdd, Nat.reduceLeDiff, Nat.zero_add, D.good, if_true, Option.map_some]
        exact ⟨_, rfl, rfl, by rw [ht.out, hdr, atT_no (by first | (left; assumption) | (right; assumption) | omega)]; rw [dN_eq]; rfl⟩
      · intro b5
        have c5 := b5
        try simp only [decide_eq_false_iff_not, Int.not_le, ge_iff_le] at c5
        refine X_skip ?_
        show X _ _ _ _
        have hk0 : 0 ≤ path[i] := by first | assumption | omega
        have hk1 : path[i] < (c.kids.length : Int) := by first | assumption | omega
        have hk2 : path[i].toNat < c.kids.length := by omega
        have hn4 : ((if (c.kids.map dN).isEmpty = true then 0 else 4) = 4) = True := eq_true (sl_n (j := path[i].toNat) (by simpa using hk2))
        have e2 : (c.kids.map dN)[path[i].toNat]? = some (dN c.kids[path[i].toNat]) := by simp [hk2]
        refine X_rg fun R hR => ?_
        simp only [EVP, aops, astep, awant, aeff, aop, mkD, astore, ev, St.put, ia_slice, List.getElem?_cons_succ, List.getElem?_cons_zero, Option.getD_some, Option.map_some, if_true, List.set_cons_succ, List.set_cons_zero, List.length_map, List.length_cons, List.length_nil, List.drop_succ_cons, List.drop_zero, List.take_succ_cons, List.take_zero, List.cons_append, List.nil_append, Nat.reduceAdd, Nat.reduceLeDiff, Nat.zero_add, Bool.false_eq_true, if_false, and_self, reduceCtorEq, Option.isSome_some, ty_s_api_Node, ty_api_Node, und_api_Node, siz_api_Node, inf_api_Node_eq, dN_cells, dN_isAgg, dN_good, sl, c3, b5, c5, hn4, e2]
        with_reducible refine hR _ ?_
        clear hR R
        show X _ _ _ _
        have hbig : i < 9223372036854775807 := by omega
        refine X_rg fun R hR => ?_
        simp only [inr_i64, Int.reduceLE, Int.reduceNeg, aops, astep, awant, aeff, aop, abin, aint, ev, ofValue, St.put, List.getElem?_cons_succ, List.getElem?_cons_zero, Option.getD_some, Option.map_some, if_true, List.set_cons_succ, List.set_cons_zero, and_self, nat_succ hbig]
        with_reducible refine hR _ ?_
        clear hR R
        show ∃ m, m < _ ∧ _
        exact ⟨path.length - (i + 1), by omega, i + 1, c.kids[path[i].toNat], rfl, rfl, by omega, Lib.hid (by rw [ht.out, hdr]; have := atT_kid (t := c) (i := path[i].toNat) (r := path.drop (i + 1)) (List.getElem?_eq_getElem hk2); rw [Int.toNat_of_nonneg hk0] at this; exact this)⟩
  · intro b6
    have c6 := b6
    try simp only [decide_eq_false_iff_not] at c6
    refine X_exit ?_
    show X _ _ _ _
    refine X_seq ?_
    refine X_rg fun R hR => ?_
    simp only [EVP, aops, astep, awant, aeff, aop, mkD, astore, ev, ofValue, St.put, List.getElem?_cons_succ, List.getElem?_cons_zero, Option.getD_some, Option.map_some, if_true, List.set_cons_succ, List.set_cons_zero, List.length_cons, List.length_nil, List.drop_succ_cons, List.drop_zero, List.take_succ_cons, List.take_zero, List.cons_append, List.nil_append, Nat.reduceAdd, Nat.reduceLeDiff, Nat.zero_add, and_self, decide_false, ty_api_Node, dN_agg, dN_cells, dN_good, sl, c6]
    with_reducible refine hR _ ?_
    clear hR R
    show X _ _ _ _
    refine X_ret ?_
    show ∃ d, resD _ _ _ = some d ∧ _ ∧ _
    simp only [resD, resAll, resOne, resTup, Try.results29, EVP, mkD, ty_api_Node, List.getElem?_cons_succ, List.getElem?_cons_zero, List.drop_zero, List.take_succ_cons, List.take_zero, List.length_cons, List.length_nil, Nat.reduceAdd, Nat.reduceLeDiff, Nat.zero_add, D.good, if_true, Option.map_some]
    simp only [dN_agg]
    exact ⟨_, rfl, by simp only [D.under, D.unders, dN_under, Bool.and_true], by rw [ht.out, List.drop_of_length_le (by omega)]; simp only [atT, D.strip, D.strips, dN_strip]⟩
set_option maxRecDepth 100000 in
set_option maxHeartbeats 4000000 in
theorem less_fn (a b : List Int) (hl : a.length ≤ 1000000) : fn EV 30 [sl 1 (a.map dI), sl 1 (b.map dI)] = some (.bool (lessB a b)) := by
  refine fn_X rfl Try.func30 rfl (by simp only [plain, List.all_cons, List.all_nil, sl_pl (f := dI) (fun _ _ => rfl), Bool.and_true]) (rfl) (rfl) (rfl) ?_
  simp only [List.map_cons, List.map_nil, sl_strip (map_strip (f := dI) (fun _ => rfl) _)]
  simp only [enterSt, Try.ntmps30, List.length_cons, List.length_nil, Nat.reduceAdd, Nat.reduceSub, List.replicate_succ, List.replicate_zero, List.cons_append, List.nil_append]
  refine X_seq ?_
  refine X_rg fun R hR => ?_
  simp only [aops, astep, awant, aeff, aop, ev, ofValue, St.put, Option.getD_some, Option.map_some, if_true, List.set_cons_succ, List.set_cons_zero, sl]
  with_reducible refine hR _ ?_
  clear hR R
  show X _ _ _ _
  refine X_seq ?_
  refine X_seq ?_
  refine X_rg fun R hR => ?_
  simp only [inr_i64, Int.reduceLE, Int.reduceNeg, aops, astep, awant, aeff, aop, ev, ofValue, St.put, Option.getD_some, Option.map_some, if_true, List.set_cons_succ, List.set_cons_zero, and_self]
  with_reducible refine hR _ ?_
  clear hR R
  show X _ _ _ _
  refine X_block ?_
  refine X_loop (fun m σ => ∃ (i : Nat), σ = ⟨[.slice .imm (if (a.map dI).isEmpty = true then 0 else 1) (a.map dI), .slice .imm (if (b.map dI).isEmpty = true then 0 else 1) (b.map dI), slotOf σ 2, slotOf σ 3, slotOf σ 4, .int .i64 i, slotOf σ 6, slotOf σ 7, slotOf σ 8, slotOf σ 9, slotOf σ 10, slotOf σ 11, slotOf σ 12, slotOf σ 13, slotOf σ 14, slotOf σ 15, slotOf σ 16, slotOf σ 17, slotOf σ 18, slotOf σ 19, slotOf σ 20, slotOf σ 21, slotOf σ 22, slotOf σ 23, slotOf σ 24, slotOf σ 25, slotOf σ 26, slotOf σ 27, slotOf σ 28, slotOf σ 29, slotOf σ 30, slotOf σ 31, slotOf σ 32, slotOf σ 33, slotOf σ 34, slotOf σ 35, slotOf σ 36, slotOf σ 37, slotOf σ 38, slotOf σ 39, slotOf σ 40], [], 0, []⟩ ∧ m = a.length - i ∧ i ≤ a.length ∧ i ≤ b.length ∧ Hid (lessB a b = lessB (a.drop i) (b.drop i))) ?_ (a.length) _ ?_
  rotate_left
  · exact ⟨0, rfl, rfl, Nat.zero_le _, Nat.zero_le _, Lib.hid rfl⟩
  rintro m σ ⟨i, hσ, rfl, hi, hi2, ht⟩
  generalize slotOf σ = x at hσ
  subst hσ
  have hn1 : ∀ j, j < a.length → ((if (a.map dI).isEmpty = true then 0 else 1) = 1) = True := fun j h => eq_true (sl_n (j := j) (by simpa using h))
  have hn2 : ∀ j, j < b.length → ((if (b.map dI).isEmpty = true then 0 else 1) = 1) = True := fun j h => eq_true (sl_n (j := j) (by simpa using h))
  refine X_seq ?_
  refine X_seq ?_
  refine X_y ?_
  refine Y_k 5 fun R hR => ?_
  simp only [EVP, nat_lt, aops, astep, awant, aeff, aop, abin, aint, ev, St.put, List.getElem?_cons_succ, List.getElem?_cons_zero, Option.getD_some, Option.map_some, if_true, List.set_cons_succ, List.set_cons_zero, List.length_map, List.take_succ_cons, List.take_zero, und_int]
  with_reducible refine hR _ ?_
  clear hR R
  simp only [List.drop_succ_cons, List.drop_zero]
  refine Y_if 10 (by simp only [ev, List.getElem?_cons_succ, List.getElem?_cons_zero, Option.getD_some]; exact rfl) ?_ ?_
  · intro b1
    have c1 := b1
    try simp only [decide_eq_true_eq] at c1
    refine Y_end fun R hR => ?_
    simp only [EVP, nat_lt, aops, astep, awant, aeff, aop, abin, aint, ev, ofValue, St.put, List.getElem?_cons_succ, List.getElem?_cons_zero, Option.getD_some, Option.map_some, Option.bind_some, if_true, List.set_cons_succ, List.set_cons_zero, List.length_map, beq_self_eq_true, und_int, b1]
    with_reducible refine hR _ ?_
    clear hR R
    show X _ _ _ _
    refine X_ite (by simp only [ev, List.getElem?_cons_succ, List.getElem?_cons_zero, Option.getD_some]; exact rfl) ?_ ?_
    · intro b2
      have c2 := b2
      try simp only [decide_eq_true_eq] at c2
      refine X_skip ?_
      show X _ _ _ _
      refine X_seq ?_
      refine X_block ?_
      refine X_seq ?_
      have hlt : i < a.length := by first | assumption | omega
      have hlt2 : i < b.length := by first | assumption | omega
      have h1 := hn1 i hlt
      have h2 := hn2 i hlt2
      have e1 : (a.map dI)[i]? = some (.int .i64 a[i]) := by simp [hlt]; rfl
      have e2 : (b.map dI)[i]? = some (.int .i64 b[i]) := by simp [hlt2]; rfl
      have hst := less_step hlt hlt2
      refine X_rg fun R hR => ?_
      simp only [EVP, nat_lt, nat_0, nat_to, aops, astep, awant, aeff, aop, abin, aint, ev, St.put, ia_int, cl_int, List.getElem?_cons_succ, List.getElem?_cons_zero, Option.getD_some, Option.map_some, if_true, List.set_cons_succ, List.set_cons_zero, List.length_map, List.length_cons, List.length_nil, Nat.zero_add, and_self, decide_true, Option.isSome_some, ty_int, und_int, siz_int, inf_int_eq, hlt, hlt2, h1, h2, e1, e2]
      with_reducible refine hR _ ?_
      clear hR R
      show X _ _ _ _
      refine X_ite (by simp only [ev, List.getElem?_cons_succ, List.getElem?_cons_zero, Option.getD_some]; exact rfl) ?_ ?_
      · intro b3
        have c3 := b3
        try simp only [bne_iff_ne, ne_eq] at c3
        refine X_seq ?_
        refine X_rg fun R hR => ?_
        simp only [EVP, nat_lt, nat_0, nat_to, aops, astep, awant, aeff, aop, abin, aint, ev, St.put, ia_int, cl_int, List.getElem?_cons_succ, List.getElem?_cons_zero, Option.getD_some, Option.map_some, if_true, List.set_cons_succ, List.set_cons_zero, List.length_map, List.length_cons, List.length_nil, Nat.zero_add, and_self, Option.isSome_some, ty_int, und_int, siz_int, inf_int_eq, b3, hlt, hlt2, h1, h2, e1, e2]
        with_reducible refine hR _ ?_
        clear hR R
        show X _ _ _ _
        refine X_ret ?_
        show resD _ _ _ = some _
        simp only [resD, resAll, resOne, resTup, Try.results30, EVP, List.getElem?_cons_succ, List.getElem?_cons_zero, D.good, if_true, Option.map_some]
        have hab : ¬ a[i] = b[i] := by first | assumption | omega | (simp_all; done)
        rw [ht.out, hst, if_neg hab]
      · intro b4
        have c4 := b4
        try simp only [bne_eq_false_iff_eq] at c4
        refine X_skip ?_
        show X _ _ _ _
        have hbig : i < 9223372036854775807 := by omega
        refine X_rg fun R hR => ?_
        simp only [inr_i64, Int.reduceLE, Int.reduceNeg, aops, astep, awant, aeff, aop, abin, aint, ev, ofValue, St.put, List.getElem?_cons_succ, List.getElem?_cons_zero, Option.getD_some, Option.map_some, if_true, List.set_cons_succ, List.set_cons_zero, and_self, b4, nat_succ hbig]
        with_reducible refine hR _ ?_
        clear hR R
        show ∃ m, m < _ ∧ _
        have hab : a[i] = b[i] := by first | assumption | omega | (simp_all; done)
        exact ⟨a.length - (i + 1), by omega, i + 1, rfl, rfl, by omega, by omega, Lib.hid (by rw [ht.out, hst, if_pos hab])⟩
    · intro b5
      have c5 := b5
      try simp only [decide_eq_false_iff_not] at c5
      refine X_exit ?_
      show X _ _ _ _
      refine X_seq ?_
      refine X_rg fun R hR => ?_
      simp only [EVP, nat_lt, aops, astep, awant, aeff, aop, abin, aint, ev, St.put, List.getElem?_cons_succ, List.getElem?_cons_zero, Option.getD_some, Option.map_some, if_true, List.set_cons_succ, List.set_cons_zero, List.length_map, und_int, b5]
      with_reducible refine hR _ ?_
      clear hR R
      show X _ _ _ _
      refine X_ret ?_
      show resD _ _ _ = some _
      simp only [resD, resAll, resOne, resTup, Try.results30, EVP, List.getElem?_cons_succ, List.getElem?_cons_zero, D.good, if_true, Option.map_some]
      first | (rw [ht.out, less_end1 (by omega) (by omega) (by omega)]; simp; done) | (rw [ht.out, less_end2 (by omega) (by omega) (by omega)]; simp; done) | (rw [ht.out, less_end1 (by omega) (by omega) (by omega)]; done) | (rw [ht.out, less_end2 (by omega) (by omega) (by omega)]; done)
  · intro b6
    have c6 := b6
    try simp only [decide_eq_false_iff_not] at c6
    refine Y_end fun R hR => ?_
    simp only [EVP, aops, astep, awant, aeff, aop, abin, ev, ofValue, St.put, List.getElem?_cons_succ, List.getElem?_cons_zero, Option.getD_some, Option.map_some, Option.map_none, Option.bind_some, if_true, List.set_cons_succ, List.set_cons_zero, Bool.false_eq_true, if_false, bq_ft, und_int, b6]
    with_reducible refine hR _ ?_
    clear hR R
    show X _ _ _ _
    refine X_false (by simp only [ev, List.getElem?_cons_succ, List.getElem?_cons_zero, Option.getD_some]) ?_
    refine X_exit ?_
    show X _ _ _ _
    refine X_seq ?_
    refine X_rg fun R hR => ?_
    simp only [EVP, nat_lt, aops, astep, awant, aeff, aop, abin, aint, ev, St.put, List.getElem?_cons_succ, List.getElem?_cons_zero, Option.getD_some, Option.map_some, if_true, List.set_cons_succ, List.set_cons_zero, List.length_map, und_int]
    with_reducible refine hR _ ?_
    clear hR R
    show X _ _ _ _
    refine X_ret ?_
    show resD _ _ _ = some _
    simp only [resD, resAll, resOne, resTup, Try.results30, EVP, List.getElem?_cons_succ, List.getElem?_cons_zero, D.good, if_true, Option.map_some]
    first | (rw [ht.out, less_end1 (by omega) (by omega) (by omega)]; simp; done) | (rw [ht.out, less_end2 (by omega) (by omega) (by omega)]; simp; done) | (rw [ht.out, less_end1 (by omega) (by omega) (by omega)]; done) | (rw [ht.out, less_end2 (by omega) (by omega) (by omega)]; done)
theorem small_eq' (p : Pg) : ((if smallB p = true then (1 : Int) else 0) == 0) = !smallB p := by cases smallB p <;> rfl
theorem sub1o {i : Nat} (h : i ≤ 1000000) : IntKind.i64.wrap ((i : Int) - 1) = (i : Int) - 1 := by
  simp only [IntKind.wrap, IntKind.bits, IntKind.signed]; simp; omega
set_option maxRecDepth 100000 in
set_option maxHeartbeats 4000000 in
theorem law8_fn (p : Pg) : fn EV 8 [dG p] = some (.bool true) := by
  refine fn_X rfl Try.func8 rfl (by simp only [plain, List.all_cons, List.all_nil, dG_pl, Bool.and_true]) (rfl) (rfl) (rfl) ?_
  simp only [List.map_cons, List.map_nil, dG_strip]
  simp only [enterSt, Try.ntmps8, List.length_cons, List.length_nil, Nat.reduceAdd, Nat.reduceSub, List.replicate_succ, List.replicate_zero, List.cons_append, List.nil_append]
  refine X_seq ?_
  refine X_rg fun R hR => ?_
  simp only [aops, astep, awant, aeff, aop, ev, ofValue, St.put, List.getElem?_cons_zero, Option.getD_some, Option.map_some, if_true, List.set_cons_succ, List.set_cons_zero, List.length_nil, List.nil_append, dG_cells, dG_good]
  with_reducible refine hR _ ?_
  clear hR R
  show X _ _ _ _
  refine X_seq ?_
  refine X_seq ?_
  refine X_rg fun R hR => ?_
  simp only [EVP, aops, astep, awant, aeff, aop, ev, St.put, pcall, List.map_nil, List.getElem?_cons_succ, List.getElem?_cons_zero, Option.getD_some, Option.map_some, if_true, List.set_cons_succ, List.set_cons_zero, List.nil_append, Bool.not_true, any12, awake_ok]
  with_reducible refine hR _ ?_
  clear hR R
  show X _ _ _ _
  refine X_false (by simp only [ev, List.getElem?_cons_succ, List.getElem?_cons_zero, Option.getD_some]) ?_
  refine X_skip ?_
  show X _ _ _ _
  refine X_seq ?_
  refine X_seq ?_
  have hsm := small_fn p
  refine X_rg fun R hR => ?_
  simp only [EVP, inr_i64, Int.reduceLE, Int.reduceNeg, aops, astep, awant, aeff, aop, abin, aint, mkD, ev, ofValue, St.put, pcall, List.map_cons, List.map_nil, List.getElem?_cons_succ, List.getElem?_cons_zero, Option.getD_some, Option.map_some, if_true, List.set_cons_succ, List.set_cons_zero, List.length_cons, List.length_nil, List.drop_zero, List.take_succ_cons, List.take_zero, List.cons_append, List.nil_append, Nat.reduceAdd, Nat.reduceLeDiff, Nat.zero_add, and_self, ty_api_Program, any19, dG_agg, hsm, small_eq']
  with_reducible refine hR _ ?_
  clear hR R
  show X _ _ _ _
  refine X_ite (by simp only [ev, List.getElem?_cons_succ, List.getElem?_cons_zero, Option.getD_some]; exact rfl) ?_ ?_
  · intro b1
    have c1 := b1
    try simp only [Bool.not_eq_true'] at c1
    refine X_seq ?_
    refine X_rg fun R hR => ?_
    simp only [aops, astep, awant, aeff, aop, ev, ofValue, St.put, Option.getD_some, Option.map_some, if_true, List.set_cons_succ, List.set_cons_zero, Bool.not_false, Bool.false_eq_true, if_false, c1]
    with_reducible refine hR _ ?_
    clear hR R
    show X _ _ _ _
    refine X_ret ?_
    show resD _ _ _ = some _
    simp only [resD, resAll, resOne, resTup, Try.results8, EVP, List.getElem?_cons_succ, List.getElem?_cons_zero, D.good, if_true, Option.map_some] <;> (first | (rfl; done) | (simp_all; done) | (exfalso; simp_all; done) | (trace_state; fail))
  · intro b2
    have c2 := b2
    try simp only [Bool.not_eq_false'] at c2
    refine X_skip ?_
    show X _ _ _ _
    refine X_seq ?_
    have hsb : smallB p = true := by first | assumption | (simp_all; done)
    obtain ⟨hvd, hp6, hv20, _⟩ := small_valid hsb
    have hch := check_fn p
    rw [if_pos hvd] at hch
    obtain ⟨q1, q2⟩ := checkF_bd hvd
    have hok : ∀ f ∈ checkF p, OkF p f := fun f hf => check_ok hf
    have hpw := check_pw p
    generalize checkF p = L at hch q1 q2 hok hpw
    simp only [sl] at hch
    refine X_rg fun R hR => ?_
    simp only [EVP, aops, astep, awant, aeff, aop, mkD, ev, St.put, pcall, List.map_cons, List.map_nil, List.getElem?_cons_succ, List.getElem?_cons_zero, Option.getD_some, Option.map_some, if_true, List.set_cons_succ, List.set_cons_zero, List.length_cons, List.length_nil, List.drop_zero, List.take_succ_cons, List.take_zero, List.cons_append, List.nil_append, Nat.reduceAdd, Nat.reduceLeDiff, Nat.zero_add, Bool.not_true, ty_api_Program, any18, dG_agg, c2, hch]
    with_reducible refine hR _ ?_
    clear hR R
    show X _ _ _ _
    refine X_seq ?_
    refine X_seq ?_
    refine X_rg fun R hR => ?_
    simp only [inr_i64, Int.reduceLE, Int.reduceNeg, aops, astep, awant, aeff, aop, ev, ofValue, St.put, Option.getD_some, Option.map_some, if_true, List.set_cons_succ, List.set_cons_zero, and_self]
    with_reducible refine hR _ ?_
    clear hR R
    show X _ _ _ _
    refine X_block ?_
    refine X_loop (fun m σ => ∃ (i : Nat) (r : List (List D)), σ = ⟨[slotOf σ 0, .ptr 0 0, slotOf σ 2, .slice .imm (if (L.map dFt).isEmpty = true then 0 else 4) (L.map dFt), .int .i64 i, slotOf σ 5, slotOf σ 6, slotOf σ 7, slotOf σ 8, slotOf σ 9, slotOf σ 10, slotOf σ 11, slotOf σ 12, slotOf σ 13, slotOf σ 14, slotOf σ 15, slotOf σ 16, slotOf σ 17, slotOf σ 18, slotOf σ 19, slotOf σ 20, slotOf σ 21, slotOf σ 22, slotOf σ 23, slotOf σ 24, slotOf σ 25, slotOf σ 26, slotOf σ 27, slotOf σ 28, slotOf σ 29, slotOf σ 30, slotOf σ 31, slotOf σ 32, slotOf σ 33, slotOf σ 34, slotOf σ 35, slotOf σ 36, slotOf σ 37, slotOf σ 38, slotOf σ 39, slotOf σ 40, slotOf σ 41, slotOf σ 42, slotOf σ 43, slotOf σ 44, slotOf σ 45, slotOf σ 46, slotOf σ 47, slotOf σ 48, slotOf σ 49, slotOf σ 50, slotOf σ 51, slotOf σ 52, slotOf σ 53, slotOf σ 54, slotOf σ 55, slotOf σ 56, slotOf σ 57, slotOf σ 58, slotOf σ 59, slotOf σ 60, slotOf σ 61, slotOf σ 62, slotOf σ 63, slotOf σ 64, slotOf σ 65, slotOf σ 66, slotOf σ 67, slotOf σ 68, slotOf σ 69, slotOf σ 70, slotOf σ 71, slotOf σ 72, slotOf σ 73, slotOf σ 74, slotOf σ 75, slotOf σ 76, slotOf σ 77, slotOf σ 78, slotOf σ 79, slotOf σ 80, slotOf σ 81, slotOf σ 82, slotOf σ 83, slotOf σ 84, slotOf σ 85, slotOf σ 86, slotOf σ 87, slotOf σ 88, slotOf σ 89, slotOf σ 90, slotOf σ 91, slotOf σ 92, slotOf σ 93, slotOf σ 94, slotOf σ 95, slotOf σ 96, slotOf σ 97, slotOf σ 98, slotOf σ 99, slotOf σ 100, slotOf σ 101, slotOf σ 102, slotOf σ 103, slotOf σ 104, slotOf σ 105, slotOf σ 106, slotOf σ 107, slotOf σ 108, slotOf σ 109, slotOf σ 110, slotOf σ 111, slotOf σ 112, slotOf σ 113, slotOf σ 114, slotOf σ 115, slotOf σ 116, slotOf σ 117, slotOf σ 118, slotOf σ 119, slotOf σ 120, slotOf σ 121, slotOf σ 122, slotOf σ 123, slotOf σ 124, slotOf σ 125, slotOf σ 126, slotOf σ 127, slotOf σ 128, slotOf σ 129, slotOf σ 130, slotOf σ 131, slotOf σ 132, slotOf σ 133, slotOf σ 134, slotOf σ 135, slotOf σ 136, slotOf σ 137, slotOf σ 138, slotOf σ 139, slotOf σ 140, slotOf σ 141, slotOf σ 142, slotOf σ 143, slotOf σ 144, slotOf σ 145, slotOf σ 146, slotOf σ 147, slotOf σ 148, slotOf σ 149, slotOf σ 150, slotOf σ 151, slotOf σ 152, slotOf σ 153, slotOf σ 154, slotOf σ 155, slotOf σ 156, slotOf σ 157, slotOf σ 158, slotOf σ 159, slotOf σ 160, slotOf σ 161], [.slice .imm (if (p.vars.map dV).isEmpty = true then 0 else 3) (p.vars.map dV), .slice .imm (if (p.procs.map dP).isEmpty = true then 0 else 6) (p.procs.map dP), .int .u8 p.main.kind, .int .i64 p.main.num, .str p.main.name, .slice .imm (if (p.main.kids.map dN).isEmpty = true then 0 else 4) (p.main.kids.map dN)] :: r, 0, []⟩ ∧ m = L.length - i ∧ i ≤ L.length) ?_ (L.length) _ ?_
    rotate_left
    · exact ⟨0, [], rfl, rfl, Nat.zero_le _⟩
    rintro m σ ⟨i, r, hσ, rfl, hi⟩
    generalize slotOf σ = x at hσ
    subst hσ
    have hn4 : ∀ j, j < L.length → ((if (L.map dFt).isEmpty = true then 0 else 4) = 4) = True := fun j h => eq_true (sl_n (j := j) (by simpa using h))
    refine X_seq ?_
    refine X_seq ?_
    refine X_rg fun R hR => ?_
    simp only [EVP, nat_lt, aops, astep, awant, aeff, aop, abin, aint, ev, St.put, List.getElem?_cons_succ, List.getElem?_cons_zero, Option.getD_some, Option.map_some, if_true, List.set_cons_succ, List.set_cons_zero, List.length_map, und_scope_Fault]
    with_reducible refine hR _ ?_
    clear hR R
    show X _ _ _ _
    refine X_ite (by simp only [ev, List.getElem?_cons_succ, List.getElem?_cons_zero, Option.getD_some]; exact rfl) ?_ ?_
    · intro b3
      have c3 := b3
      try simp only [decide_eq_true_eq] at c3
      refine X_skip ?_
      show X _ _ _ _
      refine X_seq ?_
      refine X_block ?_
      refine X_seqJ (fun σ => ∃ (r1 : List (List D)), σ = ⟨[slotOf σ 0, .ptr 0 0, slotOf σ 2, .slice .imm (if (L.map dFt).isEmpty = true then 0 else 4) (L.map dFt), .int .i64 i, slotOf σ 5, slotOf σ 6, slotOf σ 7, slotOf σ 8, slotOf σ 9, slotOf σ 10, slotOf σ 11, slotOf σ 12, slotOf σ 13, slotOf σ 14, slotOf σ 15, slotOf σ 16, slotOf σ 17, slotOf σ 18, slotOf σ 19, slotOf σ 20, slotOf σ 21, slotOf σ 22, slotOf σ 23, slotOf σ 24, slotOf σ 25, slotOf σ 26, slotOf σ 27, slotOf σ 28, slotOf σ 29, slotOf σ 30, slotOf σ 31, slotOf σ 32, slotOf σ 33, slotOf σ 34, slotOf σ 35, slotOf σ 36, slotOf σ 37, slotOf σ 38, slotOf σ 39, slotOf σ 40, slotOf σ 41, slotOf σ 42, slotOf σ 43, slotOf σ 44, slotOf σ 45, slotOf σ 46, slotOf σ 47, slotOf σ 48, slotOf σ 49, slotOf σ 50, slotOf σ 51, slotOf σ 52, slotOf σ 53, slotOf σ 54, slotOf σ 55, slotOf σ 56, slotOf σ 57, slotOf σ 58, slotOf σ 59, slotOf σ 60, slotOf σ 61, slotOf σ 62, slotOf σ 63, slotOf σ 64, slotOf σ 65, slotOf σ 66, slotOf σ 67, slotOf σ 68, slotOf σ 69, slotOf σ 70, slotOf σ 71, slotOf σ 72, slotOf σ 73, slotOf σ 74, slotOf σ 75, slotOf σ 76, slotOf σ 77, slotOf σ 78, slotOf σ 79, slotOf σ 80, slotOf σ 81, slotOf σ 82, slotOf σ 83, slotOf σ 84, slotOf σ 85, slotOf σ 86, slotOf σ 87, slotOf σ 88, slotOf σ 89, slotOf σ 90, slotOf σ 91, slotOf σ 92, slotOf σ 93, slotOf σ 94, slotOf σ 95, slotOf σ 96, slotOf σ 97, slotOf σ 98, slotOf σ 99, slotOf σ 100, slotOf σ 101, slotOf σ 102, slotOf σ 103, slotOf σ 104, slotOf σ 105, slotOf σ 106, slotOf σ 107, slotOf σ 108, slotOf σ 109, slotOf σ 110, slotOf σ 111, slotOf σ 112, slotOf σ 113, slotOf σ 114, slotOf σ 115, slotOf σ 116, slotOf σ 117, slotOf σ 118, slotOf σ 119, slotOf σ 120, slotOf σ 121, slotOf σ 122, slotOf σ 123, slotOf σ 124, slotOf σ 125, slotOf σ 126, slotOf σ 127, slotOf σ 128, slotOf σ 129, slotOf σ 130, slotOf σ 131, slotOf σ 132, slotOf σ 133, slotOf σ 134, slotOf σ 135, slotOf σ 136, slotOf σ 137, slotOf σ 138, slotOf σ 139, slotOf σ 140, slotOf σ 141, slotOf σ 142, slotOf σ 143, slotOf σ 144, slotOf σ 145, slotOf σ 146, slotOf σ 147, slotOf σ 148, slotOf σ 149, slotOf σ 150, slotOf σ 151, slotOf σ 152, slotOf σ 153, slotOf σ 154, slotOf σ 155, slotOf σ 156, slotOf σ 157, slotOf σ 158, slotOf σ 159, slotOf σ 160, slotOf σ 161], [.slice .imm (if (p.vars.map dV).isEmpty = true then 0 else 3) (p.vars.map dV), .slice .imm (if (p.procs.map dP).isEmpty = true then 0 else 6) (p.procs.map dP), .int .u8 p.main.kind, .int .i64 p.main.num, .str p.main.name, .slice .imm (if (p.main.kids.map dN).isEmpty = true then 0 else 4) (p.main.kids.map dN)] :: r1, 0, []⟩ ∧ i < L.length) ?_ ?_
      · skip
        refine X_seq ?_
        have hlt : i < L.length := by first | assumption | omega
        have h1 := hn4 i hlt
        have e1 : (L.map dFt)[i]? = some (.agg [.int .i64 L[i].proc, .slice .imm (if (L[i].path.map dI).isEmpty = true then 0 else 1) (L[i].path.map dI), .int .i64 L[i].err, .str L[i].name]) := by rw [List.getElem?_map, List.getElem?_eq_getElem hlt]; rfl
        have oki := hok L[i] (List.getElem_mem hlt)
        have hlo : (L[i].proc < -1) = False := eq_false (by have := oki.lo; omega)
        have hhi : (L[i].proc > (p.procs.length : Int)) = False := eq_false (by have := oki.hi; omega)
        have herr : (L[i].err == 0) = false := by rw [beq_eq_false_iff_ne]; exact oki.err
        have hs2 : (0 : Int) < (i : Int) → IntKind.i64.wrap ((i : Int) - 1) = ((i - 1 : Nat) : Int) := fun h => by rw [sub1o (by omega)]; omega
        have e2 : (0 : Int) < (i : Int) → (L.map dFt)[i - 1]? = some (.agg [.int .i64 L[i - 1].proc, .slice .imm (if (L[i - 1].path.map dI).isEmpty = true then 0 else 1) (L[i - 1].path.map dI), .int .i64 L[i - 1].err, .str L[i - 1].name]) := fun h => by rw [List.getElem?_map, List.getElem?_eq_getElem (show i - 1 < L.length by omega)]; rfl
        have hl2 : (0 : Int) < (i : Int) → (i - 1 < L.length) = True := fun h => eq_true (by omega)
        have hrr : (0 : Int) < (i : Int) → Rr L[i - 1] L[i] := fun h => (List.pairwise_iff_getElem.1 hpw) (i - 1) i (by omega) hlt (by omega)
        have hmo : (0 : Int) < (i : Int) → (L[i].proc < L[i - 1].proc) = False := fun h => eq_false (by rcases hrr h with q | ⟨q, _⟩ <;> omega)
        refine X_y ?_
        refine Y_k 29 fun R hR => ?_
        simp only [EVP, inr_i64, Int.reduceLE, Int.reduceNeg, nat_lt, nat_0, nat_to, aops, astep, awant, aeff, aop, abin, aint, mkD, ev, ofValue, St.put, ia_int, cl_int, ia_slice, List.getElem?_cons_succ, List.getElem?_cons_zero, Option.getD_some, Option.map_some, Option.bind_some, if_true, List.set_cons_succ, List.set_cons_zero, List.length_map, List.length_cons, List.length_nil, List.drop_succ_cons, List.drop_zero, List.take_succ_cons, List.take_zero, Nat.reduceAdd, Nat.reduceLeDiff, Nat.zero_add, Bool.false_eq_true, if_false, and_self, reduceCtorEq, decide_true, decide_false, beq_self_eq_true, Option.isSome_some, ty_int, ty_s_api_Proc, ty_api_Program, und_api_Proc, ty_api_Errno, ty_scope_Fault, und_scope_Fault, siz_scope_Fault, inf_scope_Fault_eq, c3, h1, e1, hlo, hhi, herr]
        with_reducible refine hR _ ?_
        clear hR R
        simp only [List.drop_succ_cons, List.drop_zero]
        refine Y_if 49 (by simp only [ev, List.getElem?_cons_succ, List.getElem?_cons_zero, Option.getD_some]; exact rfl) ?_ ?_
        · intro b4
          have c4 := b4
          try simp only [decide_eq_true_eq, gt_iff_lt] at c4
          refine Y_end fun R hR => ?_
          simp only [EVP, inr_i64, Int.reduceLE, Int.reduceNeg, nat_lt, nat_0, nat_to, aops, astep, awant, aeff, aop, abin, aint, ev, ofValue, St.put, ia_int, cl_int, List.getElem?_cons_succ, List.getElem?_cons_zero, Option.getD_some, Option.map_some, Option.bind_some, if_true, List.set_cons_succ, List.set_cons_zero, List.length_map, List.length_cons, List.length_nil, List.drop_zero, List.take_succ_cons, List.take_zero, Nat.reduceAdd, Nat.reduceLeDiff, Nat.zero_add, Bool.false_eq_true, if_false, and_self, reduceCtorEq, decide_true, decide_false, beq_self_eq_true, Option.isSome_some, ty_int, ty_scope_Fault, und_scope_Fault, siz_scope_Fault, inf_scope_Fault_eq, c3, c4, h1, e1, hs2, e2, hl2, hmo]
          with_reducible refine hR _ ?_
          clear hR R
          show X _ _ _ _
          refine X_false (by simp only [ev, List.getElem?_cons_succ, List.getElem?_cons_zero, Option.getD_some]) ?_
          refine X_skip ?_
          exact ⟨_, rfl, hlt⟩
        · intro b5
          have c5 := b5
          try simp only [decide_eq_false_iff_not, Int.not_lt, gt_iff_lt] at c5
          refine Y_end fun R hR => ?_
          simp only [EVP, inr_i64, Int.reduceLE, Int.reduceNeg, aops, astep, awant, aeff, aop, abin, ev, ofValue, St.put, List.getElem?_cons_succ, List.getElem?_cons_zero, Option.getD_some, Option.map_some, Option.map_none, Option.bind_some, if_true, List.set_cons_succ, List.set_cons_zero, Bool.false_eq_true, if_false, and_self, reduceCtorEq, beq_self_eq_true, bq_ft, ty_int, ty_scope_Fault, und_scope_Fault, b5]
          with_reducible refine hR _ ?_
          clear hR R
          show X _ _ _ _
          refine X_false (by simp only [ev, List.getElem?_cons_succ, List.getElem?_cons_zero, Option.getD_some]) ?_
          refine X_skip ?_
          exact ⟨_, rfl, hlt⟩
      · skip
        rintro σ ⟨r1, hσ, hlt⟩
        generalize slotOf σ = x at hσ
        subst hσ
        have h1 := hn4 i hlt
        have e1 : (L.map dFt)[i]? = some (.agg [.int .i64 L[i].proc, .slice .imm (if (L[i].path.map dI).isEmpty = true then 0 else 1) (L[i].path.map dI), .int .i64 L[i].err, .str L[i].name]) := by rw [List.getElem?_map, List.getElem?_eq_getElem hlt]; rfl
        have oki := hok L[i] (List.getElem_mem hlt)
        refine X_seqJ (fun σ => ∃ (r2 : List (List D)), σ = ⟨[slotOf σ 0, .ptr 0 0, slotOf σ 2, .slice .imm (if (L.map dFt).isEmpty = true then 0 else 4) (L.map dFt), .int .i64 i, slotOf σ 5, slotOf σ 6, slotOf σ 7, slotOf σ 8, slotOf σ 9, slotOf σ 10, slotOf σ 11, slotOf σ 12, slotOf σ 13, slotOf σ 14, slotOf σ 15, slotOf σ 16, slotOf σ 17, slotOf σ 18, slotOf σ 19, slotOf σ 20, slotOf σ 21, slotOf σ 22, slotOf σ 23, slotOf σ 24, slotOf σ 25, slotOf σ 26, slotOf σ 27, slotOf σ 28, slotOf σ 29, slotOf σ 30, slotOf σ 31, slotOf σ 32, slotOf σ 33, slotOf σ 34, slotOf σ 35, slotOf σ 36, slotOf σ 37, slotOf σ 38, slotOf σ 39, slotOf σ 40, slotOf σ 41, slotOf σ 42, slotOf σ 43, slotOf σ 44, slotOf σ 45, slotOf σ 46, slotOf σ 47, slotOf σ 48, slotOf σ 49, slotOf σ 50, slotOf σ 51, slotOf σ 52, slotOf σ 53, slotOf σ 54, slotOf σ 55, slotOf σ 56, slotOf σ 57, slotOf σ 58, slotOf σ 59, slotOf σ 60, slotOf σ 61, slotOf σ 62, slotOf σ 63, slotOf σ 64, slotOf σ 65, slotOf σ 66, slotOf σ 67, slotOf σ 68, slotOf σ 69, slotOf σ 70, slotOf σ 71, slotOf σ 72, slotOf σ 73, slotOf σ 74, slotOf σ 75, slotOf σ 76, slotOf σ 77, slotOf σ 78, slotOf σ 79, slotOf σ 80, slotOf σ 81, slotOf σ 82, slotOf σ 83, slotOf σ 84, slotOf σ 85, slotOf σ 86, slotOf σ 87, slotOf σ 88, slotOf σ 89, slotOf σ 90, slotOf σ 91, slotOf σ 92, slotOf σ 93, slotOf σ 94, slotOf σ 95, slotOf σ 96, slotOf σ 97, slotOf σ 98, slotOf σ 99, slotOf σ 100, slotOf σ 101, slotOf σ 102, slotOf σ 103, slotOf σ 104, slotOf σ 105, slotOf σ 106, slotOf σ 107, slotOf σ 108, slotOf σ 109, slotOf σ 110, slotOf σ 111, slotOf σ 112, slotOf σ 113, slotOf σ 114, slotOf σ 115, slotOf σ 116, slotOf σ 117, slotOf σ 118, slotOf σ 119, slotOf σ 120, slotOf σ 121, slotOf σ 122, slotOf σ 123, slotOf σ 124, slotOf σ 125, slotOf σ 126, slotOf σ 127, slotOf σ 128, slotOf σ 129, slotOf σ 130, slotOf σ 131, slotOf σ 132, slotOf σ 133, slotOf σ 134, slotOf σ 135, slotOf σ 136, slotOf σ 137, slotOf σ 138, slotOf σ 139, slotOf σ 140, slotOf σ 141, slotOf σ 142, slotOf σ 143, slotOf σ 144, slotOf σ 145, slotOf σ 146, slotOf σ 147, slotOf σ 148, slotOf σ 149, slotOf σ 150, slotOf σ 151, slotOf σ 152, slotOf σ 153, slotOf σ 154, slotOf σ 155, slotOf σ 156, slotOf σ 157, slotOf σ 158, slotOf σ 159, slotOf σ 160, slotOf σ 161], [.slice .imm (if (p.vars.map dV).isEmpty = true then 0 else 3) (p.vars.map dV), .slice .imm (if (p.procs.map dP).isEmpty = true then 0 else 6) (p.procs.map dP), .int .u8 p.main.kind, .int .i64 p.main.num, .str p.main.name, .slice .imm (if (p.main.kids.map dN).isEmpty = true then 0 else 4) (p.main.kids.map dN)] :: r2, 0, []⟩ ∧ i < L.length) ?_ ?_
        · skip
          refine X_seq ?_
          refine X_rg fun R hR => ?_
          simp only [EVP, inr_i64, Int.reduceLE, Int.reduceNeg, nat_lt, nat_0, nat_to, aops, astep, awant, aeff, aop, abin, aint, ev, ofValue, St.put, ia_int, cl_int, List.getElem?_cons_succ, List.getElem?_cons_zero, Option.getD_some, Option.map_some, if_true, List.set_cons_succ, List.set_cons_zero, List.length_map, List.length_cons, List.length_nil, List.drop_zero, List.take_succ_cons, List.take_zero, Nat.reduceAdd, Nat.reduceLeDiff, Nat.zero_add, Bool.false_eq_true, if_false, and_self, reduceCtorEq, Option.isSome_some, ty_int, ty_scope_Fault, und_scope_Fault, siz_scope_Fault, inf_scope_Fault_eq, hlt, h1, e1]
          with_reducible refine hR _ ?_
          clear hR R
          show X _ _ _ _
          refine X_ite (by simp only [ev, List.getElem?_cons_succ, List.getElem?_cons_zero, Option.getD_some]; exact rfl) ?_ ?_
          · intro b6
            have c6 := b6
            try simp only [decide_eq_true_eq, ge_iff_le] at c6
            refine X_seq ?_
            refine X_rg fun R hR => ?_
            simp only [EVP, app_get0, app_set0, aops, astep, awant, aeff, aop, mkD, astore, ev, St.put, List.getElem?_cons_succ, List.getElem?_cons_zero, Option.getD_some, Option.map_some, Option.bind_some, if_true, List.set_cons_succ, List.set_cons_zero, List.length_cons, List.length_nil, List.drop_succ_cons, List.drop_zero, List.take_succ_cons, List.take_zero, List.cons_append, List.nil_append, Nat.reduceAdd, Nat.reduceLeDiff, Nat.zero_add, if_false, and_self, reduceCtorEq, decide_true, ty_api_Node, ty_api_Program, dN_agg, dN_cells, dN_good, sl, c6]
            with_reducible refine hR _ ?_
            clear hR R
            show X _ _ _ _
            refine X_seq ?_
            refine X_seq ?_
            refine X_rg fun R hR => ?_
            simp only [EVP, nat_lt, nat_0, nat_to, aops, astep, awant, aeff, aop, abin, aint, mkD, ev, St.put, ia_int, cl_int, ia_slice, List.getElem?_cons_succ, List.getElem?_cons_zero, Option.getD_some, Option.map_some, if_true, List.set_cons_succ, List.set_cons_zero, List.length_map, List.length_cons, List.length_nil, List.drop_succ_cons, List.drop_zero, List.take_succ_cons, List.take_zero, Nat.reduceAdd, Nat.reduceLeDiff, Nat.zero_add, Bool.false_eq_true, if_false, and_self, reduceCtorEq, Option.isSome_some, ty_int, ty_s_api_Proc, ty_api_Program, und_api_Proc, ty_scope_Fault, und_scope_Fault, siz_scope_Fault, inf_scope_Fault_eq, hlt, h1, e1]
            with_reducible refine hR _ ?_
            clear hR R
            show X _ _ _ _
            refine X_ite (by simp only [ev, List.getElem?_cons_succ, List.getElem?_cons_zero, Option.getD_some]; exact rfl) ?_ ?_
            · intro b7
              have c7 := b7
              try simp only [decide_eq_true_eq] at c7
              have hpl : L[i].proc.toNat < p.procs.length := by omega
              have hn6 : ((if (p.procs.map dP).isEmpty = true then 0 else 6) = 6) = True := eq_true (sl_n (j := L[i].proc.toNat) (by simpa using hpl))
              have e6 : (p.procs.map dP)[L[i].proc.toNat]? = some (dP p.procs[L[i].proc.toNat]) := by simp [hpl]
              refine X_rg fun R hR => ?_
              simp only [EVP, app_get0, app_set0, nat_lt, nat_0, nat_to, aops, astep, awant, aeff, aop, mkD, astore, ev, St.put, ia_int, cl_int, ia_slice, List.getElem?_cons_succ, List.getElem?_cons_zero, Option.getD_some, Option.map_some, if_true, List.set_cons_succ, List.set_cons_zero, List.length_map, List.length_cons, List.length_nil, List.drop_succ_cons, List.drop_zero, List.take_succ_cons, List.take_zero, List.cons_append, List.nil_append, Nat.reduceAdd, Nat.reduceLeDiff, Nat.zero_add, Bool.false_eq_true, if_false, and_self, reduceCtorEq, decide_true, Option.isSome_some, ty_int, ty_s_api_Proc, ty_api_Node, ty_api_Proc, ty_api_Program, und_api_Proc, siz_api_Proc, inf_api_Proc_eq, ty_scope_Fault, und_scope_Fault, siz_scope_Fault, inf_scope_Fault_eq, dN_agg, dN_cells, dN_isAgg, dN_good, sl, dP, c6, c7, hlt, h1, e1, hn6, e6]
              with_reducible refine hR _ ?_
              clear hR R
              show X _ _ _ _
              refine X_seq ?_
              have hbd : bodP p L[i].proc = p.procs[L[i].proc.toNat].body := by unfold bodP; rw [List.getElem?_eq_getElem hpl]
              obtain ⟨a1, a2⟩ := oki.at' (by omega)
              rw [hbd] at a1 a2
              have hat := at_fn (p.procs[L[i].proc.toNat].body) L[i].path (Nat.le_trans (q2 _ (List.getElem_mem hlt)) (by omega))
              simp only [sl] at hat
              have a3 : (0 : Int) < (L[i].path.length : Int) → (atT p.procs[L[i].proc.toNat].body L[i].path).1.name = L[i].name := fun h => a2 (by intro q; rw [q] at h; simp at h)
              refine X_rg fun R hR => ?_
              simp only [EVP, app_get0, app_get1, app_set1, nat_lt, nat_0, nat_to, aops, astep, awant, aeff, aop, mkD, astore, ev, St.put, pcall, ia_slice, cl_slice, List.map_cons, List.map_nil, List.getElem?_cons_succ, List.getElem?_cons_zero, Option.getD_some, Option.map_some, Option.bind_some, if_true, List.set_cons_succ, List.set_cons_zero, List.length_map, List.length_cons, List.length_nil, List.drop_succ_cons, List.drop_zero, List.take_succ_cons, List.take_zero, List.cons_append, List.nil_append, List.append_assoc, Nat.reduceAdd, Nat.reduceLeDiff, Nat.zero_add, Bool.false_eq_true, if_false, and_self, reduceCtorEq, Option.isSome_some, ty_s_int, ty_api_Node, ty_scope_Fault, und_scope_Fault, siz_scope_Fault, inf_scope_Fault_eq, any29, dN_agg, dN_cells, dN_good, sl, hlt, h1, e1, hat, a1, List.length_append]
              with_reducible refine hR _ ?_
              clear hR R
              show X _ _ _ _
              refine X_seq ?_
              refine X_y ?_
              refine Y_k 11 fun R hR => ?_
              simp only [EVP, inr_i64, Int.reduceLE, Int.reduceNeg, nat_lt, nat_0, nat_to, aops, astep, awant, aeff, aop, abin, aint, ev, ofValue, St.put, ia_slice, cl_slice, List.getElem?_cons_succ, List.getElem?_cons_zero, Option.getD_some, Option.map_some, Option.bind_some, if_true, List.set_cons_succ, List.set_cons_zero, List.length_map, List.length_cons, List.length_nil, List.drop_succ_cons, List.drop_zero, List.take_succ_cons, List.take_zero, Nat.reduceAdd, Nat.reduceLeDiff, Nat.zero_add, Bool.not_true, Bool.false_eq_true, if_false, and_self, reduceCtorEq, beq_self_eq_true, Option.isSome_some, ty_s_int, und_int, ty_scope_Fault, und_scope_Fault, siz_scope_Fault, inf_scope_Fault_eq, hlt, h1, e1]
              with_reducible refine hR _ ?_
              clear hR R
              simp only [List.drop_succ_cons, List.drop_zero]
              refine Y_if 111 (by simp only [ev, List.getElem?_cons_succ, List.getElem?_cons_zero, Option.getD_some]; exact rfl) ?_ ?_
              · intro b8
                have c8 := b8
                try simp only [decide_eq_true_eq, gt_iff_lt] at c8
                refine Y_end fun R hR => ?_
                simp only [EVP, app_get1, nat_lt, nat_0, nat_to, aops, astep, awant, aeff, aop, abin, astr, mkD, ev, ofValue, St.put, ia_str, cl_str, List.getElem?_cons_succ, List.getElem?_cons_zero, Option.getD_some, Option.map_some, Option.bind_some, if_true, List.set_cons_succ, List.set_cons_zero, List.length_map, List.length_cons, List.length_nil, List.drop_succ_cons, List.drop_zero, List.take_succ_cons, List.take_zero, Nat.reduceAdd, Nat.reduceLeDiff, Nat.zero_add, Bool.not_true, Bool.false_eq_true, if_false, and_self, reduceCtorEq, decide_true, beq_self_eq_true, Option.isSome_some, ty_string, ty_api_Node, ty_scope_Fault, und_scope_Fault, siz_scope_Fault, inf_scope_Fault_eq, c8, hlt, h1, e1, a3]
                with_reducible refine hR _ ?_
                clear hR R
                show X _ _ _ _
                refine X_false (by simp only [ev, List.getElem?_cons_succ, List.getElem?_cons_zero, Option.getD_some]) ?_
                refine X_skip ?_
                exact ⟨_, rfl, hlt⟩
              · intro b9
                have c9 := b9
                try simp only [decide_eq_false_iff_not, Int.not_lt, gt_iff_lt] at c9
                refine Y_end fun R hR => ?_
                simp only [EVP, aops, astep, awant, aeff, aop, abin, ev, ofValue, St.put, List.getElem?_cons_succ, List.getElem?_cons_zero, Option.getD_some, Option.map_some, Option.map_none, Option.bind_some, if_true, List.set_cons_succ, List.set_cons_zero, Nat.zero_add, Bool.false_eq_true, if_false, reduceCtorEq, beq_self_eq_true, bq_ft, ty_string, ty_api_Node, ty_scope_Fault, und_scope_Fault, b9]
                with_reducible refine hR _ ?_
                clear hR R
                show X _ _ _ _
                refine X_false (by simp only [ev, List.getElem?_cons_succ, List.getElem?_cons_zero, Option.getD_some]) ?_
                refine X_skip ?_
                exact ⟨_, rfl, hlt⟩
            · intro b10
              have c10 := b10
              try simp only [decide_eq_false_iff_not, Int.not_lt] at c10
              refine X_skip ?_
              show X _ _ _ _
              refine X_seq ?_
              have hbd : bodP p L[i].proc = p.main := by unfold bodP; rw [List.getElem?_eq_none (by omega)]
              obtain ⟨a1, a2⟩ := oki.at' (by omega)
              rw [hbd] at a1 a2
              have hat := at_fn (p.main) L[i].path (Nat.le_trans (q2 _ (List.getElem_mem hlt)) (by omega))
              simp only [sl] at hat
              have a3 : (0 : Int) < (L[i].path.length : Int) → (atT p.main L[i].path).1.name = L[i].name := fun h => a2 (by intro q; rw [q] at h; simp at h)
              refine X_rg fun R hR => ?_
              simp only [EVP, app_get0, app_get1, app_set1, nat_lt, nat_0, nat_to, aops, astep, awant, aeff, aop, mkD, astore, ev, St.put, pcall, ia_slice, cl_slice, List.map_cons, List.map_nil, List.getElem?_cons_succ, List.getElem?_cons_zero, Option.getD_some, Option.map_some, Option.bind_some, if_true, List.set_cons_succ, List.set_cons_zero, List.length_map, List.length_cons, List.length_nil, List.drop_succ_cons, List.drop_zero, List.take_succ_cons, List.take_zero, List.cons_append, List.nil_append, List.append_assoc, Nat.reduceAdd, Nat.reduceLeDiff, Nat.zero_add, Bool.false_eq_true, if_false, and_self, reduceCtorEq, Option.isSome_some, ty_s_int, ty_api_Node, ty_scope_Fault, und_scope_Fault, siz_scope_Fault, inf_scope_Fault_eq, any29, dN_agg, dN_cells, dN_good, sl, b10, hlt, h1, e1, hat, a1, List.length_append]
              with_reducible refine hR _ ?_
              clear hR R
              show X _ _ _ _
              refine X_seq ?_
              refine X_y ?_
              refine Y_k 11 fun R hR => ?_
              simp only [EVP, inr_i64, Int.reduceLE, Int.reduceNeg, nat_lt, nat_0, nat_to, aops, astep, awant, aeff, aop, abin, aint, ev, ofValue, St.put, ia_slice, cl_slice, List.getElem?_cons_succ, List.getElem?_cons_zero, Option.getD_some, Option.map_some, Option.bind_some, if_true, List.set_cons_succ, List.set_cons_zero, List.length_map, List.length_cons, List.length_nil, List.drop_succ_cons, List.drop_zero, List.take_succ_cons, List.take_zero, Nat.reduceAdd, Nat.reduceLeDiff, Nat.zero_add, Bool.not_true, Bool.false_eq_true, if_false, and_self, reduceCtorEq, beq_self_eq_true, Option.isSome_some, ty_s_int, und_int, ty_scope_Fault, und_scope_Fault, siz_scope_Fault, inf_scope_Fault_eq, hlt, h1, e1]
              with_reducible refine hR _ ?_
              clear hR R
              simp only [List.drop_succ_cons, List.drop_zero]
              refine Y_if 111 (by simp only [ev, List.getElem?_cons_succ, List.getElem?_cons_zero, Option.getD_some]; exact rfl) ?_ ?_
              · intro b11
                have c11 := b11
                try simp only [decide_eq_true_eq, gt_iff_lt] at c11
                refine Y_end fun R hR => ?_
                simp only [EVP, app_get1, nat_lt, nat_0, nat_to, aops, astep, awant, aeff, aop, abin, astr, mkD, ev, ofValue, St.put, ia_str, cl_str, List.getElem?_cons_succ, List.getElem?_cons_zero, Option.getD_some, Option.map_some, Option.bind_some, if_true, List.set_cons_succ, List.set_cons_zero, List.length_map, List.length_cons, List.length_nil, List.drop_succ_cons, List.drop_zero, List.take_succ_cons, List.take_zero, Nat.reduceAdd, Nat.reduceLeDiff, Nat.zero_add, Bool.not_true, Bool.false_eq_true, if_false, and_self, reduceCtorEq, decide_true, beq_self_eq_true, Option.isSome_some, ty_string, ty_api_Node, ty_scope_Fault, und_scope_Fault, siz_scope_Fault, inf_scope_Fault_eq, c11, hlt, h1, e1, a3]
                with_reducible refine hR _ ?_
                clear hR R
                show X _ _ _ _
                refine X_false (by simp only [ev, List.getElem?_cons_succ, List.getElem?_cons_zero, Option.getD_some]) ?_
                refine X_skip ?_
                exact ⟨_, rfl, hlt⟩
              · intro b12
                have c12 := b12
                try simp only [decide_eq_false_iff_not, Int.not_lt, gt_iff_lt] at c12
                refine Y_end fun R hR => ?_
                simp only [EVP, aops, astep, awant, aeff, aop, abin, ev, ofValue, St.put, List.getElem?_cons_succ, List.getElem?_cons_zero, Option.getD_some, Option.map_some, Option.map_none, Option.bind_some, if_true, List.set_cons_succ, List.set_cons_zero, Nat.zero_add, Bool.false_eq_true, if_false, reduceCtorEq, beq_self_eq_true, bq_ft, ty_string, ty_api_Node, ty_scope_Fault, und_scope_Fault, b12]
                with_reducible refine hR _ ?_
                clear hR R
                show X _ _ _ _
                refine X_false (by simp only [ev, List.getElem?_cons_succ, List.getElem?_cons_zero, Option.getD_some]) ?_
                refine X_skip ?_
                exact ⟨_, rfl, hlt⟩
          · intro b13
            have c13 := b13
            try simp only [decide_eq_false_iff_not, Int.not_le, ge_iff_le] at c13
            refine X_skip ?_
            exact ⟨_, rfl, hlt⟩
        · skip
          rintro σ ⟨r2, hσ, hlt⟩
          generalize slotOf σ = x at hσ
          subst hσ
          have h1 := hn4 i hlt
          have e1 : (L.map dFt)[i]? = some (.agg [.int .i64 L[i].proc, .slice .imm (if (L[i].path.map dI).isEmpty = true then 0 else 1) (L[i].path.map dI), .int .i64 L[i].err, .str L[i].name]) := by rw [List.getElem?_map, List.getElem?_eq_getElem hlt]; rfl
          have oki := hok L[i] (List.getElem_mem hlt)
          have hlo : (L[i].proc < -1) = False := eq_false (by have := oki.lo; omega)
          have hhi : (L[i].proc > (p.procs.length : Int)) = False := eq_false (by have := oki.hi; omega)
          have herr : (L[i].err == 0) = false := by rw [beq_eq_false_iff_ne]; exact oki.err
          have hs2 : (0 : Int) < (i : Int) → IntKind.i64.wrap ((i : Int) - 1) = ((i - 1 : Nat) : Int) := fun h => by rw [sub1o (by omega)]; omega
          have e2 : (0 : Int) < (i : Int) → (L.map dFt)[i - 1]? = some (.agg [.int .i64 L[i - 1].proc, .slice .imm (if (L[i - 1].path.map dI).isEmpty = true then 0 else 1) (L[i - 1].path.map dI), .int .i64 L[i - 1].err, .str L[i - 1].name]) := fun h => by rw [List.getElem?_map, List.getElem?_eq_getElem (show i - 1 < L.length by omega)]; rfl
          have hl2 : (0 : Int) < (i : Int) → (i - 1 < L.length) = True := fun h => eq_true (by omega)
          have hrr : (0 : Int) < (i : Int) → Rr L[i - 1] L[i] := fun h => (List.pairwise_iff_getElem.1 hpw) (i - 1) i (by omega) hlt (by omega)
          have hmo : (0 : Int) < (i : Int) → (L[i].proc < L[i - 1].proc) = False := fun h => eq_false (by rcases hrr h with q | ⟨q, _⟩ <;> omega)
          refine X_seq ?_
          have hls : (0 : Int) < (i : Int) → fn EV 30 [sl 1 (L[i - 1].path.map dI), sl 1 (L[i].path.map dI)] = some (.bool (lessB L[i - 1].path L[i].path)) := fun h => less_fn _ _ (Nat.le_trans (q2 _ (List.getElem_mem _)) (by omega))
          simp only [sl] at hls
          have hl3 : (0 : Int) < (i : Int) → L[i].proc = L[i - 1].proc → (0 : Int) < (L[i].path.length : Int) → lessB L[i - 1].path L[i].path = true := fun h h' h'' => by
            rcases hrr h with q | ⟨_, q | q⟩
            · omega
            · rw [q] at h''; simp at h''
            · exact q
          refine X_y ?_
          refine Y_k 3 fun R hR => ?_
          simp only [EVP, inr_i64, Int.reduceLE, Int.reduceNeg, aops, astep, awant, aeff, aop, abin, aint, ev, ofValue, St.put, List.getElem?_cons_succ, List.getElem?_cons_zero, Option.getD_some, Option.map_some, if_true, List.set_cons_succ, List.set_cons_zero, List.take_succ_cons, List.take_zero, and_self]
          with_reducible refine hR _ ?_
          clear hR R
          simp only [List.drop_succ_cons, List.drop_zero]
          refine Y_if 124 (by simp only [ev, List.getElem?_cons_succ, List.getElem?_cons_zero, Option.getD_some]; exact rfl) ?_ ?_
          · intro b14
            have c14 := b14
            try simp only [decide_eq_true_eq, gt_iff_lt] at c14
            refine Y_k 14 fun R hR => ?_
            simp only [EVP, inr_i64, Int.reduceLE, Int.reduceNeg, nat_lt, nat_0, nat_to, aops, astep, awant, aeff, aop, abin, aint, ev, ofValue, St.put, ia_int, cl_int, List.getElem?_cons_succ, List.getElem?_cons_zero, Option.getD_some, Option.map_some, Option.bind_some, if_true, List.set_cons_succ, List.set_cons_zero, List.length_map, List.length_cons, List.length_nil, List.drop_zero, List.take_succ_cons, List.take_zero, Nat.reduceAdd, Nat.reduceLeDiff, Nat.zero_add, Bool.false_eq_true, if_false, and_self, reduceCtorEq, decide_true, beq_self_eq_true, Option.isSome_some, ty_int, ty_scope_Fault, und_scope_Fault, siz_scope_Fault, inf_scope_Fault_eq, c14, hlt, h1, e1, hs2, e2, hl2]
            with_reducible refine hR _ ?_
            clear hR R
            simp only [List.drop_succ_cons, List.drop_zero]
            refine Y_if 138 (by simp only [ev, List.getElem?_cons_succ, List.getElem?_cons_zero, Option.getD_some]; exact rfl) ?_ ?_
            · intro b15
              have c15 := b15
              try simp only [beq_iff_eq] at c15
              refine Y_k 9 fun R hR => ?_
              simp only [EVP, inr_i64, Int.reduceLE, Int.reduceNeg, nat_lt, nat_0, nat_to, aops, astep, awant, aeff, aop, abin, aint, ev, ofValue, St.put, ia_slice, cl_slice, List.getElem?_cons_succ, List.getElem?_cons_zero, Option.getD_some, Option.map_some, Option.bind_some, if_true, List.set_cons_succ, List.set_cons_zero, List.length_map, List.length_cons, List.length_nil, List.drop_succ_cons, List.drop_zero, List.take_succ_cons, List.take_zero, Nat.reduceAdd, Nat.reduceLeDiff, Nat.zero_add, Bool.false_eq_true, if_false, and_self, reduceCtorEq, beq_self_eq_true, Option.isSome_some, ty_s_int, und_int, ty_scope_Fault, und_scope_Fault, siz_scope_Fault, inf_scope_Fault_eq, c15, hlt, h1, e1]
              with_reducible refine hR _ ?_
              clear hR R
              simp only [List.drop_succ_cons, List.drop_zero]
              refine Y_if 147 (by simp only [ev, List.getElem?_cons_succ, List.getElem?_cons_zero, Option.getD_some]; exact rfl) ?_ ?_
              · intro b16
                have c16 := b16
                try simp only [decide_eq_true_eq, gt_iff_lt] at c16
                refine Y_end fun R hR => ?_
                simp only [EVP, inr_i64, Int.reduceLE, Int.reduceNeg, nat_lt, nat_0, nat_to, aops, astep, awant, aeff, aop, abin, aint, ev, ofValue, St.put, pcall, ia_slice, cl_slice, List.map_cons, List.map_nil, List.getElem?_cons_succ, List.getElem?_cons_zero, Option.getD_some, Option.map_some, Option.bind_some, if_true, List.set_cons_succ, List.set_cons_zero, List.length_map, List.length_cons, List.length_nil, List.drop_succ_cons, List.drop_zero, List.take_succ_cons, List.take_zero, List.cons_append, List.nil_append, Nat.reduceAdd, Nat.reduceLeDiff, Nat.zero_add, Bool.not_true, Bool.false_eq_true, if_false, and_self, reduceCtorEq, decide_true, beq_self_eq_true, Option.isSome_some, ty_s_int, ty_scope_Fault, und_scope_Fault, siz_scope_Fault, inf_scope_Fault_eq, any30, c14, c15, c16, hlt, h1, e1, hs2, e2, hl2, hls, hl3]
                with_reducible refine hR _ ?_
                clear hR R
                show X _ _ _ _
                refine X_false (by simp only [ev, List.getElem?_cons_succ, List.getElem?_cons_zero, Option.getD_some]) ?_
                refine X_skip ?_
                show X _ _ _ _
                have hbig : i < 9223372036854775807 := by omega
                refine X_rg fun R hR => ?_
                simp only [inr_i64, Int.reduceLE, Int.reduceNeg, aops, astep, awant, aeff, aop, abin, aint, ev, ofValue, St.put, List.getElem?_cons_succ, List.getElem?_cons_zero, Option.getD_some, Option.map_some, if_true, List.set_cons_succ, List.set_cons_zero, and_self, nat_succ hbig]
                with_reducible refine hR _ ?_
                clear hR R
                show ∃ m, m < _ ∧ _
                exact ⟨L.length - (i + 1), by omega, i + 1, _, rfl, rfl, by omega⟩
              · intro b17
                have c17 := b17
                try simp only [decide_eq_false_iff_not, Int.not_lt, gt_iff_lt] at c17
                refine Y_end fun R hR => ?_
                simp only [EVP, inr_i64, Int.reduceLE, Int.reduceNeg, aops, astep, awant, aeff, aop, abin, ev, ofValue, St.put, pcall, List.map_cons, List.map_nil, List.getElem?_cons_succ, List.getElem?_cons_zero, Option.getD_some, Option.map_some, Option.map_none, Option.bind_some, if_true, List.set_cons_succ, List.set_cons_zero, List.cons_append, List.nil_append, Bool.false_eq_true, if_false, and_self, reduceCtorEq, bq_ft, ty_s_int, ty_scope_Fault, und_scope_Fault, any30, b17]
                with_reducible refine hR _ ?_
                clear hR R
                show X _ _ _ _
                refine X_false (by simp only [ev, List.getElem?_cons_succ, List.getElem?_cons_zero, Option.getD_some]) ?_
                refine X_skip ?_
                show X _ _ _ _
                have hbig : i < 9223372036854775807 := by omega
                refine X_rg fun R hR => ?_
                simp only [inr_i64, Int.reduceLE, Int.reduceNeg, aops, astep, awant, aeff, aop, abin, aint, ev, ofValue, St.put, List.getElem?_cons_succ, List.getElem?_cons_zero, Option.getD_some, Option.map_some, if_true, List.set_cons_succ, List.set_cons_zero, and_self, nat_succ hbig]
                with_reducible refine hR _ ?_
                clear hR R
                show ∃ m, m < _ ∧ _
                exact ⟨L.length - (i + 1), by omega, i + 1, _, rfl, rfl, by omega⟩
            · intro b18
              have c18 := b18
              try simp only [ne_eq, beq_eq_false_iff_ne] at c18
              refine Y_end fun R hR => ?_
              simp only [EVP, inr_i64, Int.reduceLE, Int.reduceNeg, aops, astep, awant, aeff, aop, abin, ev, ofValue, St.put, pcall, List.map_cons, List.map_nil, List.getElem?_cons_succ, List.getElem?_cons_zero, Option.getD_some, Option.map_some, Option.map_none, Option.bind_some, if_true, List.set_cons_succ, List.set_cons_zero, List.cons_append, List.nil_append, Bool.false_eq_true, if_false, and_self, reduceCtorEq, bq_ft, ty_s_int, und_int, ty_scope_Fault, und_scope_Fault, any30, b18]
              with_reducible refine hR _ ?_
              clear hR R
              show X _ _ _ _
              refine X_false (by simp only [ev, List.getElem?_cons_succ, List.getElem?_cons_zero, Option.getD_some]) ?_
              refine X_skip ?_
              show X _ _ _ _
              have hbig : i < 9223372036854775807 := by omega
              refine X_rg fun R hR => ?_
              simp only [inr_i64, Int.reduceLE, Int.reduceNeg, aops, astep, awant, aeff, aop, abin, aint, ev, ofValue, St.put, List.getElem?_cons_succ, List.getElem?_cons_zero, Option.getD_some, Option.map_some, if_true, List.set_cons_succ, List.set_cons_zero, and_self, nat_succ hbig]
              with_reducible refine hR _ ?_
              clear hR R
              show ∃ m, m < _ ∧ _
              exact ⟨L.length - (i + 1), by omega, i + 1, _, rfl, rfl, by omega⟩
          · intro b19
            have c19 := b19
            try simp only [decide_eq_false_iff_not, Int.not_lt, gt_iff_lt] at c19
            refine Y_end fun R hR => ?_
            simp only [EVP, inr_i64, Int.reduceLE, Int.reduceNeg, aops, astep, awant, aeff, aop, abin, ev, ofValue, St.put, pcall, List.map_cons, List.map_nil, List.getElem?_cons_succ, List.getElem?_cons_zero, Option.getD_some, Option.map_some, Option.map_none, Option.bind_some, if_true, List.set_cons_succ, List.set_cons_zero, List.cons_append, List.nil_append, Bool.false_eq_true, if_false, and_self, reduceCtorEq, bq_ft, ty_int, ty_s_int, und_int, ty_scope_Fault, und_scope_Fault, any30, b19]
            with_reducible refine hR _ ?_
            clear hR R
            show X _ _ _ _
            refine X_false (by simp only [ev, List.getElem?_cons_succ, List.getElem?_cons_zero, Option.getD_some]) ?_
            refine X_skip ?_
            show X _ _ _ _
            have hbig : i < 9223372036854775807 := by omega
            refine X_rg fun R hR => ?_
            simp only [inr_i64, Int.reduceLE, Int.reduceNeg, aops, astep, awant, aeff, aop, abin, aint, ev, ofValue, St.put, List.getElem?_cons_succ, List.getElem?_cons_zero, Option.getD_some, Option.map_some, if_true, List.set_cons_succ, List.set_cons_zero, and_self, nat_succ hbig]
            with_reducible refine hR _ ?_
            clear hR R
            show ∃ m, m < _ ∧ _
            exact ⟨L.length - (i + 1), by omega, i + 1, _, rfl, rfl, by omega⟩
    · intro b20
      have c20 := b20
      try simp only [decide_eq_false_iff_not] at c20
      refine X_exit ?_
      show X _ _ _ _
      refine X_seq ?_
      refine X_rg fun R hR => ?_
      simp only [aops, astep, awant, aeff, aop, ev, ofValue, St.put, Option.getD_some, Option.map_some, if_true, List.set_cons_succ, List.set_cons_zero, decide_false, c20]
      with_reducible refine hR _ ?_
      clear hR R
      show X _ _ _ _
      refine X_ret ?_
      show resD _ _ _ = some _
      simp only [resD, resAll, resOne, resTup, Try.results8, EVP, List.getElem?_cons_succ, List.getElem?_cons_zero, D.good, if_true, Option.map_some] <;> (first | (rfl; done) | (simp_all; done) | (exfalso; simp_all; done) | (trace_state; fail))

end Go.Proofs.Ytjikokmhknnnoaa
