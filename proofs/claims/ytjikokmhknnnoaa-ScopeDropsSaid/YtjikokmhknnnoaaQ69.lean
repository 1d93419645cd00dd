/- The law ScopeDrops: its walk. -/
import Derived.Test.YtjikokmhknnnoaaDr
import Derived.Test.YtjikokmhknnnoaaQ68
namespace Go.Proofs.Ytjikokmhknnnoaa
open Go.RowKit

theorem one_eq (b : Bool) : ((if b = true then (1 : Int) else 0) == 1) = b := by cases b <;> rfl
theorem any_no {α : Type} {p : α → Bool} {l : List α} {i : Nat} (h : i < l.length) (h1 : (l.take i).any p = false) (h2 : p l[i] = false) : (l.take (i + 1)).any p = false := by
  rw [List.take_succ_eq_append_getElem h, List.any_append, h1]; simp [h2]
theorem any_yes {α : Type} {p : α → Bool} {l : List α} {i : Nat} (h : i < l.length) (h2 : p l[i] = true) : l.any p = true := List.any_eq_true.2 ⟨_, List.getElem_mem h, h2⟩
theorem decl_loc (t : Tr) (s : ByteArray) : ((declV t).2 && (declV t).1.name.toList == s.toList) = ((t.kind == 54 || t.kind == 55) && t.name.toList == s.toList) := by
  unfold declV
  by_cases h : t.kind = 54
  · simp [h]
  · by_cases h2 : t.kind = 55
    · simp [h2]
    · simp [h, h2]
def hitB (p : Pg) (s : ByteArray) (f : Ft) : Bool := f.proc == (p.procs.length : Int) && f.err == 6 && f.name.toList == s.toList && (atT p.main f.path).2 && !((atT p.main f.path).1.kind == 50) && !((atT p.main f.path).1.kind == 51)
set_option maxRecDepth 100000 in
set_option maxHeartbeats 4000000 in
theorem locals_fn (s : ByteArray) : ∀ (N : Nat) (t : Tr), t.size ≤ N → N ≤ 1000000 → fn EV 31 [dN t, .str s] = some (.int .i64 (if localsB s t = true then 1 else 0)) := by
  intro N
  induction N with
  | zero => intro t h; cases t; simp only [Tr.size] at h; omega
  | succ N IH =>
  intro t hN hM
  have ih := fun (c : Tr) (hc : c.size < t.size) => IH c (by omega) (by omega)
  clear IH
  refine fn_X rfl Try.func31 rfl (by simp only [plain, List.all_cons, List.all_nil, str_pl, dN_pl, Bool.and_true]) rfl rfl rfl ?_
  simp only [List.map_cons, List.map_nil, D.strip, dN_strip]
  simp only [enterSt, Try.ntmps31, List.length_cons, List.length_nil, Nat.reduceAdd, Nat.reduceSub, List.replicate_succ, List.replicate_zero, List.cons_append, List.nil_append]
  refine X_seq ?_
  refine X_rg fun R hR => ?_
  simp only [inr_i64, Int.reduceLE, Int.reduceNeg, aops, astep, awant, aeff, aop, ev, ofValue, St.put, List.getElem?_cons_zero, Option.getD_some, Option.map_some, if_true, List.set_cons_succ, List.set_cons_zero, List.length_nil, List.nil_append, and_self, dN_cells, dN_good, sl]
  with_reducible refine hR _ ?_
  clear hR R
  show X _ _ _ _
  refine X_seq ?_
  refine X_seq ?_
  have hde := declared6_fn t
  refine X_rg fun R hR => ?_
  simp only [EVP, aops, astep, awant, aeff, aop, mkD, astore, ev, St.put, pcall, List.map_cons, List.map_nil, List.getElem?_cons_succ, List.getElem?_cons_zero, Option.getD_some, Option.map_some, Option.bind_some, if_true, List.set_cons_succ, List.set_cons_zero, List.length_cons, List.length_nil, List.drop_succ_cons, List.drop_zero, List.take_succ_cons, List.take_zero, List.cons_append, List.nil_append, Nat.reduceAdd, Nat.reduceLeDiff, Nat.zero_add, and_self, ty_api_Node, ty_api_VarDecl, any53, dN_agg, dV_cells, dV_good, hde]
  with_reducible refine hR _ ?_
  clear hR R
  show X _ _ _ _
  refine X_seq ?_
  refine X_y ?_
  refine Y_k 2 fun R hR => ?_
  simp only [EVP, aops, astep, awant, aeff, aop, ev, St.put, List.getElem?_cons_succ, List.getElem?_cons_zero, Option.getD_some, Option.map_some, if_true, List.set_cons_succ, List.set_cons_zero, List.take_succ_cons, List.take_zero]
  with_reducible refine hR _ ?_
  clear hR R
  simp only [List.drop_succ_cons, List.drop_zero]
  refine Y_if 14 (by simp only [ev, List.getElem?_cons_succ, List.getElem?_cons_zero, Option.getD_some]; exact rfl) ?_ ?_
  · intro b1
    have c1 := b1
    try simp only [Bool.not_eq_true', Bool.not_eq_false', decide_eq_true_eq, decide_eq_false_iff_not, beq_iff_eq, Int.not_lt, Int.not_le, ge_iff_le, gt_iff_lt, bne_iff_ne, ne_eq, bne_eq_false_iff_eq, beq_eq_false_iff_ne, Bool.and_eq_true, Bool.or_eq_false_iff] at c1
    refine Y_end fun R hR => ?_
    simp only [EVP, aops, astep, awant, aeff, aop, abin, astr, mkD, ev, ofValue, St.put, ia_str, List.getElem?_cons_succ, List.getElem?_cons_zero, Option.getD_some, Option.map_some, Option.bind_some, if_true, List.set_cons_succ, List.set_cons_zero, List.length_cons, List.length_nil, List.drop_zero, List.take_succ_cons, List.take_zero, Nat.reduceAdd, Nat.reduceLeDiff, Nat.zero_add, Nat.add_zero, Bool.false_eq_true, if_false, reduceCtorEq, beq_self_eq_true, ty_string, ty_api_VarDecl, b1]
    with_reducible refine hR _ ?_
    clear hR R
    show X _ _ _ _
    refine X_ite (by simp only [ev, List.getElem?_cons_succ, List.getElem?_cons_zero, Option.getD_some]; exact rfl) ?_ ?_
    · intro b2
      have c2 := b2
      try simp only [beq_iff_eq] at c2
      refine X_seq ?_
      refine X_rg fun R hR => ?_
      simp only [inr_i64, Int.reduceLE, Int.reduceNeg, aops, astep, awant, aeff, aop, ev, ofValue, St.put, Option.getD_some, Option.map_some, if_true, List.set_cons_succ, List.set_cons_zero, and_self, b2]
      with_reducible refine hR _ ?_
      clear hR R
      show X _ _ _ _
      refine X_ret ?_
      show resD _ _ _ = some _
      simp only [resD, resAll, resOne, resTup, Try.results31, EVP, List.getElem?_cons_succ, List.getElem?_cons_zero, D.good, if_true, Option.map_some]
      have hh : localsB s t = true := by rw [localsB_eq, ← decl_loc]; first | (simp_all; done) | (simp [*]; done)
      rw [hh]; rfl
    · intro b3
      have c3 := b3
      try simp only [ne_eq, beq_eq_false_iff_ne] at c3
      refine X_skip ?_
      show X _ _ _ _
      refine X_seq ?_
      refine X_seq ?_
      refine X_rg fun R hR => ?_
      simp only [inr_i64, Int.reduceLE, Int.reduceNeg, aops, astep, awant, aeff, aop, ev, ofValue, St.put, Option.getD_some, Option.map_some, if_true, List.set_cons_succ, List.set_cons_zero, and_self, b3]
      with_reducible refine hR _ ?_
      clear hR R
      show X _ _ _ _
      refine X_block ?_
      have hown : ((t.kind == 54 || t.kind == 55) && t.name.toList == s.toList) = false := by rw [← decl_loc]; first | (simp_all; done) | (simp [*]; done)
      refine X_loop (fun m σ => ∃ (i : Nat) (r : List (List D)), σ = ⟨[slotOf σ 0, .str s, .ptr 0 0, slotOf σ 3, slotOf σ 4, slotOf σ 5, slotOf σ 6, .int .i64 i, slotOf σ 8, slotOf σ 9, slotOf σ 10, slotOf σ 11, slotOf σ 12, slotOf σ 13, slotOf σ 14, slotOf σ 15, slotOf σ 16, slotOf σ 17, slotOf σ 18, slotOf σ 19, slotOf σ 20, slotOf σ 21, slotOf σ 22, slotOf σ 23, slotOf σ 24, slotOf σ 25, slotOf σ 26, slotOf σ 27, slotOf σ 28, slotOf σ 29, slotOf σ 30, slotOf σ 31, slotOf σ 32, slotOf σ 33, slotOf σ 34], [.int .u8 t.kind, .int .i64 t.num, .str t.name, .slice .imm (if (t.kids.map dN).isEmpty = true then 0 else 4) (t.kids.map dN)] :: r, 0, []⟩ ∧ m = t.kids.length - i ∧ i ≤ t.kids.length ∧ Hid ((t.kids.take i).any (localsB s) = false)) ?_ (t.kids.length) _ ?_
      rotate_left
      · exact ⟨0, _, rfl, rfl, Nat.zero_le _, Lib.hid (by simp)⟩
      rintro m σ ⟨i, r, hσ, rfl, hi, hs⟩
      generalize slotOf σ = x at hσ
      subst hσ
      have hn4 : ∀ j, j < t.kids.length → ((if (t.kids.map dN).isEmpty = true then 0 else 4) = 4) = True := fun j h => eq_true (sl_n (j := j) (by simpa using h))
      refine X_seq ?_
      refine X_seq ?_
      refine X_rg fun R hR => ?_
      simp only [EVP, nat_lt, aops, astep, awant, aeff, aop, abin, aint, mkD, ev, St.put, ia_slice, List.getElem?_cons_succ, List.getElem?_cons_zero, Option.getD_some, Option.map_some, if_true, List.set_cons_succ, List.set_cons_zero, List.length_map, List.length_cons, List.length_nil, List.drop_succ_cons, List.drop_zero, List.take_succ_cons, List.take_zero, Nat.reduceAdd, Nat.reduceLeDiff, Nat.zero_add, Bool.false_eq_true, if_false, reduceCtorEq, ty_s_api_Node, ty_api_Node, und_api_Node]
      with_reducible refine hR _ ?_
      clear hR R
      show X _ _ _ _
      refine X_ite (by simp only [ev, List.getElem?_cons_succ, List.getElem?_cons_zero, Option.getD_some]; exact rfl) ?_ ?_
      · intro b4
        have c4 := b4
        try simp only [decide_eq_true_eq] at c4
        refine X_skip ?_
        show X _ _ _ _
        refine X_seq ?_
        refine X_block ?_
        refine X_seq ?_
        have hlt : i < t.kids.length := by first | assumption | omega
        have h1 := hn4 i hlt
        have e1 : (t.kids.map dN)[i]? = some (dN t.kids[i]) := by simp [hlt]
        have hih := ih t.kids[i] (Tr.size_kid hlt)
        refine X_rg fun R hR => ?_
        simp only [EVP, inr_i64, Int.reduceLE, Int.reduceNeg, nat_lt, nat_0, nat_to, aops, astep, awant, aeff, aop, abin, aint, mkD, ev, ofValue, St.put, pcall, ia_slice, List.map_cons, List.map_nil, List.getElem?_cons_succ, List.getElem?_cons_zero, Option.getD_some, Option.map_some, if_true, List.set_cons_succ, List.set_cons_zero, List.length_map, List.length_cons, List.length_nil, List.drop_succ_cons, List.drop_zero, List.take_succ_cons, List.take_zero, List.cons_append, List.nil_append, Nat.reduceAdd, Nat.reduceLeDiff, Nat.zero_add, Bool.false_eq_true, if_false, and_self, reduceCtorEq, decide_true, Option.isSome_some, ty_s_api_Node, ty_api_Node, und_api_Node, siz_api_Node, inf_api_Node_eq, any31, dN_cells, dN_isAgg, sl, hlt, h1, e1, hih, one_eq]
        with_reducible refine hR _ ?_
        clear hR R
        show X _ _ _ _
        refine X_ite (by simp only [ev, List.getElem?_cons_succ, List.getElem?_cons_zero, Option.getD_some]; exact rfl) ?_ ?_
        · intro b5
          have c5 := b5
          try simp only [Bool.not_eq_true', Bool.not_eq_false', decide_eq_true_eq, decide_eq_false_iff_not, beq_iff_eq, Int.not_lt, Int.not_le, ge_iff_le, gt_iff_lt, bne_iff_ne, ne_eq, bne_eq_false_iff_eq, beq_eq_false_iff_ne, Bool.and_eq_true, Bool.or_eq_false_iff] at c5
          refine X_seq ?_
          refine X_rg fun R hR => ?_
          simp only [inr_i64, Int.reduceLE, Int.reduceNeg, aops, astep, awant, aeff, aop, ev, ofValue, St.put, Option.getD_some, Option.map_some, if_true, List.set_cons_succ, List.set_cons_zero, and_self, b5]
          with_reducible refine hR _ ?_
          clear hR R
          show X _ _ _ _
          refine X_ret ?_
          show resD _ _ _ = some _
          simp only [resD, resAll, resOne, resTup, Try.results31, EVP, List.getElem?_cons_succ, List.getElem?_cons_zero, D.good, if_true, Option.map_some]
          have hh : localsB s t = true := by rw [localsB_eq, any_yes hlt (by first | assumption | (simp_all; done)), Bool.or_true]
          rw [hh]; rfl
        · intro b6
          have c6 := b6
          try simp only [Bool.not_eq_true', Bool.not_eq_false', decide_eq_true_eq, decide_eq_false_iff_not, beq_iff_eq, Int.not_lt, Int.not_le, ge_iff_le, gt_iff_lt, bne_iff_ne, ne_eq, bne_eq_false_iff_eq, beq_eq_false_iff_ne, Bool.and_eq_true, Bool.or_eq_false_iff] at c6
          refine X_skip ?_
          show X _ _ _ _
          have hbig : i < 9223372036854775807 := by have := Tr.length_kids t; omega
          refine X_rg fun R hR => ?_
          simp only [inr_i64, Int.reduceLE, Int.reduceNeg, aops, astep, awant, aeff, aop, abin, aint, ev, ofValue, St.put, List.getElem?_cons_succ, List.getElem?_cons_zero, Option.getD_some, Option.map_some, if_true, List.set_cons_succ, List.set_cons_zero, Bool.false_eq_true, if_false, and_self, b6, nat_succ hbig]
          with_reducible refine hR _ ?_
          clear hR R
          show ∃ m, m < _ ∧ _
          exact ⟨t.kids.length - (i + 1), by omega, i + 1, r, rfl, rfl, by omega, Lib.hid (any_no hlt hs.out (by first | assumption | (simp_all; done)))⟩
      · intro b7
        have c7 := b7
        try simp only [decide_eq_false_iff_not] at c7
        refine X_exit ?_
        show X _ _ _ _
        refine X_seq ?_
        refine X_rg fun R hR => ?_
        simp only [inr_i64, Int.reduceLE, Int.reduceNeg, aops, astep, awant, aeff, aop, ev, ofValue, St.put, Option.getD_some, Option.map_some, if_true, List.set_cons_succ, List.set_cons_zero, and_self, b7]
        with_reducible refine hR _ ?_
        clear hR R
        show X _ _ _ _
        refine X_ret ?_
        show resD _ _ _ = some _
        simp only [resD, resAll, resOne, resTup, Try.results31, EVP, List.getElem?_cons_succ, List.getElem?_cons_zero, D.good, if_true, Option.map_some]
        have hq := hs.out
        rw [List.take_of_length_le (by omega)] at hq
        have hh : localsB s t = false := by rw [localsB_eq, hq, hown]; rfl
        rw [hh]; rfl
  · intro b8
    have c8 := b8
    try simp only [Bool.not_eq_true', Bool.not_eq_false', decide_eq_true_eq, decide_eq_false_iff_not, beq_iff_eq, Int.not_lt, Int.not_le, ge_iff_le, gt_iff_lt, bne_iff_ne, ne_eq, bne_eq_false_iff_eq, beq_eq_false_iff_ne, Bool.and_eq_true, Bool.or_eq_false_iff] at c8
    refine Y_end fun R hR => ?_
    simp only [EVP, aops, astep, awant, aeff, aop, abin, ev, ofValue, St.put, List.getElem?_cons_succ, List.getElem?_cons_zero, Option.getD_some, Option.map_some, Option.map_none, Option.bind_some, if_true, List.set_cons_succ, List.set_cons_zero, Nat.add_zero, Bool.false_eq_true, if_false, reduceCtorEq, bq_ft, ty_string, ty_api_VarDecl, b8]
    with_reducible refine hR _ ?_
    clear hR R
    show X _ _ _ _
    refine X_false (by simp only [ev, List.getElem?_cons_succ, List.getElem?_cons_zero, Option.getD_some]) ?_
    refine X_skip ?_
    show X _ _ _ _
    refine X_seq ?_
    refine X_seq ?_
    refine X_rg fun R hR => ?_
    simp only [inr_i64, Int.reduceLE, Int.reduceNeg, aops, astep, awant, aeff, aop, ev, ofValue, St.put, Option.getD_some, Option.map_some, if_true, List.set_cons_succ, List.set_cons_zero, and_self]
    with_reducible refine hR _ ?_
    clear hR R
    show X _ _ _ _
    refine X_block ?_
    have hown : ((t.kind == 54 || t.kind == 55) && t.name.toList == s.toList) = false := by rw [← decl_loc]; first | (simp_all; done) | (simp [*]; done)
    refine X_loop (fun m σ => ∃ (i : Nat) (r : List (List D)), σ = ⟨[slotOf σ 0, .str s, .ptr 0 0, slotOf σ 3, slotOf σ 4, slotOf σ 5, slotOf σ 6, .int .i64 i, slotOf σ 8, slotOf σ 9, slotOf σ 10, slotOf σ 11, slotOf σ 12, slotOf σ 13, slotOf σ 14, slotOf σ 15, slotOf σ 16, slotOf σ 17, slotOf σ 18, slotOf σ 19, slotOf σ 20, slotOf σ 21, slotOf σ 22, slotOf σ 23, slotOf σ 24, slotOf σ 25, slotOf σ 26, slotOf σ 27, slotOf σ 28, slotOf σ 29, slotOf σ 30, slotOf σ 31, slotOf σ 32, slotOf σ 33, slotOf σ 34], [.int .u8 t.kind, .int .i64 t.num, .str t.name, .slice .imm (if (t.kids.map dN).isEmpty = true then 0 else 4) (t.kids.map dN)] :: r, 0, []⟩ ∧ m = t.kids.length - i ∧ i ≤ t.kids.length ∧ Hid ((t.kids.take i).any (localsB s) = false)) ?_ (t.kids.length) _ ?_
    rotate_left
    · exact ⟨0, _, rfl, rfl, Nat.zero_le _, Lib.hid (by simp)⟩
    rintro m σ ⟨i, r, hσ, rfl, hi, hs⟩
    generalize slotOf σ = x at hσ
    subst hσ
    have hn4 : ∀ j, j < t.kids.length → ((if (t.kids.map dN).isEmpty = true then 0 else 4) = 4) = True := fun j h => eq_true (sl_n (j := j) (by simpa using h))
    refine X_seq ?_
    refine X_seq ?_
    refine X_rg fun R hR => ?_
    simp only [EVP, nat_lt, aops, astep, awant, aeff, aop, abin, aint, mkD, ev, St.put, ia_slice, List.getElem?_cons_succ, List.getElem?_cons_zero, Option.getD_some, Option.map_some, if_true, List.set_cons_succ, List.set_cons_zero, List.length_map, List.length_cons, List.length_nil, List.drop_succ_cons, List.drop_zero, List.take_succ_cons, List.take_zero, Nat.reduceAdd, Nat.reduceLeDiff, Nat.zero_add, Bool.false_eq_true, if_false, reduceCtorEq, ty_s_api_Node, ty_api_Node, und_api_Node]
    with_reducible refine hR _ ?_
    clear hR R
    show X _ _ _ _
    refine X_ite (by simp only [ev, List.getElem?_cons_succ, List.getElem?_cons_zero, Option.getD_some]; exact rfl) ?_ ?_
    · intro b9
      have c9 := b9
      try simp only [decide_eq_true_eq] at c9
      refine X_skip ?_
      show X _ _ _ _
      refine X_seq ?_
      refine X_block ?_
      refine X_seq ?_
      have hlt : i < t.kids.length := by first | assumption | omega
      have h1 := hn4 i hlt
      have e1 : (t.kids.map dN)[i]? = some (dN t.kids[i]) := by simp [hlt]
      have hih := ih t.kids[i] (Tr.size_kid hlt)
      refine X_rg fun R hR => ?_
      simp only [EVP, inr_i64, Int.reduceLE, Int.reduceNeg, nat_lt, nat_0, nat_to, aops, astep, awant, aeff, aop, abin, aint, mkD, ev, ofValue, St.put, pcall, ia_slice, List.map_cons, List.map_nil, List.getElem?_cons_succ, List.getElem?_cons_zero, Option.getD_some, Option.map_some, if_true, List.set_cons_succ, List.set_cons_zero, List.length_map, List.length_cons, List.length_nil, List.drop_succ_cons, List.drop_zero, List.take_succ_cons, List.take_zero, List.cons_append, List.nil_append, Nat.reduceAdd, Nat.reduceLeDiff, Nat.zero_add, Bool.false_eq_true, if_false, and_self, reduceCtorEq, decide_true, Option.isSome_some, ty_s_api_Node, ty_api_Node, und_api_Node, siz_api_Node, inf_api_Node_eq, any31, dN_cells, dN_isAgg, sl, hlt, h1, e1, hih, one_eq]
      with_reducible refine hR _ ?_
      clear hR R
      show X _ _ _ _
      refine X_ite (by simp only [ev, List.getElem?_cons_succ, List.getElem?_cons_zero, Option.getD_some]; exact rfl) ?_ ?_
      · intro b10
        have c10 := b10
        try simp only [Bool.not_eq_true', Bool.not_eq_false', decide_eq_true_eq, decide_eq_false_iff_not, beq_iff_eq, Int.not_lt, Int.not_le, ge_iff_le, gt_iff_lt, bne_iff_ne, ne_eq, bne_eq_false_iff_eq, beq_eq_false_iff_ne, Bool.and_eq_true, Bool.or_eq_false_iff] at c10
        refine X_seq ?_
        refine X_rg fun R hR => ?_
        simp only [inr_i64, Int.reduceLE, Int.reduceNeg, aops, astep, awant, aeff, aop, ev, ofValue, St.put, Option.getD_some, Option.map_some, if_true, List.set_cons_succ, List.set_cons_zero, and_self, b10]
        with_reducible refine hR _ ?_
        clear hR R
        show X _ _ _ _
        refine X_ret ?_
        show resD _ _ _ = some _
        simp only [resD, resAll, resOne, resTup, Try.results31, EVP, List.getElem?_cons_succ, List.getElem?_cons_zero, D.good, if_true, Option.map_some]
        have hh : localsB s t = true := by rw [localsB_eq, any_yes hlt (by first | assumption | (simp_all; done)), Bool.or_true]
        rw [hh]; rfl
      · intro b11
        have c11 := b11
        try simp only [Bool.not_eq_true', Bool.not_eq_false', decide_eq_true_eq, decide_eq_false_iff_not, beq_iff_eq, Int.not_lt, Int.not_le, ge_iff_le, gt_iff_lt, bne_iff_ne, ne_eq, bne_eq_false_iff_eq, beq_eq_false_iff_ne, Bool.and_eq_true, Bool.or_eq_false_iff] at c11
        refine X_skip ?_
        show X _ _ _ _
        have hbig : i < 9223372036854775807 := by have := Tr.length_kids t; omega
        refine X_rg fun R hR => ?_
        simp only [inr_i64, Int.reduceLE, Int.reduceNeg, aops, astep, awant, aeff, aop, abin, aint, ev, ofValue, St.put, List.getElem?_cons_succ, List.getElem?_cons_zero, Option.getD_some, Option.map_some, if_true, List.set_cons_succ, List.set_cons_zero, Bool.false_eq_true, if_false, and_self, b11, nat_succ hbig]
        with_reducible refine hR _ ?_
        clear hR R
        show ∃ m, m < _ ∧ _
        exact ⟨t.kids.length - (i + 1), by omega, i + 1, r, rfl, rfl, by omega, Lib.hid (any_no hlt hs.out (by first | assumption | (simp_all; done)))⟩
    · intro b12
      have c12 := b12
      try simp only [decide_eq_false_iff_not] at c12
      refine X_exit ?_
      show X _ _ _ _
      refine X_seq ?_
      refine X_rg fun R hR => ?_
      simp only [inr_i64, Int.reduceLE, Int.reduceNeg, aops, astep, awant, aeff, aop, ev, ofValue, St.put, Option.getD_some, Option.map_some, if_true, List.set_cons_succ, List.set_cons_zero, and_self, b12]
      with_reducible refine hR _ ?_
      clear hR R
      show X _ _ _ _
      refine X_ret ?_
      show resD _ _ _ = some _
      simp only [resD, resAll, resOne, resTup, Try.results31, EVP, List.getElem?_cons_succ, List.getElem?_cons_zero, D.good, if_true, Option.map_some]
      have hq := hs.out
      rw [List.take_of_length_le (by omega)] at hq
      have hh : localsB s t = false := by rw [localsB_eq, hq, hown]; rfl
      rw [hh]; rfl
set_option maxRecDepth 100000 in
set_option maxHeartbeats 4000000 in
theorem ment_fn (s : ByteArray) : ∀ (N : Nat) (t : Tr), t.size ≤ N → N ≤ 1000000 → fn EV 22 [dN t, .str s] = some (.bool (mentB s t)) := by
  intro N
  induction N with
  | zero => intro t h; cases t; simp only [Tr.size] at h; omega
  | succ N IH =>
  intro t hN hM
  have ih := fun (c : Tr) (hc : c.size < t.size) => IH c (by omega) (by omega)
  clear IH
  refine fn_X rfl Try.func22 rfl (by simp only [plain, List.all_cons, List.all_nil, str_pl, dN_pl, Bool.and_true]) rfl rfl rfl ?_
  simp only [List.map_cons, List.map_nil, D.strip, dN_strip]
  simp only [enterSt, Try.ntmps22, List.length_cons, List.length_nil, Nat.reduceAdd, Nat.reduceSub, List.replicate_succ, List.replicate_zero, List.cons_append, List.nil_append]
  refine X_seq ?_
  refine X_rg fun R hR => ?_
  simp only [aops, astep, awant, aeff, aop, ev, ofValue, St.put, List.getElem?_cons_zero, Option.getD_some, Option.map_some, if_true, List.set_cons_succ, List.set_cons_zero, List.length_nil, List.nil_append, dN_cells, dN_good, sl]
  with_reducible refine hR _ ?_
  clear hR R
  show X _ _ _ _
  refine X_seq ?_
  refine X_seq ?_
  refine X_y ?_
  refine Y_k 5 fun R hR => ?_
  simp only [EVP, aops, astep, awant, aeff, aop, abin, astr, mkD, ev, St.put, ia_str, List.getElem?_cons_succ, List.getElem?_cons_zero, Option.getD_some, Option.map_some, if_true, List.set_cons_succ, List.set_cons_zero, List.length_cons, List.length_nil, List.drop_succ_cons, List.drop_zero, List.take_succ_cons, List.take_zero, Nat.reduceAdd, Nat.reduceLeDiff, Nat.zero_add, Bool.false_eq_true, if_false, reduceCtorEq, ty_string, ty_api_Node]
  with_reducible refine hR _ ?_
  clear hR R
  simp only [List.drop_succ_cons, List.drop_zero]
  refine Y_if 10 (by simp only [ev, List.getElem?_cons_succ, List.getElem?_cons_zero, Option.getD_some]; exact rfl) ?_ ?_
  · intro b1
    have c1 := b1
    try simp only [beq_iff_eq] at c1
    refine Y_k 5 fun R hR => ?_
    simp only [EVP, inr_u8, Int.reduceLE, aops, astep, awant, aeff, aop, abin, aint, mkD, ev, ofValue, St.put, ia_int, List.getElem?_cons_succ, List.getElem?_cons_zero, Option.getD_some, Option.map_some, Option.bind_some, if_true, List.set_cons_succ, List.set_cons_zero, List.length_cons, List.length_nil, List.drop_zero, List.take_succ_cons, List.take_zero, Nat.reduceAdd, Nat.reduceLeDiff, Nat.zero_add, Nat.add_zero, Bool.false_eq_true, if_false, and_self, reduceCtorEq, beq_self_eq_true, ty_uint8, ty_api_Node, b1]
    with_reducible refine hR _ ?_
    clear hR R
    simp only [List.drop_succ_cons, List.drop_zero]
    refine Y_if 15 (by simp only [ev, List.getElem?_cons_succ, List.getElem?_cons_zero, Option.getD_some]; exact rfl) ?_ ?_
    · intro b2
      have c2 := b2
      try simp only [bne_iff_ne, ne_eq] at c2
      refine Y_end fun R hR => ?_
      simp only [EVP, inr_u8, Int.reduceLE, aops, astep, awant, aeff, aop, abin, aint, mkD, ev, ofValue, St.put, ia_int, List.getElem?_cons_succ, List.getElem?_cons_zero, Option.getD_some, Option.map_some, Option.bind_some, if_true, List.set_cons_succ, List.set_cons_zero, List.length_cons, List.length_nil, List.drop_zero, List.take_succ_cons, List.take_zero, Nat.reduceAdd, Nat.reduceLeDiff, Nat.zero_add, Nat.add_zero, Bool.false_eq_true, if_false, and_self, reduceCtorEq, beq_self_eq_true, ty_uint8, ty_api_Node, b2]
      with_reducible refine hR _ ?_
      clear hR R
      show X _ _ _ _
      refine X_ite (by simp only [ev, List.getElem?_cons_succ, List.getElem?_cons_zero, Option.getD_some]; exact rfl) ?_ ?_
      · intro b3
        have c3 := b3
        try simp only [bne_iff_ne, ne_eq] at c3
        refine X_seq ?_
        refine X_rg fun R hR => ?_
        simp only [aops, astep, awant, aeff, aop, ev, ofValue, St.put, Option.getD_some, Option.map_some, if_true, List.set_cons_succ, List.set_cons_zero, b3]
        with_reducible refine hR _ ?_
        clear hR R
        show X _ _ _ _
        refine X_ret ?_
        show resD _ _ _ = some _
        simp only [resD, resAll, resOne, resTup, Try.results22, EVP, List.getElem?_cons_succ, List.getElem?_cons_zero, D.good, if_true, Option.map_some]
        have hh : mentB s t = true := by rw [mentB_eq]; first | (simp_all; done) | (simp [*]; done)
        rw [hh]
      · intro b4
        have c4 := b4
        try simp only [bne_eq_false_iff_eq] at c4
        refine X_skip ?_
        show X _ _ _ _
        refine X_seq ?_
        refine X_seq ?_
        refine X_rg fun R hR => ?_
        simp only [inr_i64, Int.reduceLE, Int.reduceNeg, aops, astep, awant, aeff, aop, ev, ofValue, St.put, Option.getD_some, Option.map_some, if_true, List.set_cons_succ, List.set_cons_zero, and_self, b4]
        with_reducible refine hR _ ?_
        clear hR R
        show X _ _ _ _
        refine X_block ?_
        have hown : (t.name.toList == s.toList && !(t.kind == 50) && !(t.kind == 51)) = false := by first | (simp_all; done) | (simp [*]; done)
        refine X_loop (fun m σ => ∃ (i : Nat) (r : List (List D)), σ = ⟨[slotOf σ 0, .str s, .ptr 0 0, slotOf σ 3, slotOf σ 4, .int .i64 i, slotOf σ 6, slotOf σ 7, slotOf σ 8, slotOf σ 9, slotOf σ 10, slotOf σ 11, slotOf σ 12, slotOf σ 13, slotOf σ 14, slotOf σ 15, slotOf σ 16, slotOf σ 17, slotOf σ 18, slotOf σ 19, slotOf σ 20, slotOf σ 21, slotOf σ 22, slotOf σ 23, slotOf σ 24, slotOf σ 25, slotOf σ 26, slotOf σ 27, slotOf σ 28, slotOf σ 29, slotOf σ 30, slotOf σ 31, slotOf σ 32, slotOf σ 33], [.int .u8 t.kind, .int .i64 t.num, .str t.name, .slice .imm (if (t.kids.map dN).isEmpty = true then 0 else 4) (t.kids.map dN)] :: r, 0, []⟩ ∧ m = t.kids.length - i ∧ i ≤ t.kids.length ∧ Hid ((t.kids.take i).any (mentB s) = false)) ?_ (t.kids.length) _ ?_
        rotate_left
        · exact ⟨0, _, rfl, rfl, Nat.zero_le _, Lib.hid (by simp)⟩
        rintro m σ ⟨i, r, hσ, rfl, hi, hs⟩
        generalize slotOf σ = x at hσ
        subst hσ
        have hn4 : ∀ j, j < t.kids.length → ((if (t.kids.map dN).isEmpty = true then 0 else 4) = 4) = True := fun j h => eq_true (sl_n (j := j) (by simpa using h))
        refine X_seq ?_
        refine X_seq ?_
        refine X_rg fun R hR => ?_
        simp only [EVP, nat_lt, aops, astep, awant, aeff, aop, abin, aint, mkD, ev, St.put, ia_slice, List.getElem?_cons_succ, List.getElem?_cons_zero, Option.getD_some, Option.map_some, if_true, List.set_cons_succ, List.set_cons_zero, List.length_map, List.length_cons, List.length_nil, List.drop_succ_cons, List.drop_zero, List.take_succ_cons, List.take_zero, Nat.reduceAdd, Nat.reduceLeDiff, Nat.zero_add, Bool.false_eq_true, if_false, reduceCtorEq, ty_s_api_Node, ty_api_Node, und_api_Node]
        with_reducible refine hR _ ?_
        clear hR R
        show X _ _ _ _
        refine X_ite (by simp only [ev, List.getElem?_cons_succ, List.getElem?_cons_zero, Option.getD_some]; exact rfl) ?_ ?_
        · intro b5
          have c5 := b5
          try simp only [decide_eq_true_eq] at c5
          refine X_skip ?_
          show X _ _ _ _
          refine X_seq ?_
          refine X_block ?_
          refine X_seq ?_
          have hlt : i < t.kids.length := by first | assumption | omega
          have h1 := hn4 i hlt
          have e1 : (t.kids.map dN)[i]? = some (dN t.kids[i]) := by simp [hlt]
          have hih := ih t.kids[i] (Tr.size_kid hlt)
          refine X_rg fun R hR => ?_
          simp only [EVP, nat_lt, nat_0, nat_to, aops, astep, awant, aeff, aop, mkD, ev, St.put, pcall, ia_slice, List.map_cons, List.map_nil, List.getElem?_cons_succ, List.getElem?_cons_zero, Option.getD_some, Option.map_some, if_true, List.set_cons_succ, List.set_cons_zero, List.length_map, List.length_cons, List.length_nil, List.drop_succ_cons, List.drop_zero, List.take_succ_cons, List.take_zero, List.cons_append, List.nil_append, Nat.reduceAdd, Nat.reduceLeDiff, Nat.zero_add, Bool.false_eq_true, if_false, and_self, reduceCtorEq, decide_true, Option.isSome_some, ty_s_api_Node, ty_api_Node, und_api_Node, siz_api_Node, inf_api_Node_eq, any22, dN_cells, dN_isAgg, sl, hlt, h1, e1, hih]
          with_reducible refine hR _ ?_
          clear hR R
          show X _ _ _ _
          refine X_ite (by simp only [ev, List.getElem?_cons_succ, List.getElem?_cons_zero, Option.getD_some]; exact rfl) ?_ ?_
          · intro b6
            have c6 := b6
            try simp only [Bool.not_eq_true', Bool.not_eq_false', decide_eq_true_eq, decide_eq_false_iff_not, beq_iff_eq, Int.not_lt, Int.not_le, ge_iff_le, gt_iff_lt, bne_iff_ne, ne_eq, bne_eq_false_iff_eq, beq_eq_false_iff_ne, Bool.and_eq_true, Bool.or_eq_false_iff] at c6
            refine X_seq ?_
            refine X_rg fun R hR => ?_
            simp only [aops, astep, awant, aeff, aop, ev, ofValue, St.put, Option.getD_some, Option.map_some, if_true, List.set_cons_succ, List.set_cons_zero, b6]
            with_reducible refine hR _ ?_
            clear hR R
            show X _ _ _ _
            refine X_ret ?_
            show resD _ _ _ = some _
            simp only [resD, resAll, resOne, resTup, Try.results22, EVP, List.getElem?_cons_succ, List.getElem?_cons_zero, D.good, if_true, Option.map_some]
            have hh : mentB s t = true := by rw [mentB_eq, any_yes hlt (by first | assumption | (simp_all; done)), Bool.or_true]
            rw [hh]
          · intro b7
            have c7 := b7
            try simp only [Bool.not_eq_true', Bool.not_eq_false', decide_eq_true_eq, decide_eq_false_iff_not, beq_iff_eq, Int.not_lt, Int.not_le, ge_iff_le, gt_iff_lt, bne_iff_ne, ne_eq, bne_eq_false_iff_eq, beq_eq_false_iff_ne, Bool.and_eq_true, Bool.or_eq_false_iff] at c7
            refine X_skip ?_
            show X _ _ _ _
            have hbig : i < 9223372036854775807 := by have := Tr.length_kids t; omega
            refine X_rg fun R hR => ?_
            simp only [inr_i64, Int.reduceLE, Int.reduceNeg, aops, astep, awant, aeff, aop, abin, aint, ev, ofValue, St.put, List.getElem?_cons_succ, List.getElem?_cons_zero, Option.getD_some, Option.map_some, if_true, List.set_cons_succ, List.set_cons_zero, and_self, b7, nat_succ hbig]
            with_reducible refine hR _ ?_
            clear hR R
            show ∃ m, m < _ ∧ _
            exact ⟨t.kids.length - (i + 1), by omega, i + 1, r, rfl, rfl, by omega, Lib.hid (any_no hlt hs.out (by first | assumption | (simp_all; done)))⟩
        · intro b8
          have c8 := b8
          try simp only [decide_eq_false_iff_not] at c8
          refine X_exit ?_
          show X _ _ _ _
          refine X_seq ?_
          refine X_rg fun R hR => ?_
          simp only [aops, astep, awant, aeff, aop, ev, ofValue, St.put, Option.getD_some, Option.map_some, if_true, List.set_cons_succ, List.set_cons_zero, b8]
          with_reducible refine hR _ ?_
          clear hR R
          show X _ _ _ _
          refine X_ret ?_
          show resD _ _ _ = some _
          simp only [resD, resAll, resOne, resTup, Try.results22, EVP, List.getElem?_cons_succ, List.getElem?_cons_zero, D.good, if_true, Option.map_some]
          have hq := hs.out
          rw [List.take_of_length_le (by omega)] at hq
          have hh : mentB s t = false := by rw [mentB_eq, hq, hown]; rfl
          rw [hh]
    · intro b9
      have c9 := b9
      try simp only [bne_eq_false_iff_eq] at c9
      refine Y_end fun R hR => ?_
      simp only [EVP, inr_u8, Int.reduceLE, aops, astep, awant, aeff, aop, abin, ev, ofValue, St.put, List.getElem?_cons_succ, List.getElem?_cons_zero, Option.getD_some, Option.map_some, Option.map_none, Option.bind_some, if_true, List.set_cons_succ, List.set_cons_zero, Nat.add_zero, Bool.false_eq_true, if_false, and_self, reduceCtorEq, bq_ft, ty_uint8, ty_api_Node, b9]
      with_reducible refine hR _ ?_
      clear hR R
      show X _ _ _ _
      refine X_false (by simp only [ev, List.getElem?_cons_succ, List.getElem?_cons_zero, Option.getD_some]) ?_
      refine X_skip ?_
      show X _ _ _ _
      refine X_seq ?_
      refine X_seq ?_
      refine X_rg fun R hR => ?_
      simp only [inr_i64, Int.reduceLE, Int.reduceNeg, aops, astep, awant, aeff, aop, ev, ofValue, St.put, Option.getD_some, Option.map_some, if_true, List.set_cons_succ, List.set_cons_zero, and_self]
      with_reducible refine hR _ ?_
      clear hR R
      show X _ _ _ _
      refine X_block ?_
      have hown : (t.name.toList == s.toList && !(t.kind == 50) && !(t.kind == 51)) = false := by first | (simp_all; done) | (simp [*]; done)
      refine X_loop (fun m σ => ∃ (i : Nat) (r : List (List D)), σ = ⟨[slotOf σ 0, .str s, .ptr 0 0, slotOf σ 3, slotOf σ 4, .int .i64 i, slotOf σ 6, slotOf σ 7, slotOf σ 8, slotOf σ 9, slotOf σ 10, slotOf σ 11, slotOf σ 12, slotOf σ 13, slotOf σ 14, slotOf σ 15, slotOf σ 16, slotOf σ 17, slotOf σ 18, slotOf σ 19, slotOf σ 20, slotOf σ 21, slotOf σ 22, slotOf σ 23, slotOf σ 24, slotOf σ 25, slotOf σ 26, slotOf σ 27, slotOf σ 28, slotOf σ 29, slotOf σ 30, slotOf σ 31, slotOf σ 32, slotOf σ 33], [.int .u8 t.kind, .int .i64 t.num, .str t.name, .slice .imm (if (t.kids.map dN).isEmpty = true then 0 else 4) (t.kids.map dN)] :: r, 0, []⟩ ∧ m = t.kids.length - i ∧ i ≤ t.kids.length ∧ Hid ((t.kids.take i).any (mentB s) = false)) ?_ (t.kids.length) _ ?_
      rotate_left
      · exact ⟨0, _, rfl, rfl, Nat.zero_le _, Lib.hid (by simp)⟩
      rintro m σ ⟨i, r, hσ, rfl, hi, hs⟩
      generalize slotOf σ = x at hσ
      subst hσ
      have hn4 : ∀ j, j < t.kids.length → ((if (t.kids.map dN).isEmpty = true then 0 else 4) = 4) = True := fun j h => eq_true (sl_n (j := j) (by simpa using h))
      refine X_seq ?_
      refine X_seq ?_
      refine X_rg fun R hR => ?_
      simp only [EVP, nat_lt, aops, astep, awant, aeff, aop, abin, aint, mkD, ev, St.put, ia_slice, List.getElem?_cons_succ, List.getElem?_cons_zero, Option.getD_some, Option.map_some, if_true, List.set_cons_succ, List.set_cons_zero, List.length_map, List.length_cons, List.length_nil, List.drop_succ_cons, List.drop_zero, List.take_succ_cons, List.take_zero, Nat.reduceAdd, Nat.reduceLeDiff, Nat.zero_add, Bool.false_eq_true, if_false, reduceCtorEq, ty_s_api_Node, ty_api_Node, und_api_Node]
      with_reducible refine hR _ ?_
      clear hR R
      show X _ _ _ _
      refine X_ite (by simp only [ev, List.getElem?_cons_succ, List.getElem?_cons_zero, Option.getD_some]; exact rfl) ?_ ?_
      · intro b10
        have c10 := b10
        try simp only [decide_eq_true_eq] at c10
        refine X_skip ?_
        show X _ _ _ _
        refine X_seq ?_
        refine X_block ?_
        refine X_seq ?_
        have hlt : i < t.kids.length := by first | assumption | omega
        have h1 := hn4 i hlt
        have e1 : (t.kids.map dN)[i]? = some (dN t.kids[i]) := by simp [hlt]
        have hih := ih t.kids[i] (Tr.size_kid hlt)
        refine X_rg fun R hR => ?_
        simp only [EVP, nat_lt, nat_0, nat_to, aops, astep, awant, aeff, aop, mkD, ev, St.put, pcall, ia_slice, List.map_cons, List.map_nil, List.getElem?_cons_succ, List.getElem?_cons_zero, Option.getD_some, Option.map_some, if_true, List.set_cons_succ, List.set_cons_zero, List.length_map, List.length_cons, List.length_nil, List.drop_succ_cons, List.drop_zero, List.take_succ_cons, List.take_zero, List.cons_append, List.nil_append, Nat.reduceAdd, Nat.reduceLeDiff, Nat.zero_add, Bool.false_eq_true, if_false, and_self, reduceCtorEq, decide_true, Option.isSome_some, ty_s_api_Node, ty_api_Node, und_api_Node, siz_api_Node, inf_api_Node_eq, any22, dN_cells, dN_isAgg, sl, hlt, h1, e1, hih]
        with_reducible refine hR _ ?_
        clear hR R
        show X _ _ _ _
        refine X_ite (by simp only [ev, List.getElem?_cons_succ, List.getElem?_cons_zero, Option.getD_some]; exact rfl) ?_ ?_
        · intro b11
          have c11 := b11
          try simp only [Bool.not_eq_true', Bool.not_eq_false', decide_eq_true_eq, decide_eq_false_iff_not, beq_iff_eq, Int.not_lt, Int.not_le, ge_iff_le, gt_iff_lt, bne_iff_ne, ne_eq, bne_eq_false_iff_eq, beq_eq_false_iff_ne, Bool.and_eq_true, Bool.or_eq_false_iff] at c11
          refine X_seq ?_
          refine X_rg fun R hR => ?_
          simp only [aops, astep, awant, aeff, aop, ev, ofValue, St.put, Option.getD_some, Option.map_some, if_true, List.set_cons_succ, List.set_cons_zero, b11]
          with_reducible refine hR _ ?_
          clear hR R
          show X _ _ _ _
          refine X_ret ?_
          show resD _ _ _ = some _
          simp only [resD, resAll, resOne, resTup, Try.results22, EVP, List.getElem?_cons_succ, List.getElem?_cons_zero, D.good, if_true, Option.map_some]
          have hh : mentB s t = true := by rw [mentB_eq, any_yes hlt (by first | assumption | (simp_all; done)), Bool.or_true]
          rw [hh]
        · intro b12
          have c12 := b12
          try simp only [Bool.not_eq_true', Bool.not_eq_false', decide_eq_true_eq, decide_eq_false_iff_not, beq_iff_eq, Int.not_lt, Int.not_le, ge_iff_le, gt_iff_lt, bne_iff_ne, ne_eq, bne_eq_false_iff_eq, beq_eq_false_iff_ne, Bool.and_eq_true, Bool.or_eq_false_iff] at c12
          refine X_skip ?_
          show X _ _ _ _
          have hbig : i < 9223372036854775807 := by have := Tr.length_kids t; omega
          refine X_rg fun R hR => ?_
          simp only [inr_i64, Int.reduceLE, Int.reduceNeg, aops, astep, awant, aeff, aop, abin, aint, ev, ofValue, St.put, List.getElem?_cons_succ, List.getElem?_cons_zero, Option.getD_some, Option.map_some, if_true, List.set_cons_succ, List.set_cons_zero, and_self, b12, nat_succ hbig]
          with_reducible refine hR _ ?_
          clear hR R
          show ∃ m, m < _ ∧ _
          exact ⟨t.kids.length - (i + 1), by omega, i + 1, r, rfl, rfl, by omega, Lib.hid (any_no hlt hs.out (by first | assumption | (simp_all; done)))⟩
      · intro b13
        have c13 := b13
        try simp only [decide_eq_false_iff_not] at c13
        refine X_exit ?_
        show X _ _ _ _
        refine X_seq ?_
        refine X_rg fun R hR => ?_
        simp only [aops, astep, awant, aeff, aop, ev, ofValue, St.put, Option.getD_some, Option.map_some, if_true, List.set_cons_succ, List.set_cons_zero, b13]
        with_reducible refine hR _ ?_
        clear hR R
        show X _ _ _ _
        refine X_ret ?_
        show resD _ _ _ = some _
        simp only [resD, resAll, resOne, resTup, Try.results22, EVP, List.getElem?_cons_succ, List.getElem?_cons_zero, D.good, if_true, Option.map_some]
        have hq := hs.out
        rw [List.take_of_length_le (by omega)] at hq
        have hh : mentB s t = false := by rw [mentB_eq, hq, hown]; rfl
        rw [hh]
  · intro b14
    have c14 := b14
    try simp only [ne_eq, beq_eq_false_iff_ne] at c14
    refine Y_end fun R hR => ?_
    simp only [EVP, inr_u8, Int.reduceLE, aops, astep, awant, aeff, aop, abin, ev, ofValue, St.put, List.getElem?_cons_succ, List.getElem?_cons_zero, Option.getD_some, Option.map_some, Option.map_none, Option.bind_some, if_true, List.set_cons_succ, List.set_cons_zero, Nat.add_zero, Bool.false_eq_true, if_false, and_self, reduceCtorEq, bq_ft, ty_uint8, ty_api_Node, b14]
    with_reducible refine hR _ ?_
    clear hR R
    show X _ _ _ _
    refine X_false (by simp only [ev, List.getElem?_cons_succ, List.getElem?_cons_zero, Option.getD_some]) ?_
    refine X_skip ?_
    show X _ _ _ _
    refine X_seq ?_
    refine X_seq ?_
    refine X_rg fun R hR => ?_
    simp only [inr_i64, Int.reduceLE, Int.reduceNeg, aops, astep, awant, aeff, aop, ev, ofValue, St.put, Option.getD_some, Option.map_some, if_true, List.set_cons_succ, List.set_cons_zero, and_self]
    with_reducible refine hR _ ?_
    clear hR R
    show X _ _ _ _
    refine X_block ?_
    have hown : (t.name.toList == s.toList && !(t.kind == 50) && !(t.kind == 51)) = false := by first | (simp_all; done) | (simp [*]; done)
    refine X_loop (fun m σ => ∃ (i : Nat) (r : List (List D)), σ = ⟨[slotOf σ 0, .str s, .ptr 0 0, slotOf σ 3, slotOf σ 4, .int .i64 i, slotOf σ 6, slotOf σ 7, slotOf σ 8, slotOf σ 9, slotOf σ 10, slotOf σ 11, slotOf σ 12, slotOf σ 13, slotOf σ 14, slotOf σ 15, slotOf σ 16, slotOf σ 17, slotOf σ 18, slotOf σ 19, slotOf σ 20, slotOf σ 21, slotOf σ 22, slotOf σ 23, slotOf σ 24, slotOf σ 25, slotOf σ 26, slotOf σ 27, slotOf σ 28, slotOf σ 29, slotOf σ 30, slotOf σ 31, slotOf σ 32, slotOf σ 33], [.int .u8 t.kind, .int .i64 t.num, .str t.name, .slice .imm (if (t.kids.map dN).isEmpty = true then 0 else 4) (t.kids.map dN)] :: r, 0, []⟩ ∧ m = t.kids.length - i ∧ i ≤ t.kids.length ∧ Hid ((t.kids.take i).any (mentB s) = false)) ?_ (t.kids.length) _ ?_
    rotate_left
    · exact ⟨0, _, rfl, rfl, Nat.zero_le _, Lib.hid (by simp)⟩
    rintro m σ ⟨i, r, hσ, rfl, hi, hs⟩
    generalize slotOf σ = x at hσ
    subst hσ
    have hn4 : ∀ j, j < t.kids.length → ((if (t.kids.map dN).isEmpty = true then 0 else 4) = 4) = True := fun j h => eq_true (sl_n (j := j) (by simpa using h))
    refine X_seq ?_
    refine X_seq ?_
    refine X_rg fun R hR => ?_
    simp only [EVP, nat_lt, aops, astep, awant, aeff, aop, abin, aint, mkD, ev, St.put, ia_slice, List.getElem?_cons_succ, List.getElem?_cons_zero, Option.getD_some, Option.map_some, if_true, List.set_cons_succ, List.set_cons_zero, List.length_map, List.length_cons, List.length_nil, List.drop_succ_cons, List.drop_zero, List.take_succ_cons, List.take_zero, Nat.reduceAdd, Nat.reduceLeDiff, Nat.zero_add, Bool.false_eq_true, if_false, reduceCtorEq, ty_s_api_Node, ty_api_Node, und_api_Node]
    with_reducible refine hR _ ?_
    clear hR R
    show X _ _ _ _
    refine X_ite (by simp only [ev, List.getElem?_cons_succ, List.getElem?_cons_zero, Option.getD_some]; exact rfl) ?_ ?_
    · intro b15
      have c15 := b15
      try simp only [decide_eq_true_eq] at c15
      refine X_skip ?_
      show X _ _ _ _
      refine X_seq ?_
      refine X_block ?_
      refine X_seq ?_
      have hlt : i < t.kids.length := by first | assumption | omega
      have h1 := hn4 i hlt
      have e1 : (t.kids.map dN)[i]? = some (dN t.kids[i]) := by simp [hlt]
      have hih := ih t.kids[i] (Tr.size_kid hlt)
      refine X_rg fun R hR => ?_
      simp only [EVP, nat_lt, nat_0, nat_to, aops, astep, awant, aeff, aop, mkD, ev, St.put, pcall, ia_slice, List.map_cons, List.map_nil, List.getElem?_cons_succ, List.getElem?_cons_zero, Option.getD_some, Option.map_some, if_true, List.set_cons_succ, List.set_cons_zero, List.length_map, List.length_cons, List.length_nil, List.drop_succ_cons, List.drop_zero, List.take_succ_cons, List.take_zero, List.cons_append, List.nil_append, Nat.reduceAdd, Nat.reduceLeDiff, Nat.zero_add, Bool.false_eq_true, if_false, and_self, reduceCtorEq, decide_true, Option.isSome_some, ty_s_api_Node, ty_api_Node, und_api_Node, siz_api_Node, inf_api_Node_eq, any22, dN_cells, dN_isAgg, sl, hlt, h1, e1, hih]
      with_reducible refine hR _ ?_
      clear hR R
      show X _ _ _ _
      refine X_ite (by simp only [ev, List.getElem?_cons_succ, List.getElem?_cons_zero, Option.getD_some]; exact rfl) ?_ ?_
      · intro b16
        have c16 := b16
        try simp only [Bool.not_eq_true', Bool.not_eq_false', decide_eq_true_eq, decide_eq_false_iff_not, beq_iff_eq, Int.not_lt, Int.not_le, ge_iff_le, gt_iff_lt, bne_iff_ne, ne_eq, bne_eq_false_iff_eq, beq_eq_false_iff_ne, Bool.and_eq_true, Bool.or_eq_false_iff] at c16
        refine X_seq ?_
        refine X_rg fun R hR => ?_
        simp only [aops, astep, awant, aeff, aop, ev, ofValue, St.put, Option.getD_some, Option.map_some, if_true, List.set_cons_succ, List.set_cons_zero, b16]
        with_reducible refine hR _ ?_
        clear hR R
        show X _ _ _ _
        refine X_ret ?_
        show resD _ _ _ = some _
        simp only [resD, resAll, resOne, resTup, Try.results22, EVP, List.getElem?_cons_succ, List.getElem?_cons_zero, D.good, if_true, Option.map_some]
        have hh : mentB s t = true := by rw [mentB_eq, any_yes hlt (by first | assumption | (simp_all; done)), Bool.or_true]
        rw [hh]
      · intro b17
        have c17 := b17
        try simp only [Bool.not_eq_true', Bool.not_eq_false', decide_eq_true_eq, decide_eq_false_iff_not, beq_iff_eq, Int.not_lt, Int.not_le, ge_iff_le, gt_iff_lt, bne_iff_ne, ne_eq, bne_eq_false_iff_eq, beq_eq_false_iff_ne, Bool.and_eq_true, Bool.or_eq_false_iff] at c17
        refine X_skip ?_
        show X _ _ _ _
        have hbig : i < 9223372036854775807 := by have := Tr.length_kids t; omega
        refine X_rg fun R hR => ?_
        simp only [inr_i64, Int.reduceLE, Int.reduceNeg, aops, astep, awant, aeff, aop, abin, aint, ev, ofValue, St.put, List.getElem?_cons_succ, List.getElem?_cons_zero, Option.getD_some, Option.map_some, if_true, List.set_cons_succ, List.set_cons_zero, and_self, b17, nat_succ hbig]
        with_reducible refine hR _ ?_
        clear hR R
        show ∃ m, m < _ ∧ _
        exact ⟨t.kids.length - (i + 1), by omega, i + 1, r, rfl, rfl, by omega, Lib.hid (any_no hlt hs.out (by first | assumption | (simp_all; done)))⟩
    · intro b18
      have c18 := b18
      try simp only [decide_eq_false_iff_not] at c18
      refine X_exit ?_
      show X _ _ _ _
      refine X_seq ?_
      refine X_rg fun R hR => ?_
      simp only [aops, astep, awant, aeff, aop, ev, ofValue, St.put, Option.getD_some, Option.map_some, if_true, List.set_cons_succ, List.set_cons_zero, b18]
      with_reducible refine hR _ ?_
      clear hR R
      show X _ _ _ _
      refine X_ret ?_
      show resD _ _ _ = some _
      simp only [resD, resAll, resOne, resTup, Try.results22, EVP, List.getElem?_cons_succ, List.getElem?_cons_zero, D.good, if_true, Option.map_some]
      have hq := hs.out
      rw [List.take_of_length_le (by omega)] at hq
      have hh : mentB s t = false := by rw [mentB_eq, hq, hown]; rfl
      rw [hh]
set_option maxRecDepth 100000 in
set_option maxHeartbeats 4000000 in
theorem und_fn (p : Pg) (s : ByteArray) (hv : validB p = true) : fn EV 32 [dG p, .str s] = some (.int .i64 (if (checkF p).any (hitB p s) = true then 1 else 0)) := by
  refine fn_X rfl Try.func32 rfl (by simp only [plain, List.all_cons, List.all_nil, str_pl, dG_pl, Bool.and_true]) (rfl) (rfl) (rfl) ?_
  simp only [List.map_cons, List.map_nil, D.strip, dG_strip]
  simp only [enterSt, Try.ntmps32, List.length_cons, List.length_nil, Nat.reduceAdd, Nat.reduceSub, List.replicate_succ, List.replicate_zero, List.cons_append, List.nil_append]
  refine X_seq ?_
  refine X_rg fun R hR => ?_
  simp only [inr_i64, Int.reduceLE, Int.reduceNeg, aops, astep, awant, aeff, aop, ev, ofValue, St.put, List.getElem?_cons_zero, Option.getD_some, Option.map_some, if_true, List.set_cons_succ, List.set_cons_zero, List.length_nil, List.nil_append, and_self, dG_cells, dG_good]
  with_reducible refine hR _ ?_
  clear hR R
  show X _ _ _ _
  refine X_seq ?_
  have hch := check_fn p
  rw [if_pos hv] at hch
  obtain ⟨q1, q2⟩ := checkF_bd hv
  generalize checkF p = L at hch q1 q2 ⊢
  simp only [sl] at hch
  refine X_rg fun R hR => ?_
  simp only [EVP, aops, astep, awant, aeff, aop, mkD, ev, St.put, pcall, List.map_cons, List.map_nil, List.getElem?_cons_succ, List.getElem?_cons_zero, Option.getD_some, Option.map_some, if_true, List.set_cons_succ, List.set_cons_zero, List.length_cons, List.length_nil, List.drop_zero, List.take_succ_cons, List.take_zero, List.cons_append, List.nil_append, Nat.reduceAdd, Nat.reduceLeDiff, Nat.zero_add, ty_api_Program, any18, dG_agg, hch]
  with_reducible refine hR _ ?_
  clear hR R
  show X _ _ _ _
  refine X_seq ?_
  refine X_seq ?_
  refine X_rg fun R hR => ?_
  simp only [inr_i64, Int.reduceLE, Int.reduceNeg, aops, astep, awant, aeff, aop, ev, ofValue, St.put, Option.getD_some, Option.map_some, if_true, List.set_cons_succ, List.set_cons_zero, and_self]
  with_reducible refine hR _ ?_
  clear hR R
  show X _ _ _ _
  refine X_block ?_
  refine X_loop (fun m σ => ∃ (i : Nat) (r : List (List D)), σ = ⟨[slotOf σ 0, .str s, .ptr 0 0, slotOf σ 3, slotOf σ 4, .slice .imm (if (L.map dFt).isEmpty = true then 0 else 4) (L.map dFt), .int .i64 i, slotOf σ 7, slotOf σ 8, slotOf σ 9, slotOf σ 10, slotOf σ 11, slotOf σ 12, slotOf σ 13, slotOf σ 14, slotOf σ 15, slotOf σ 16, slotOf σ 17, slotOf σ 18, slotOf σ 19, slotOf σ 20, slotOf σ 21, slotOf σ 22, slotOf σ 23, slotOf σ 24, slotOf σ 25, slotOf σ 26, slotOf σ 27, slotOf σ 28, slotOf σ 29, slotOf σ 30, slotOf σ 31, slotOf σ 32, slotOf σ 33, slotOf σ 34, slotOf σ 35, slotOf σ 36, slotOf σ 37, slotOf σ 38, slotOf σ 39, slotOf σ 40, slotOf σ 41, slotOf σ 42, slotOf σ 43, slotOf σ 44, slotOf σ 45, slotOf σ 46, slotOf σ 47, slotOf σ 48, slotOf σ 49, slotOf σ 50, slotOf σ 51, slotOf σ 52, slotOf σ 53, slotOf σ 54, slotOf σ 55, slotOf σ 56, slotOf σ 57, slotOf σ 58, slotOf σ 59, slotOf σ 60, slotOf σ 61, slotOf σ 62, slotOf σ 63, slotOf σ 64], [.slice .imm (if (p.vars.map dV).isEmpty = true then 0 else 3) (p.vars.map dV), .slice .imm (if (p.procs.map dP).isEmpty = true then 0 else 6) (p.procs.map dP), .int .u8 p.main.kind, .int .i64 p.main.num, .str p.main.name, .slice .imm (if (p.main.kids.map dN).isEmpty = true then 0 else 4) (p.main.kids.map dN)] :: r, 0, []⟩ ∧ m = L.length - i ∧ i ≤ L.length ∧ Hid ((L.take i).any (hitB p s) = false)) ?_ (L.length) _ ?_
  rotate_left
  · exact ⟨0, _, rfl, rfl, Nat.zero_le _, Lib.hid (by simp)⟩
  rintro m σ ⟨i, r, hσ, rfl, hi, hs⟩
  generalize slotOf σ = x at hσ
  subst hσ
  have hn4 : ∀ j, j < L.length → ((if (L.map dFt).isEmpty = true then 0 else 4) = 4) = True := fun j h => eq_true (sl_n (j := j) (by simpa using h))
  refine X_seq ?_
  refine X_seq ?_
  refine X_rg fun R hR => ?_
  simp only [EVP, nat_lt, aops, astep, awant, aeff, aop, abin, aint, ev, St.put, List.getElem?_cons_succ, List.getElem?_cons_zero, Option.getD_some, Option.map_some, if_true, List.set_cons_succ, List.set_cons_zero, List.length_map, und_scope_Fault]
  with_reducible refine hR _ ?_
  clear hR R
  show X _ _ _ _
  refine X_ite (by simp only [ev, List.getElem?_cons_succ, List.getElem?_cons_zero, Option.getD_some]; exact rfl) ?_ ?_
  · intro b1
    have c1 := b1
    try simp only [decide_eq_true_eq] at c1
    refine X_skip ?_
    show X _ _ _ _
    refine X_seq ?_
    refine X_block ?_
    refine X_seq ?_
    refine X_seq ?_
    have hlt : i < L.length := by first | assumption | omega
    have h1 := hn4 i hlt
    have e1 : (L.map dFt)[i]? = some (.agg [.int .i64 L[i].proc, .slice .imm (if (L[i].path.map dI).isEmpty = true then 0 else 1) (L[i].path.map dI), .int .i64 L[i].err, .str L[i].name]) := by rw [List.getElem?_map, List.getElem?_eq_getElem hlt]; rfl
    refine X_y ?_
    refine Y_k 10 fun R hR => ?_
    simp only [EVP, nat_lt, nat_0, nat_to, aops, astep, awant, aeff, aop, abin, aint, mkD, ev, St.put, ia_int, cl_int, ia_slice, List.getElem?_cons_succ, List.getElem?_cons_zero, Option.getD_some, Option.map_some, if_true, List.set_cons_succ, List.set_cons_zero, List.length_map, List.length_cons, List.length_nil, List.drop_succ_cons, List.drop_zero, List.take_succ_cons, List.take_zero, Nat.reduceAdd, Nat.reduceLeDiff, Nat.zero_add, Bool.false_eq_true, if_false, and_self, reduceCtorEq, decide_true, Option.isSome_some, ty_int, ty_s_api_Proc, ty_api_Program, und_api_Proc, ty_scope_Fault, und_scope_Fault, siz_scope_Fault, inf_scope_Fault_eq, hlt, h1, e1]
    with_reducible refine hR _ ?_
    clear hR R
    simp only [List.drop_succ_cons, List.drop_zero]
    refine Y_if 26 (by simp only [ev, List.getElem?_cons_succ, List.getElem?_cons_zero, Option.getD_some]; exact rfl) ?_ ?_
    · intro b2
      have c2 := b2
      try simp only [bne_iff_ne, ne_eq] at c2
      refine Y_end fun R hR => ?_
      simp only [EVP, inr_i64, Int.reduceLE, Int.reduceNeg, aops, astep, awant, aeff, aop, abin, ev, ofValue, St.put, List.getElem?_cons_succ, List.getElem?_cons_zero, Option.getD_some, Option.map_some, Option.map_none, Option.bind_some, if_true, List.set_cons_succ, List.set_cons_zero, Bool.false_eq_true, if_false, and_self, reduceCtorEq, bq_tf, ty_string, ty_api_Errno, ty_scope_Fault, und_scope_Fault, b2]
      with_reducible refine hR _ ?_
      clear hR R
      show X _ _ _ _
      refine X_true (by simp only [ev, List.getElem?_cons_succ, List.getElem?_cons_zero, Option.getD_some]) ?_
      refine X_exit ?_
      show X _ _ _ _
      have hbig : i < 9223372036854775807 := by omega
      refine X_rg fun R hR => ?_
      simp only [inr_i64, Int.reduceLE, Int.reduceNeg, aops, astep, awant, aeff, aop, abin, aint, ev, ofValue, St.put, List.getElem?_cons_succ, List.getElem?_cons_zero, Option.getD_some, Option.map_some, if_true, List.set_cons_succ, List.set_cons_zero, and_self, nat_succ hbig]
      with_reducible refine hR _ ?_
      clear hR R
      show ∃ m, m < _ ∧ _
      exact ⟨L.length - (i + 1), by omega, i + 1, _, rfl, rfl, by omega, Lib.hid (any_no hlt hs.out (by unfold hitB; first | (simp_all; done) | (simp [*]; done)))⟩
    · intro b3
      have c3 := b3
      try simp only [bne_eq_false_iff_eq] at c3
      refine Y_k 8 fun R hR => ?_
      simp only [EVP, inr_i64, Int.reduceLE, Int.reduceNeg, nat_lt, nat_0, nat_to, aops, astep, awant, aeff, aop, abin, aint, ev, ofValue, St.put, ia_int, cl_int, List.getElem?_cons_succ, List.getElem?_cons_zero, Option.getD_some, Option.map_some, Option.bind_some, if_true, List.set_cons_succ, List.set_cons_zero, List.length_map, List.length_cons, List.length_nil, List.drop_succ_cons, List.drop_zero, List.take_succ_cons, List.take_zero, Nat.reduceAdd, Nat.reduceLeDiff, Nat.zero_add, Bool.false_eq_true, if_false, and_self, reduceCtorEq, beq_self_eq_true, Option.isSome_some, ty_api_Errno, ty_scope_Fault, und_scope_Fault, siz_scope_Fault, inf_scope_Fault_eq, b3, hlt, h1, e1]
      with_reducible refine hR _ ?_
      clear hR R
      simp only [List.drop_succ_cons, List.drop_zero]
      refine Y_if 34 (by simp only [ev, List.getElem?_cons_succ, List.getElem?_cons_zero, Option.getD_some]; exact rfl) ?_ ?_
      · intro b4
        have c4 := b4
        try simp only [bne_iff_ne, ne_eq] at c4
        refine Y_end fun R hR => ?_
        simp only [EVP, aops, astep, awant, aeff, aop, abin, ev, ofValue, St.put, List.getElem?_cons_succ, List.getElem?_cons_zero, Option.getD_some, Option.map_some, Option.map_none, Option.bind_some, if_true, List.set_cons_succ, List.set_cons_zero, Bool.false_eq_true, if_false, reduceCtorEq, bq_tf, ty_string, ty_scope_Fault, und_scope_Fault, b4]
        with_reducible refine hR _ ?_
        clear hR R
        show X _ _ _ _
        refine X_true (by simp only [ev, List.getElem?_cons_succ, List.getElem?_cons_zero, Option.getD_some]) ?_
        refine X_exit ?_
        show X _ _ _ _
        have hbig : i < 9223372036854775807 := by omega
        refine X_rg fun R hR => ?_
        simp only [inr_i64, Int.reduceLE, Int.reduceNeg, aops, astep, awant, aeff, aop, abin, aint, ev, ofValue, St.put, List.getElem?_cons_succ, List.getElem?_cons_zero, Option.getD_some, Option.map_some, if_true, List.set_cons_succ, List.set_cons_zero, and_self, nat_succ hbig]
        with_reducible refine hR _ ?_
        clear hR R
        show ∃ m, m < _ ∧ _
        exact ⟨L.length - (i + 1), by omega, i + 1, _, rfl, rfl, by omega, Lib.hid (any_no hlt hs.out (by unfold hitB; first | (simp_all; done) | (simp [*]; done)))⟩
      · intro b5
        have c5 := b5
        try simp only [bne_eq_false_iff_eq] at c5
        refine Y_end fun R hR => ?_
        simp only [EVP, nat_lt, nat_0, nat_to, aops, astep, awant, aeff, aop, abin, astr, ev, ofValue, St.put, ia_str, cl_str, List.getElem?_cons_succ, List.getElem?_cons_zero, Option.getD_some, Option.map_some, Option.bind_some, if_true, List.set_cons_succ, List.set_cons_zero, List.length_map, List.length_cons, List.length_nil, List.drop_succ_cons, List.drop_zero, List.take_succ_cons, List.take_zero, Nat.reduceAdd, Nat.reduceLeDiff, Nat.zero_add, Bool.false_eq_true, if_false, and_self, reduceCtorEq, beq_self_eq_true, Option.isSome_some, ty_string, ty_scope_Fault, und_scope_Fault, siz_scope_Fault, inf_scope_Fault_eq, b5, hlt, h1, e1]
        with_reducible refine hR _ ?_
        clear hR R
        show X _ _ _ _
        refine X_ite (by simp only [ev, List.getElem?_cons_succ, List.getElem?_cons_zero, Option.getD_some]; exact rfl) ?_ ?_
        · intro b6
          have c6 := b6
          try simp only [Bool.not_eq_true', ne_eq, beq_eq_false_iff_ne] at c6
          refine X_exit ?_
          show X _ _ _ _
          have hbig : i < 9223372036854775807 := by omega
          refine X_rg fun R hR => ?_
          simp only [inr_i64, Int.reduceLE, Int.reduceNeg, aops, astep, awant, aeff, aop, abin, aint, ev, ofValue, St.put, List.getElem?_cons_succ, List.getElem?_cons_zero, Option.getD_some, Option.map_some, if_true, List.set_cons_succ, List.set_cons_zero, and_self, b6, nat_succ hbig]
          with_reducible refine hR _ ?_
          clear hR R
          show ∃ m, m < _ ∧ _
          exact ⟨L.length - (i + 1), by omega, i + 1, _, rfl, rfl, by omega, Lib.hid (any_no hlt hs.out (by unfold hitB; first | (simp_all; done) | (simp [*]; done)))⟩
        · intro b7
          have c7 := b7
          try simp only [Bool.not_eq_false', beq_iff_eq] at c7
          refine X_skip ?_
          show X _ _ _ _
          refine X_seq ?_
          have hat := at_fn p.main L[i].path (Nat.le_trans (q2 _ (List.getElem_mem hlt)) (by omega))
          simp only [sl] at hat
          refine X_rg fun R hR => ?_
          simp only [EVP, app_get0, app_set0, nat_lt, nat_0, nat_to, aops, astep, awant, aeff, aop, mkD, astore, ev, St.put, pcall, ia_slice, cl_slice, List.map_cons, List.map_nil, List.getElem?_cons_succ, List.getElem?_cons_zero, Option.getD_some, Option.map_some, Option.bind_some, if_true, List.set_cons_succ, List.set_cons_zero, List.length_map, List.length_cons, List.length_nil, List.drop_succ_cons, List.drop_zero, List.take_succ_cons, List.take_zero, List.cons_append, List.nil_append, Nat.reduceAdd, Nat.reduceLeDiff, Nat.zero_add, Bool.false_eq_true, if_false, and_self, reduceCtorEq, Option.isSome_some, ty_s_int, ty_api_Node, ty_api_Program, ty_scope_Fault, und_scope_Fault, siz_scope_Fault, inf_scope_Fault_eq, any29, dN_agg, dN_cells, dN_good, sl, b7, hlt, h1, e1, hat]
          with_reducible refine hR _ ?_
          clear hR R
          show X _ _ _ _
          refine X_seq ?_
          refine X_y ?_
          refine Y_k 2 fun R hR => ?_
          simp only [EVP, aops, astep, awant, aeff, aop, ev, St.put, List.getElem?_cons_succ, List.getElem?_cons_zero, Option.getD_some, Option.map_some, if_true, List.set_cons_succ, List.set_cons_zero, List.take_succ_cons, List.take_zero]
          with_reducible refine hR _ ?_
          clear hR R
          simp only [List.drop_succ_cons, List.drop_zero]
          refine Y_if 55 (by simp only [ev, List.getElem?_cons_succ, List.getElem?_cons_zero, Option.getD_some]; exact rfl) ?_ ?_
          · intro b8
            have c8 := b8
            try simp only [Bool.not_eq_true', Bool.not_eq_false', decide_eq_true_eq, decide_eq_false_iff_not, beq_iff_eq, Int.not_lt, Int.not_le, ge_iff_le, gt_iff_lt, bne_iff_ne, ne_eq, bne_eq_false_iff_eq, beq_eq_false_iff_ne, Bool.and_eq_true, Bool.or_eq_false_iff] at c8
            refine Y_k 5 fun R hR => ?_
            simp only [EVP, inr_u8, Int.reduceLE, app_get0, aops, astep, awant, aeff, aop, abin, aint, mkD, ev, ofValue, St.put, ia_int, List.getElem?_cons_succ, List.getElem?_cons_zero, Option.getD_some, Option.map_some, Option.bind_some, if_true, List.set_cons_succ, List.set_cons_zero, List.length_cons, List.length_nil, List.drop_zero, List.take_succ_cons, List.take_zero, Nat.reduceAdd, Nat.reduceLeDiff, Nat.zero_add, Nat.add_zero, Bool.false_eq_true, if_false, and_self, reduceCtorEq, beq_self_eq_true, ty_uint8, ty_api_Node, b8]
            with_reducible refine hR _ ?_
            clear hR R
            simp only [List.drop_succ_cons, List.drop_zero]
            refine Y_if 60 (by simp only [ev, List.getElem?_cons_succ, List.getElem?_cons_zero, Option.getD_some]; exact rfl) ?_ ?_
            · intro b9
              have c9 := b9
              try simp only [bne_iff_ne, ne_eq] at c9
              refine Y_end fun R hR => ?_
              simp only [EVP, inr_u8, Int.reduceLE, app_get0, aops, astep, awant, aeff, aop, abin, aint, mkD, ev, ofValue, St.put, ia_int, List.getElem?_cons_succ, List.getElem?_cons_zero, Option.getD_some, Option.map_some, Option.bind_some, if_true, List.set_cons_succ, List.set_cons_zero, List.length_cons, List.length_nil, List.drop_zero, List.take_succ_cons, List.take_zero, Nat.reduceAdd, Nat.reduceLeDiff, Nat.zero_add, Nat.add_zero, Bool.false_eq_true, if_false, and_self, reduceCtorEq, beq_self_eq_true, ty_uint8, ty_api_Node, b9]
              with_reducible refine hR _ ?_
              clear hR R
              show X _ _ _ _
              refine X_ite (by simp only [ev, List.getElem?_cons_succ, List.getElem?_cons_zero, Option.getD_some]; exact rfl) ?_ ?_
              · intro b10
                have c10 := b10
                try simp only [bne_iff_ne, ne_eq] at c10
                refine X_seq ?_
                refine X_rg fun R hR => ?_
                simp only [inr_i64, Int.reduceLE, Int.reduceNeg, aops, astep, awant, aeff, aop, ev, ofValue, St.put, Option.getD_some, Option.map_some, if_true, List.set_cons_succ, List.set_cons_zero, and_self, b10]
                with_reducible refine hR _ ?_
                clear hR R
                show X _ _ _ _
                refine X_ret ?_
                show resD _ _ _ = some _
                simp only [resD, resAll, resOne, resTup, Try.results32, EVP, List.getElem?_cons_succ, List.getElem?_cons_zero, D.good, if_true, Option.map_some]
                rw [any_yes hlt (p := hitB p s) (by unfold hitB; first | (simp_all; done) | (simp [*]; done))]; rfl
              · intro b11
                have c11 := b11
                try simp only [bne_eq_false_iff_eq] at c11
                refine X_skip ?_
                show X _ _ _ _
                have hbig : i < 9223372036854775807 := by omega
                refine X_rg fun R hR => ?_
                simp only [inr_i64, Int.reduceLE, Int.reduceNeg, aops, astep, awant, aeff, aop, abin, aint, ev, ofValue, St.put, List.getElem?_cons_succ, List.getElem?_cons_zero, Option.getD_some, Option.map_some, if_true, List.set_cons_succ, List.set_cons_zero, and_self, b11, nat_succ hbig]
                with_reducible refine hR _ ?_
                clear hR R
                show ∃ m, m < _ ∧ _
                exact ⟨L.length - (i + 1), by omega, i + 1, _, rfl, rfl, by omega, Lib.hid (any_no hlt hs.out (by unfold hitB; first | (simp_all; done) | (simp [*]; done)))⟩
            · intro b12
              have c12 := b12
              try simp only [bne_eq_false_iff_eq] at c12
              refine Y_end fun R hR => ?_
              simp only [EVP, inr_u8, Int.reduceLE, aops, astep, awant, aeff, aop, abin, ev, ofValue, St.put, List.getElem?_cons_succ, List.getElem?_cons_zero, Option.getD_some, Option.map_some, Option.map_none, Option.bind_some, if_true, List.set_cons_succ, List.set_cons_zero, Nat.add_zero, Bool.false_eq_true, if_false, and_self, reduceCtorEq, bq_ft, ty_uint8, ty_api_Node, b12]
              with_reducible refine hR _ ?_
              clear hR R
              show X _ _ _ _
              refine X_false (by simp only [ev, List.getElem?_cons_succ, List.getElem?_cons_zero, Option.getD_some]) ?_
              refine X_skip ?_
              show X _ _ _ _
              have hbig : i < 9223372036854775807 := by omega
              refine X_rg fun R hR => ?_
              simp only [inr_i64, Int.reduceLE, Int.reduceNeg, aops, astep, awant, aeff, aop, abin, aint, ev, ofValue, St.put, List.getElem?_cons_succ, List.getElem?_cons_zero, Option.getD_some, Option.map_some, if_true, List.set_cons_succ, List.set_cons_zero, and_self, nat_succ hbig]
              with_reducible refine hR _ ?_
              clear hR R
              show ∃ m, m < _ ∧ _
              exact ⟨L.length - (i + 1), by omega, i + 1, _, rfl, rfl, by omega, Lib.hid (any_no hlt hs.out (by unfold hitB; first | (simp_all; done) | (simp [*]; done)))⟩
          · intro b13
            have c13 := b13
            try simp only [Bool.not_eq_true', Bool.not_eq_false', decide_eq_true_eq, decide_eq_false_iff_not, beq_iff_eq, Int.not_lt, Int.not_le, ge_iff_le, gt_iff_lt, bne_iff_ne, ne_eq, bne_eq_false_iff_eq, beq_eq_false_iff_ne, Bool.and_eq_true, Bool.or_eq_false_iff] at c13
            refine Y_end fun R hR => ?_
            simp only [EVP, inr_u8, Int.reduceLE, aops, astep, awant, aeff, aop, abin, ev, ofValue, St.put, List.getElem?_cons_succ, List.getElem?_cons_zero, Option.getD_some, Option.map_some, Option.map_none, Option.bind_some, if_true, List.set_cons_succ, List.set_cons_zero, Nat.add_zero, Bool.false_eq_true, if_false, and_self, reduceCtorEq, bq_ft, ty_uint8, ty_api_Node, b13]
            with_reducible refine hR _ ?_
            clear hR R
            show X _ _ _ _
            refine X_false (by simp only [ev, List.getElem?_cons_succ, List.getElem?_cons_zero, Option.getD_some]) ?_
            refine X_skip ?_
            show X _ _ _ _
            have hbig : i < 9223372036854775807 := by omega
            refine X_rg fun R hR => ?_
            simp only [inr_i64, Int.reduceLE, Int.reduceNeg, aops, astep, awant, aeff, aop, abin, aint, ev, ofValue, St.put, List.getElem?_cons_succ, List.getElem?_cons_zero, Option.getD_some, Option.map_some, if_true, List.set_cons_succ, List.set_cons_zero, and_self, nat_succ hbig]
            with_reducible refine hR _ ?_
            clear hR R
            show ∃ m, m < _ ∧ _
            exact ⟨L.length - (i + 1), by omega, i + 1, _, rfl, rfl, by omega, Lib.hid (any_no hlt hs.out (by unfold hitB; first | (simp_all; done) | (simp [*]; done)))⟩
  · intro b14
    have c14 := b14
    try simp only [decide_eq_false_iff_not] at c14
    refine X_exit ?_
    show X _ _ _ _
    refine X_seq ?_
    refine X_rg fun R hR => ?_
    simp only [inr_i64, Int.reduceLE, Int.reduceNeg, aops, astep, awant, aeff, aop, ev, ofValue, St.put, Option.getD_some, Option.map_some, if_true, List.set_cons_succ, List.set_cons_zero, and_self, b14]
    with_reducible refine hR _ ?_
    clear hR R
    show X _ _ _ _
    refine X_ret ?_
    show resD _ _ _ = some _
    simp only [resD, resAll, resOne, resTup, Try.results32, EVP, List.getElem?_cons_succ, List.getElem?_cons_zero, D.good, if_true, Option.map_some]
    have hq := hs.out
    rw [List.take_of_length_le (by omega)] at hq
    rw [hq]; rfl
theorem any_hit (g : Pg) (s : ByteArray) : (checkF g).any (hitB g s) = true ↔ ∃ f ∈ visF g g.procs.length g.main [] g.vars, Hit s g.main [] f := by
  rw [List.any_eq_true]
  constructor
  · rintro ⟨f, hf, h⟩
    simp only [hitB, Bool.and_eq_true, beq_iff_eq, Bool.not_eq_true', beq_eq_false_iff_ne, ne_eq] at h
    obtain ⟨⟨⟨⟨⟨h1, h2⟩, h3⟩, h4⟩, h5⟩, h6⟩ := h
    simp only [checkF, List.mem_append] at hf
    rcases hf with hf | hf | hf
    · have := (vr_mem g.vars 0 hf).1; omega
    · obtain ⟨_, j, _, h8, h9⟩ := proc_mem g.procs 0 (fun j => by simp) hf; omega
    · exact ⟨f, hf, h2, h3, f.path, rfl, h4, h5, h6⟩
  · rintro ⟨f, hf, h1, h2, r, h3, h4, h5, h6⟩
    simp only [List.nil_append] at h3
    subst h3
    refine ⟨f, by simp only [checkF, List.mem_append]; exact .inr (.inr hf), ?_⟩
    simp only [hitB, Bool.and_eq_true, beq_iff_eq, Bool.not_eq_true', beq_eq_false_iff_ne, ne_eq]
    exact ⟨⟨⟨⟨⟨(vis_lies g.main [] g.vars f hf).pr, h1⟩, h2⟩, h4⟩, h5⟩, h6⟩
def dropV (p : Pg) (s : ByteArray) : Pg := ⟨p.vars.filter (fun v => !(v.name.toList == s.toList)), p.procs, p.main⟩
theorem drop_valid {p : Pg} {s : ByteArray} (h : validB p = true) : validB (dropV p s) = true := by
  have hl : (p.vars.filter (fun v => !(v.name.toList == s.toList))).length ≤ p.vars.length := List.length_filter_le _ _
  unfold dropV
  simp only [validB, Bool.and_eq_true, Bool.not_eq_true', decide_eq_false_iff_not, List.all_eq_true] at h ⊢
  obtain ⟨⟨⟨⟨h1, h2⟩, h3⟩, h4⟩, h5⟩ := h
  exact ⟨⟨⟨⟨by omega, h2⟩, fun v hv => h3 v (List.mem_filter.1 hv).1⟩, h4⟩, h5⟩
theorem drops {p : Pg} {j : Nat} (hj : j < p.vars.length) (hv : validB p = true) (hl : localsB p.vars[j].name p.main = false) :
    (checkF p).any (hitB p p.vars[j].name) = false ∧ (checkF (dropV p p.vars[j].name)).any (hitB (dropV p p.vars[j].name) p.vars[j].name) = mentB p.vars[j].name p.main := by
  have hb : blockB p.main = true ∧ nameB p.vars[j].name = true := by
    simp only [validB, bodyB, Bool.and_eq_true, List.all_eq_true] at hv
    have := hv.1.1.2 _ (List.getElem_mem hj)
    simp only [declB, Bool.and_eq_true] at this
    exact ⟨hv.2.2, this.1⟩
  have hs : p.vars[j].name.toList ≠ [] := by
    have h := hb.2
    simp only [nameB, Bool.and_eq_true, decide_eq_true_eq] at h
    exact (ne_of_pos h.1.1.1.1).2
  have hw := block_w hs p.main hb.1
  refine ⟨?_, ?_⟩
  · rw [Bool.eq_false_iff, ne_eq, any_hit]
    rintro ⟨f, hf, h⟩
    exact vis_no p.main [] p.vars (List.any_eq_true.2 ⟨_, List.getElem_mem hj, by simp⟩) f hf h
  · rw [Bool.eq_iff_iff, any_hit]
    constructor
    · rintro ⟨f, hf, h⟩; exact hit_ment hf h
    · intro hm
      refine vis_hit p.main.size p.main (Nat.le_refl _) [] _ ?_ hl hw hm
      unfold hasV
      rw [List.any_eq_false]
      intro v hv
      have := (List.mem_filter.1 hv).2
      simpa using this
theorem und_own {p : Pg} {s : ByteArray} {o : Own} {n : Nat} {lv : List Nat} (h : Acc 34 3 o n ((p.vars.filter (fun v => !(v.name.toList == s.toList))).map dV) lv) (hv : validB p = true) : fn EV 32 [.agg [.slice o n ((p.vars.filter (fun v => !(v.name.toList == s.toList))).map dV), .slice .imm (if (p.procs.map dP).isEmpty = true then 0 else 6) (p.procs.map dP), .int .u8 p.main.kind, .int .i64 p.main.num, .str p.main.name, .slice .imm (if (p.main.kids.map dN).isEmpty = true then 0 else 4) (p.main.kids.map dN)], .str s] = some (.int .i64 (if (checkF (dropV p s)).any (hitB (dropV p s) s) = true then 1 else 0)) := by
  rw [fn_strip (args' := [dG (dropV p s), .str s])]
  · exact und_fn (dropV p s) s (drop_valid hv)
  · have h1 := dG_under 0 (dropV p s)
    simp only [dG, D.under, D.unders, sl, dropV, Bool.and_true] at h1
    simp only [plain, List.all_cons, List.all_nil, D.under, D.unders, Bool.and_true, h1, gd_agg, gd_str]
  · simp only [plain, List.all_cons, List.all_nil, dG_pl, str_pl, Bool.and_true]
  · have h1 := h.strip
    rw [List.map_map, show (D.strip ∘ dV) = dV from rfl] at h1
    have e0 : ∀ A B x y z C : D, (D.agg [A, B, x, y, z, C]).strip = .agg [A.strip, B.strip, x.strip, y.strip, z.strip, C.strip] := fun _ _ _ _ _ _ => by simp only [D.strip, D.strips]
    have hP := sl_strip (n := 6) (map_strip dP_strip p.procs)
    have hN := sl_strip (n := 4) (map_strip dN_strip p.main.kids)
    simp only [sl] at hP hN
    simp only [List.map_cons, List.map_nil, dG_strip]
    rw [e0, h1, hP, hN]; rfl
theorem tmod_nat {k : Int} (hk : 0 ≤ k) (n : Nat) : k.tmod (n : Int) = ((k.toNat % n : Nat) : Int) := by
  obtain ⟨m, rfl⟩ := Int.eq_ofNat_of_zero_le hk
  rw [Int.tmod_eq_emod_of_nonneg hk]; simp
theorem u8_conv {k : Int} (h0 : 0 ≤ k) (h1 : k ≤ 255) : IntKind.i64.wrap k = k := by
  simp only [IntKind.wrap, IntKind.bits, IntKind.signed]; simp; omega
set_option maxRecDepth 100000 in
set_option maxHeartbeats 4000000 in
theorem law9_y (p : Pg) (k : Int) (hk0 : 0 ≤ k) (hk1 : k ≤ 255) (hsb : smallB p = true) (hv0 : 0 < p.vars.length) : fn EV 9 [dG p, .int .u8 k] = some (.bool true) := by
  obtain ⟨hvd, hp6, hv20, hm80⟩ := small_valid hsb
  have hj0 : k.toNat % p.vars.length < p.vars.length := Nat.mod_lt _ hv0
  have hkc := u8_conv hk0 hk1
  have htm := tmod_nat hk0 p.vars.length
  have hn3 : ((if (p.vars.map dV).isEmpty = true then 0 else 3) = 3) = True := eq_true (sl_n (j := 0) (by simpa using hv0))
  have ej : (p.vars.map dV)[k.toNat % p.vars.length]? = some (.agg [.str p.vars[k.toNat % p.vars.length].name, .int .u8 p.vars[k.toNat % p.vars.length].kind, .int .i64 p.vars[k.toNat % p.vars.length].len]) := by simp [hj0, dV]
  have hz : ((p.vars.length : Int) = 0) = False := eq_false (by omega)
  have hdr := drops hj0 hvd
  have hlo := locals_fn p.vars[k.toNat % p.vars.length].name p.main.size p.main (Nat.le_refl _) (by omega)
  have hme := ment_fn p.vars[k.toNat % p.vars.length].name p.main.size p.main (Nat.le_refl _) (by omega)
  have hup := und_fn p p.vars[k.toNat % p.vars.length].name hvd
  refine fn_X rfl Try.func9 rfl (by simp only [plain, List.all_cons, List.all_nil, int_pl, dG_pl, Bool.and_true]) (rfl) (rfl) (rfl) ?_
  simp only [List.map_cons, List.map_nil, D.strip, dG_strip]
  simp only [enterSt, Try.ntmps9, List.length_cons, List.length_nil, Nat.reduceAdd, Nat.reduceSub, List.replicate_succ, List.replicate_zero, List.cons_append, List.nil_append]
  refine X_seq ?_
  refine X_rg fun R hR => ?_
  simp only [aops, astep, awant, aeff, aop, ev, ofValue, St.put, List.getElem?_cons_zero, Option.getD_some, Option.map_some, if_true, List.set_cons_succ, List.set_cons_zero, List.length_nil, List.nil_append, dG_cells, dG_good]
  with_reducible refine hR _ ?_
  clear hR R
  show X _ _ _ _
  refine X_seq ?_
  refine X_seq ?_
  refine X_rg fun R hR => ?_
  simp only [EVP, aops, astep, awant, aeff, aop, ev, St.put, pcall, List.map_nil, List.getElem?_cons_succ, List.getElem?_cons_zero, Option.getD_some, Option.map_some, if_true, List.set_cons_succ, List.set_cons_zero, List.nil_append, Bool.not_true, any12, awake_ok]
  with_reducible refine hR _ ?_
  clear hR R
  show X _ _ _ _
  refine X_false (by simp only [ev, List.getElem?_cons_succ, List.getElem?_cons_zero, Option.getD_some]) ?_
  refine X_skip ?_
  show X _ _ _ _
  refine X_seq ?_
  refine X_seq ?_
  have hsm := small_fn p
  rw [if_pos hsb] at hsm
  have hz3 : ((p.vars.length : Int) == 0) = false := by rw [beq_eq_false_iff_ne]; omega
  refine X_rg fun R hR => ?_
  simp only [EVP, inr_i64, Int.reduceLE, Int.reduceNeg, aops, astep, awant, aeff, aop, abin, aint, mkD, ev, ofValue, St.put, pcall, ia_slice, List.map_cons, List.map_nil, List.getElem?_cons_succ, List.getElem?_cons_zero, Option.getD_some, Option.map_some, Option.bind_some, if_true, List.set_cons_succ, List.set_cons_zero, List.length_map, List.length_cons, List.length_nil, List.drop_zero, List.take_succ_cons, List.take_zero, List.cons_append, List.nil_append, Nat.reduceAdd, Nat.reduceLeDiff, Nat.zero_add, Nat.add_zero, Bool.false_eq_true, if_false, and_self, reduceCtorEq, beq_self_eq_true, Int.reduceBEq, ty_s_api_VarDecl, ty_api_Program, und_api_VarDecl, any19, dG_agg, hsm, hz3]
  with_reducible refine hR _ ?_
  clear hR R
  show X _ _ _ _
  refine X_false (by simp only [ev, List.getElem?_cons_succ, List.getElem?_cons_zero, Option.getD_some]) ?_
  refine X_skip ?_
  show X _ _ _ _
  refine X_seq ?_
  refine X_rg fun R hR => ?_
  simp only [EVP, nat_lt, nat_0, nat_to, aops, astep, awant, aeff, aop, abin, aint, mkD, ev, St.put, ia_str, cl_str, ia_slice, List.getElem?_cons_succ, List.getElem?_cons_zero, Option.getD_some, Option.map_some, if_true, List.set_cons_succ, List.set_cons_zero, List.length_map, List.length_cons, List.length_nil, List.drop_zero, List.take_succ_cons, List.take_zero, Nat.reduceAdd, Nat.reduceLeDiff, Nat.zero_add, Nat.add_zero, Bool.false_eq_true, if_false, and_self, reduceCtorEq, Option.isSome_some, ty_string, ty_s_api_VarDecl, ty_api_VarDecl, ty_api_Program, und_api_VarDecl, siz_api_VarDecl, inf_api_VarDecl_eq, und_int', und_uint8', hkc, htm, hn3, ej, hz, hj0]
  with_reducible refine hR _ ?_
  clear hR R
  show X _ _ _ _
  refine X_seq ?_
  refine X_seq ?_
  refine X_rg fun R hR => ?_
  simp only [EVP, inr_i64, Int.reduceLE, Int.reduceNeg, aops, astep, awant, aeff, aop, abin, aint, mkD, ev, ofValue, St.put, pcall, List.map_cons, List.map_nil, List.getElem?_cons_succ, List.getElem?_cons_zero, Option.getD_some, Option.map_some, if_true, List.set_cons_succ, List.set_cons_zero, List.length_cons, List.length_nil, List.drop_succ_cons, List.drop_zero, List.take_succ_cons, List.take_zero, List.cons_append, List.nil_append, Nat.reduceAdd, Nat.reduceLeDiff, Nat.zero_add, if_false, and_self, reduceCtorEq, ty_api_Node, ty_api_Program, any31, dN_agg, hlo, one_eq]
  with_reducible refine hR _ ?_
  clear hR R
  show X _ _ _ _
  refine X_ite (by simp only [ev, List.getElem?_cons_succ, List.getElem?_cons_zero, Option.getD_some]; exact rfl) ?_ ?_
  · intro b1
    have c1 := b1
    try simp only [Bool.not_eq_true', Bool.not_eq_false', decide_eq_true_eq, decide_eq_false_iff_not, beq_iff_eq, Int.not_lt, Int.not_le, ge_iff_le, gt_iff_lt, bne_iff_ne, ne_eq, bne_eq_false_iff_eq, beq_eq_false_iff_ne, Bool.and_eq_true, Bool.or_eq_false_iff] at c1
    refine X_seq ?_
    refine X_rg fun R hR => ?_
    simp only [aops, astep, awant, aeff, aop, ev, ofValue, St.put, Option.getD_some, Option.map_some, if_true, List.set_cons_succ, List.set_cons_zero, b1]
    with_reducible refine hR _ ?_
    clear hR R
    show X _ _ _ _
    refine X_ret ?_
    show resD _ _ _ = some _
    simp only [resD, resAll, resOne, resTup, Try.results9, EVP, List.getElem?_cons_succ, List.getElem?_cons_zero, D.good, if_true, Option.map_some] <;> (first | (rfl; done) | (simp_all; done) | (exfalso; simp_all; done) | (trace_state; fail))
  · intro b2
    have c2 := b2
    try simp only [Bool.not_eq_true', Bool.not_eq_false', decide_eq_true_eq, decide_eq_false_iff_not, beq_iff_eq, Int.not_lt, Int.not_le, ge_iff_le, gt_iff_lt, bne_iff_ne, ne_eq, bne_eq_false_iff_eq, beq_eq_false_iff_ne, Bool.and_eq_true, Bool.or_eq_false_iff] at c2
    refine X_skip ?_
    show X _ _ _ _
    refine X_seq ?_
    refine X_rg fun R hR => ?_
    simp only [EVP, aops, astep, awant, aeff, aop, mkD, astore, ev, St.put, List.getElem?_cons_succ, List.getElem?_cons_zero, Option.getD_some, Option.map_some, Option.bind_some, if_true, List.set_cons_succ, List.set_cons_zero, List.length_cons, List.length_nil, List.drop_succ_cons, List.drop_zero, List.take_succ_cons, List.take_zero, List.cons_append, List.nil_append, Nat.reduceAdd, Nat.reduceLeDiff, Nat.zero_add, Bool.false_eq_true, if_false, and_self, ty_api_Program, dG_agg, dG_cells, dG_good, b2]
    with_reducible refine hR _ ?_
    clear hR R
    show X _ _ _ _
    refine X_seq ?_
    refine X_rg fun R hR => ?_
    simp only [EVP, aops, astep, awant, aeff, aop, astore, ev, ofValue, St.put, gd_slice, cl_slice, List.getElem?_cons_succ, List.getElem?_cons_zero, Option.getD_some, Option.map_some, if_true, List.set_cons_succ, List.set_cons_zero, List.length_cons, List.length_nil, List.drop_succ_cons, List.drop_zero, List.take_zero, List.cons_append, List.nil_append, Nat.reduceAdd, Nat.reduceLeDiff, Nat.zero_add, Nat.add_zero, if_false, and_self, reduceCtorEq, ty_s_api_VarDecl, ty_api_Program]
    with_reducible refine hR _ ?_
    clear hR R
    show X _ _ _ _
    refine X_seq ?_
    refine X_seq ?_
    refine X_rg fun R hR => ?_
    simp only [inr_i64, Int.reduceLE, Int.reduceNeg, aops, astep, awant, aeff, aop, ev, ofValue, St.put, Option.getD_some, Option.map_some, if_true, List.set_cons_succ, List.set_cons_zero, and_self]
    with_reducible refine hR _ ?_
    clear hR R
    show X _ _ _ _
    refine X_block ?_
    have hlf : localsB p.vars[k.toNat % p.vars.length].name p.main = false := by first | assumption | (simp_all; done)
    obtain ⟨d1, d2⟩ := hdr hlf
    refine X_loop (fun m σ => ∃ (i : Nat) (o : Own) (n : Nat) (M : List D) (nx : Nat) (lv : List Nat), σ = ⟨[slotOf σ 0, slotOf σ 1, .ptr 0 0, slotOf σ 3, slotOf σ 4, .str p.vars[k.toNat % p.vars.length].name, .ptr 1 0, .int .i64 i, slotOf σ 8, slotOf σ 9, slotOf σ 10, slotOf σ 11, slotOf σ 12, slotOf σ 13, slotOf σ 14, slotOf σ 15, slotOf σ 16, slotOf σ 17, slotOf σ 18, slotOf σ 19, slotOf σ 20, slotOf σ 21, slotOf σ 22, slotOf σ 23, slotOf σ 24, slotOf σ 25, slotOf σ 26, slotOf σ 27, slotOf σ 28, slotOf σ 29, slotOf σ 30, slotOf σ 31, slotOf σ 32, slotOf σ 33, slotOf σ 34, slotOf σ 35, slotOf σ 36, slotOf σ 37, slotOf σ 38, slotOf σ 39, slotOf σ 40, slotOf σ 41, slotOf σ 42, slotOf σ 43, slotOf σ 44, slotOf σ 45, slotOf σ 46, slotOf σ 47, slotOf σ 48, slotOf σ 49, slotOf σ 50, slotOf σ 51, slotOf σ 52, slotOf σ 53, slotOf σ 54, slotOf σ 55, slotOf σ 56, slotOf σ 57, slotOf σ 58, slotOf σ 59, slotOf σ 60, slotOf σ 61, slotOf σ 62, slotOf σ 63, slotOf σ 64, slotOf σ 65, slotOf σ 66, slotOf σ 67, slotOf σ 68, slotOf σ 69, slotOf σ 70, slotOf σ 71, slotOf σ 72, slotOf σ 73, slotOf σ 74, slotOf σ 75, slotOf σ 76], [[.slice .imm (if (p.vars.map dV).isEmpty = true then 0 else 3) (p.vars.map dV), .slice .imm (if (p.procs.map dP).isEmpty = true then 0 else 6) (p.procs.map dP), .int .u8 p.main.kind, .int .i64 p.main.num, .str p.main.name, .slice .imm (if (p.main.kids.map dN).isEmpty = true then 0 else 4) (p.main.kids.map dN)], [.slice o n M, .slice .imm (if (p.procs.map dP).isEmpty = true then 0 else 6) (p.procs.map dP), .int .u8 p.main.kind, .int .i64 p.main.num, .str p.main.name, .slice .imm (if (p.main.kids.map dN).isEmpty = true then 0 else 4) (p.main.kids.map dN)]], nx, lv⟩ ∧ m = p.vars.length - i ∧ i ≤ p.vars.length ∧ Hid (Acc 34 3 o n M lv) ∧ Hid (M = (((p.vars.take i).filter (fun v => !(v.name.toList == p.vars[k.toNat % p.vars.length].name.toList))).map dV))) ?_ (p.vars.length) _ ?_
    rotate_left
    · exact ⟨0, .nil, 0, [], 0, [], rfl, rfl, Nat.zero_le _, Lib.hid (.nil _ _ _), Lib.hid rfl⟩
    rintro m σ ⟨i, o, n, M, nx, lv, hσ, rfl, hi, ha, hM⟩
    generalize slotOf σ = x at hσ
    subst hσ
    refine X_seq ?_
    refine X_seq ?_
    refine X_rg fun R hR => ?_
    simp only [EVP, nat_lt, aops, astep, awant, aeff, aop, abin, aint, mkD, ev, St.put, ia_slice, List.getElem?_cons_succ, List.getElem?_cons_zero, Option.getD_some, Option.map_some, if_true, List.set_cons_succ, List.set_cons_zero, List.length_map, List.length_cons, List.length_nil, List.drop_zero, List.take_succ_cons, List.take_zero, Nat.reduceAdd, Nat.reduceLeDiff, Nat.zero_add, Nat.add_zero, Bool.false_eq_true, if_false, reduceCtorEq, ty_s_api_VarDecl, ty_api_Program, und_api_VarDecl]
    with_reducible refine hR _ ?_
    clear hR R
    show X _ _ _ _
    refine X_ite (by simp only [ev, List.getElem?_cons_succ, List.getElem?_cons_zero, Option.getD_some]; exact rfl) ?_ ?_
    · intro b3
      have c3 := b3
      try simp only [decide_eq_true_eq] at c3
      refine X_skip ?_
      show X _ _ _ _
      refine X_seq ?_
      refine X_block ?_
      refine X_seq ?_
      have hlt : i < p.vars.length := by first | assumption | omega
      have ei : (p.vars.map dV)[i]? = some (.agg [.str p.vars[i].name, .int .u8 p.vars[i].kind, .int .i64 p.vars[i].len]) := by simp [hlt, dV]
      refine X_rg fun R hR => ?_
      simp only [EVP, nat_lt, nat_0, nat_to, aops, astep, awant, aeff, aop, abin, astr, mkD, ev, St.put, ia_str, cl_str, ia_slice, List.getElem?_cons_succ, List.getElem?_cons_zero, Option.getD_some, Option.map_some, if_true, List.set_cons_succ, List.set_cons_zero, List.length_map, List.length_cons, List.length_nil, List.drop_zero, List.take_succ_cons, List.take_zero, Nat.reduceAdd, Nat.reduceLeDiff, Nat.zero_add, Nat.add_zero, Bool.false_eq_true, if_false, and_self, reduceCtorEq, decide_true, Option.isSome_some, ty_string, ty_s_api_VarDecl, ty_api_VarDecl, ty_api_Program, und_api_VarDecl, siz_api_VarDecl, inf_api_VarDecl_eq, hlt, hn3, ei]
      with_reducible refine hR _ ?_
      clear hR R
      show X _ _ _ _
      refine X_ite (by simp only [ev, List.getElem?_cons_succ, List.getElem?_cons_zero, Option.getD_some]; exact rfl) ?_ ?_
      · intro b4
        have c4 := b4
        try simp only [Bool.not_eq_true', ne_eq, beq_eq_false_iff_ne] at c4
        have hfl : M.length ≤ 20 := by rw [hM.out]; have h1 := List.length_filter_le (fun v : Vd => !(v.name.toList == p.vars[k.toNat % p.vars.length].name.toList)) (p.vars.take i); simp only [List.length_map, List.length_take] at h1 ⊢; omega
        have hap := fun fr bx => (ha.out.more nx).app (P := Try.prog) (σ := ⟨fr, bx, nx + 1, nx :: lv⟩) (t := 22) (o2 := .own nx 34) (l2 := [.agg [.str p.vars[i].name, .int .u8 p.vars[i].kind, .int .i64 p.vars[i].len]]) und_api_VarDecl inf_api_VarDecl_eq inf_api_VarDecl_size (by omega) (by rw [inf_api_VarDecl_bytes]; omega) inf_api_VarDecl_zc (by simp only [List.length_singleton]; omega) (by simp)
        have hfs : (((p.vars.take i).filter (fun v => !(v.name.toList == p.vars[k.toNat % p.vars.length].name.toList))).map dV) ++ [.agg [.str p.vars[i].name, .int .u8 p.vars[i].kind, .int .i64 p.vars[i].len]] = (((p.vars.take (i + 1)).filter (fun v => !(v.name.toList == p.vars[k.toNat % p.vars.length].name.toList))).map dV) := by rw [List.take_succ_eq_append_getElem hlt, List.filter_append, List.map_append]; congr 1; rw [List.filter_cons_of_pos (by first | assumption | (simp_all; done))]; rfl
        refine X_rg fun R hR => ?_
        simp only [EVP, nat_lt, nat_0, nat_to, aops, astep, awant, aeff, aop, mkD, abuild, astore, ev, ofValue, St.put, gd_agg, ia_agg, cl_agg, gd_slice, ia_slice, cl_slice, List.map_cons, List.map_nil, List.getElem?_cons_succ, List.getElem?_cons_zero, Option.getD_some, Option.map_some, if_true, List.set_cons_succ, List.set_cons_zero, List.length_map, List.length_cons, List.length_nil, List.drop_succ_cons, List.drop_zero, List.take_succ_cons, List.take_zero, List.cons_append, List.nil_append, Nat.reduceAdd, Nat.reduceLeDiff, Nat.reduceLT, Nat.zero_add, Nat.add_zero, Bool.and_true, Bool.false_eq_true, if_false, and_self, reduceCtorEq, List.all_cons, List.all_nil, beq_self_eq_true, Option.isSome_some, Nat.reduceMul, rng_1, ty_s_api_VarDecl, ty_api_VarDecl, ty_api_Program, und_api_VarDecl, siz_api_VarDecl, inf_api_VarDecl_eq, inf_api_VarDecl_size, inf_api_VarDecl_zero, b4, hlt, hn3, ei, hap]
        with_reducible refine hR _ ?_
        clear hR R
        show X _ _ _ _
        have hbig : i < 9223372036854775807 := by omega
        refine X_rg fun R hR => ?_
        simp only [inr_i64, Int.reduceLE, Int.reduceNeg, aops, astep, awant, aeff, aop, abin, aint, ev, ofValue, St.put, List.getElem?_cons_succ, List.getElem?_cons_zero, Option.getD_some, Option.map_some, if_true, List.set_cons_succ, List.set_cons_zero, and_self, nat_succ hbig]
        with_reducible refine hR _ ?_
        clear hR R
        show ∃ m, m < _ ∧ _
        exact ⟨p.vars.length - (i + 1), by omega, i + 1, _, _, _, _, _, rfl, rfl, by omega, Lib.hid (.own (by simp)), Lib.hid (by rw [hM.out]; exact hfs)⟩
      · intro b5
        have c5 := b5
        try simp only [Bool.not_eq_false', beq_iff_eq] at c5
        refine X_skip ?_
        show X _ _ _ _
        have hbig : i < 9223372036854775807 := by omega
        refine X_rg fun R hR => ?_
        simp only [inr_i64, Int.reduceLE, Int.reduceNeg, aops, astep, awant, aeff, aop, abin, aint, ev, ofValue, St.put, List.getElem?_cons_succ, List.getElem?_cons_zero, Option.getD_some, Option.map_some, if_true, List.set_cons_succ, List.set_cons_zero, and_self, b5, nat_succ hbig]
        with_reducible refine hR _ ?_
        clear hR R
        show ∃ m, m < _ ∧ _
        have hfn : ((p.vars.take (i + 1)).filter (fun v => !(v.name.toList == p.vars[k.toNat % p.vars.length].name.toList))) = ((p.vars.take i).filter (fun v => !(v.name.toList == p.vars[k.toNat % p.vars.length].name.toList))) := by rw [List.take_succ_eq_append_getElem hlt, List.filter_append, List.filter_cons_of_neg (by first | assumption | (simp_all; done))]; simp
        exact ⟨p.vars.length - (i + 1), by omega, i + 1, o, n, M, nx, lv, rfl, rfl, by omega, ha, Lib.hid (by rw [hM.out, hfn])⟩
    · intro b6
      have c6 := b6
      try simp only [decide_eq_false_iff_not] at c6
      refine X_exit ?_
      show X _ _ _ _
      refine X_seq ?_
      rw [d1] at hup
      have hil : i = p.vars.length := by first | omega | (simp_all; omega)
      have hMM := hM.out
      rw [hil, List.take_length] at hMM
      subst hMM
      have huq := und_own (p := p) (s := p.vars[k.toNat % p.vars.length].name) (o := o) (n := n) (lv := lv) ha.out hvd
      rw [d2] at huq
      have hbb : (mentB p.vars[k.toNat % p.vars.length].name p.main == mentB p.vars[k.toNat % p.vars.length].name p.main) = true := by simp
      refine X_rg fun R hR => ?_
      simp only [EVP, inr_i64, Int.reduceLE, Int.reduceNeg, aops, astep, awant, aeff, aop, abin, aint, mkD, ev, ofValue, St.put, pcall, List.map_cons, List.map_nil, List.getElem?_cons_succ, List.getElem?_cons_zero, Option.getD_some, Option.map_some, Option.bind_some, if_true, List.set_cons_succ, List.set_cons_zero, List.length_cons, List.length_nil, List.drop_succ_cons, List.drop_zero, List.take_succ_cons, List.take_zero, List.cons_append, List.nil_append, Nat.reduceAdd, Nat.reduceLeDiff, Nat.zero_add, Bool.false_eq_true, if_false, and_self, reduceCtorEq, beq_self_eq_true, ty_api_Node, ty_api_Program, und_bool', any22, any32, dN_agg, dG_agg, b6, hup, huq, hme, one_eq, und_bool']
      with_reducible refine hR _ ?_
      clear hR R
      show X _ _ _ _
      refine X_ret ?_
      show resD _ _ _ = some _
      simp only [resD, resAll, resOne, resTup, Try.results9, EVP, List.getElem?_cons_succ, List.getElem?_cons_zero, D.good, if_true, Option.map_some] <;> (first | (rfl; done) | (simp_all; done) | (exfalso; simp_all; done) | (trace_state; fail))
set_option maxRecDepth 100000 in
set_option maxHeartbeats 4000000 in
theorem law9_n (p : Pg) (k : Int) (hno : smallB p = false ∨ p.vars.length = 0) : fn EV 9 [dG p, .int .u8 k] = some (.bool true) := by
  refine fn_X rfl Try.func9 rfl (by simp only [plain, List.all_cons, List.all_nil, int_pl, dG_pl, Bool.and_true]) (rfl) (rfl) (rfl) ?_
  simp only [List.map_cons, List.map_nil, D.strip, dG_strip]
  simp only [enterSt, Try.ntmps9, List.length_cons, List.length_nil, Nat.reduceAdd, Nat.reduceSub, List.replicate_succ, List.replicate_zero, List.cons_append, List.nil_append]
  refine X_seq ?_
  refine X_rg fun R hR => ?_
  simp only [aops, astep, awant, aeff, aop, ev, ofValue, St.put, List.getElem?_cons_zero, Option.getD_some, Option.map_some, if_true, List.set_cons_succ, List.set_cons_zero, List.length_nil, List.nil_append, dG_cells, dG_good]
  with_reducible refine hR _ ?_
  clear hR R
  show X _ _ _ _
  refine X_seq ?_
  refine X_seq ?_
  refine X_rg fun R hR => ?_
  simp only [EVP, aops, astep, awant, aeff, aop, ev, St.put, pcall, List.map_nil, List.getElem?_cons_succ, List.getElem?_cons_zero, Option.getD_some, Option.map_some, if_true, List.set_cons_succ, List.set_cons_zero, List.nil_append, Bool.not_true, any12, awake_ok]
  with_reducible refine hR _ ?_
  clear hR R
  show X _ _ _ _
  refine X_false (by simp only [ev, List.getElem?_cons_succ, List.getElem?_cons_zero, Option.getD_some]) ?_
  refine X_skip ?_
  show X _ _ _ _
  refine X_seq ?_
  refine X_seq ?_
  have hsm := small_fn p
  refine X_y ?_
  refine Y_k 4 fun R hR => ?_
  simp only [EVP, inr_i64, Int.reduceLE, Int.reduceNeg, aops, astep, awant, aeff, aop, abin, aint, mkD, ev, ofValue, St.put, pcall, List.map_cons, List.map_nil, List.getElem?_cons_succ, List.getElem?_cons_zero, Option.getD_some, Option.map_some, if_true, List.set_cons_succ, List.set_cons_zero, List.length_cons, List.length_nil, List.drop_zero, List.take_succ_cons, List.take_zero, List.cons_append, List.nil_append, Nat.reduceAdd, Nat.reduceLeDiff, Nat.zero_add, and_self, ty_api_Program, any19, dG_agg, hsm, small_eq']
  with_reducible refine hR _ ?_
  clear hR R
  simp only [List.drop_succ_cons, List.drop_zero]
  refine Y_if 13 (by simp only [ev, List.getElem?_cons_succ, List.getElem?_cons_zero, Option.getD_some]; exact rfl) ?_ ?_
  · intro b1
    have c1 := b1
    try simp only [Bool.not_eq_true'] at c1
    refine Y_end fun R hR => ?_
    simp only [EVP, inr_i64, Int.reduceLE, Int.reduceNeg, aops, astep, awant, aeff, aop, abin, ev, ofValue, St.put, List.getElem?_cons_succ, List.getElem?_cons_zero, Option.getD_some, Option.map_some, Option.map_none, Option.bind_some, if_true, List.set_cons_succ, List.set_cons_zero, Nat.add_zero, Bool.false_eq_true, if_false, and_self, reduceCtorEq, bq_tf, ty_s_api_VarDecl, ty_api_Program, und_api_VarDecl, b1]
    with_reducible refine hR _ ?_
    clear hR R
    show X _ _ _ _
    refine X_true (by simp only [ev, List.getElem?_cons_succ, List.getElem?_cons_zero, Option.getD_some]) ?_
    refine X_seq ?_
    refine X_rg fun R hR => ?_
    simp only [aops, astep, awant, aeff, aop, ev, ofValue, St.put, Option.getD_some, Option.map_some, if_true, List.set_cons_succ, List.set_cons_zero]
    with_reducible refine hR _ ?_
    clear hR R
    show X _ _ _ _
    refine X_ret ?_
    show resD _ _ _ = some _
    simp only [resD, resAll, resOne, resTup, Try.results9, EVP, List.getElem?_cons_succ, List.getElem?_cons_zero, D.good, if_true, Option.map_some] <;> (first | (rfl; done) | (simp_all; done) | (exfalso; simp_all; done) | (trace_state; fail))
  · intro b2
    have c2 := b2
    try simp only [Bool.not_eq_false'] at c2
    refine Y_end fun R hR => ?_
    simp only [EVP, inr_i64, Int.reduceLE, Int.reduceNeg, aops, astep, awant, aeff, aop, abin, aint, mkD, ev, ofValue, St.put, ia_slice, List.getElem?_cons_succ, List.getElem?_cons_zero, Option.getD_some, Option.map_some, Option.bind_some, if_true, List.set_cons_succ, List.set_cons_zero, List.length_map, List.length_cons, List.length_nil, List.drop_zero, List.take_succ_cons, List.take_zero, Nat.reduceAdd, Nat.reduceLeDiff, Nat.zero_add, Nat.add_zero, Bool.false_eq_true, if_false, and_self, reduceCtorEq, beq_self_eq_true, ty_s_api_VarDecl, ty_api_Program, und_api_VarDecl, b2]
    with_reducible refine hR _ ?_
    clear hR R
    show X _ _ _ _
    refine X_ite (by simp only [ev, List.getElem?_cons_succ, List.getElem?_cons_zero, Option.getD_some]; exact rfl) ?_ ?_
    · intro b3
      have c3 := b3
      try simp only [beq_iff_eq] at c3
      refine X_seq ?_
      refine X_rg fun R hR => ?_
      simp only [aops, astep, awant, aeff, aop, ev, ofValue, St.put, Option.getD_some, Option.map_some, if_true, List.set_cons_succ, List.set_cons_zero, b3]
      with_reducible refine hR _ ?_
      clear hR R
      show X _ _ _ _
      refine X_ret ?_
      show resD _ _ _ = some _
      simp only [resD, resAll, resOne, resTup, Try.results9, EVP, List.getElem?_cons_succ, List.getElem?_cons_zero, D.good, if_true, Option.map_some] <;> (first | (rfl; done) | (simp_all; done) | (exfalso; simp_all; done) | (trace_state; fail))
    · intro b4
      have c4 := b4
      try simp only [ne_eq, beq_eq_false_iff_ne] at c4
      exfalso
      have k1 : smallB p = true := by first | assumption | (simp_all; done)
      have k3 : ¬ p.vars.length = 0 := by first | omega | (simp_all; done)
      rcases hno with h | h
      · rw [k1] at h; cases h
      · exact k3 h
theorem law9_fn (p : Pg) (k : Int) (hk0 : 0 ≤ k) (hk1 : k ≤ 255) : fn EV 9 [dG p, .int .u8 k] = some (.bool true) := by
  by_cases h1 : smallB p = true
  · by_cases h3 : p.vars.length = 0
    · exact law9_n p k (.inr h3)
    · exact law9_y p k hk0 hk1 h1 (by omega)
  · exact law9_n p k (.inl (by simpa using h1))

end Go.Proofs.Ytjikokmhknnnoaa
