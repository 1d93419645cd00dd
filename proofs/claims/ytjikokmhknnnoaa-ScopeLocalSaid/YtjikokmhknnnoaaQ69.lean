/- The law ScopeOrder: its walk. -/
import Derived.Test.YtjikokmhknnnoaaRn
namespace Go.Proofs.Ytjikokmhknnnoaa
open Go.RowKit
end Go.Proofs.Ytjikokmhknnnoaa

/- The law ScopeDrops: its walk. -/
namespace Go.Proofs.Ytjikokmhknnnoaa
open Go.RowKit
theorem any_no {α : Type} {p : α → Bool} {l : List α} {i : Nat} (h : i < l.length) (h1 : (l.take i).any p = false) (h2 : p l[i] = false) : (l.take (i + 1)).any p = false := by
 rw [List.take_succ_eq_append_getElem h, List.any_append, h1]; simp [h2]
theorem any_yes {α : Type} {p : α → Bool} {l : List α} {i : Nat} (h : i < l.length) (h2 : p l[i] = true) : l.any p = true := List.any_eq_true.2 ⟨_, List.getElem_mem h, h2⟩
set_option maxRecDepth 100000 in
set_option maxHeartbeats 4000000 in
theorem ment_fn (s : ByteArray) : ∀ (N : Nat) (t : Tr), t.size ≤ N → N ≤ 1000000 → fn EV 22 [dN t, .str s] = some (.bool (mentB s t)) := by
 intro N
 induction N with
 | zero => intro t h; cases t; simp only [Tr.size] at h; omega
 | succ N IH =>
 intro t hN hM
 have ih := fun (c : Tr) (hc : c.size < t.size) => IH c (by omega) (by omega)
 clear IH
 refine fn_X rfl Try.func22 rfl (by simp only [plain, List.all_cons, List.all_nil, str_pl, dN_pl, Bool.and_true]) rfl rfl rfl ?_
 simp only [zmc, zmn, D.strip, dN_strip]
 simp only [enterSt, Try.ntmps22, zlc, zln, Nat.reduceAdd, Nat.reduceSub, zr1, zr0, zca, zna]
 refine X_seq ?_
 refine X_rg fun R hR => ?_
 simp only [aops, astep, awant, aeff, aop, ev, ofValue, St.put, zg0, zgd, zmo, if_true, zs1, zs0, zln, zna, dN_cells, dN_good, sl]
 with_reducible refine hR _ ?_
 clear hR R
 show X _ _ _ _
 refine X_seq ?_
 refine X_seq ?_
 refine X_y ?_
 refine Y_k 5 fun R hR => ?_
 simp only [EVP, aops, astep, awant, aeff, aop, abin, astr, mkD, ev, St.put, ia_str, zg1, zg0, zgd, zmo, if_true, zs1, zs0, zlc, zln, zd1, zd0, zt1, zt0, Nat.reduceAdd, Nat.reduceLeDiff, Nat.zero_add, zft, if_false, reduceCtorEq, ty_string, ty_api_Node]
 with_reducible refine hR _ ?_
 clear hR R
 simp only [zd1, zd0]
 refine Y_if 10 (by simp only [ev, zg1, zg0, zgd]; exact rfl) ?_ ?_
 ·intro b1
  have c1 := b1
  try simp only [beq_iff_eq] at c1
  refine Y_k 5 fun R hR => ?_
  simp only [EVP, inr_u8, Int.reduceLE, aops, astep, awant, aeff, aop, abin, aint, mkD, ev, ofValue, St.put, ia_int, zg1, zg0, zgd, zmo, zbs, if_true, zs1, zs0, zlc, zln, zd0, zt1, zt0, Nat.reduceAdd, Nat.reduceLeDiff, Nat.zero_add, Nat.add_zero, zft, if_false, and_self, reduceCtorEq, beq_self_eq_true, ty_uint8, ty_api_Node, b1]
  with_reducible refine hR _ ?_
  clear hR R
  simp only [zd1, zd0]
  refine Y_if 15 (by simp only [ev, zg1, zg0, zgd]; exact rfl) ?_ ?_
  ·intro b2
   have c2 := b2
   try simp only [bne_iff_ne, ne_eq] at c2
   refine Y_end fun R hR => ?_
   simp only [EVP, inr_u8, Int.reduceLE, aops, astep, awant, aeff, aop, abin, aint, mkD, ev, ofValue, St.put, ia_int, zg1, zg0, zgd, zmo, zbs, if_true, zs1, zs0, zlc, zln, zd0, zt1, zt0, Nat.reduceAdd, Nat.reduceLeDiff, Nat.zero_add, Nat.add_zero, zft, if_false, and_self, reduceCtorEq, beq_self_eq_true, ty_uint8, ty_api_Node, b2]
   with_reducible refine hR _ ?_
   clear hR R
   show X _ _ _ _
   refine X_ite (by simp only [ev, zg1, zg0, zgd]; exact rfl) ?_ ?_
   ·intro b3
    have c3 := b3
    try simp only [bne_iff_ne, ne_eq] at c3
    refine X_seq ?_
    refine X_rg fun R hR => ?_
    simp only [aops, astep, awant, aeff, aop, ev, ofValue, St.put, zgd, zmo, if_true, zs1, zs0, b3]
    with_reducible refine hR _ ?_
    clear hR R
    show X _ _ _ _
    refine X_ret ?_
    show resD _ _ _ = some _
    simp only [resD, resAll, resOne, resTup, Try.results22, EVP, zg1, zg0, D.good, if_true, zmo]
    have hh : mentB s t = true := by rw [mentB_eq]; first | (simp_all; done) | (simp [*]; done)
    rw [hh]
   ·intro b4
    have c4 := b4
    try simp only [bne_eq_false_iff_eq] at c4
    refine X_skip ?_
    show X _ _ _ _
    refine X_seq ?_
    refine X_seq ?_
    refine X_rg fun R hR => ?_
    simp only [inr_i64, Int.reduceLE, Int.reduceNeg, aops, astep, awant, aeff, aop, ev, ofValue, St.put, zgd, zmo, if_true, zs1, zs0, and_self, b4]
    with_reducible refine hR _ ?_
    clear hR R
    show X _ _ _ _
    refine X_block ?_
    have hown : (t.name.toList == s.toList && !(t.kind == 50) && !(t.kind == 51)) = false := by first | (simp_all; done) | (simp [*]; done)
    refine X_loop (fun m σ => ∃ (i : Nat) (r : List (List D)), σ = ⟨[slotOf σ 0, .str s, .ptr 0 0, slotOf σ 3, slotOf σ 4, .int .i64 i, slotOf σ 6, slotOf σ 7, slotOf σ 8, slotOf σ 9, slotOf σ 10, slotOf σ 11, slotOf σ 12, slotOf σ 13, slotOf σ 14, slotOf σ 15, slotOf σ 16, slotOf σ 17, slotOf σ 18, slotOf σ 19, slotOf σ 20, slotOf σ 21, slotOf σ 22, slotOf σ 23, slotOf σ 24, slotOf σ 25, slotOf σ 26, slotOf σ 27, slotOf σ 28, slotOf σ 29, slotOf σ 30, slotOf σ 31, slotOf σ 32, slotOf σ 33], [.int .u8 t.kind, .int .i64 t.num, .str t.name, .slice .imm (if (t.kids.map dN).isEmpty = true then 0 else 4) (t.kids.map dN)] :: r, 0, []⟩ ∧ m = t.kids.length - i ∧ i ≤ t.kids.length ∧ Hid ((t.kids.take i).any (mentB s) = false)) ?_ (t.kids.length) _ ?_
    rotate_left
    ·exact ⟨0, _, rfl, rfl, Nat.zero_le _, Lib.hid (by simp)⟩
    rintro m σ ⟨i, r, hσ, rfl, hi, hs⟩
    generalize slotOf σ = x at hσ
    subst hσ
    have hn4 : ∀ j, j < t.kids.length → ((if (t.kids.map dN).isEmpty = true then 0 else 4) = 4) = True := fun j h => eq_true (sl_n (j := j) (by simpa using h))
    refine X_seq ?_
    refine X_seq ?_
    refine X_rg fun R hR => ?_
    simp only [EVP, nat_lt, aops, astep, awant, aeff, aop, abin, aint, mkD, ev, St.put, ia_slice, zg1, zg0, zgd, zmo, if_true, zs1, zs0, zlm, zlc, zln, zd1, zd0, zt1, zt0, Nat.reduceAdd, Nat.reduceLeDiff, Nat.zero_add, zft, if_false, reduceCtorEq, ty_s_api_Node, ty_api_Node, und_api_Node]
    with_reducible refine hR _ ?_
    clear hR R
    show X _ _ _ _
    refine X_ite (by simp only [ev, zg1, zg0, zgd]; exact rfl) ?_ ?_
    ·intro b5
     have c5 := b5
     try simp only [decide_eq_true_eq] at c5
     refine X_skip ?_
     show X _ _ _ _
     refine X_seq ?_
     refine X_block ?_
     refine X_seq ?_
     have hlt : i < t.kids.length := by first | assumption | omega
     have h1 := hn4 i hlt
     have e1 : (t.kids.map dN)[i]? = some (dN t.kids[i]) := by simp [hlt]
     have hih := ih t.kids[i] (Tr.size_kid hlt)
     refine X_rg fun R hR => ?_
     simp only [EVP, nat_lt, nat_0, nat_to, aops, astep, awant, aeff, aop, mkD, ev, St.put, pcall, ia_slice, zmc, zmn, zg1, zg0, zgd, zmo, if_true, zs1, zs0, zlm, zlc, zln, zd1, zd0, zt1, zt0, zca, zna, Nat.reduceAdd, Nat.reduceLeDiff, Nat.zero_add, zft, if_false, and_self, reduceCtorEq, decide_true, zis, ty_s_api_Node, ty_api_Node, und_api_Node, siz_api_Node, inf_api_Node_eq, any22, dN_cells, dN_isAgg, sl, hlt, h1, e1, hih]
     with_reducible refine hR _ ?_
     clear hR R
     show X _ _ _ _
     refine X_ite (by simp only [ev, zg1, zg0, zgd]; exact rfl) ?_ ?_
     ·intro b6
      have c6 := b6
      try simp only [znt, znf, decide_eq_true_eq, decide_eq_false_iff_not, beq_iff_eq, Int.not_lt, Int.not_le, ge_iff_le, gt_iff_lt, bne_iff_ne, ne_eq, bne_eq_false_iff_eq, beq_eq_false_iff_ne, zat, zof] at c6
      refine X_seq ?_
      refine X_rg fun R hR => ?_
      simp only [aops, astep, awant, aeff, aop, ev, ofValue, St.put, zgd, zmo, if_true, zs1, zs0, b6]
      with_reducible refine hR _ ?_
      clear hR R
      show X _ _ _ _
      refine X_ret ?_
      show resD _ _ _ = some _
      simp only [resD, resAll, resOne, resTup, Try.results22, EVP, zg1, zg0, D.good, if_true, zmo]
      have hh : mentB s t = true := by rw [mentB_eq, any_yes hlt (by first | assumption | (simp_all; done)), Bool.or_true]
      rw [hh]
     ·intro b7
      have c7 := b7
      try simp only [znt, znf, decide_eq_true_eq, decide_eq_false_iff_not, beq_iff_eq, Int.not_lt, Int.not_le, ge_iff_le, gt_iff_lt, bne_iff_ne, ne_eq, bne_eq_false_iff_eq, beq_eq_false_iff_ne, zat, zof] at c7
      refine X_skip ?_
      show X _ _ _ _
      have hbig : i < 9223372036854775807 := by have := Tr.length_kids t; omega
      refine X_rg fun R hR => ?_
      simp only [inr_i64, Int.reduceLE, Int.reduceNeg, aops, astep, awant, aeff, aop, abin, aint, ev, ofValue, St.put, zg1, zg0, zgd, zmo, if_true, zs1, zs0, and_self, b7, nat_succ hbig]
      with_reducible refine hR _ ?_
      clear hR R
      show ∃ m, m < _ ∧ _
      exact ⟨t.kids.length - (i + 1), by omega, i + 1, r, rfl, rfl, by omega, Lib.hid (any_no hlt hs.out (by first | assumption | (simp_all; done)))⟩
    ·intro b8
     have c8 := b8
     try simp only [decide_eq_false_iff_not] at c8
     refine X_exit ?_
     show X _ _ _ _
     refine X_seq ?_
     refine X_rg fun R hR => ?_
     simp only [aops, astep, awant, aeff, aop, ev, ofValue, St.put, zgd, zmo, if_true, zs1, zs0, b8]
     with_reducible refine hR _ ?_
     clear hR R
     show X _ _ _ _
     refine X_ret ?_
     show resD _ _ _ = some _
     simp only [resD, resAll, resOne, resTup, Try.results22, EVP, zg1, zg0, D.good, if_true, zmo]
     have hq := hs.out
     rw [List.take_of_length_le (by omega)] at hq
     have hh : mentB s t = false := by rw [mentB_eq, hq, hown]; rfl
     rw [hh]
  ·intro b9
   have c9 := b9
   try simp only [bne_eq_false_iff_eq] at c9
   refine Y_end fun R hR => ?_
   simp only [EVP, inr_u8, Int.reduceLE, aops, astep, awant, aeff, aop, abin, ev, ofValue, St.put, zg1, zg0, zgd, zmo, Option.map_none, zbs, if_true, zs1, zs0, Nat.add_zero, zft, if_false, and_self, reduceCtorEq, bq_ft, ty_uint8, ty_api_Node, b9]
   with_reducible refine hR _ ?_
   clear hR R
   show X _ _ _ _
   refine X_false (by simp only [ev, zg1, zg0, zgd]) ?_
   refine X_skip ?_
   show X _ _ _ _
   refine X_seq ?_
   refine X_seq ?_
   refine X_rg fun R hR => ?_
   simp only [inr_i64, Int.reduceLE, Int.reduceNeg, aops, astep, awant, aeff, aop, ev, ofValue, St.put, zgd, zmo, if_true, zs1, zs0, and_self]
   with_reducible refine hR _ ?_
   clear hR R
   show X _ _ _ _
   refine X_block ?_
   have hown : (t.name.toList == s.toList && !(t.kind == 50) && !(t.kind == 51)) = false := by first | (simp_all; done) | (simp [*]; done)
   refine X_loop (fun m σ => ∃ (i : Nat) (r : List (List D)), σ = ⟨[slotOf σ 0, .str s, .ptr 0 0, slotOf σ 3, slotOf σ 4, .int .i64 i, slotOf σ 6, slotOf σ 7, slotOf σ 8, slotOf σ 9, slotOf σ 10, slotOf σ 11, slotOf σ 12, slotOf σ 13, slotOf σ 14, slotOf σ 15, slotOf σ 16, slotOf σ 17, slotOf σ 18, slotOf σ 19, slotOf σ 20, slotOf σ 21, slotOf σ 22, slotOf σ 23, slotOf σ 24, slotOf σ 25, slotOf σ 26, slotOf σ 27, slotOf σ 28, slotOf σ 29, slotOf σ 30, slotOf σ 31, slotOf σ 32, slotOf σ 33], [.int .u8 t.kind, .int .i64 t.num, .str t.name, .slice .imm (if (t.kids.map dN).isEmpty = true then 0 else 4) (t.kids.map dN)] :: r, 0, []⟩ ∧ m = t.kids.length - i ∧ i ≤ t.kids.length ∧ Hid ((t.kids.take i).any (mentB s) = false)) ?_ (t.kids.length) _ ?_
   rotate_left
   ·exact ⟨0, _, rfl, rfl, Nat.zero_le _, Lib.hid (by simp)⟩
   rintro m σ ⟨i, r, hσ, rfl, hi, hs⟩
   generalize slotOf σ = x at hσ
   subst hσ
   have hn4 : ∀ j, j < t.kids.length → ((if (t.kids.map dN).isEmpty = true then 0 else 4) = 4) = True := fun j h => eq_true (sl_n (j := j) (by simpa using h))
   refine X_seq ?_
   refine X_seq ?_
   refine X_rg fun R hR => ?_
   simp only [EVP, nat_lt, aops, astep, awant, aeff, aop, abin, aint, mkD, ev, St.put, ia_slice, zg1, zg0, zgd, zmo, if_true, zs1, zs0, zlm, zlc, zln, zd1, zd0, zt1, zt0, Nat.reduceAdd, Nat.reduceLeDiff, Nat.zero_add, zft, if_false, reduceCtorEq, ty_s_api_Node, ty_api_Node, und_api_Node]
   with_reducible refine hR _ ?_
   clear hR R
   show X _ _ _ _
   refine X_ite (by simp only [ev, zg1, zg0, zgd]; exact rfl) ?_ ?_
   ·intro b10
    have c10 := b10
    try simp only [decide_eq_true_eq] at c10
    refine X_skip ?_
    show X _ _ _ _
    refine X_seq ?_
    refine X_block ?_
    refine X_seq ?_
    have hlt : i < t.kids.length := by first | assumption | omega
    have h1 := hn4 i hlt
    have e1 : (t.kids.map dN)[i]? = some (dN t.kids[i]) := by simp [hlt]
    have hih := ih t.kids[i] (Tr.size_kid hlt)
    refine X_rg fun R hR => ?_
    simp only [EVP, nat_lt, nat_0, nat_to, aops, astep, awant, aeff, aop, mkD, ev, St.put, pcall, ia_slice, zmc, zmn, zg1, zg0, zgd, zmo, if_true, zs1, zs0, zlm, zlc, zln, zd1, zd0, zt1, zt0, zca, zna, Nat.reduceAdd, Nat.reduceLeDiff, Nat.zero_add, zft, if_false, and_self, reduceCtorEq, decide_true, zis, ty_s_api_Node, ty_api_Node, und_api_Node, siz_api_Node, inf_api_Node_eq, any22, dN_cells, dN_isAgg, sl, hlt, h1, e1, hih]
    with_reducible refine hR _ ?_
    clear hR R
    show X _ _ _ _
    refine X_ite (by simp only [ev, zg1, zg0, zgd]; exact rfl) ?_ ?_
    ·intro b11
     have c11 := b11
     try simp only [znt, znf, decide_eq_true_eq, decide_eq_false_iff_not, beq_iff_eq, Int.not_lt, Int.not_le, ge_iff_le, gt_iff_lt, bne_iff_ne, ne_eq, bne_eq_false_iff_eq, beq_eq_false_iff_ne, zat, zof] at c11
     refine X_seq ?_
     refine X_rg fun R hR => ?_
     simp only [aops, astep, awant, aeff, aop, ev, ofValue, St.put, zgd, zmo, if_true, zs1, zs0, b11]
     with_reducible refine hR _ ?_
     clear hR R
     show X _ _ _ _
     refine X_ret ?_
     show resD _ _ _ = some _
     simp only [resD, resAll, resOne, resTup, Try.results22, EVP, zg1, zg0, D.good, if_true, zmo]
     have hh : mentB s t = true := by rw [mentB_eq, any_yes hlt (by first | assumption | (simp_all; done)), Bool.or_true]
     rw [hh]
    ·intro b12
     have c12 := b12
     try simp only [znt, znf, decide_eq_true_eq, decide_eq_false_iff_not, beq_iff_eq, Int.not_lt, Int.not_le, ge_iff_le, gt_iff_lt, bne_iff_ne, ne_eq, bne_eq_false_iff_eq, beq_eq_false_iff_ne, zat, zof] at c12
     refine X_skip ?_
     show X _ _ _ _
     have hbig : i < 9223372036854775807 := by have := Tr.length_kids t; omega
     refine X_rg fun R hR => ?_
     simp only [inr_i64, Int.reduceLE, Int.reduceNeg, aops, astep, awant, aeff, aop, abin, aint, ev, ofValue, St.put, zg1, zg0, zgd, zmo, if_true, zs1, zs0, and_self, b12, nat_succ hbig]
     with_reducible refine hR _ ?_
     clear hR R
     show ∃ m, m < _ ∧ _
     exact ⟨t.kids.length - (i + 1), by omega, i + 1, r, rfl, rfl, by omega, Lib.hid (any_no hlt hs.out (by first | assumption | (simp_all; done)))⟩
   ·intro b13
    have c13 := b13
    try simp only [decide_eq_false_iff_not] at c13
    refine X_exit ?_
    show X _ _ _ _
    refine X_seq ?_
    refine X_rg fun R hR => ?_
    simp only [aops, astep, awant, aeff, aop, ev, ofValue, St.put, zgd, zmo, if_true, zs1, zs0, b13]
    with_reducible refine hR _ ?_
    clear hR R
    show X _ _ _ _
    refine X_ret ?_
    show resD _ _ _ = some _
    simp only [resD, resAll, resOne, resTup, Try.results22, EVP, zg1, zg0, D.good, if_true, zmo]
    have hq := hs.out
    rw [List.take_of_length_le (by omega)] at hq
    have hh : mentB s t = false := by rw [mentB_eq, hq, hown]; rfl
    rw [hh]
 ·intro b14
  have c14 := b14
  try simp only [ne_eq, beq_eq_false_iff_ne] at c14
  refine Y_end fun R hR => ?_
  simp only [EVP, inr_u8, Int.reduceLE, aops, astep, awant, aeff, aop, abin, ev, ofValue, St.put, zg1, zg0, zgd, zmo, Option.map_none, zbs, if_true, zs1, zs0, Nat.add_zero, zft, if_false, and_self, reduceCtorEq, bq_ft, ty_uint8, ty_api_Node, b14]
  with_reducible refine hR _ ?_
  clear hR R
  show X _ _ _ _
  refine X_false (by simp only [ev, zg1, zg0, zgd]) ?_
  refine X_skip ?_
  show X _ _ _ _
  refine X_seq ?_
  refine X_seq ?_
  refine X_rg fun R hR => ?_
  simp only [inr_i64, Int.reduceLE, Int.reduceNeg, aops, astep, awant, aeff, aop, ev, ofValue, St.put, zgd, zmo, if_true, zs1, zs0, and_self]
  with_reducible refine hR _ ?_
  clear hR R
  show X _ _ _ _
  refine X_block ?_
  have hown : (t.name.toList == s.toList && !(t.kind == 50) && !(t.kind == 51)) = false := by first | (simp_all; done) | (simp [*]; done)
  refine X_loop (fun m σ => ∃ (i : Nat) (r : List (List D)), σ = ⟨[slotOf σ 0, .str s, .ptr 0 0, slotOf σ 3, slotOf σ 4, .int .i64 i, slotOf σ 6, slotOf σ 7, slotOf σ 8, slotOf σ 9, slotOf σ 10, slotOf σ 11, slotOf σ 12, slotOf σ 13, slotOf σ 14, slotOf σ 15, slotOf σ 16, slotOf σ 17, slotOf σ 18, slotOf σ 19, slotOf σ 20, slotOf σ 21, slotOf σ 22, slotOf σ 23, slotOf σ 24, slotOf σ 25, slotOf σ 26, slotOf σ 27, slotOf σ 28, slotOf σ 29, slotOf σ 30, slotOf σ 31, slotOf σ 32, slotOf σ 33], [.int .u8 t.kind, .int .i64 t.num, .str t.name, .slice .imm (if (t.kids.map dN).isEmpty = true then 0 else 4) (t.kids.map dN)] :: r, 0, []⟩ ∧ m = t.kids.length - i ∧ i ≤ t.kids.length ∧ Hid ((t.kids.take i).any (mentB s) = false)) ?_ (t.kids.length) _ ?_
  rotate_left
  ·exact ⟨0, _, rfl, rfl, Nat.zero_le _, Lib.hid (by simp)⟩
  rintro m σ ⟨i, r, hσ, rfl, hi, hs⟩
  generalize slotOf σ = x at hσ
  subst hσ
  have hn4 : ∀ j, j < t.kids.length → ((if (t.kids.map dN).isEmpty = true then 0 else 4) = 4) = True := fun j h => eq_true (sl_n (j := j) (by simpa using h))
  refine X_seq ?_
  refine X_seq ?_
  refine X_rg fun R hR => ?_
  simp only [EVP, nat_lt, aops, astep, awant, aeff, aop, abin, aint, mkD, ev, St.put, ia_slice, zg1, zg0, zgd, zmo, if_true, zs1, zs0, zlm, zlc, zln, zd1, zd0, zt1, zt0, Nat.reduceAdd, Nat.reduceLeDiff, Nat.zero_add, zft, if_false, reduceCtorEq, ty_s_api_Node, ty_api_Node, und_api_Node]
  with_reducible refine hR _ ?_
  clear hR R
  show X _ _ _ _
  refine X_ite (by simp only [ev, zg1, zg0, zgd]; exact rfl) ?_ ?_
  ·intro b15
   have c15 := b15
   try simp only [decide_eq_true_eq] at c15
   refine X_skip ?_
   show X _ _ _ _
   refine X_seq ?_
   refine X_block ?_
   refine X_seq ?_
   have hlt : i < t.kids.length := by first | assumption | omega
   have h1 := hn4 i hlt
   have e1 : (t.kids.map dN)[i]? = some (dN t.kids[i]) := by simp [hlt]
   have hih := ih t.kids[i] (Tr.size_kid hlt)
   refine X_rg fun R hR => ?_
   simp only [EVP, nat_lt, nat_0, nat_to, aops, astep, awant, aeff, aop, mkD, ev, St.put, pcall, ia_slice, zmc, zmn, zg1, zg0, zgd, zmo, if_true, zs1, zs0, zlm, zlc, zln, zd1, zd0, zt1, zt0, zca, zna, Nat.reduceAdd, Nat.reduceLeDiff, Nat.zero_add, zft, if_false, and_self, reduceCtorEq, decide_true, zis, ty_s_api_Node, ty_api_Node, und_api_Node, siz_api_Node, inf_api_Node_eq, any22, dN_cells, dN_isAgg, sl, hlt, h1, e1, hih]
   with_reducible refine hR _ ?_
   clear hR R
   show X _ _ _ _
   refine X_ite (by simp only [ev, zg1, zg0, zgd]; exact rfl) ?_ ?_
   ·intro b16
    have c16 := b16
    try simp only [znt, znf, decide_eq_true_eq, decide_eq_false_iff_not, beq_iff_eq, Int.not_lt, Int.not_le, ge_iff_le, gt_iff_lt, bne_iff_ne, ne_eq, bne_eq_false_iff_eq, beq_eq_false_iff_ne, zat, zof] at c16
    refine X_seq ?_
    refine X_rg fun R hR => ?_
    simp only [aops, astep, awant, aeff, aop, ev, ofValue, St.put, zgd, zmo, if_true, zs1, zs0, b16]
    with_reducible refine hR _ ?_
    clear hR R
    show X _ _ _ _
    refine X_ret ?_
    show resD _ _ _ = some _
    simp only [resD, resAll, resOne, resTup, Try.results22, EVP, zg1, zg0, D.good, if_true, zmo]
    have hh : mentB s t = true := by rw [mentB_eq, any_yes hlt (by first | assumption | (simp_all; done)), Bool.or_true]
    rw [hh]
   ·intro b17
    have c17 := b17
    try simp only [znt, znf, decide_eq_true_eq, decide_eq_false_iff_not, beq_iff_eq, Int.not_lt, Int.not_le, ge_iff_le, gt_iff_lt, bne_iff_ne, ne_eq, bne_eq_false_iff_eq, beq_eq_false_iff_ne, zat, zof] at c17
    refine X_skip ?_
    show X _ _ _ _
    have hbig : i < 9223372036854775807 := by have := Tr.length_kids t; omega
    refine X_rg fun R hR => ?_
    simp only [inr_i64, Int.reduceLE, Int.reduceNeg, aops, astep, awant, aeff, aop, abin, aint, ev, ofValue, St.put, zg1, zg0, zgd, zmo, if_true, zs1, zs0, and_self, b17, nat_succ hbig]
    with_reducible refine hR _ ?_
    clear hR R
    show ∃ m, m < _ ∧ _
    exact ⟨t.kids.length - (i + 1), by omega, i + 1, r, rfl, rfl, by omega, Lib.hid (any_no hlt hs.out (by first | assumption | (simp_all; done)))⟩
  ·intro b18
   have c18 := b18
   try simp only [decide_eq_false_iff_not] at c18
   refine X_exit ?_
   show X _ _ _ _
   refine X_seq ?_
   refine X_rg fun R hR => ?_
   simp only [aops, astep, awant, aeff, aop, ev, ofValue, St.put, zgd, zmo, if_true, zs1, zs0, b18]
   with_reducible refine hR _ ?_
   clear hR R
   show X _ _ _ _
   refine X_ret ?_
   show resD _ _ _ = some _
   simp only [resD, resAll, resOne, resTup, Try.results22, EVP, zg1, zg0, D.good, if_true, zmo]
   have hq := hs.out
   rw [List.take_of_length_le (by omega)] at hq
   have hh : mentB s t = false := by rw [mentB_eq, hq, hown]; rfl
   rw [hh]
end Go.Proofs.Ytjikokmhknnnoaa
