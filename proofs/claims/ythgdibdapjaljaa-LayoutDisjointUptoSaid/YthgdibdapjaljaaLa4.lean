/- Layouts over data: declarations, add. -/
import Derived.Test.YthgdibdapjaljaaLa2
namespace Go.Proofs.Ythgdibdapjaljaa
open Go.RowKit

/-- a valid declaration, without its name -/
def dclB (v : Vd) : Bool := if v.kind = 1 ∨ v.kind = 3 then v.len == 0 else if v.kind = 2 then decide (1 ≤ v.len) && decide (v.len ≤ 16) else false
def dclsB (l : List Vd) : Bool := decide (l.length ≤ 32) && l.all dclB
theorem all_take_succ {α : Type} {p : α → Bool} {l : List α} {i : Nat} (h : i < l.length) (h1 : (l.take i).all p = true) (h2 : p l[i] = true) : (l.take (i + 1)).all p = true := by
 rw [List.take_succ_eq_append_getElem h, List.all_append, h1]; simp [h2]
theorem all_false_at {α : Type} {p : α → Bool} {l : List α} {i : Nat} (h : i < l.length) (h2 : p l[i] = false) : l.all p = false := by
 rw [List.all_eq_false]; exact ⟨_, List.getElem_mem h, by simp [h2]⟩
set_option maxRecDepth 100000 in
set_option maxHeartbeats 4000000 in
theorem svalid_fn (l : List Vd) : fn EV 53 [sl 3 (l.map dV)] = some (.bool (dclsB l)) := by
 refine fn_X rfl Try.func53 rfl (by simp only [plain, List.all_cons, List.all_nil, sl_pl (f := dV) (fun _ _ => rfl), Bool.and_true]) (rfl) (rfl) (rfl) ?_
 simp only [zmc, zmn, sl_strip (map_strip (f := dV) (fun _ => rfl) _)]
 simp only [enterSt, Try.ntmps53, zlc, zln, Nat.reduceAdd, Nat.reduceSub, zr1, zr0, zca, zna]
 refine X_seq ?_
 refine X_rg fun R hR => ?_
 simp only [aops, astep, awant, aeff, aop, ev, ofValue, St.put, zgd, zmo, if_true, zs1, zs0, sl]
 with_reducible refine hR _ ?_
 clear hR R
 show X _ _ _ _
 refine X_seq ?_
 refine X_seq ?_
 refine X_rg fun R hR => ?_
 simp only [EVP, inr_i64, Int.reduceLE, Int.reduceNeg, aops, astep, awant, aeff, aop, abin, aint, ev, ofValue, St.put, zg1, zg0, zgd, zmo, if_true, zs1, zs0, zlm, and_self, und_api_VarDecl]
 with_reducible refine hR _ ?_
 clear hR R
 show X _ _ _ _
 refine X_ite (by simp only [ev, zg1, zg0, zgd]; exact rfl) ?_ ?_
 ·intro b1
  have c1 := b1
  try simp only [decide_eq_true_eq, gt_iff_lt] at c1
  refine X_seq ?_
  refine X_rg fun R hR => ?_
  simp only [aops, astep, awant, aeff, aop, ev, ofValue, St.put, zgd, zmo, if_true, zs1, zs0, b1]
  with_reducible refine hR _ ?_
  clear hR R
  show X _ _ _ _
  refine X_ret ?_
  show resD _ _ _ = some _
  simp only [resD, resAll, resOne, resTup, Try.results53, EVP, zg1, zg0, D.good, if_true, zmo] <;> (first | (rw [dclsB, all_false_at (p := dclB) hlt (by unfold dclB; first | (simp [c1]; done) | (simp [c1]; omega) | (simp; omega)), Bool.and_false]; done) | (have hA := hall.out; rw [List.take_of_length_le (by omega)] at hA; rw [dclsB, hA, decide_eq_true hln]; rfl; done) | (rw [dclsB, decide_eq_false (by simp at *; omega)]; rfl; done) | (exfalso; simp_all; done))
 ·intro b2
  have c2 := b2
  try simp only [decide_eq_false_iff_not, Int.not_lt, gt_iff_lt] at c2
  refine X_skip ?_
  show X _ _ _ _
  refine X_seq ?_
  refine X_seq ?_
  refine X_rg fun R hR => ?_
  simp only [EVP, inr_i64, Int.reduceLE, Int.reduceNeg, aops, astep, awant, aeff, aop, ev, ofValue, St.put, zg1, zg0, zgd, zmo, if_true, zs1, zs0, zlm, and_self, und_api_VarDecl, b2]
  with_reducible refine hR _ ?_
  clear hR R
  show X _ _ _ _
  refine X_block ?_
  have hln : l.length ≤ 32 := by simp at *; omega
  refine X_loop (fun m σ => ∃ (i : Nat) (r : List (List D)), σ = ⟨[slotOf σ 0, slotOf σ 1, slotOf σ 2, slotOf σ 3, slotOf σ 4, slotOf σ 5, slotOf σ 6, slotOf σ 7, .slice .imm (if (l.map dV).isEmpty = true then 0 else 3) (l.map dV), .int .i64 l.length, .int .i64 i, slotOf σ 11, slotOf σ 12, slotOf σ 13, slotOf σ 14, slotOf σ 15, slotOf σ 16, slotOf σ 17, slotOf σ 18, slotOf σ 19, slotOf σ 20, slotOf σ 21, slotOf σ 22, slotOf σ 23, slotOf σ 24, slotOf σ 25, slotOf σ 26, slotOf σ 27, slotOf σ 28, slotOf σ 29, slotOf σ 30, slotOf σ 31, slotOf σ 32], r, 0, []⟩ ∧ m = l.length - i ∧ i ≤ l.length ∧ Hid ((l.take i).all dclB = true)) ?_ (l.length) _ ?_
  rotate_left
  ·exact ⟨0, _, rfl, rfl, Nat.zero_le _, Lib.hid rfl⟩
  rintro m σ ⟨i, r, hσ, rfl, hi, hall⟩
  generalize slotOf σ = x at hσ
  subst hσ
  refine X_seq ?_
  refine X_rg fun R hR => ?_
  simp only [nat_lt, aops, astep, awant, aeff, aop, abin, aint, ev, St.put, zg1, zg0, zgd, zmo, if_true, zs1, zs0]
  with_reducible refine hR _ ?_
  clear hR R
  show X _ _ _ _
  refine X_seq ?_
  refine X_ite (by simp only [ev, zg1, zg0, zgd]; exact rfl) ?_ ?_
  ·intro b3
   have c3 := b3
   try simp only [decide_eq_true_eq] at c3
   refine X_skip ?_
   show X _ _ _ _
   refine X_seq ?_
   refine X_block ?_
   refine X_seq ?_
   have hlt : i < l.length := by first | assumption | omega
   have hn1 : ((if (l.map dV).isEmpty = true then 0 else 3) = 3) = True := eq_true (sl_n (j := i) (by simpa using hlt))
   have e1 : (l.map dV)[i]? = some (.agg [.str l[i].name, .int .u8 l[i].kind, .int .i64 l[i].len]) := by rw [List.getElem?_map, List.getElem?_eq_getElem hlt]; rfl
   refine X_rg fun R hR => ?_
   simp only [EVP, app_get0, app_set0, nat_lt, nat_0, nat_to, aops, astep, awant, aeff, aop, astore, ev, St.put, gd_agg, ia_agg, cl_agg, zg1, zg0, zgd, zmo, zbs, if_true, zs1, zs0, zlm, zlc, zln, zd1, zd0, zt0, zca, zna, Nat.reduceAdd, Nat.reduceLeDiff, Nat.zero_add, and_self, decide_true, zis, ty_api_VarDecl, und_api_VarDecl, siz_api_VarDecl, inf_api_VarDecl_eq, hlt, hn1, e1]
   with_reducible refine hR _ ?_
   clear hR R
   show X _ _ _ _
   refine X_seq ?_
   refine X_rg fun R hR => ?_
   simp only [EVP, app_get0, aops, astep, awant, aeff, aop, mkD, ev, St.put, ia_int, zg1, zg0, zgd, zmo, if_true, zs1, zs0, zlc, zln, zd1, zd0, zt1, zt0, Nat.reduceAdd, Nat.reduceLeDiff, Nat.zero_add, zft, if_false, reduceCtorEq, ty_uint8, ty_api_VarDecl]
   with_reducible refine hR _ ?_
   clear hR R
   show X _ _ _ _
   refine X_block ?_
   refine X_seq ?_
   refine X_seq ?_
   refine X_rg fun R hR => ?_
   simp only [inr_u8, Int.reduceLE, aops, astep, awant, aeff, aop, abin, aint, ev, ofValue, St.put, zg1, zg0, zgd, zmo, if_true, zs1, zs0, and_self]
   with_reducible refine hR _ ?_
   clear hR R
   show X _ _ _ _
   refine X_ite (by simp only [ev, zg1, zg0, zgd]; exact rfl) ?_ ?_
   ·intro b4
    have c4 := b4
    try simp only [beq_iff_eq] at c4
    refine X_skip ?_
    show X _ _ _ _
    refine X_true (by simp only [ev, zg1, zg0, zgd, b4]) ?_
    refine X_seq ?_
    refine X_rg fun R hR => ?_
    simp only [EVP, inr_i64, Int.reduceLE, Int.reduceNeg, app_get0, aops, astep, awant, aeff, aop, abin, aint, mkD, ev, ofValue, St.put, ia_int, zg1, zg0, zgd, zmo, if_true, zs1, zs0, zlc, zln, zd1, zd0, zt1, zt0, Nat.reduceAdd, Nat.reduceLeDiff, Nat.zero_add, zft, if_false, and_self, reduceCtorEq, ty_int, ty_api_VarDecl, b4]
    with_reducible refine hR _ ?_
    clear hR R
    show X _ _ _ _
    refine X_ite (by simp only [ev, zg1, zg0, zgd]; exact rfl) ?_ ?_
    ·intro b5
     have c5 := b5
     try simp only [bne_iff_ne, ne_eq] at c5
     refine X_seq ?_
     refine X_rg fun R hR => ?_
     simp only [aops, astep, awant, aeff, aop, ev, ofValue, St.put, zgd, zmo, if_true, zs1, zs0, b5]
     with_reducible refine hR _ ?_
     clear hR R
     show X _ _ _ _
     refine X_ret ?_
     show resD _ _ _ = some _
     simp only [resD, resAll, resOne, resTup, Try.results53, EVP, zg1, zg0, D.good, if_true, zmo] <;> (first | (rw [dclsB, all_false_at (p := dclB) hlt (by unfold dclB; first | (simp [c4, c5]; done) | (simp [c2, c3, c4, c5]; omega) | (simp; omega)), Bool.and_false]; done) | (have hA := hall.out; rw [List.take_of_length_le (by omega)] at hA; rw [dclsB, hA, decide_eq_true hln]; rfl; done) | (rw [dclsB, decide_eq_false (by simp at *; omega)]; rfl; done) | (exfalso; simp_all; done))
    ·intro b6
     have c6 := b6
     try simp only [bne_eq_false_iff_eq] at c6
     refine X_skip ?_
     show X _ _ _ _
     have hbig : i < 9223372036854775807 := by omega
     refine X_rg fun R hR => ?_
     simp only [inr_i64, Int.reduceLE, Int.reduceNeg, aops, astep, awant, aeff, aop, abin, aint, ev, ofValue, St.put, zg1, zg0, zgd, zmo, if_true, zs1, zs0, and_self, b6, nat_succ hbig]
     with_reducible refine hR _ ?_
     clear hR R
     show ∃ m, m < _ ∧ _
     have hok : dclB l[i] = true := (by unfold dclB; first | (simp [c4, c6]; done) | (simp [c2, c3, c4, c6]; omega) | (simp; omega))
     exact ⟨l.length - (i + 1), by omega, i + 1, _, rfl, rfl, by omega, Lib.hid (all_take_succ hlt hall.out hok)⟩
   ·intro b7
    have c7 := b7
    try simp only [ne_eq, beq_eq_false_iff_ne] at c7
    refine X_rg fun R hR => ?_
    simp only [inr_u8, Int.reduceLE, aops, astep, awant, aeff, aop, abin, aint, ev, ofValue, St.put, zg1, zg0, zgd, zmo, if_true, zs1, zs0, and_self, b7]
    with_reducible refine hR _ ?_
    clear hR R
    show X _ _ _ _
    refine X_ite (by simp only [ev, zg1, zg0, zgd]; exact rfl) ?_ ?_
    ·intro b8
     have c8 := b8
     try simp only [beq_iff_eq] at c8
     refine X_seq ?_
     refine X_rg fun R hR => ?_
     simp only [EVP, inr_i64, Int.reduceLE, Int.reduceNeg, app_get0, aops, astep, awant, aeff, aop, abin, aint, mkD, ev, ofValue, St.put, ia_int, zg1, zg0, zgd, zmo, if_true, zs1, zs0, zlc, zln, zd1, zd0, zt1, zt0, Nat.reduceAdd, Nat.reduceLeDiff, Nat.zero_add, zft, if_false, and_self, reduceCtorEq, ty_int, ty_api_VarDecl, b8]
     with_reducible refine hR _ ?_
     clear hR R
     show X _ _ _ _
     refine X_ite (by simp only [ev, zg1, zg0, zgd]; exact rfl) ?_ ?_
     ·intro b9
      have c9 := b9
      try simp only [bne_iff_ne, ne_eq] at c9
      refine X_seq ?_
      refine X_rg fun R hR => ?_
      simp only [aops, astep, awant, aeff, aop, ev, ofValue, St.put, zgd, zmo, if_true, zs1, zs0, b9]
      with_reducible refine hR _ ?_
      clear hR R
      show X _ _ _ _
      refine X_ret ?_
      show resD _ _ _ = some _
      simp only [resD, resAll, resOne, resTup, Try.results53, EVP, zg1, zg0, D.good, if_true, zmo] <;> (first | (rw [dclsB, all_false_at (p := dclB) hlt (by unfold dclB; first | (simp [c8, c9]; done) | (simp [c2, c3, c7, c8, c9]; omega) | (simp; omega)), Bool.and_false]; done) | (have hA := hall.out; rw [List.take_of_length_le (by omega)] at hA; rw [dclsB, hA, decide_eq_true hln]; rfl; done) | (rw [dclsB, decide_eq_false (by simp at *; omega)]; rfl; done) | (exfalso; simp_all; done))
     ·intro b10
      have c10 := b10
      try simp only [bne_eq_false_iff_eq] at c10
      refine X_skip ?_
      show X _ _ _ _
      have hbig : i < 9223372036854775807 := by omega
      refine X_rg fun R hR => ?_
      simp only [inr_i64, Int.reduceLE, Int.reduceNeg, aops, astep, awant, aeff, aop, abin, aint, ev, ofValue, St.put, zg1, zg0, zgd, zmo, if_true, zs1, zs0, and_self, b10, nat_succ hbig]
      with_reducible refine hR _ ?_
      clear hR R
      show ∃ m, m < _ ∧ _
      have hok : dclB l[i] = true := (by unfold dclB; first | (simp [c8, c10]; done) | (simp [c2, c3, c7, c8, c10]; omega) | (simp; omega))
      exact ⟨l.length - (i + 1), by omega, i + 1, _, rfl, rfl, by omega, Lib.hid (all_take_succ hlt hall.out hok)⟩
    ·intro b11
     have c11 := b11
     try simp only [ne_eq, beq_eq_false_iff_ne] at c11
     refine X_seq ?_
     refine X_rg fun R hR => ?_
     simp only [inr_u8, Int.reduceLE, aops, astep, awant, aeff, aop, abin, aint, ev, ofValue, St.put, zg1, zg0, zgd, zmo, if_true, zs1, zs0, and_self, b11]
     with_reducible refine hR _ ?_
     clear hR R
     show X _ _ _ _
     refine X_ite (by simp only [ev, zg1, zg0, zgd]; exact rfl) ?_ ?_
     ·intro b12
      have c12 := b12
      try simp only [beq_iff_eq] at c12
      refine X_seq ?_
      refine X_y ?_
      refine Y_k 4 fun R hR => ?_
      simp only [EVP, inr_i64, Int.reduceLE, Int.reduceNeg, app_get0, aops, astep, awant, aeff, aop, abin, aint, mkD, ev, ofValue, St.put, ia_int, zg1, zg0, zgd, zmo, if_true, zs1, zs0, zlc, zln, zd1, zd0, zt1, zt0, Nat.reduceAdd, Nat.reduceLeDiff, Nat.zero_add, zft, if_false, and_self, reduceCtorEq, ty_int, ty_api_VarDecl, b12]
      with_reducible refine hR _ ?_
      clear hR R
      simp only [zd1, zd0]
      refine Y_if 27 (by simp only [ev, zg1, zg0, zgd]; exact rfl) ?_ ?_
      ·intro b13
       have c13 := b13
       try simp only [decide_eq_true_eq] at c13
       refine Y_end fun R hR => ?_
       simp only [EVP, inr_i64, Int.reduceLE, Int.reduceNeg, aops, astep, awant, aeff, aop, abin, ev, ofValue, St.put, zg1, zg0, zgd, zmo, Option.map_none, zbs, if_true, zs1, zs0, Nat.zero_add, zft, if_false, and_self, reduceCtorEq, bq_tf, ty_int, ty_api_VarDecl, b13]
       with_reducible refine hR _ ?_
       clear hR R
       show X _ _ _ _
       refine X_true (by simp only [ev, zg1, zg0, zgd]) ?_
       refine X_seq ?_
       refine X_rg fun R hR => ?_
       simp only [aops, astep, awant, aeff, aop, ev, ofValue, St.put, zgd, zmo, if_true, zs1, zs0]
       with_reducible refine hR _ ?_
       clear hR R
       show X _ _ _ _
       refine X_ret ?_
       show resD _ _ _ = some _
       simp only [resD, resAll, resOne, resTup, Try.results53, EVP, zg1, zg0, D.good, if_true, zmo] <;> (first | (rw [dclsB, all_false_at (p := dclB) hlt (by unfold dclB; first | (simp [c12]; done) | (simp [c12]; omega) | (simp; omega)), Bool.and_false]; done) | (have hA := hall.out; rw [List.take_of_length_le (by omega)] at hA; rw [dclsB, hA, decide_eq_true hln]; rfl; done) | (rw [dclsB, decide_eq_false (by simp at *; omega)]; rfl; done) | (exfalso; simp_all; done))
      ·intro b14
       have c14 := b14
       try simp only [decide_eq_false_iff_not, Int.not_lt] at c14
       refine Y_end fun R hR => ?_
       simp only [EVP, inr_i64, Int.reduceLE, Int.reduceNeg, app_get0, aops, astep, awant, aeff, aop, abin, aint, mkD, ev, ofValue, St.put, ia_int, zg1, zg0, zgd, zmo, zbs, if_true, zs1, zs0, zlc, zln, zd1, zd0, zt1, zt0, Nat.reduceAdd, Nat.reduceLeDiff, Nat.zero_add, zft, if_false, and_self, reduceCtorEq, beq_self_eq_true, ty_int, ty_api_VarDecl, b14]
       with_reducible refine hR _ ?_
       clear hR R
       show X _ _ _ _
       refine X_ite (by simp only [ev, zg1, zg0, zgd]; exact rfl) ?_ ?_
       ·intro b15
        have c15 := b15
        try simp only [decide_eq_true_eq, gt_iff_lt] at c15
        refine X_seq ?_
        refine X_rg fun R hR => ?_
        simp only [aops, astep, awant, aeff, aop, ev, ofValue, St.put, zgd, zmo, if_true, zs1, zs0, b15]
        with_reducible refine hR _ ?_
        clear hR R
        show X _ _ _ _
        refine X_ret ?_
        show resD _ _ _ = some _
        simp only [resD, resAll, resOne, resTup, Try.results53, EVP, zg1, zg0, D.good, if_true, zmo] <;> (first | (rw [dclsB, all_false_at (p := dclB) hlt (by unfold dclB; first | (simp [c12, c14, c15]; done) | (simp [c2, c3, c7, c11, c12, c14, c15]; omega) | (simp; omega)), Bool.and_false]; done) | (have hA := hall.out; rw [List.take_of_length_le (by omega)] at hA; rw [dclsB, hA, decide_eq_true hln]; rfl; done) | (rw [dclsB, decide_eq_false (by simp at *; omega)]; rfl; done) | (exfalso; simp_all; done))
       ·intro b16
        have c16 := b16
        try simp only [decide_eq_false_iff_not, Int.not_lt, gt_iff_lt] at c16
        refine X_skip ?_
        show X _ _ _ _
        have hbig : i < 9223372036854775807 := by omega
        refine X_rg fun R hR => ?_
        simp only [inr_i64, Int.reduceLE, Int.reduceNeg, aops, astep, awant, aeff, aop, abin, aint, ev, ofValue, St.put, zg1, zg0, zgd, zmo, if_true, zs1, zs0, and_self, b16, nat_succ hbig]
        with_reducible refine hR _ ?_
        clear hR R
        show ∃ m, m < _ ∧ _
        have hok : dclB l[i] = true := (by unfold dclB; first | (simp [c12, c14, c16]; done) | (simp [c2, c3, c7, c11, c12, c14, c16]; omega) | (simp; omega))
        exact ⟨l.length - (i + 1), by omega, i + 1, _, rfl, rfl, by omega, Lib.hid (all_take_succ hlt hall.out hok)⟩
     ·intro b17
      have c17 := b17
      try simp only [ne_eq, beq_eq_false_iff_ne] at c17
      refine X_seq ?_
      refine X_rg fun R hR => ?_
      simp only [aops, astep, awant, aeff, aop, ev, ofValue, St.put, zgd, zmo, if_true, zs1, zs0, b17]
      with_reducible refine hR _ ?_
      clear hR R
      show X _ _ _ _
      refine X_ret ?_
      show resD _ _ _ = some _
      simp only [resD, resAll, resOne, resTup, Try.results53, EVP, zg1, zg0, D.good, if_true, zmo] <;> (first | (rw [dclsB, all_false_at (p := dclB) hlt (by unfold dclB; first | (simp [c7, c11, c17]; done) | (simp [c2, c3, c7, c11, c17]; omega) | (simp; omega)), Bool.and_false]; done) | (have hA := hall.out; rw [List.take_of_length_le (by omega)] at hA; rw [dclsB, hA, decide_eq_true hln]; rfl; done) | (rw [dclsB, decide_eq_false (by simp at *; omega)]; rfl; done) | (exfalso; simp_all; done))
  ·intro b18
   have c18 := b18
   try simp only [decide_eq_false_iff_not] at c18
   refine X_exit ?_
   show X _ _ _ _
   refine X_seq ?_
   refine X_rg fun R hR => ?_
   simp only [aops, astep, awant, aeff, aop, ev, ofValue, St.put, zgd, zmo, if_true, zs1, zs0, b18]
   with_reducible refine hR _ ?_
   clear hR R
   show X _ _ _ _
   refine X_ret ?_
   show resD _ _ _ = some _
   simp only [resD, resAll, resOne, resTup, Try.results53, EVP, zg1, zg0, D.good, if_true, zmo] <;> (first | (rw [dclsB, all_false_at (p := dclB) hlt (by unfold dclB; first | (simp [c2, c18]; done) | (simp [c2, c18]; omega) | (simp; omega)), Bool.and_false]; done) | (have hA := hall.out; rw [List.take_of_length_le (by omega)] at hA; rw [dclsB, hA, decide_eq_true hln]; rfl; done) | (rw [dclsB, decide_eq_false (by simp at *; omega)]; rfl; done) | (exfalso; simp_all; done))
mutual
theorem und_st (m : Nat) : ∀ d : D, d.under m = true → d.strip.under m = true
 | .agg l, h => unds_st m l h
 | .slice _ _ l, h => unds_st m l h
 | .elem d, h => und_st m d h
 | .fn _ c, h => unds_st m c h
 | .tup l, h => unds_st m l h
 | .ptr _ _, h => h
 | .undef, h => h
 | .bool _, h => h
 | .int _ _, h => h
 | .str _, h => h
 | .it _, h => h
 | .nfn, h => h
 | .nmap, h => h
 | .mref _, h => h
 | .cmap l, h => unds_st m l h
 | .any, h => h
 | .bsl _ _ _ _, h => h
theorem unds_st (m : Nat) : ∀ l : List D, D.unders m l = true → D.unders m (D.strips l) = true
 | [], _ => rfl
 | d :: r, h => by
  simp only [D.unders, D.strips, zat] at h ⊢
  exact ⟨und_st m d h.1, unds_st m r h.2⟩
end
theorem fn_XE {E : Env} {k : Nat} {args : List D} {f : Func} {body : Code} {Φ : D → Prop} (hfs : E.fs k = true) (hf : E.P.funcs[k]? = some f) (hb : f.body = some body) (hp : plain args = true) (ho : E.orc k (args.map D.strip) = none)
  (h : X E body (enterSt f (args.map D.strip) [] 0 []) (fun e σ => (e = .normal ∨ e = .ret) ∧ ∃ d, resD E.P f σ = some d ∧ d.under 0 = true ∧ Φ d.strip)) : ∃ d, fn E k args = some d ∧ d.under 0 = true ∧ Φ d := by
 obtain ⟨e, σ1, h1, he, d, h2, h3, h4⟩ := h
 refine ⟨d.strip, fn_Xs hfs hf hb hp ho ⟨e, σ1, h1, ?_⟩, und_st 0 _ h3, h4⟩
 rcases he with rfl | rfl
 ·exact ⟨d, h2, h3, rfl⟩
 ·exact ⟨d, h2, h3, rfl⟩
theorem mk_int (n : Int) (h0 : 0 ≤ n) (h1 : n ≤ 1000000) (fr : List D) (bx : List (List D)) (nx : Nat) (lv : List Nat) : amake Try.prog ⟨fr, bx, nx, lv⟩ 67 (.int .i64 n) (.int .i64 n) = some (.slice (.own nx 3) 1 (List.replicate n.toNat (.int .i64 0)), ⟨fr, bx, nx + 1, nx :: lv⟩) := by
 have hz : (inf_int.zero.bind fun z => ofCells z.cells.toList) = some [.int .i64 0] := by kernel_rfl
 unfold amake
 simp only [und_int, inf_int_eq, hz, inf_int_size, inf_int_bytes]
 rw [if_pos ⟨trivial, h0, h1, by omega, trivial⟩]
def fixV (v : Vd) : Int := if v.kind = 1 then 1 else v.len
theorem dcl_fix {v : Vd} (h : dclB v = true) : 0 ≤ fixV v ∧ fixV v ≤ 16 := by
 unfold dclB at h
 unfold fixV
 split at h
 ·have : v.len = 0 := by simpa using h
  split <;> omega
 ·split at h
  ·simp at h
   split <;> omega
  ·cases h
theorem rep_under (m n : Nat) : D.unders m (List.replicate n (.int .i64 0)) = true := by
 rw [D.unders_all, List.all_eq_true]; intro x hx; rw [List.eq_of_mem_replicate hx]; rfl
set_option maxRecDepth 100000 in
set_option maxHeartbeats 4000000 in
theorem fixed_fn (v : Vd) : fn EV 54 [dV v] = some (.int .i64 (fixV v)) := by
 refine fn_X rfl Try.func54 rfl (rfl) (rfl) (rfl) (rfl) ?_
 simp only [zmc, zmn, dV_strip]
 simp only [enterSt, Try.ntmps54, zlc, zln, Nat.reduceAdd, Nat.reduceSub, zr1, zr0, zca, zna]
 refine X_seq ?_
 refine X_rg fun R hR => ?_
 simp only [inr_i64, Int.reduceLE, Int.reduceNeg, aops, astep, awant, aeff, aop, ev, ofValue, St.put, zg0, zgd, zmo, if_true, zs1, zs0, zln, zna, and_self, dV_cells, dV_good]
 with_reducible refine hR _ ?_
 clear hR R
 show X _ _ _ _
 refine X_seq ?_
 refine X_seq ?_
 refine X_rg fun R hR => ?_
 simp only [EVP, inr_u8, Int.reduceLE, aops, astep, awant, aeff, aop, abin, aint, mkD, ev, ofValue, St.put, ia_int, zg1, zg0, zgd, zmo, if_true, zs1, zs0, zlc, zln, zd1, zd0, zt1, zt0, Nat.reduceAdd, Nat.reduceLeDiff, Nat.zero_add, zft, if_false, and_self, reduceCtorEq, ty_uint8, ty_api_VarDecl]
 with_reducible refine hR _ ?_
 clear hR R
 show X _ _ _ _
 refine X_ite (by simp only [ev, zg1, zg0, zgd]; exact rfl) ?_ ?_
 ·intro b1
  have c1 := b1
  try simp only [beq_iff_eq] at c1
  refine X_seq ?_
  refine X_rg fun R hR => ?_
  simp only [inr_i64, Int.reduceLE, Int.reduceNeg, aops, astep, awant, aeff, aop, ev, ofValue, St.put, zgd, zmo, if_true, zs1, zs0, and_self, beq_self_eq_true, c1]
  with_reducible refine hR _ ?_
  clear hR R
  show X _ _ _ _
  refine X_ret ?_
  show resD _ _ _ = some _
  simp only [resD, resAll, resOne, resTup, Try.results54, EVP, zg1, zg0, D.good, if_true, zmo] <;> (first | (simp_all [fixV]; done) | (exfalso; simp_all; done))
 ·intro b2
  have c2 := b2
  try simp only [ne_eq, beq_eq_false_iff_ne] at c2
  refine X_skip ?_
  show X _ _ _ _
  refine X_seq ?_
  refine X_rg fun R hR => ?_
  simp only [EVP, aops, astep, awant, aeff, aop, mkD, ev, St.put, ia_int, zg1, zg0, zgd, zmo, if_true, zs1, zs0, zlc, zln, zd1, zd0, zt1, zt0, Nat.reduceAdd, Nat.reduceLeDiff, Nat.zero_add, zft, if_false, reduceCtorEq, ty_int, ty_api_VarDecl, b2]
  with_reducible refine hR _ ?_
  clear hR R
  show X _ _ _ _
  refine X_ret ?_
  show resD _ _ _ = some _
  simp only [resD, resAll, resOne, resTup, Try.results54, EVP, zg1, zg0, D.good, if_true, zmo] <;> (first | (simp_all [fixV]; done) | (exfalso; simp_all; done))
set_option maxRecDepth 100000 in
set_option maxHeartbeats 4000000 in
theorem new_ex (l : List Vd) : ∃ d, fn EV 28 [sl 3 (l.map dV), .slice .nil 0 []] = some d ∧ d.under 0 = true ∧ ∃ (o1 o2 o3 : Own) (n1 n2 n3 : Nat) (l1 l2 l3 : List D), d = .tup [.agg [.slice o1 n1 l1, .slice o2 n2 l2, .slice o3 n3 l3], .int .i64 (if dclsB l then 0 else 3)] := by
 refine fn_XE rfl Try.func28 rfl (by simp only [plain, List.all_cons, List.all_nil, sl_pl (f := dV) (fun _ _ => rfl), Bool.and_true, Bool.true_and]; rfl) rfl ?_
 simp only [zmc, zmn, sl_strip (map_strip (f := dV) (fun _ => rfl) _)]
 simp only [D.strip, D.strips, Own.st, List.isEmpty_nil, if_true]
 simp only [enterSt, Try.ntmps28, zlc, zln, Nat.reduceAdd, Nat.reduceSub, zr1, zr0, zca, zna]
 refine X_seq ?_
 refine X_rg fun R hR => ?_
 simp only [EVP, inr_i64, Int.reduceLE, Int.reduceNeg, aops, astep, awant, aeff, aop, ev, ofValue, St.put, zgd, zmo, zbs, if_true, zs1, zs0, zln, zna, and_self, ty_api_State, sl]
 with_reducible refine hR _ ?_
 clear hR R
 show X _ _ _ _
 refine X_seq ?_
 refine X_seq ?_
 have hV := svalid_fn l
 simp only [sl] at hV
 refine X_rg fun R hR => ?_
 simp only [EVP, aops, astep, awant, aeff, aop, ev, St.put, pcall, zmc, zmn, zg1, zg0, zgd, zmo, if_true, zs1, zs0, zca, zna, any53, hV]
 with_reducible refine hR _ ?_
 clear hR R
 show X _ _ _ _
 refine X_ite (by simp only [ev, zg1, zg0, zgd]; exact rfl) ?_ ?_
 ·intro b1
  have c1 := b1
  try simp only [znt] at c1
  refine X_seq ?_
  refine X_rg fun R hR => ?_
  simp only [EVP, inr_i64, Int.reduceLE, Int.reduceNeg, aops, astep, awant, aeff, aop, afill, astore, ev, ofValue, St.put, gd_agg, cl_agg, zmn, zg1, zg0, zgd, zmo, if_true, zs1, zs0, zlc, zln, zd1, zd0, zt0, zca, zna, Nat.reduceAdd, Nat.reduceLeDiff, Nat.zero_add, and_self, ty_api_State, st_api_State, sta_api_State, b1]
  with_reducible refine hR _ ?_
  clear hR R
  show X _ _ _ _
  refine X_ret ?_
  show _ ∧ _
  have hd : dclsB l = false := by first | assumption | (simp_all; done)
  refine ⟨.inr rfl, _, by simp only [resD, resAll, resOne, resTup, Try.results28, EVP, ty_api_State, mkD, zg1, zg0, zd0, zt1, zt0, zlc, zln, Nat.reduceAdd, Nat.reduceLeDiff, Nat.zero_add, D.good, if_true, zmo]; exact rfl, rfl, ?_⟩
  exact ⟨_, _, _, _, _, _, _, _, _, by rw [hd]; simp only [D.strip, D.strips]; rfl⟩
 ·intro b2
  have c2 := b2
  try simp only [znf] at c2
  refine X_skip ?_
  show X _ _ _ _
  refine X_seq ?_
  refine X_seq ?_
  have hln : l.length ≤ 32 ∧ l.all dclB = true := by
   have hd : dclsB l = true := by first | assumption | (simp_all; done)
   simpa [dclsB] using hd
  have hz4 : decide (((0 : Nat) : Int) > 4096) = false := rfl
  refine X_rg fun R hR => ?_
  simp only [EVP, inr_i64, Int.reduceLE, Int.reduceNeg, aops, astep, awant, aeff, aop, abin, aint, ev, ofValue, St.put, zg1, zg0, zgd, zmo, if_true, zs1, zs0, zln, and_self, und_int, b2, zln, hz4]
  with_reducible refine hR _ ?_
  clear hR R
  show X _ _ _ _
  refine X_false (by simp only [ev, zg1, zg0, zgd]) ?_
  refine X_skip ?_
  show X _ _ _ _
  refine X_seq ?_
  have hc := cloneI_fn [] (by simp)
  simp only [sl, zmn, List.isEmpty_nil, if_true] at hc
  refine X_rg fun R hR => ?_
  simp only [EVP, aops, astep, awant, aeff, aop, afill, astore, ev, ofValue, St.put, pcall, gd_agg, cl_agg, gd_slice, cl_slice, zmc, zmn, zg1, zg0, zgd, zmo, zbs, if_true, zs1, zs0, zlc, zln, zd1, zd0, zt1, zt0, zca, zna, Nat.reduceAdd, Nat.reduceLeDiff, Nat.zero_add, and_self, ty_api_State, st_api_State, sta_api_State, any41, hc, zmn]
  with_reducible refine hR _ ?_
  clear hR R
  show X _ _ _ _
  refine X_seq ?_
  refine X_seq ?_
  refine X_rg fun R hR => ?_
  simp only [EVP, inr_i64, Int.reduceLE, Int.reduceNeg, aops, astep, awant, aeff, aop, ev, ofValue, St.put, zg1, zg0, zgd, zmo, if_true, zs1, zs0, zlm, and_self, und_api_VarDecl]
  with_reducible refine hR _ ?_
  clear hR R
  show X _ _ _ _
  refine X_block ?_
  refine X_loop (fun m σ => ∃ (i : Nat) (o : Own) (n : Nat) (M : List D) (r : List (List D)) (nx : Nat) (lv : List Nat), σ = ⟨[slotOf σ 0, slotOf σ 1, slotOf σ 2, slotOf σ 3, .ptr 0 0, slotOf σ 5, .ptr 1 0, slotOf σ 7, slotOf σ 8, slotOf σ 9, slotOf σ 10, slotOf σ 11, slotOf σ 12, slotOf σ 13, slotOf σ 14, slotOf σ 15, slotOf σ 16, slotOf σ 17, slotOf σ 18, slotOf σ 19, .slice .imm (if (l.map dV).isEmpty = true then 0 else 3) (l.map dV), .int .i64 l.length, .int .i64 i, slotOf σ 23, slotOf σ 24, slotOf σ 25, slotOf σ 26, slotOf σ 27, slotOf σ 28, slotOf σ 29, slotOf σ 30, slotOf σ 31, slotOf σ 32, slotOf σ 33, slotOf σ 34, slotOf σ 35], [.slice .nil 0 [], .slice .nil 0 [], .slice .nil 0 []] :: [.slice o n M, .slice .imm 0 [], .slice .nil 0 []] :: r, nx, lv⟩ ∧ m = l.length - i ∧ i ≤ l.length ∧ Hid (AccB 67 1 o n M nx lv) ∧ Hid (D.unders 0 M = true) ∧ M.length ≤ i) ?_ (l.length) _ ?_
  rotate_left
  ·exact ⟨0, .nil, 0, [], [], 0, [], rfl, rfl, Nat.zero_le _, Lib.hid (.nil _ _ _ _), Lib.hid rfl, Nat.le_refl _⟩
  rintro m σ ⟨i, o, n, M, r, nx, lv, hσ, rfl, hi, ha, hMu, hMl⟩
  generalize slotOf σ = x at hσ
  subst hσ
  refine X_seq ?_
  refine X_rg fun R hR => ?_
  simp only [nat_lt, aops, astep, awant, aeff, aop, abin, aint, ev, St.put, zg1, zg0, zgd, zmo, if_true, zs1, zs0]
  with_reducible refine hR _ ?_
  clear hR R
  show X _ _ _ _
  refine X_seq ?_
  refine X_ite (by simp only [ev, zg1, zg0, zgd]; exact rfl) ?_ ?_
  ·intro b3
   have c3 := b3
   try simp only [decide_eq_true_eq] at c3
   refine X_skip ?_
   show X _ _ _ _
   refine X_seq ?_
   refine X_block ?_
   refine X_seq ?_
   have hlt : i < l.length := by first | assumption | omega
   have hn1 : ((if (l.map dV).isEmpty = true then 0 else 3) = 3) = True := eq_true (sl_n (j := i) (by simpa using hlt))
   have e1 : (l.map dV)[i]? = some (.agg [.str l[i].name, .int .u8 l[i].kind, .int .i64 l[i].len]) := by rw [List.getElem?_map, List.getElem?_eq_getElem hlt]; rfl
   refine X_rg fun R hR => ?_
   simp only [EVP, app_get0, app_set0, nat_lt, nat_0, nat_to, aops, astep, awant, aeff, aop, astore, ev, St.put, gd_agg, ia_agg, cl_agg, zg1, zg0, zgd, zmo, zbs, if_true, zs1, zs0, zlm, zlc, zln, zd1, zd0, zt0, zca, zna, Nat.reduceAdd, Nat.reduceLeDiff, Nat.zero_add, and_self, decide_true, zis, ty_api_VarDecl, und_api_VarDecl, siz_api_VarDecl, inf_api_VarDecl_eq, hlt, hn1, e1]
   with_reducible refine hR _ ?_
   clear hR R
   show X _ _ _ _
   have hdc : dclB l[i] = true := List.all_eq_true.1 hln.2 _ (List.getElem_mem hlt)
   have hfx := dcl_fix hdc
   have hf := fixed_fn l[i]
   have hmk := fun fr bx => mk_int (fixV l[i]) hfx.1 (by omega) fr bx nx lv
   have hacc0 : AccB 67 1 o n M (nx + 1) (nx :: lv) := ha.out.keep ⟨by omega, fun s _ h => List.mem_cons_of_mem _ h⟩
   obtain ⟨lv1, hacc, hap⟩ := hacc0.app1 (P := Try.prog) (t := 72) und_s_int inf_s_int_eq inf_s_int_size (by omega) (by rw [inf_s_int_bytes]; omega) inf_s_int_zc (.slice (.own nx 3) 1 (List.replicate (fixV l[i]).toNat (.int .i64 0))) (by omega)
   refine X_rg fun R hR => ?_
   simp only [EVP, app_get0, aops, astep, awant, aeff, aop, mkD, abuild, astore, ev, ofValue, St.put, pcall, gd_slice, ia_slice, cl_slice, zmc, zmn, zg1, zg0, zgd, zmo, if_true, zs1, zs0, zlc, zln, zd1, zd0, zt1, zt0, zca, zna, Nat.reduceAdd, Nat.reduceLeDiff, Nat.reduceLT, Nat.zero_add, Nat.add_zero, Bool.and_true, zft, if_false, and_self, reduceCtorEq, List.all_cons, List.all_nil, beq_self_eq_true, Nat.reduceMul, rng_1, ty_api_VarDecl, ty_api_State, ty_s_s_int, und_s_int, inf_s_int_eq, inf_s_int_size, inf_s_int_zero, any54, dV_agg, hf, hmk, hap]
   with_reducible refine hR _ ?_
   clear hR R
   show X _ _ _ _
   have hbig : i < 9223372036854775807 := by omega
   refine X_rg fun R hR => ?_
   simp only [inr_i64, Int.reduceLE, Int.reduceNeg, aops, astep, awant, aeff, aop, abin, aint, ev, ofValue, St.put, zg1, zg0, zgd, zmo, if_true, zs1, zs0, and_self, nat_succ hbig]
   with_reducible refine hR _ ?_
   clear hR R
   show ∃ m, m < _ ∧ _
   exact ⟨l.length - (i + 1), by omega, i + 1, _, _, _, _, _, _, rfl, rfl, by omega, Lib.hid hacc, Lib.hid (by have h1 := hMu.out; rw [D.unders_all] at h1 ⊢; rw [List.all_append, h1]; simp only [List.all_cons, List.all_nil, D.under, rep_under, Bool.and_true]), by rw [zla]; simp; omega⟩
  ·intro b4
   have c4 := b4
   try simp only [decide_eq_false_iff_not] at c4
   refine X_exit ?_
   show X _ _ _ _
   refine X_seq ?_
   refine X_rg fun R hR => ?_
   simp only [EVP, inr_i64, Int.reduceLE, Int.reduceNeg, aops, astep, awant, aeff, aop, mkD, astore, ev, ofValue, St.put, gd_agg, cl_agg, zg1, zg0, zgd, zmo, if_true, zs1, zs0, zlc, zln, zd1, zd0, zt1, zt0, zca, zna, Nat.reduceAdd, Nat.reduceLeDiff, Nat.zero_add, and_self, ty_api_State, b4]
   with_reducible refine hR _ ?_
   clear hR R
   show X _ _ _ _
   refine X_ret ?_
   show _ ∧ _
   have hd : dclsB l = true := by first | assumption | (simp_all [dclsB]; done)
   refine ⟨.inr rfl, _, by simp only [resD, resAll, resOne, resTup, Try.results28, EVP, ty_api_State, mkD, zg1, zg0, zd0, zt1, zt0, zlc, zln, Nat.reduceAdd, Nat.reduceLeDiff, Nat.zero_add, D.good, if_true, zmo]; exact rfl, ?_, ?_⟩
   ·simp only [D.under, D.unders, hMu.out, Bool.and_true]
   ·exact ⟨_, _, _, _, _, _, _, _, _, by rw [hd]; simp only [D.strip, D.strips]; rfl⟩

end Go.Proofs.Ythgdibdapjaljaa
