/- The law LayoutShares: its walk. -/
import Derived.Test.YthgdibdapjaljaaLa11
namespace Go.Proofs.Ythgdibdapjaljaa
open Go.RowKit

theorem twice_st {t : Tr} {o : Own} {n nx : Nat} {lv : List Nat} (h : AccB 44 4 o n (t.kids.map dN ++ t.kids.map dN) nx lv) : (D.agg [.int .u8 t.kind, .int .i64 t.num, .str t.name, .slice o n (t.kids.map dN ++ t.kids.map dN)]).strip = dN (twiceT t) := by
  have h1 : (t.kids.map dN ++ t.kids.map dN).map D.strip = t.kids.map dN ++ t.kids.map dN := by
    rw [← List.map_append, List.map_map]; exact List.map_congr_left fun x _ => dN_strip x
  have h2 := h.a.strip
  rw [h1] at h2
  have h3 : ∀ a b c d : D, (D.agg [a, b, c, d]).strip = .agg [a.strip, b.strip, c.strip, d.strip] := fun _ _ _ _ => by simp only [D.strip, D.strips]
  rw [h3, h2, dN_eq (twiceT t)]
  show _ = D.agg [.int .u8 t.kind, .int .i64 t.num, .str t.name, .slice .imm (if ((t.kids ++ t.kids).map dN).isEmpty = true then 0 else 4) ((t.kids ++ t.kids).map dN)]
  rw [List.map_append]; simp only [D.strip]
theorem twice_pl (t : Tr) (o : Own) (n : Nat) : ((D.agg [.int .u8 t.kind, .int .i64 t.num, .str t.name, .slice o n (t.kids.map dN ++ t.kids.map dN)]).under 0 && (D.agg [.int .u8 t.kind, .int .i64 t.num, .str t.name, .slice o n (t.kids.map dN ++ t.kids.map dN)]).good) = true := by
  rw [← List.map_append]
  simp only [D.under, D.unders, unders_id (f := dN) dN_under]; rfl
set_option maxRecDepth 100000 in
set_option maxHeartbeats 4000000 in
theorem law7_fn (l : List Vd) (t : Tr) (hs : t.size ≤ 900000) : fn EV 7 [sl 3 (l.map dV), dN t] = some (.bool true) := by
  refine fn_X rfl Try.func7 rfl (by simp only [plain, List.all_cons, List.all_nil, sl_pl (f := dV) (fun _ _ => rfl), dN_pl, Bool.and_true]) (rfl) (rfl) (rfl) ?_
  simp only [List.map_cons, List.map_nil, sl_strip (map_strip (f := dV) (fun _ => rfl) _), dN_strip]
  simp only [enterSt, Try.ntmps7, List.length_cons, List.length_nil, Nat.reduceAdd, Nat.reduceSub, List.replicate_succ, List.replicate_zero, List.cons_append, List.nil_append]
  refine X_seq ?_
  refine X_rg fun R hR => ?_
  simp only [aops, astep, awant, aeff, aop, ev, ofValue, St.put, List.getElem?_cons_succ, List.getElem?_cons_zero, Option.getD_some, Option.map_some, if_true, List.set_cons_succ, List.set_cons_zero, List.length_nil, List.nil_append, dN_cells, dN_good, sl]
  with_reducible refine hR _ ?_
  clear hR R
  show X _ _ _ _
  refine X_seq ?_
  refine X_seq ?_
  refine X_rg fun R hR => ?_
  simp only [EVP, aops, astep, awant, aeff, aop, ev, St.put, pcall, List.map_nil, List.getElem?_cons_succ, List.getElem?_cons_zero, Option.getD_some, Option.map_some, if_true, List.set_cons_succ, List.set_cons_zero, List.nil_append, Bool.not_true, any10, awake_ok]
  with_reducible refine hR _ ?_
  clear hR R
  show X _ _ _ _
  refine X_ite (by simp only [ev, List.getElem?_cons_succ, List.getElem?_cons_zero, Option.getD_some]; exact rfl) ?_ ?_
  · intro b1
    have c1 := b1
    try simp only [Bool.not_eq_true', Bool.not_eq_false', decide_eq_true_eq, decide_eq_false_iff_not, beq_iff_eq, Int.not_lt, Int.not_le, ge_iff_le, gt_iff_lt, bne_iff_ne, ne_eq, bne_eq_false_iff_eq, beq_eq_false_iff_ne, Bool.and_eq_true, Bool.or_eq_false_iff] at c1
    refine X_seq ?_
    refine X_rg fun R hR => ?_
    simp only [aops, astep, awant, aeff, aop, ev, ofValue, St.put, Option.getD_some, Option.map_some, if_true, List.set_cons_succ, List.set_cons_zero, b1]
    with_reducible refine hR _ ?_
    clear hR R
    show X _ _ _ _
    refine X_ret ?_
    show resD _ _ _ = some _
    simp only [resD, resAll, resOne, resTup, Try.results7, EVP, List.getElem?_cons_succ, List.getElem?_cons_zero, D.good, if_true, Option.map_some] <;> (first | (rfl; done) | (simp_all; done) | (exfalso; simp_all; done))
  · intro b2
    have c2 := b2
    try simp only [] at c2
    refine X_skip ?_
    show X _ _ _ _
    refine X_seq ?_
    refine X_seq ?_
    have hsm := small_fn l t (by omega)
    simp only [sl] at hsm
    refine X_rg fun R hR => ?_
    simp only [EVP, inr_i64, Int.reduceLE, Int.reduceNeg, aops, astep, awant, aeff, aop, abin, aint, mkD, ev, ofValue, St.put, pcall, List.map_cons, List.map_nil, List.getElem?_cons_succ, List.getElem?_cons_zero, Option.getD_some, Option.map_some, if_true, List.set_cons_succ, List.set_cons_zero, List.length_cons, List.length_nil, List.drop_zero, List.take_succ_cons, List.take_zero, List.cons_append, List.nil_append, Nat.reduceAdd, Nat.reduceLeDiff, Nat.zero_add, and_self, ty_api_Node, any18, dN_agg, hsm, one_eq2]
    with_reducible refine hR _ ?_
    clear hR R
    show X _ _ _ _
    refine X_ite (by simp only [ev, List.getElem?_cons_succ, List.getElem?_cons_zero, Option.getD_some]; exact rfl) ?_ ?_
    · intro b3
      have c3 := b3
      try simp only [Bool.not_eq_true'] at c3
      refine X_seq ?_
      refine X_rg fun R hR => ?_
      simp only [aops, astep, awant, aeff, aop, ev, ofValue, St.put, Option.getD_some, Option.map_some, if_true, List.set_cons_succ, List.set_cons_zero, b3]
      with_reducible refine hR _ ?_
      clear hR R
      show X _ _ _ _
      refine X_ret ?_
      show resD _ _ _ = some _
      simp only [resD, resAll, resOne, resTup, Try.results7, EVP, List.getElem?_cons_succ, List.getElem?_cons_zero, D.good, if_true, Option.map_some] <;> (first | (rfl; done) | (simp_all; done) | (exfalso; simp_all; done))
    · intro b4
      have c4 := b4
      try simp only [Bool.not_eq_false'] at c4
      refine X_skip ?_
      show X _ _ _ _
      refine X_seq ?_
      have hsB : smB l t = true := by first | assumption | (simp_all; done)
      have hsq := hsB
      unfold smB at hsq
      simp only [Bool.and_eq_true, decide_eq_true_eq] at hsq
      obtain ⟨hl4, hb, ht⟩ := hsq
      refine X_rg fun R hR => ?_
      simp only [EVP, aops, astep, awant, aeff, aop, mkD, astore, ev, St.put, List.getElem?_cons_succ, List.getElem?_cons_zero, Option.getD_some, Option.map_some, Option.bind_some, if_true, List.set_cons_succ, List.set_cons_zero, List.length_cons, List.length_nil, List.drop_succ_cons, List.drop_zero, List.take_succ_cons, List.take_zero, List.cons_append, List.nil_append, Nat.reduceAdd, Nat.reduceLeDiff, Nat.zero_add, and_self, ty_api_Node, dN_agg, dN_cells, dN_good, sl, b4]
      with_reducible refine hR _ ?_
      clear hR R
      show X _ _ _ _
      refine X_seq ?_
      have hkl := Tr.length_kids t
      obtain ⟨o5, n5, nx5, lv5, ha5, hap5⟩ := (AccB.own (e := 44) (sz := 4) (L := []) (List.mem_cons_self) (by omega) : AccB 44 4 (.own 0 44) 4 [] 1 [0]).appE (P := Try.prog) (t := 42) und_api_Node inf_api_Node_eq inf_api_Node_size (by omega) (by rw [inf_api_Node_bytes]; omega) inf_api_Node_zc (t.kids.map dN) (by simp; omega)
      simp only [List.nil_append] at ha5 hap5
      obtain ⟨o6, n6, nx6, lv6, ha6, hap6⟩ := ha5.appE (P := Try.prog) (t := 42) und_api_Node inf_api_Node_eq inf_api_Node_size (by omega) (by rw [inf_api_Node_bytes]; omega) inf_api_Node_zc (t.kids.map dN) (by simp; omega)
      refine X_rg fun R hR => ?_
      simp only [EVP, aops, astep, awant, aeff, aop, mkD, abuild, astore, ev, ofValue, St.put, gd_slice, ia_slice, cl_slice, List.map_nil, List.getElem?_cons_succ, List.getElem?_cons_zero, Option.getD_some, Option.map_some, if_true, List.set_cons_succ, List.set_cons_zero, List.length_cons, List.length_nil, List.drop_succ_cons, List.drop_zero, List.take_succ_cons, List.take_zero, List.cons_append, List.nil_append, Nat.reduceAdd, Nat.reduceLeDiff, Nat.reduceLT, Nat.zero_add, Bool.false_eq_true, if_false, and_self, reduceCtorEq, List.all_nil, Nat.reduceMul, rng_0, ty_s_api_Node, ty_api_Node, und_api_Node, inf_api_Node_eq, inf_api_Node_size, inf_api_Node_zero, hap5, hap6]
      with_reducible refine hR _ ?_
      clear hR R
      show X _ _ _ _
      refine X_seq ?_
      have hO := of_fn l t hs
      simp only [dFm, sl] at hO
      refine X_rg fun R hR => ?_
      simp only [EVP, aops, astep, awant, aeff, aop, mkD, astore, ev, St.put, pcall, gd_agg, cl_agg, List.map_cons, List.map_nil, List.getElem?_cons_succ, List.getElem?_cons_zero, Option.getD_some, Option.map_some, Option.bind_some, if_true, List.set_cons_succ, List.set_cons_zero, List.length_cons, List.length_nil, List.drop_succ_cons, List.drop_zero, List.take_succ_cons, List.take_zero, List.cons_append, List.nil_append, Nat.reduceAdd, Nat.reduceLeDiff, Nat.zero_add, and_self, ty_api_Node, ty_layout_Frame, any14, dN_agg, hO]
      with_reducible refine hR _ ?_
      clear hR R
      show X _ _ _ _
      refine X_seq ?_
      have hO2 := of_own (X := sl 3 (l.map dV)) (Y := .agg [.int .u8 t.kind, .int .i64 t.num, .str t.name, .slice o6 n6 (t.kids.map dN ++ t.kids.map dN)]) (l := l) (t := twiceT t) (slV_st l) (slV_pl l) (twice_st ha6) (twice_pl _ _ _) (by have := twice_size t; omega)
      rw [ofF_twice hb] at hO2
      simp only [dFm, sl] at hO2
      refine X_rg fun R hR => ?_
      simp only [EVP, aops, astep, awant, aeff, aop, mkD, astore, ev, St.put, pcall, gd_agg, cl_agg, List.map_cons, List.map_nil, List.getElem?_cons_succ, List.getElem?_cons_zero, Option.getD_some, Option.map_some, Option.bind_some, if_true, List.set_cons_succ, List.set_cons_zero, List.length_cons, List.length_nil, List.drop_succ_cons, List.drop_zero, List.take_succ_cons, List.take_zero, List.cons_append, List.nil_append, Nat.reduceAdd, Nat.reduceLeDiff, Nat.zero_add, and_self, ty_api_Node, ty_layout_Frame, any14, hO2]
      with_reducible refine hR _ ?_
      clear hR R
      show X _ _ _ _
      refine X_seq ?_
      have hp := plain_fn (ofF l t).1 (by have := ofF_len l t; omega)
      have hq := lsame_fn (ofF l t).1 (by have := ofF_len l t; omega)
      simp only [dFm, sl] at hp hq
      have hbb : ((ofF l t).2 == (ofF l t).2) = true := by simp
      refine X_rg fun R hR => ?_
      simp only [EVP, inr_i64, Int.reduceLE, Int.reduceNeg, aops, astep, awant, aeff, aop, abin, aint, mkD, ev, ofValue, St.put, pcall, List.map_cons, List.map_nil, List.getElem?_cons_succ, List.getElem?_cons_zero, Option.getD_some, Option.map_some, Option.bind_some, if_true, List.set_cons_succ, List.set_cons_zero, List.length_cons, List.length_nil, List.drop_zero, List.take_succ_cons, List.take_zero, List.cons_append, List.nil_append, Nat.reduceAdd, Nat.reduceLeDiff, Nat.zero_add, and_self, beq_self_eq_true, ty_layout_Frame, any13, any17, hp, hq]
      with_reducible refine hR _ ?_
      clear hR R
      show X _ _ _ _
      refine X_ret ?_
      show resD _ _ _ = some _
      simp only [resD, resAll, resOne, resTup, Try.results7, EVP, List.getElem?_cons_succ, List.getElem?_cons_zero, D.good, if_true, Option.map_some] <;> (first | (rfl; done) | (simp_all; done) | (exfalso; simp_all; done))

end Go.Proofs.Ythgdibdapjaljaa
