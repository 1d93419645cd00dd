/- Layouts over data: the reference of a frame, equality. -/
import Derived.Test.YthgdibdapjaljaaLa1
import Derived.Test.YthgdibdapjaljaaAcb
namespace Go.Proofs.Ythgdibdapjaljaa
open Go.RowKit

theorem sq_a : Try.prog.stoodInHeld 30 = false := by kernel_rfl
theorem sq_b : Try.prog.eqGuardType Try.prog.depth 30 = false := by kernel_rfl
set_option maxRecDepth 100000 in
theorem sl_eq (x : Slt) : aggEq Try.prog [.str x.name, .int .u8 x.kind, .int .i64 x.len, .int .i64 x.off] [.str x.name, .int .u8 x.kind, .int .i64 x.len, .int .i64 x.off] fs_backstepref26_Slot.toList = some true := by
 have hl : fs_backstepref26_Slot.toList.length = 4 := by kernel_rfl
 match hq : fs_backstepref26_Slot.toList, hl with
 | [a, b, c, d], _ =>
  have a0 : fs_backstepref26_Slot.toList[0]? = some a := by rw [hq]; rfl
  have b0 : fs_backstepref26_Slot.toList[1]? = some b := by rw [hq]; rfl
  have c0 : fs_backstepref26_Slot.toList[2]? = some c := by rw [hq]; rfl
  have d0 : fs_backstepref26_Slot.toList[3]? = some d := by rw [hq]; rfl
  have a1 : a.offset = 0 ∧ a.type = 9 ∧ a.name ≠ "_" := by
   have h : (fs_backstepref26_Slot.toList[0]?).map (fun f => (f.offset, f.type, f.name == "_")) = some (0, 9, false) := by kernel_rfl
   rw [a0] at h; simpa using h
  have b1 : b.offset = 1 ∧ b.type = 5 ∧ b.name ≠ "_" := by
   have h : (fs_backstepref26_Slot.toList[1]?).map (fun f => (f.offset, f.type, f.name == "_")) = some (1, 5, false) := by kernel_rfl
   rw [b0] at h; simpa using h
  have c1 : c.offset = 2 ∧ c.type = 3 ∧ c.name ≠ "_" := by
   have h : (fs_backstepref26_Slot.toList[2]?).map (fun f => (f.offset, f.type, f.name == "_")) = some (2, 3, false) := by kernel_rfl
   rw [c0] at h; simpa using h
  have d1 : d.offset = 3 ∧ d.type = 3 ∧ d.name ≠ "_" := by
   have h : (fs_backstepref26_Slot.toList[3]?).map (fun f => (f.offset, f.type, f.name == "_")) = some (3, 3, false) := by kernel_rfl
   rw [d0] at h; simpa using h
  simp [aggEq, a1, b1, c1, d1, scEq, Try.underlying9, Try.underlying5, Try.underlying3]
set_option maxRecDepth 100000 in
set_option maxHeartbeats 4000000 in
theorem plain_fn (f : Fm) (hll : f.slots.length ≤ 1000000) : fn EV 13 [dFm f] = some (dFm f) := by
 refine fn_Xs rfl Try.func13 rfl (by simp only [plain, List.all_cons, List.all_nil, dFm_pl, Bool.and_true]) (rfl) ?_
 simp only [List.map_cons, List.map_nil, dFm_strip]
 simp only [enterSt, Try.ntmps13, List.length_cons, List.length_nil, Nat.reduceAdd, Nat.reduceSub, List.replicate_succ, List.replicate_zero, List.cons_append, List.nil_append]
 refine X_seq ?_
 refine X_rg fun R hR => ?_
 simp only [EVP, aops, astep, awant, aeff, ev, St.put, gd_agg, cl_agg, zg0, zgd, zmo, Option.bind_some, if_true, zs1, zs0, List.length_cons, List.length_nil, List.cons_append, List.nil_append, Nat.zero_add, ty_backstepref26_Frame, sl, dFm]
 with_reducible refine hR _ ?_
 clear hR R
 show X _ _ _ _
 refine X_seq ?_
 refine X_rg fun R hR => ?_
 simp only [EVP, aops, astep, awant, aeff, aop, mkD, afill, astore, ev, ofValue, St.put, gd_int, ia_int, cl_int, gd_agg, cl_agg, List.map_cons, List.map_nil, zg1, zg0, zgd, zmo, Option.bind_some, if_true, zs1, zs0, List.length_cons, List.length_nil, List.drop_succ_cons, List.drop_zero, List.take_succ_cons, List.take_zero, List.cons_append, List.nil_append, Nat.reduceAdd, Nat.reduceLeDiff, Nat.zero_add, Bool.false_eq_true, if_false, and_self, reduceCtorEq, ty_int, ty_layout_Frame, ty_backstepref26_Frame, st_backstepref26_Frame, sta_backstepref26_Frame]
 with_reducible refine hR _ ?_
 clear hR R
 show X _ _ _ _
 refine X_seq ?_
 refine X_seq ?_
 refine X_rg fun R hR => ?_
 simp only [inr_i64, Int.reduceLE, Int.reduceNeg, aops, astep, awant, aeff, aop, ev, ofValue, St.put, zgd, zmo, if_true, zs1, zs0, and_self]
 with_reducible refine hR _ ?_
 clear hR R
 show X _ _ _ _
 refine X_block ?_
 refine X_loop (fun m σ => ∃ (i : Nat) (o : Own) (n : Nat) (M : List D) (r : List (List D)) (nx : Nat) (lv : List Nat), σ = ⟨[slotOf σ 0, .ptr 0 0, .ptr 1 0, .ptr 2 0, .int .i64 i, slotOf σ 5, slotOf σ 6, slotOf σ 7, slotOf σ 8, slotOf σ 9, slotOf σ 10, slotOf σ 11, slotOf σ 12, slotOf σ 13, slotOf σ 14, slotOf σ 15, slotOf σ 16, slotOf σ 17, slotOf σ 18, slotOf σ 19, slotOf σ 20, slotOf σ 21, slotOf σ 22, slotOf σ 23, slotOf σ 24, slotOf σ 25, slotOf σ 26, slotOf σ 27, slotOf σ 28, slotOf σ 29, slotOf σ 30, slotOf σ 31, slotOf σ 32, slotOf σ 33, slotOf σ 34, slotOf σ 35, slotOf σ 36, slotOf σ 37], [.slice .imm (if (f.slots.map dSl).isEmpty = true then 0 else 4) (f.slots.map dSl), .int .i64 f.cells, .int .i64 f.stacks] :: [.slice .nil 0 [], .int .i64 0, .int .i64 0] :: [.slice o n M, .int .i64 f.cells, .int .i64 f.stacks] :: r, nx, lv⟩ ∧ m = f.slots.length - i ∧ i ≤ f.slots.length ∧ Hid (AccB 30 4 o n M nx lv) ∧ Hid (M = (f.slots.take i).map dSl)) ?_ (f.slots.length) _ ?_
 rotate_left
 ·exact ⟨0, .nil, 0, [], [], 0, [], rfl, rfl, Nat.zero_le _, Lib.hid (.nil _ _ _ _), Lib.hid rfl⟩
 rintro m σ ⟨i, o, n, M, r, nx, lv, hσ, rfl, hi, ha, hM⟩
 generalize slotOf σ = x at hσ
 subst hσ
 refine X_seq ?_
 refine X_seq ?_
 refine X_rg fun R hR => ?_
 simp only [EVP, nat_lt, aops, astep, awant, aeff, aop, abin, aint, mkD, ev, St.put, ia_slice, zg1, zg0, zgd, zmo, if_true, zs1, zs0, List.length_map, List.length_cons, List.length_nil, List.drop_zero, List.take_succ_cons, List.take_zero, Nat.reduceAdd, Nat.reduceLeDiff, Nat.zero_add, Nat.add_zero, Bool.false_eq_true, if_false, reduceCtorEq, ty_s_layout_Slot, ty_layout_Frame, und_layout_Slot]
 with_reducible refine hR _ ?_
 clear hR R
 show X _ _ _ _
 refine X_ite (by simp only [ev, zg1, zg0, zgd]; exact rfl) ?_ ?_
 ·intro b1
  have c1 := b1
  try simp only [decide_eq_true_eq] at c1
  refine X_skip ?_
  show X _ _ _ _
  refine X_seq ?_
  refine X_block ?_
  refine X_seq ?_
  have hlt : i < f.slots.length := by first | assumption | omega
  have hn1 : ((if (f.slots.map dSl).isEmpty = true then 0 else 4) = 4) = True := eq_true (sl_n (j := i) (by simpa using hlt))
  have e1 : (f.slots.map dSl)[i]? = some (dSl f.slots[i]) := by simp [hlt]
  refine X_rg fun R hR => ?_
  simp only [EVP, app_get0, app_set0, nat_lt, nat_0, nat_to, aops, astep, awant, aeff, aop, mkD, astore, ev, St.put, ia_slice, zg1, zg0, zgd, zmo, Option.bind_some, if_true, zs1, zs0, List.length_map, List.length_cons, List.length_nil, List.drop_succ_cons, List.drop_zero, List.take_succ_cons, List.take_zero, List.cons_append, List.nil_append, Nat.reduceAdd, Nat.reduceLeDiff, Nat.zero_add, Nat.add_zero, Bool.false_eq_true, if_false, and_self, reduceCtorEq, decide_true, Option.isSome_some, ty_layout_Slot, ty_s_layout_Slot, ty_layout_Frame, und_layout_Slot, siz_layout_Slot, inf_layout_Slot_eq, dSl_isAgg, dSl_good, dSl_cells, hlt, hn1, e1]
  with_reducible refine hR _ ?_
  clear hR R
  show X _ _ _ _
  obtain ⟨lv1, hacc, hap⟩ := (ha.out).app1 (P := Try.prog) (t := 33) und_backstepref26_Slot inf_backstepref26_Slot_eq inf_backstepref26_Slot_size (by omega) (by rw [inf_backstepref26_Slot_bytes]; omega) inf_backstepref26_Slot_zc (dSl ⟨f.slots[i].name, f.slots[i].kind, f.slots[i].len, f.slots[i].off⟩) (by rw [hM.out]; simp; omega)
  refine X_rg fun R hR => ?_
  simp only [EVP, app_get0, aops, astep, awant, aeff, aop, mkD, afill, abuild, astore, ev, ofValue, St.put, gd_int, ia_int, cl_int, gd_str, ia_str, cl_str, gd_slice, ia_slice, cl_slice, List.map_cons, List.map_nil, zg1, zg0, zgd, zmo, if_true, zs1, zs0, List.length_cons, List.length_nil, List.drop_succ_cons, List.drop_zero, List.take_succ_cons, List.take_zero, List.cons_append, List.nil_append, Nat.reduceAdd, Nat.reduceLeDiff, Nat.reduceLT, Nat.zero_add, Nat.add_zero, Bool.and_true, Bool.false_eq_true, if_false, and_self, reduceCtorEq, List.all_cons, List.all_nil, beq_self_eq_true, Nat.reduceMul, rng_1, ty_int, ty_uint8, ty_string, ty_layout_Slot, ty_backstepref26_Slot, ty_s_backstepref26_Slot, ty_backstepref26_Frame, st_backstepref26_Slot, sta_backstepref26_Slot, und_backstepref26_Slot, inf_backstepref26_Slot_eq, inf_backstepref26_Slot_size, inf_backstepref26_Slot_zero, dSl_good, dSl_cells, dSl_agg, hap]
  with_reducible refine hR _ ?_
  clear hR R
  show X _ _ _ _
  have hbig : i < 9223372036854775807 := by omega
  refine X_rg fun R hR => ?_
  simp only [inr_i64, Int.reduceLE, Int.reduceNeg, aops, astep, awant, aeff, aop, abin, aint, ev, ofValue, St.put, zg1, zg0, zgd, zmo, if_true, zs1, zs0, and_self, nat_succ hbig]
  with_reducible refine hR _ ?_
  clear hR R
  show ∃ m, m < _ ∧ _
  exact ⟨f.slots.length - (i + 1), by omega, i + 1, _, _, _, _, _, _, rfl, rfl, by omega, Lib.hid hacc, Lib.hid (by rw [hM.out, List.take_succ_eq_append_getElem hlt, List.map_append]; rfl)⟩
 ·intro b2
  have c2 := b2
  try simp only [decide_eq_false_iff_not] at c2
  refine X_exit ?_
  show X _ _ _ _
  refine X_seq ?_
  refine X_rg fun R hR => ?_
  simp only [EVP, aops, astep, awant, aeff, aop, mkD, astore, ev, St.put, gd_agg, cl_agg, zg1, zg0, zgd, zmo, if_true, zs1, zs0, List.length_cons, List.length_nil, List.drop_succ_cons, List.drop_zero, List.take_succ_cons, List.take_zero, List.cons_append, List.nil_append, Nat.reduceAdd, Nat.reduceLeDiff, Nat.zero_add, and_self, ty_backstepref26_Frame, b2]
  with_reducible refine hR _ ?_
  clear hR R
  show X _ _ _ _
  refine X_ret ?_
  show ∃ d, resD _ _ _ = some d ∧ _ ∧ _
  have hMM := hM.out
  rw [List.take_of_length_le (by omega)] at hMM
  subst hMM
  refine ⟨_, by simp only [resD, resAll, resOne, resTup, Try.results13, EVP, mkD, ty_backstepref26_Frame, zg1, zg0, List.drop_zero, List.take_succ_cons, List.take_zero, List.length_cons, List.length_nil, Nat.reduceAdd, Nat.reduceLeDiff, Nat.zero_add, if_true, zmo]; exact rfl, ?_, ?_⟩
  ·simp only [D.under, D.unders, unders_id (f := dSl) dSl_under, Bool.and_true]
  ·have h1 : (f.slots.map dSl).map D.strip = f.slots.map dSl := by rw [List.map_map]; exact List.map_congr_left fun x _ => dSl_strip x
   have h2 : ∀ a b c : D, (D.agg [a, b, c]).strip = .agg [a.strip, b.strip, c.strip] := fun _ _ _ => by simp only [D.strip, D.strips]
   rw [h2, ha.out.a.strip, h1]; rfl
set_option maxRecDepth 100000 in
set_option maxHeartbeats 4000000 in
theorem lsame_fn (f : Fm) (hll : f.slots.length ≤ 1000000) : fn EV 17 [dFm f, dFm f] = some (.int .i64 1) := by
 refine fn_X rfl Try.func17 rfl (by simp only [plain, List.all_cons, List.all_nil, dFm_pl, Bool.and_true]) (rfl) (rfl) (rfl) ?_
 simp only [List.map_cons, List.map_nil, dFm_strip]
 simp only [enterSt, Try.ntmps17, List.length_cons, List.length_nil, Nat.reduceAdd, Nat.reduceSub, List.replicate_succ, List.replicate_zero, List.cons_append, List.nil_append]
 refine X_seq ?_
 refine X_rg fun R hR => ?_
 simp only [inr_i64, Int.reduceLE, Int.reduceNeg, aops, astep, awant, aeff, aop, ev, ofValue, St.put, gd_agg, cl_agg, zg1, zg0, zgd, zmo, if_true, zs1, zs0, List.length_cons, List.length_nil, List.cons_append, List.nil_append, Nat.zero_add, and_self, sl, dFm]
 with_reducible refine hR _ ?_
 clear hR R
 show X _ _ _ _
 refine X_seq ?_
 refine X_seq ?_
 refine X_rg fun R hR => ?_
 simp only [EVP, aops, astep, awant, aeff, aop, abin, aint, mkD, ev, ofValue, St.put, ia_int, ia_slice, zg1, zg0, zgd, zmo, Option.bind_some, if_true, zs1, zs0, List.length_map, List.length_cons, List.length_nil, List.drop_succ_cons, List.drop_zero, List.take_succ_cons, List.take_zero, Nat.reduceAdd, Nat.reduceLeDiff, Nat.zero_add, Nat.add_zero, Bool.false_eq_true, if_false, reduceCtorEq, beq_self_eq_true, bne_self_eq_false, ty_int, ty_s_backstepref26_Slot, ty_backstepref26_Frame, und_backstepref26_Slot]
 with_reducible refine hR _ ?_
 clear hR R
 show X _ _ _ _
 refine X_false (by simp only [ev, zg1, zg0, zgd]) ?_
 refine X_skip ?_
 show X _ _ _ _
 refine X_seq ?_
 refine X_seq ?_
 refine X_rg fun R hR => ?_
 simp only [inr_i64, Int.reduceLE, Int.reduceNeg, aops, astep, awant, aeff, aop, ev, ofValue, St.put, zgd, zmo, if_true, zs1, zs0, and_self]
 with_reducible refine hR _ ?_
 clear hR R
 show X _ _ _ _
 refine X_block ?_
 refine X_loop (fun m σ => ∃ (i : Nat), σ = ⟨[slotOf σ 0, slotOf σ 1, .ptr 0 0, .ptr 1 0, slotOf σ 4, .int .i64 i, slotOf σ 6, slotOf σ 7, slotOf σ 8, slotOf σ 9, slotOf σ 10, slotOf σ 11, slotOf σ 12, slotOf σ 13, slotOf σ 14, slotOf σ 15, slotOf σ 16, slotOf σ 17, slotOf σ 18, slotOf σ 19, slotOf σ 20, slotOf σ 21, slotOf σ 22, slotOf σ 23, slotOf σ 24, slotOf σ 25, slotOf σ 26, slotOf σ 27, slotOf σ 28, slotOf σ 29, slotOf σ 30, slotOf σ 31, slotOf σ 32, slotOf σ 33, slotOf σ 34, slotOf σ 35, slotOf σ 36, slotOf σ 37, slotOf σ 38, slotOf σ 39, slotOf σ 40, slotOf σ 41, slotOf σ 42, slotOf σ 43, slotOf σ 44], [[.slice .imm (if (f.slots.map dSl).isEmpty = true then 0 else 4) (f.slots.map dSl), .int .i64 f.cells, .int .i64 f.stacks], [.slice .imm (if (f.slots.map dSl).isEmpty = true then 0 else 4) (f.slots.map dSl), .int .i64 f.cells, .int .i64 f.stacks]], 0, []⟩ ∧ m = f.slots.length - i ∧ i ≤ f.slots.length) ?_ (f.slots.length) _ ?_
 rotate_left
 ·exact ⟨0, rfl, rfl, Nat.zero_le _⟩
 rintro m σ ⟨i, hσ, rfl, hi⟩
 generalize slotOf σ = x at hσ
 subst hσ
 refine X_seq ?_
 refine X_seq ?_
 refine X_rg fun R hR => ?_
 simp only [EVP, nat_lt, aops, astep, awant, aeff, aop, abin, aint, mkD, ev, St.put, ia_slice, zg1, zg0, zgd, zmo, if_true, zs1, zs0, List.length_map, List.length_cons, List.length_nil, List.drop_zero, List.take_succ_cons, List.take_zero, Nat.reduceAdd, Nat.reduceLeDiff, Nat.zero_add, Nat.add_zero, Bool.false_eq_true, if_false, reduceCtorEq, ty_s_backstepref26_Slot, ty_backstepref26_Frame, und_backstepref26_Slot]
 with_reducible refine hR _ ?_
 clear hR R
 show X _ _ _ _
 refine X_ite (by simp only [ev, zg1, zg0, zgd]; exact rfl) ?_ ?_
 ·intro b1
  have c1 := b1
  try simp only [decide_eq_true_eq] at c1
  refine X_skip ?_
  show X _ _ _ _
  refine X_seq ?_
  refine X_block ?_
  refine X_seq ?_
  have hlt : i < f.slots.length := by first | assumption | omega
  have hn1 : ((if (f.slots.map dSl).isEmpty = true then 0 else 4) = 4) = True := eq_true (sl_n (j := i) (by simpa using hlt))
  have e1 : (f.slots.map dSl)[i]? = some (.agg [.str f.slots[i].name, .int .u8 f.slots[i].kind, .int .i64 f.slots[i].len, .int .i64 f.slots[i].off]) := by rw [List.getElem?_map, List.getElem?_eq_getElem hlt]; rfl
  refine X_rg fun R hR => ?_
  simp only [EVP, nat_lt, nat_0, nat_to, aops, astep, awant, aeff, aop, abin, mkD, ev, St.put, ia_agg, cl_agg, ia_slice, zg1, zg0, zgd, zmo, if_true, zs1, zs0, List.length_map, List.length_cons, List.length_nil, List.drop_zero, List.take_succ_cons, List.take_zero, Nat.reduceAdd, Nat.reduceLeDiff, Nat.zero_add, Nat.add_zero, Bool.not_true, Bool.false_eq_true, if_false, and_self, reduceCtorEq, decide_true, Option.isSome_some, ty_backstepref26_Slot, ty_s_backstepref26_Slot, ty_backstepref26_Frame, st_backstepref26_Slot, und_backstepref26_Slot, siz_backstepref26_Slot, inf_backstepref26_Slot_eq, c1, hn1, e1, sq_a, sq_b, sl_eq]
  with_reducible refine hR _ ?_
  clear hR R
  show X _ _ _ _
  refine X_false (by simp only [ev, zg1, zg0, zgd]) ?_
  refine X_skip ?_
  show X _ _ _ _
  have hbig : i < 9223372036854775807 := by omega
  refine X_rg fun R hR => ?_
  simp only [inr_i64, Int.reduceLE, Int.reduceNeg, aops, astep, awant, aeff, aop, abin, aint, ev, ofValue, St.put, zg1, zg0, zgd, zmo, if_true, zs1, zs0, and_self, nat_succ hbig]
  with_reducible refine hR _ ?_
  clear hR R
  show ∃ m, m < _ ∧ _
  exact ⟨f.slots.length - (i + 1), by omega, i + 1, rfl, rfl, by omega⟩
 ·intro b2
  have c2 := b2
  try simp only [decide_eq_false_iff_not] at c2
  refine X_exit ?_
  show X _ _ _ _
  refine X_seq ?_
  refine X_rg fun R hR => ?_
  simp only [inr_i64, Int.reduceLE, Int.reduceNeg, aops, astep, awant, aeff, aop, ev, ofValue, St.put, zgd, zmo, if_true, zs1, zs0, and_self, decide_false, c2]
  with_reducible refine hR _ ?_
  clear hR R
  show X _ _ _ _
  refine X_ret ?_
  show resD _ _ _ = some _
  simp only [resD, resAll, resOne, resTup, Try.results17, EVP, zg1, zg0, D.good, if_true, zmo] <;> (first | (rfl; done) | (exfalso; simp_all; done))

end Go.Proofs.Ythgdibdapjaljaa
