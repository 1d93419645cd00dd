/- Layouts over data: add. -/
import Derived.Test.YthgdibdapjaljaaLa4
namespace Go.Proofs.Ythgdibdapjaljaa
open Go.RowKit

/-- a frame with one more slot -/
def atF (f : Fm) (v : Vd) : Int := if v.kind = 3 then f.stacks + 1 else f.cells
def addF (f : Fm) (v : Vd) : Fm := ⟨f.slots ++ [⟨v.name, v.kind, v.len, atF f v⟩], if v.kind = 3 then f.cells else if v.kind = 2 then f.cells + v.len else f.cells + 1, if v.kind = 3 then f.stacks + 1 else f.stacks⟩
def bxF (o : Own) (n : Nat) (f : Fm) : List D := [.slice o n (f.slots.map dSl), .int .i64 f.cells, .int .i64 f.stacks]
theorem bxF_free (o : Own) (n : Nat) (f : Fm) : ∀ m, D.unders m (bxF o n f) = true := fun m => by
 simp only [bxF, D.unders, D.under, unders_id (f := dSl) dSl_under, Bool.and_true]
theorem wrap_ok {z : Int} (h1 : -9223372036854775808 ≤ z) (h2 : z ≤ 9223372036854775807) : IntKind.i64.wrap z = z := by
 simp only [IntKind.wrap, IntKind.bits, IntKind.signed]; simp; omega
theorem unX_set {B : List (List D)} (h : B.all (D.unders B.length) = true) {c : List D} (hc : D.unders B.length c = true) (b : Nat) : (B.set b c).all (D.unders B.length) = true := by
 rw [List.all_eq_true] at h ⊢
 intro x hx
 rcases List.mem_or_eq_of_mem_set hx with h1 | rfl
 ·exact h _ h1
 ·exact hc
set_option maxRecDepth 100000 in
set_option maxHeartbeats 4000000 in
theorem add_ex (f : Fm) (v : Vd) (h1 : 0 ≤ f.cells) (h2 : f.cells ≤ 100000000) (h3 : 0 ≤ f.stacks) (h4 : f.stacks ≤ 100000000) (h5 : 0 ≤ v.len) (h6 : v.len ≤ 1000000) (h7 : f.slots.length ≤ 10000000) (B : List (List D)) (b : Nat) (nx : Nat) (lv : List Nat) (o : Own) (n : Nat) (hb : B[b]? = some (bxF o n f)) (ha : AccB 27 4 o n (f.slots.map dSl) nx lv) (hfr : B.all (D.unders B.length) = true) :
  ∃ d B' nx' lv', (∀ fr, cal EV 29 [.ptr b 0, dV v] ⟨fr, B, nx, lv⟩ = some (d, ⟨fr, B', nx', lv'⟩)) ∧ (fun d B' nx' lv' => d = .tup [] ∧ ∃ o' n', B' = B.set b (bxF o' n' (addF f v)) ∧ AccB 27 4 o' n' ((addF f v).slots.map dSl) nx' lv') d B' nx' lv' := by
 have hbl : b < B.length := (List.getElem?_eq_some_iff.1 hb).1
 have hgb : ∀ l, (B ++ l)[b]? = some [.slice o n (f.slots.map dSl), .int .i64 f.cells, .int .i64 f.stacks] := fun l => snoc_get hb l
 have hsb : ∀ l z, (B ++ l).set b z = B.set b z ++ l := fun l z => by rw [List.set_append_left _ _ hbl]
 have hg0 : ∀ (z x : List D) l, (B.set b z ++ x :: l)[B.length]? = some x := fun z x l => by rw [List.getElem?_append_right (by simp)]; simp
 have hg1 : ∀ (z x y : List D) l, (B.set b z ++ x :: y :: l)[B.length + 1]? = some y := fun z x y l => by rw [List.getElem?_append_right (by simp)]; simp
 have hg2 : ∀ (z : List D) l, (B.set b z ++ l)[b]? = some z := fun z l => by rw [List.getElem?_append_left (by simpa using hbl), List.getElem?_set_self (by simpa using hbl)]
 have hs1 : ∀ (z x y : List D) l w, (B.set b z ++ x :: y :: l).set (B.length + 1) w = B.set b z ++ x :: w :: l := fun z x y l w => by rw [List.set_append_right _ _ (by simp)]; simp
 have hss : ∀ (z : List D) l w, (B.set b z ++ l).set b w = B.set b w ++ l := fun z l w => by rw [List.set_append_left _ _ (by simpa using hbl), List.set_set]
 have hsz : ∀ z : List D, (B.set b z).length = B.length := fun z => by simp
 have hl0 := hsz
 have hsg := hsz
 have hsn := hsz
 have hw1 := wrap_ok (z := f.stacks + 1) (by omega) (by omega)
 have hw2 := wrap_ok (z := f.cells + v.len) (by omega) (by omega)
 have hw3 := wrap_ok (z := f.cells + 1) (by omega) (by omega)
 refine cal_XE rfl Try.func29 rfl (by simp [plain, D.under]) ?_
 simp only [enterSt, Try.ntmps29, zlc, zln, Nat.reduceAdd, Nat.reduceSub, zr1, zr0, zca, zna]
 refine X_seq ?_
 refine X_rc fun R hR => ?_
 simp only [aops, astep, awant, aeff, ev, St.put, zg1, zg0, zgd, zmo, if_true, zs1, zs0, dV_cells, dV_good]
 with_reducible refine hR _ ?_
 clear hR R
 show X _ _ _ _
 refine X_seq ?_
 refine X_rg fun R hR => ?_
 simp only [EVP, app_get0, app_get1, app_set1, aops, astep, awant, aeff, aop, mkD, afill, astore, ev, ofValue, St.put, gd_int, ia_int, cl_int, gd_str, ia_str, cl_str, zmc, zmn, zg1, zg0, zgd, zmo, zbs, if_true, zs1, zs0, zlc, zln, zd1, zd0, zt1, zt0, zca, zna, zaa, Nat.reduceAdd, Nat.reduceLeDiff, Nat.zero_add, Nat.add_zero, zft, if_false, and_self, reduceCtorEq, ty_int, ty_uint8, ty_string, ty_api_VarDecl, ty_layout_Slot, ty_layout_Frame, st_layout_Slot, sta_layout_Slot, dSl_cells, dSl_agg, dSl_good, zla, hgb]
 with_reducible refine hR _ ?_
 clear hR R
 show X _ _ _ _
 refine X_seq ?_
 refine X_seq ?_
 refine X_rc fun R hR => ?_
 simp only [EVP, app_get0, aops, astep, awant, aeff, aop, mkD, ev, St.put, ia_int, zg1, zg0, zgd, zmo, if_true, zs1, zs0, zlc, zln, zd1, zd0, zt1, zt0, Nat.reduceAdd, Nat.reduceLeDiff, Nat.zero_add, zft, if_false, reduceCtorEq, ty_uint8, ty_api_VarDecl]
 with_reducible refine hR _ ?_
 clear hR R
 show X _ _ _ _
 refine X_block ?_
 refine X_seq ?_
 refine X_rc fun R hR => ?_
 simp only [inr_u8, Int.reduceLE, aops, astep, awant, aeff, aop, abin, aint, ev, ofValue, St.put, zg1, zg0, zgd, zmo, if_true, zs1, zs0, and_self]
 with_reducible refine hR _ ?_
 clear hR R
 show X _ _ _ _
 refine X_ite (by simp only [ev, zg1, zg0, zgd]; exact rfl) ?_ ?_
 ·intro b1
  have c1 := b1
  try simp only [beq_iff_eq] at c1
  refine X_seq ?_
  refine X_rc fun R hR => ?_
  simp only [EVP, inr_i64, Int.reduceLE, Int.reduceNeg, aops, astep, awant, aeff, aop, abin, aint, mkD, astore, ev, ofValue, St.put, gd_int, ia_int, cl_int, zg1, zg0, zgd, zmo, if_true, zs1, zs0, zlc, zln, zd1, zd0, zt1, zt0, zca, zna, Nat.reduceAdd, Nat.reduceLeDiff, Nat.zero_add, zft, if_false, and_self, reduceCtorEq, ty_int, ty_layout_Frame, b1, hgb, hsb, hw1]
  with_reducible refine hR _ ?_
  clear hR R
  show X _ _ _ _
  refine X_rc fun R hR => ?_
  simp only [EVP, aops, astep, awant, aeff, aop, mkD, astore, ev, St.put, gd_int, ia_int, cl_int, zg1, zg0, zgd, zmo, if_true, zs1, zs0, zlc, zln, zd1, zd0, zt1, zt0, zca, zna, Nat.reduceAdd, Nat.reduceLeDiff, Nat.zero_add, zft, if_false, and_self, reduceCtorEq, ty_int, ty_layout_Slot, ty_layout_Frame, hg1, hg2, hs1]
  with_reducible refine hR _ ?_
  clear hR R
  show X _ _ _ _
  obtain ⟨lv1, hacc, hap⟩ := ha.app1 (P := Try.prog) (t := 22) und_layout_Slot inf_layout_Slot_eq inf_layout_Slot_size (by omega) (by rw [inf_layout_Slot_bytes]; omega) inf_layout_Slot_zc (dSl ⟨v.name, v.kind, v.len, f.stacks + 1⟩) (by simp; omega)
  refine X_rg fun R hR => ?_
  simp only [EVP, aops, astep, awant, aeff, aop, mkD, abuild, astore, ev, ofValue, St.put, gd_slice, ia_slice, cl_slice, zmc, zmn, zg1, zg0, zgd, zmo, if_true, zs1, zs0, zlc, zln, zd1, zd0, zt1, zt0, zca, zna, Nat.reduceAdd, Nat.reduceLeDiff, Nat.reduceLT, Nat.zero_add, Nat.add_zero, Bool.and_true, zft, if_false, and_self, reduceCtorEq, List.all_cons, List.all_nil, beq_self_eq_true, Nat.reduceMul, rng_1, ty_layout_Slot, ty_s_layout_Slot, ty_layout_Frame, und_layout_Slot, inf_layout_Slot_eq, inf_layout_Slot_size, inf_layout_Slot_zero, dSl_cells, dSl_agg, dSl_good, hg1, hg2, hss, hap]
  with_reducible refine hR _ ?_
  clear hR R
  show _ ∧ _
  have hk : v.kind = 3 := by first | assumption | (simp_all; done)
  have hadd : addF f v = ⟨f.slots ++ [⟨v.name, v.kind, v.len, f.stacks + 1⟩], f.cells, f.stacks + 1⟩ := by simp [addF, atF, hk]
  have hbx : [D.slice (.own (nx + 1) 27) 4 (f.slots.map dSl ++ [dSl ⟨v.name, v.kind, v.len, f.stacks + 1⟩]), .int .i64 (f.cells), .int .i64 (f.stacks + 1)] = bxF (.own (nx + 1) 27) 4 (addF f v) := by rw [hadd]; simp [bxF]
  have htk : ∀ (z : List D) l, (B.set b z ++ l).take B.length = B.set b z := fun z l => by rw [List.take_append_of_le_length (by simp), List.take_of_length_le (by simp)]
  refine ⟨.inl rfl, .tup [], by first | rfl | (trace_state; simp only [resD, resAll, resOne, resTup, Try.results29, EVP, mkD, ty_int, ty_bool, ty_uint8, ty_string, ty_s_int, ty_s_api_Node, ty_s_api_VarDecl, ty_s_api_Proc, ty_api_Node, ty_api_VarDecl, ty_api_Proc, ty_api_Program, st_api_Node, sta_api_Node, ty_layout_Slot, ty_layout_Frame, ty_backstepref26_Slot, ty_backstepref26_Frame, zg1, zg0, zd0, zt1, zt0, zlc, zln, Nat.reduceAdd, Nat.reduceLeDiff, Nat.zero_add, D.good, if_true, reduceIte, zft, if_false, D.isAgg, zmo]), rfl, by simp, ?_, rfl, .own (nx + 1) 27, 4, ?_, ?_⟩
  ·rw [htk, hbx]; exact unX_set hfr (bxF_free _ _ _ _) b
  ·rw [htk, hbx]
  ·have h9 : (addF f v).slots.map dSl = f.slots.map dSl ++ [dSl ⟨v.name, v.kind, v.len, f.stacks + 1⟩] := by rw [hadd]; simp
   rw [h9]; exact hacc
 ·intro b2
  have c2 := b2
  try simp only [ne_eq, beq_eq_false_iff_ne] at c2
  refine X_seq ?_
  refine X_rc fun R hR => ?_
  simp only [inr_u8, Int.reduceLE, aops, astep, awant, aeff, aop, abin, aint, ev, ofValue, St.put, zg1, zg0, zgd, zmo, if_true, zs1, zs0, and_self, b2]
  with_reducible refine hR _ ?_
  clear hR R
  show X _ _ _ _
  refine X_ite (by simp only [ev, zg1, zg0, zgd]; exact rfl) ?_ ?_
  ·intro b3
   have c3 := b3
   try simp only [beq_iff_eq] at c3
   refine X_rg fun R hR => ?_
   simp only [EVP, app_get0, aops, astep, awant, aeff, aop, abin, aint, mkD, astore, ev, St.put, gd_int, ia_int, cl_int, zg1, zg0, zgd, zmo, if_true, zs1, zs0, zlc, zln, zd1, zd0, zt1, zt0, zca, zna, Nat.reduceAdd, Nat.reduceLeDiff, Nat.zero_add, zft, if_false, and_self, reduceCtorEq, ty_int, ty_api_VarDecl, ty_layout_Frame, b3, hgb, hsb, hw2]
   with_reducible refine hR _ ?_
   clear hR R
   show X _ _ _ _
   obtain ⟨lv1, hacc, hap⟩ := ha.app1 (P := Try.prog) (t := 22) und_layout_Slot inf_layout_Slot_eq inf_layout_Slot_size (by omega) (by rw [inf_layout_Slot_bytes]; omega) inf_layout_Slot_zc (dSl ⟨v.name, v.kind, v.len, f.cells⟩) (by simp; omega)
   refine X_rg fun R hR => ?_
   simp only [EVP, aops, astep, awant, aeff, aop, mkD, abuild, astore, ev, ofValue, St.put, gd_slice, ia_slice, cl_slice, zmc, zmn, zg1, zg0, zgd, zmo, if_true, zs1, zs0, zlc, zln, zd1, zd0, zt1, zt0, zca, zna, Nat.reduceAdd, Nat.reduceLeDiff, Nat.reduceLT, Nat.zero_add, Nat.add_zero, Bool.and_true, zft, if_false, and_self, reduceCtorEq, List.all_cons, List.all_nil, beq_self_eq_true, Nat.reduceMul, rng_1, ty_layout_Slot, ty_s_layout_Slot, ty_layout_Frame, und_layout_Slot, inf_layout_Slot_eq, inf_layout_Slot_size, inf_layout_Slot_zero, dSl_cells, dSl_agg, dSl_good, hg1, hg2, hss, hap]
   with_reducible refine hR _ ?_
   clear hR R
   show _ ∧ _
   have hk3 : ¬ v.kind = 3 := by first | assumption | (simp_all; done)
   have hk : v.kind = 2 := by first | assumption | (simp_all; done)
   have hadd : addF f v = ⟨f.slots ++ [⟨v.name, v.kind, v.len, f.cells⟩], f.cells + v.len, f.stacks⟩ := by simp [addF, atF, hk]
   have hbx : [D.slice (.own (nx + 1) 27) 4 (f.slots.map dSl ++ [dSl ⟨v.name, v.kind, v.len, f.cells⟩]), .int .i64 (f.cells + v.len), .int .i64 (f.stacks)] = bxF (.own (nx + 1) 27) 4 (addF f v) := by rw [hadd]; simp [bxF]
   have htk : ∀ (z : List D) l, (B.set b z ++ l).take B.length = B.set b z := fun z l => by rw [List.take_append_of_le_length (by simp), List.take_of_length_le (by simp)]
   refine ⟨.inl rfl, .tup [], by first | rfl | (trace_state; simp only [resD, resAll, resOne, resTup, Try.results29, EVP, mkD, ty_int, ty_bool, ty_uint8, ty_string, ty_s_int, ty_s_api_Node, ty_s_api_VarDecl, ty_s_api_Proc, ty_api_Node, ty_api_VarDecl, ty_api_Proc, ty_api_Program, st_api_Node, sta_api_Node, ty_layout_Slot, ty_layout_Frame, ty_backstepref26_Slot, ty_backstepref26_Frame, zg1, zg0, zd0, zt1, zt0, zlc, zln, Nat.reduceAdd, Nat.reduceLeDiff, Nat.zero_add, D.good, if_true, reduceIte, zft, if_false, D.isAgg, zmo]), rfl, by simp, ?_, rfl, .own (nx + 1) 27, 4, ?_, ?_⟩
   ·rw [htk, hbx]; exact unX_set hfr (bxF_free _ _ _ _) b
   ·rw [htk, hbx]
   ·have h9 : (addF f v).slots.map dSl = f.slots.map dSl ++ [dSl ⟨v.name, v.kind, v.len, f.cells⟩] := by rw [hadd]; simp
    rw [h9]; exact hacc
  ·intro b4
   have c4 := b4
   try simp only [ne_eq, beq_eq_false_iff_ne] at c4
   refine X_rc fun R hR => ?_
   simp only [EVP, inr_i64, Int.reduceLE, Int.reduceNeg, aops, astep, awant, aeff, aop, abin, aint, mkD, astore, ev, ofValue, St.put, gd_int, ia_int, cl_int, zg1, zg0, zgd, zmo, if_true, zs1, zs0, zlc, zln, zd1, zd0, zt1, zt0, zca, zna, Nat.reduceAdd, Nat.reduceLeDiff, Nat.zero_add, zft, if_false, and_self, reduceCtorEq, ty_int, ty_layout_Frame, b4, hgb, hsb, hw3]
   with_reducible refine hR _ ?_
   clear hR R
   show X _ _ _ _
   obtain ⟨lv1, hacc, hap⟩ := ha.app1 (P := Try.prog) (t := 22) und_layout_Slot inf_layout_Slot_eq inf_layout_Slot_size (by omega) (by rw [inf_layout_Slot_bytes]; omega) inf_layout_Slot_zc (dSl ⟨v.name, v.kind, v.len, f.cells⟩) (by simp; omega)
   refine X_rg fun R hR => ?_
   simp only [EVP, aops, astep, awant, aeff, aop, mkD, abuild, astore, ev, ofValue, St.put, gd_slice, ia_slice, cl_slice, zmc, zmn, zg1, zg0, zgd, zmo, if_true, zs1, zs0, zlc, zln, zd1, zd0, zt1, zt0, zca, zna, Nat.reduceAdd, Nat.reduceLeDiff, Nat.reduceLT, Nat.zero_add, Nat.add_zero, Bool.and_true, zft, if_false, and_self, reduceCtorEq, List.all_cons, List.all_nil, beq_self_eq_true, Nat.reduceMul, rng_1, ty_layout_Slot, ty_s_layout_Slot, ty_layout_Frame, und_layout_Slot, inf_layout_Slot_eq, inf_layout_Slot_size, inf_layout_Slot_zero, dSl_cells, dSl_agg, dSl_good, hg1, hg2, hss, hap]
   with_reducible refine hR _ ?_
   clear hR R
   show _ ∧ _
   have hk3 : ¬ v.kind = 3 := by first | assumption | (simp_all; done)
   have hk : ¬ v.kind = 2 := by first | assumption | (simp_all; done)
   have hadd : addF f v = ⟨f.slots ++ [⟨v.name, v.kind, v.len, f.cells⟩], f.cells + 1, f.stacks⟩ := by simp [addF, atF, hk3, hk]
   have hbx : [D.slice (.own (nx + 1) 27) 4 (f.slots.map dSl ++ [dSl ⟨v.name, v.kind, v.len, f.cells⟩]), .int .i64 (f.cells + 1), .int .i64 (f.stacks)] = bxF (.own (nx + 1) 27) 4 (addF f v) := by rw [hadd]; simp [bxF]
   have htk : ∀ (z : List D) l, (B.set b z ++ l).take B.length = B.set b z := fun z l => by rw [List.take_append_of_le_length (by simp), List.take_of_length_le (by simp)]
   refine ⟨.inl rfl, .tup [], by first | rfl | (trace_state; simp only [resD, resAll, resOne, resTup, Try.results29, EVP, mkD, ty_int, ty_bool, ty_uint8, ty_string, ty_s_int, ty_s_api_Node, ty_s_api_VarDecl, ty_s_api_Proc, ty_api_Node, ty_api_VarDecl, ty_api_Proc, ty_api_Program, st_api_Node, sta_api_Node, ty_layout_Slot, ty_layout_Frame, ty_backstepref26_Slot, ty_backstepref26_Frame, zg1, zg0, zd0, zt1, zt0, zlc, zln, Nat.reduceAdd, Nat.reduceLeDiff, Nat.zero_add, D.good, if_true, reduceIte, zft, if_false, D.isAgg, zmo]), rfl, by simp, ?_, rfl, .own (nx + 1) 27, 4, ?_, ?_⟩
   ·rw [htk, hbx]; exact unX_set hfr (bxF_free _ _ _ _) b
   ·rw [htk, hbx]
   ·have h9 : (addF f v).slots.map dSl = f.slots.map dSl ++ [dSl ⟨v.name, v.kind, v.len, f.cells⟩] := by rw [hadd]; simp
    rw [h9]; exact hacc

end Go.Proofs.Ythgdibdapjaljaa
