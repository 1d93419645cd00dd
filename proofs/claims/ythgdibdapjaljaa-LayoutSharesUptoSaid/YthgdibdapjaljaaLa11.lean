/- Laws about layouts: common facts. -/
import Derived.Test.YthgdibdapjaljaaLa10
import Derived.Test.YthgdibdapjaljaaQ26a
namespace Go.Proofs.Ythgdibdapjaljaa
open Go.RowKit

theorem sq_c : Try.prog.stoodInHeld 27 = false := by kernel_rfl
theorem sq_d : Try.prog.eqGuardType Try.prog.depth 27 = false := by kernel_rfl
set_option maxRecDepth 100000 in
theorem sl_eqL (x : Slt) : aggEq Try.prog [.str x.name, .int .u8 x.kind, .int .i64 x.len, .int .i64 x.off] [.str x.name, .int .u8 x.kind, .int .i64 x.len, .int .i64 x.off] fs_layout_Slot.toList = some true := by
  have hl : fs_layout_Slot.toList.length = 4 := by kernel_rfl
  match hq : fs_layout_Slot.toList, hl with
  | [a, b, c, d], _ =>
    have a0 : fs_layout_Slot.toList[0]? = some a := by rw [hq]; rfl
    have b0 : fs_layout_Slot.toList[1]? = some b := by rw [hq]; rfl
    have c0 : fs_layout_Slot.toList[2]? = some c := by rw [hq]; rfl
    have d0 : fs_layout_Slot.toList[3]? = some d := by rw [hq]; rfl
    have a1 : a.offset = 0 ∧ a.type = 9 ∧ a.name ≠ "_" := by
      have h : (fs_layout_Slot.toList[0]?).map (fun f => (f.offset, f.type, f.name == "_")) = some (0, 9, false) := by kernel_rfl
      rw [a0] at h; simpa using h
    have b1 : b.offset = 1 ∧ b.type = 5 ∧ b.name ≠ "_" := by
      have h : (fs_layout_Slot.toList[1]?).map (fun f => (f.offset, f.type, f.name == "_")) = some (1, 5, false) := by kernel_rfl
      rw [b0] at h; simpa using h
    have c1 : c.offset = 2 ∧ c.type = 3 ∧ c.name ≠ "_" := by
      have h : (fs_layout_Slot.toList[2]?).map (fun f => (f.offset, f.type, f.name == "_")) = some (2, 3, false) := by kernel_rfl
      rw [c0] at h; simpa using h
    have d1 : d.offset = 3 ∧ d.type = 3 ∧ d.name ≠ "_" := by
      have h : (fs_layout_Slot.toList[3]?).map (fun f => (f.offset, f.type, f.name == "_")) = some (3, 3, false) := by kernel_rfl
      rw [d0] at h; simpa using h
    simp [aggEq, a1, b1, c1, d1, scEq, Try.underlying9, Try.underlying5, Try.underlying3]
theorem tmod_nat {k : Int} (hk : 0 ≤ k) (n : Nat) : k.tmod (n : Int) = ((k.toNat % n : Nat) : Int) := by
  obtain ⟨m, rfl⟩ := Int.eq_ofNat_of_zero_le hk
  rw [Int.tmod_eq_emod_of_nonneg hk]; simp
theorem u8_conv {k : Int} (h0 : 0 ≤ k) (h1 : k ≤ 255) : IntKind.i64.wrap k = k := by
  simp only [IntKind.wrap, IntKind.bits, IntKind.signed]; simp; omega
theorem of_own {X Y : D} {l : List Vd} {t : Tr} (hX : X.strip = sl 3 (l.map dV)) (hXp : (X.under 0 && X.good) = true) (hY : Y.strip = dN t) (hYp : (Y.under 0 && Y.good) = true) (hs : t.size ≤ 900000) : fn EV 14 [X, Y] = some (.tup [dFm (ofF l t).1, .int .i64 (ofF l t).2]) := by
  have p1 : plain [X, Y] = true := by simp only [plain, List.all_cons, List.all_nil, hXp, hYp, Bool.and_true]
  have p2 : plain [sl 3 (l.map dV), dN t] = true := by simp only [plain, List.all_cons, List.all_nil, sl_pl (f := dV) (fun _ _ => rfl), dN_pl, Bool.and_true]
  rw [fn_strip p1 p2 (by simp only [List.map_cons, List.map_nil, hX, hY, dN_strip, sl_strip (map_strip (f := dV) (fun _ => rfl) _)])]
  exact of_fn l t hs
theorem slV_st (l : List Vd) : (sl 3 (l.map dV)).strip = sl 3 (l.map dV) := sl_strip (map_strip (f := dV) (fun _ => rfl) _)
theorem slV_pl (l : List Vd) : ((sl 3 (l.map dV)).under 0 && (sl 3 (l.map dV)).good) = true := sl_pl (f := dV) (fun _ _ => rfl) _ _
theorem emp_st : (D.agg [.int .u8 57, .int .i64 0, .str ⟨#[]⟩, .slice .nil 0 []]).strip = dN e0 := by rw [dN_eq]; rfl
theorem of0_fn (l : List Vd) : fn EV 14 [sl 3 (l.map dV), .agg [.int .u8 57, .int .i64 0, .str ⟨#[]⟩, .slice .nil 0 []]] = some (.tup [dFm (ofF l e0).1, .int .i64 (ofF l e0).2]) :=
  of_own (slV_st l) (slV_pl l) emp_st rfl (by decide)
theorem accV_st {o : Own} {n : Nat} {l : List Vd} {nx : Nat} {lv : List Nat} (h : AccB 46 3 o n (l.map dV) nx lv) : (D.slice o n (l.map dV)).strip = sl 3 (l.map dV) := by
  rw [h.a.strip, List.map_map, show (D.strip ∘ dV) = dV from funext fun _ => rfl]; rfl
theorem vds_pl (o : Own) (n : Nat) (l : List Vd) : ((D.slice o n (l.map dV)).under 0 && (D.slice o n (l.map dV)).good) = true := by
  simp only [D.under, unders_id (f := dV) (fun _ _ => rfl)]; rfl
theorem own_st {o : Own} (ho : o.st = .imm) (_n : Nat) (l : List Vd) (v : Vd) : (D.slice o 3 ((l ++ [v]).map dV)).strip = sl 3 ((l ++ [v]).map dV) := by
  simp only [D.strip, ho, strips_id (f := dV) (fun _ => rfl), sl]
theorem one_eq2 (b : Bool) : (((if b = true then (1 : Int) else 0)) == 0) = !b := by cases b <;> rfl
set_option maxRecDepth 100000 in
set_option maxHeartbeats 4000000 in
theorem local_fn (nm : ByteArray) : fn EV 15 [.str nm, .slice .nil 0 []] = some (dN (lcT nm)) := by
  refine fn_Xs rfl Try.func15 rfl (rfl) (rfl) ?_
  simp only [List.map_cons, List.map_nil, D.strip]
  simp only [enterSt, Try.ntmps15, List.length_cons, List.length_nil, Nat.reduceAdd, Nat.reduceSub, List.replicate_succ, List.replicate_zero, List.cons_append, List.nil_append]
  refine X_seq ?_
  refine X_rg fun R hR => ?_
  simp only [EVP, aops, astep, awant, aeff, St.put, Option.map_some, Option.bind_some, if_true, List.set_cons_succ, List.set_cons_zero, List.length_nil, List.nil_append, List.isEmpty_nil, ty_api_Node]
  with_reducible refine hR _ ?_
  clear hR R
  show X _ _ _ _
  refine X_seq ?_
  refine X_rg fun R hR => ?_
  simp only [EVP, inr_u8, Int.reduceLE, aops, astep, awant, aeff, aop, afill, astore, ev, ofValue, St.put, gd_int, cl_int, gd_agg, cl_agg, List.map_cons, List.map_nil, List.getElem?_cons_succ, List.getElem?_cons_zero, Option.getD_some, Option.map_some, Option.bind_some, if_true, List.set_cons_succ, List.set_cons_zero, List.length_cons, List.length_nil, List.drop_succ_cons, List.drop_zero, List.take_zero, List.cons_append, List.nil_append, Nat.reduceAdd, Nat.reduceLeDiff, Nat.zero_add, and_self, ty_api_Node, st_api_Node, sta_api_Node]
  with_reducible refine hR _ ?_
  clear hR R
  show X _ _ _ _
  refine X_seq ?_
  refine X_rg fun R hR => ?_
  simp only [EVP, inr_u8, Int.reduceLE, aops, astep, awant, aeff, aop, mkD, afill, abuild, astore, ev, ofValue, St.put, gd_int, cl_int, gd_str, cl_str, gd_agg, cl_agg, gd_slice, cl_slice, List.map_cons, List.map_nil, List.getElem?_cons_succ, List.getElem?_cons_zero, Option.getD_some, Option.map_some, if_true, List.set_cons_succ, List.set_cons_zero, List.length_cons, List.length_nil, List.drop_succ_cons, List.drop_zero, List.take_succ_cons, List.take_zero, List.cons_append, List.nil_append, Nat.reduceAdd, Nat.reduceLeDiff, Nat.reduceLT, Nat.zero_add, Bool.and_true, and_self, List.all_cons, List.all_nil, beq_self_eq_true, Nat.reduceMul, rng_3, ty_api_Node, st_api_Node, sta_api_Node, und_api_Node, inf_api_Node_eq, inf_api_Node_size, inf_api_Node_zero]
  with_reducible refine hR _ ?_
  clear hR R
  show X _ _ _ _
  refine X_ret ?_
  show ∃ d, resD _ _ _ = some d ∧ _ ∧ _
  refine ⟨_, by simp only [resD, resAll, resOne, resTup, Try.results15, EVP, mkD, ty_api_Node, List.getElem?_cons_succ, List.getElem?_cons_zero, List.drop_zero, List.take_succ_cons, List.take_zero, List.length_cons, List.length_nil, Nat.reduceAdd, Nat.reduceLeDiff, Nat.zero_add, if_true, Option.map_some]; exact rfl, rfl, ?_⟩
  simp only [D.strip, D.strips, lcT, e0, dN_eq, List.map_cons, List.map_nil, Tr.kind, Tr.num, Tr.name, Tr.kids, Own.st, List.isEmpty_nil, List.isEmpty_cons, if_true, Bool.false_eq_true, if_false, sl]
theorem lcb_st (N : Nat) (nm : ByteArray) : (D.agg [.int .u8 57, .int .i64 0, .str ⟨#[]⟩, .slice (.own N 44) 4 [dN (lcT nm)]]).strip = dN (lcB nm) := by
  rw [dN_eq (lcB nm)]; simp only [D.strip, D.strips, dN_strip]; rfl
theorem lcb_pl (N : Nat) (nm : ByteArray) : ((D.agg [.int .u8 57, .int .i64 0, .str ⟨#[]⟩, .slice (.own N 44) 4 [dN (lcT nm)]]).under 0 && (D.agg [.int .u8 57, .int .i64 0, .str ⟨#[]⟩, .slice (.own N 44) 4 [dN (lcT nm)]]).good) = true := by
  simp only [D.under, D.unders, dN_under]; rfl
theorem lcb_blk (N : Nat) (nm : ByteArray) : fn EV 16 [.agg [.int .u8 57, .int .i64 0, .str ⟨#[]⟩, .slice (.own N 44) 4 [dN (lcT nm)]]] = some (.bool (blockB (lcB nm))) := by
  rw [fn_strip (args' := [dN (lcB nm)]) (by simp only [plain, List.all_cons, List.all_nil, lcb_pl, Bool.and_true]) (by simp only [plain, List.all_cons, List.all_nil, dN_pl, Bool.and_true]) (by simp only [List.map_cons, List.map_nil, lcb_st, dN_strip])]
  exact o_ast_IsBlock _
theorem lcb_size (nm : ByteArray) : (lcB nm).size ≤ 900000 := by
  have : (lcB nm).size = 5 := rfl
  omega

end Go.Proofs.Ythgdibdapjaljaa
