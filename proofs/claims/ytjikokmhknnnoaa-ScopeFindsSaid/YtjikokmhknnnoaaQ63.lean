/- The law ScopeFinds: its walk. -/
import Derived.Test.YtjikokmhknnnoaaFi
namespace Go.Proofs.Ytjikokmhknnnoaa
open Go.RowKit

theorem awake_ok : fn EV 12 [] = some (.bool true) := fn_of (n := 200) (by kernel_rfl)
theorem fn_strip {E : Env} {k : Nat} {args args' : List D} (h : plain args = true) (h' : plain args' = true) (e : args.map D.strip = args'.map D.strip) : fn E k args = fn E k args' := by
  unfold fn pureWith
  unfold plain at h h'
  rw [if_pos h, if_pos h', e]
theorem q34a : Try.prog.stoodInHeld 34 = false := by kernel_rfl
theorem q34b : Try.prog.eqGuardType Try.prog.depth 34 = false := by kernel_rfl
theorem vd_fs : fs_api_VarDecl.toList.map (fun f => (decide (f.name = "_"), f.offset, Try.prog.underlying f.type)) = [(false, 0, some .string), (false, 1, some (.int .u8)), (false, 2, some (.int .i64))] := by kernel_rfl
theorem vd_eq (v : Vd) : aggEq Try.prog [.str v.name, .int .u8 v.kind, .int .i64 v.len] [.str v.name, .int .u8 v.kind, .int .i64 v.len] fs_api_VarDecl.toList = some true := by
  have h := vd_fs
  match hf : fs_api_VarDecl.toList, h with
  | [a, b, c], h =>
    simp only [List.map_cons, List.map_nil, List.cons.injEq, Prod.mk.injEq, and_true, decide_eq_false_iff_not] at h
    obtain ⟨⟨a1, a2, a3⟩, ⟨b1, b2, b3⟩, c1, c2, c3⟩ := h
    simp [aggEq, a1, a2, b1, b2, c1, c2, scEq, a3, b3, c3]
  | [], h => simp at h
  | [_], h => simp at h
  | [_, _], h => simp at h
  | _ :: _ :: _ :: _ :: _, h => simp at h
def mkP (x : ByteArray) : D := .agg [.str x, .slice .nil 0 [], .int .u8 0, .int .i64 0, .str ⟨#[]⟩, .slice .nil 0 []]
def prP (x : ByteArray) : Pr := ⟨x, [], .mk 0 0 ⟨#[]⟩ []⟩
theorem mkP_strip (x : ByteArray) : (mkP x).strip = dP (prP x) := rfl
theorem take_succ_map {α : Type} {f : α → D} {l : List α} {i : Nat} (h : i < l.length) : (l.take i).map f ++ [f l[i]] = (l.take (i + 1)).map f := by
  rw [List.take_succ_eq_append_getElem h, List.map_append]; rfl
set_option maxRecDepth 100000 in
set_option maxHeartbeats 4000000 in
theorem law3_fn (l : List Vd) (ps : List ByteArray) (s : ByteArray) : fn EV 3 [sl 3 (l.map dV), sl 1 (ps.map dS), .str s] = some (.bool true) := by
  refine fn_X rfl Try.func3 rfl (by simp only [plain, List.all_cons, List.all_nil, sl_under (map_under (f := dV) (fun _ => rfl) l), sl_under (map_under (f := dS) (fun _ => rfl) ps), Bool.and_true, Bool.true_and]; rfl) rfl (rfl) (rfl) ?_
  simp only [List.map_cons, List.map_nil, D.strip, sl_strip (map_strip (f := dV) (fun _ => rfl) l), sl_strip (map_strip (f := dS) (fun _ => rfl) ps)]
  simp only [enterSt, Try.ntmps3, List.length_cons, List.length_nil, Nat.reduceAdd, Nat.reduceSub, List.replicate_succ, List.replicate_zero, List.cons_append, List.nil_append]
  refine X_seq ?_
  refine X_rg fun R hR => ?_
  simp only [aops, astep, awant, aeff, aop, ev, ofValue, St.put, Option.getD_some, Option.map_some, if_true, List.set_cons_succ, List.set_cons_zero, sl]
  with_reducible refine hR _ ?_
  clear hR R
  show X _ _ _ _
  refine X_seq ?_
  refine X_seq ?_
  refine X_rg fun R hR => ?_
  simp only [EVP, aops, astep, awant, aeff, aop, ev, St.put, pcall, List.map_nil, List.getElem?_cons_succ, List.getElem?_cons_zero, Option.getD_some, Option.map_some, if_true, List.set_cons_succ, List.set_cons_zero, List.nil_append, Bool.not_true, any12, awake_ok]
  with_reducible refine hR _ ?_
  clear hR R
  show X _ _ _ _
  refine X_false (by simp only [ev, List.getElem?_cons_succ, List.getElem?_cons_zero, Option.getD_some]) ?_
  refine X_skip ?_
  show X _ _ _ _
  refine X_seq ?_
  refine X_seq ?_
  refine X_y ?_
  refine Y_k 4 fun R hR => ?_
  simp only [EVP, inr_i64, Int.reduceLE, Int.reduceNeg, aops, astep, awant, aeff, aop, abin, aint, ev, ofValue, St.put, List.getElem?_cons_succ, List.getElem?_cons_zero, Option.getD_some, Option.map_some, if_true, List.set_cons_succ, List.set_cons_zero, List.length_map, List.take_succ_cons, List.take_zero, and_self, und_api_VarDecl]
  with_reducible refine hR _ ?_
  clear hR R
  simp only [List.drop_succ_cons, List.drop_zero]
  refine Y_if 18 (by simp only [ev, List.getElem?_cons_succ, List.getElem?_cons_zero, Option.getD_some]; exact rfl) ?_ ?_
  · intro b1
    have c1 := b1
    try simp only [decide_eq_true_eq, gt_iff_lt] at c1
    refine Y_end fun R hR => ?_
    simp only [EVP, inr_i64, Int.reduceLE, Int.reduceNeg, aops, astep, awant, aeff, aop, abin, ev, ofValue, St.put, List.getElem?_cons_succ, List.getElem?_cons_zero, Option.getD_some, Option.map_some, Option.map_none, Option.bind_some, if_true, List.set_cons_succ, List.set_cons_zero, Bool.false_eq_true, if_false, and_self, decide_true, bq_tf, und_string, c1]
    with_reducible refine hR _ ?_
    clear hR R
    show X _ _ _ _
    refine X_true (by simp only [ev, List.getElem?_cons_succ, List.getElem?_cons_zero, Option.getD_some]) ?_
    refine X_seq ?_
    refine X_rg fun R hR => ?_
    simp only [aops, astep, awant, aeff, aop, ev, ofValue, St.put, Option.getD_some, Option.map_some, if_true, List.set_cons_succ, List.set_cons_zero]
    with_reducible refine hR _ ?_
    clear hR R
    show X _ _ _ _
    refine X_ret ?_
    show resD _ _ _ = some _
    simp only [resD, resAll, resOne, resTup, Try.results3, EVP, List.getElem?_cons_succ, List.getElem?_cons_zero, D.good, if_true, Option.map_some] <;> (first | (rfl; done) | (simp_all; done) | (exfalso; simp_all; done))
  · intro b2
    have c2 := b2
    try simp only [decide_eq_false_iff_not, Int.not_lt, gt_iff_lt] at c2
    refine Y_end fun R hR => ?_
    simp only [EVP, inr_i64, Int.reduceLE, Int.reduceNeg, aops, astep, awant, aeff, aop, abin, aint, ev, ofValue, St.put, List.getElem?_cons_succ, List.getElem?_cons_zero, Option.getD_some, Option.map_some, Option.bind_some, if_true, List.set_cons_succ, List.set_cons_zero, List.length_map, Bool.false_eq_true, if_false, and_self, beq_self_eq_true, und_string, b2]
    with_reducible refine hR _ ?_
    clear hR R
    show X _ _ _ _
    refine X_ite (by simp only [ev, List.getElem?_cons_succ, List.getElem?_cons_zero, Option.getD_some]; exact rfl) ?_ ?_
    · intro b3
      have c3 := b3
      try simp only [decide_eq_true_eq, gt_iff_lt] at c3
      refine X_seq ?_
      refine X_rg fun R hR => ?_
      simp only [aops, astep, awant, aeff, aop, ev, ofValue, St.put, Option.getD_some, Option.map_some, if_true, List.set_cons_succ, List.set_cons_zero, decide_true, c3]
      with_reducible refine hR _ ?_
      clear hR R
      show X _ _ _ _
      refine X_ret ?_
      show resD _ _ _ = some _
      simp only [resD, resAll, resOne, resTup, Try.results3, EVP, List.getElem?_cons_succ, List.getElem?_cons_zero, D.good, if_true, Option.map_some] <;> (first | (rfl; done) | (simp_all; done) | (exfalso; simp_all; done))
    · intro b4
      have c4 := b4
      try simp only [decide_eq_false_iff_not, Int.not_lt, gt_iff_lt] at c4
      refine X_skip ?_
      show X _ _ _ _
      refine X_seq ?_
      refine X_rg fun R hR => ?_
      simp only [EVP, aops, astep, awant, aeff, St.put, Option.map_some, Option.bind_some, if_true, List.set_cons_succ, List.set_cons_zero, List.length_nil, List.nil_append, ty_api_Program, b4]
      with_reducible refine hR _ ?_
      clear hR R
      show X _ _ _ _
      refine X_seq ?_
      refine X_seq ?_
      have hpl : ps.length ≤ 40 := by first | omega | simp_all
      have hll : l.length ≤ 40 := by first | omega | simp_all
      refine X_rg fun R hR => ?_
      simp only [inr_i64, Int.reduceLE, Int.reduceNeg, aops, astep, awant, aeff, aop, ev, ofValue, St.put, Option.getD_some, Option.map_some, if_true, List.set_cons_succ, List.set_cons_zero, and_self]
      with_reducible refine hR _ ?_
      clear hR R
      show X _ _ _ _
      refine X_block ?_
      refine X_loop (fun m σ => ∃ (i : Nat) (r : List (List D)) (o : Own) (n : Nat) (nx : Nat) (lv : List Nat), σ = ⟨[.slice .imm (if (l.map dV).isEmpty = true then 0 else 3) (l.map dV), .slice .imm (if (ps.map dS).isEmpty = true then 0 else 1) (ps.map dS), .str s, slotOf σ 3, slotOf σ 4, slotOf σ 5, slotOf σ 6, .ptr 0 0, .int .i64 i, slotOf σ 9, slotOf σ 10, slotOf σ 11, slotOf σ 12, slotOf σ 13, slotOf σ 14, slotOf σ 15, slotOf σ 16, slotOf σ 17, slotOf σ 18, slotOf σ 19, slotOf σ 20, slotOf σ 21, slotOf σ 22, slotOf σ 23, slotOf σ 24, slotOf σ 25, slotOf σ 26, slotOf σ 27, slotOf σ 28, slotOf σ 29, slotOf σ 30, slotOf σ 31, slotOf σ 32, slotOf σ 33, slotOf σ 34, slotOf σ 35, slotOf σ 36, slotOf σ 37, slotOf σ 38, slotOf σ 39, slotOf σ 40, slotOf σ 41, slotOf σ 42, slotOf σ 43, slotOf σ 44, slotOf σ 45, slotOf σ 46, slotOf σ 47, slotOf σ 48, slotOf σ 49, slotOf σ 50, slotOf σ 51, slotOf σ 52, slotOf σ 53, slotOf σ 54, slotOf σ 55, slotOf σ 56, slotOf σ 57, slotOf σ 58, slotOf σ 59, slotOf σ 60, slotOf σ 61, slotOf σ 62, slotOf σ 63, slotOf σ 64, slotOf σ 65, slotOf σ 66, slotOf σ 67], [.slice .nil 0 [], .slice o n ((ps.take i).map mkP), .int .u8 0, .int .i64 0, .str ⟨#[]⟩, .slice .nil 0 []] :: r, nx, lv⟩ ∧ m = ps.length - i ∧ i ≤ ps.length ∧ Acc 32 6 o n ((ps.take i).map mkP) lv) ?_ (ps.length) _ ?_
      rotate_left
      · exact ⟨0, [], .nil, 0, 0, [], rfl, rfl, Nat.zero_le _, .nil _ _ _⟩
      rintro m σ ⟨i, r, o, n, nx, lv, hσ, rfl, hi, hacc⟩
      generalize slotOf σ = x at hσ
      subst hσ
      have hn : ∀ j, j < ps.length → ((if (ps.map dS).isEmpty = true then 0 else 1) = 1) = True := fun j h => eq_true (sl_n (j := j) (by simpa using h))
      refine X_seq ?_
      refine X_seq ?_
      refine X_rg fun R hR => ?_
      simp only [EVP, nat_lt, aops, astep, awant, aeff, aop, abin, aint, ev, St.put, List.getElem?_cons_succ, List.getElem?_cons_zero, Option.getD_some, Option.map_some, if_true, List.set_cons_succ, List.set_cons_zero, List.length_map, und_string]
      with_reducible refine hR _ ?_
      clear hR R
      show X _ _ _ _
      refine X_ite (by simp only [ev, List.getElem?_cons_succ, List.getElem?_cons_zero, Option.getD_some]; exact rfl) ?_ ?_
      · intro b5
        have c5 := b5
        try simp only [decide_eq_true_eq] at c5
        refine X_skip ?_
        show X _ _ _ _
        refine X_seq ?_
        refine X_block ?_
        have hlt : i < ps.length := by first | assumption | omega
        have hn1 := hn i hlt
        have e1 : (ps.map dS)[i]? = some (.str ps[i]) := by simp [hlt]; rfl
        have tsm : (ps.take i).map mkP ++ [.agg [.str ps[i], .slice .nil 0 [], .int .u8 0, .int .i64 0, .str ⟨#[]⟩, .slice .nil 0 []]] = (ps.take (i + 1)).map mkP := take_succ_map (f := mkP) hlt
        have hap := fun fr bx => (hacc.more nx).app (P := Try.prog) (σ := ⟨fr, bx, nx + 1, nx :: lv⟩) (t := 25) (o2 := .own nx 32) (l2 := [.agg [.str ps[i], .slice .nil 0 [], .int .u8 0, .int .i64 0, .str ⟨#[]⟩, .slice .nil 0 []]]) und_api_Proc inf_api_Proc_eq inf_api_Proc_size (by omega) (by rw [inf_api_Proc_bytes]; omega) inf_api_Proc_zc (by simp; omega) (by simp)
        refine X_rg fun R hR => ?_
        simp only [EVP, nat_lt, nat_0, nat_to, aops, astep, awant, aeff, aop, mkD, afill, abuild, astore, ev, ofValue, St.put, gd_str, ia_str, cl_str, gd_agg, cl_agg, gd_slice, ia_slice, cl_slice, List.map_cons, List.map_nil, List.getElem?_cons_succ, List.getElem?_cons_zero, Option.getD_some, Option.map_some, if_true, List.set_cons_succ, List.set_cons_zero, List.length_map, List.length_cons, List.length_nil, List.drop_succ_cons, List.drop_zero, List.take_succ_cons, List.take_zero, List.cons_append, List.nil_append, Nat.reduceAdd, Nat.reduceLeDiff, Nat.reduceLT, Nat.zero_add, Bool.and_true, Bool.false_eq_true, if_false, and_self, reduceCtorEq, List.all_cons, List.all_nil, decide_true, beq_self_eq_true, Option.isSome_some, Nat.reduceMul, rng_1, ty_string, ty_s_api_Proc, ty_api_Proc, ty_api_Program, st_api_Proc, sta_api_Proc, und_api_Proc, inf_api_Proc_eq, inf_api_Proc_size, inf_api_Proc_zero, und_string, siz_string, inf_string_eq, c5, hn1, e1, hap, tsm]
        with_reducible refine hR _ ?_
        clear hR R
        show X _ _ _ _
        have hbig : i < 9223372036854775807 := by omega
        refine X_rg fun R hR => ?_
        simp only [inr_i64, Int.reduceLE, Int.reduceNeg, aops, astep, awant, aeff, aop, abin, aint, ev, ofValue, St.put, List.getElem?_cons_succ, List.getElem?_cons_zero, Option.getD_some, Option.map_some, if_true, List.set_cons_succ, List.set_cons_zero, and_self, nat_succ hbig]
        with_reducible refine hR _ ?_
        clear hR R
        show ∃ m, m < _ ∧ _
        exact ⟨ps.length - (i + 1), by omega, i + 1, _, _, _, _, _, rfl, rfl, by omega, .own (by simp)⟩
      · intro b6
        have c6 := b6
        try simp only [decide_eq_false_iff_not] at c6
        refine X_exit ?_
        show X _ _ _ _
        refine X_seq ?_
        have hF := find_fn l s (by omega)
        have hR2 := rfind_fn l s (by omega)
        simp only [sl] at hF hR2
        refine X_rg fun R hR => ?_
        simp only [EVP, app_get0, app_set0, aops, astep, awant, aeff, aop, astore, ev, St.put, pcall, gd_agg, cl_agg, List.map_cons, List.map_nil, List.getElem?_cons_succ, List.getElem?_cons_zero, Option.getD_some, Option.map_some, Option.bind_some, if_true, List.set_cons_succ, List.set_cons_zero, List.length_cons, List.length_nil, List.drop_succ_cons, List.drop_zero, List.take_zero, List.cons_append, List.nil_append, Nat.reduceAdd, Nat.reduceLeDiff, Nat.zero_add, and_self, decide_false, ty_api_VarDecl, any13, dV, c6, hF]
        with_reducible refine hR _ ?_
        clear hR R
        show X _ _ _ _
        refine X_seq ?_
        refine X_rg fun R hR => ?_
        simp only [EVP, app_get1, app_set1, aops, astep, awant, aeff, aop, astore, ev, St.put, pcall, gd_agg, cl_agg, List.map_cons, List.map_nil, List.getElem?_cons_succ, List.getElem?_cons_zero, Option.getD_some, Option.map_some, Option.bind_some, if_true, List.set_cons_succ, List.set_cons_zero, List.length_cons, List.length_nil, List.drop_succ_cons, List.drop_zero, List.take_zero, List.cons_append, List.nil_append, List.append_assoc, Nat.reduceAdd, Nat.reduceLeDiff, Nat.zero_add, and_self, ty_api_VarDecl, any14, dV, hR2, List.length_append]
        with_reducible refine hR _ ?_
        clear hR R
        show X _ _ _ _
        refine X_seq ?_
        have hP : fn EV 15 [.agg [.slice .nil 0 [], .slice o n ((ps.take i).map mkP), .int .u8 0, .int .i64 0, .str ⟨#[]⟩, .slice .nil 0 []], .str s] = some (.int .i64 (idxN (ps.map prP) s 0 (ps.map prP).length)) := by
          rw [fn_strip (args' := [dG ⟨[], ps.map prP, .mk 0 0 ⟨#[]⟩ []⟩, .str s]) ?_ ?_ ?_]
          · exact proc_fn ⟨[], ps.map prP, .mk 0 0 ⟨#[]⟩ []⟩ s (by simp; omega)
          · simp [plain, D.under, D.unders, D.unders_all, D.good]; intro y hy; obtain ⟨z, _, rfl⟩ := List.mem_map.1 (List.mem_of_mem_take hy); rfl
          · simp [plain, dG_under, D.under, D.good]; rfl
          · simp only [List.map_cons, List.map_nil, dG_strip, D.strip, D.strips]
            have hst := hacc.strip
            simp only [D.strip] at hst
            rw [hst, show i = ps.length from by omega, List.take_length, List.map_map]
            simp only [dG, sl, List.map_map, Own.st]; rfl
        have hQ : fn EV 16 [.agg [.slice .nil 0 [], .slice o n ((ps.take i).map mkP), .int .u8 0, .int .i64 0, .str ⟨#[]⟩, .slice .nil 0 []], .str s] = some (.int .i64 (idxN (ps.map prP) s 0 (ps.map prP).length)) := by
          rw [fn_strip (args' := [dG ⟨[], ps.map prP, .mk 0 0 ⟨#[]⟩ []⟩, .str s]) ?_ ?_ ?_]
          · exact rproc_fn ⟨[], ps.map prP, .mk 0 0 ⟨#[]⟩ []⟩ s (by simp; omega)
          · simp [plain, D.under, D.unders, D.unders_all, D.good]; intro y hy; obtain ⟨z, _, rfl⟩ := List.mem_map.1 (List.mem_of_mem_take hy); rfl
          · simp [plain, dG_under, D.under, D.good]; rfl
          · simp only [List.map_cons, List.map_nil, dG_strip, D.strip, D.strips]
            have hst := hacc.strip
            simp only [D.strip] at hst
            rw [hst, show i = ps.length from by omega, List.take_length, List.map_map]
            simp only [dG, sl, List.map_map, Own.st]; rfl
        refine X_rg fun R hR => ?_
        simp only [EVP, app_get0, app_get1, aops, astep, awant, aeff, aop, abin, aint, mkD, ev, ofValue, St.put, pcall, List.map_cons, List.map_nil, List.getElem?_cons_succ, List.getElem?_cons_zero, Option.getD_some, Option.map_some, Option.bind_some, if_true, List.set_cons_succ, List.set_cons_zero, List.length_map, List.length_cons, List.length_nil, List.drop_zero, List.take_succ_cons, List.take_zero, List.cons_append, List.nil_append, Nat.reduceAdd, Nat.reduceLeDiff, Nat.zero_add, and_self, beq_self_eq_true, ty_api_VarDecl, ty_api_Program, st_api_VarDecl, und_bool', any15, any16, hP, hQ, q34a, q34b, vd_eq]
        with_reducible refine hR _ ?_
        clear hR R
        show X _ _ _ _
        refine X_ret ?_
        show resD _ _ _ = some _
        simp only [resD, resAll, resOne, resTup, Try.results3, EVP, List.getElem?_cons_succ, List.getElem?_cons_zero, D.good, if_true, Option.map_some] <;> (first | (rfl; done) | (simp_all; done) | (exfalso; simp_all; done))

end Go.Proofs.Ytjikokmhknnnoaa
