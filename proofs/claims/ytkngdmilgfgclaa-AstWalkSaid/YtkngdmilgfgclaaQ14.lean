/- The law AstWalk: its walk. -/
import Derived.Test.YtkngdmilgfgclaaPw
import Derived.Test.YtkngdmilgfgclaaQ19
namespace Go.Proofs.Ytkngdmilgfgclaa
open Go.RowKit

theorem und_u16 : Try.prog.underlying 27 = some (.int .u16) := by kernel_rfl
theorem slJ_good (p : List Int) : (slJ p).good = true := rfl
theorem slJ_cells (p : List Int) : (slJ p).cells = [slJ p] := rfl
theorem slJ_isAgg (p : List Int) : (slJ p).isAgg = false := rfl
theorem tmod_nat {k : Int} (hk : 0 ≤ k) (n : Nat) : k.tmod (n : Int) = ((k.toNat % n : Nat) : Int) := by
  obtain ⟨m, rfl⟩ := Int.eq_ofNat_of_zero_le hk
  rw [Int.tmod_eq_emod_of_nonneg hk]; simp
theorem u16_conv {k : Int} (h0 : 0 ≤ k) (h1 : k ≤ 65535) : IntKind.i64.wrap k = k := by
  simp only [IntKind.wrap, IntKind.bits, IntKind.signed]; simp; omega
theorem acc_n {e : TypeId} {sz : Nat} {o : Own} {n : Nat} {L : List D} {nx : Nat} {lv : List Nat} (h : AccB e sz o n L nx lv) (hn : L ≠ []) : n = sz := by
  rcases h.a with ⟨_, q, _⟩ | ⟨_, _, _, q⟩
  · exact absurd q hn
  · exact q
theorem size_ge1 (t : Tr) : 0 < t.size := by cases t; simp only [Tr.size]; omega
set_option maxRecDepth 100000 in
set_option maxHeartbeats 4000000 in
theorem law4_fn (t : Tr) (sp : Int) (hk0 : 0 ≤ sp) (hk1 : sp ≤ 65535) : fn EV 4 [dN t, .int .u16 sp] = some (.bool true) := by
  refine fn_X rfl Try.func4 rfl (by simp only [plain, List.all_cons, List.all_nil, dN_pl, int_pl, Bool.and_true]) (rfl) (rfl) (rfl) ?_
  simp only [List.map_cons, List.map_nil, D.strip, dN_strip]
  simp only [enterSt, Try.ntmps4, List.length_cons, List.length_nil, Nat.reduceAdd, Nat.reduceSub, List.replicate_succ, List.replicate_zero, List.cons_append, List.nil_append]
  refine X_seq ?_
  refine X_rg fun R hR => ?_
  simp only [EVP, aops, astep, awant, aeff, ev, St.put, List.getElem?_cons_zero, Option.getD_some, Option.map_some, Option.bind_some, if_true, List.set_cons_succ, List.set_cons_zero, List.length_cons, List.length_nil, List.cons_append, List.nil_append, Nat.zero_add, ty_bool, dN_cells, dN_good, sl]
  with_reducible refine hR _ ?_
  clear hR R
  show X _ _ _ _
  refine X_seq ?_
  refine X_seq ?_
  refine X_rg fun R hR => ?_
  simp only [EVP, aops, astep, awant, aeff, aop, ev, St.put, pcall, List.map_nil, List.getElem?_cons_succ, List.getElem?_cons_zero, Option.getD_some, Option.map_some, if_true, List.set_cons_succ, List.set_cons_zero, List.nil_append, Bool.not_true, any13, awake_ok]
  with_reducible refine hR _ ?_
  clear hR R
  show X _ _ _ _
  refine X_ite (by simp only [ev, List.getElem?_cons_succ, List.getElem?_cons_zero, Option.getD_some]; exact rfl) ?_ ?_
  · intro b1
    have c1 := b1
    try simp only [Bool.not_eq_true', Bool.not_eq_false', decide_eq_true_eq, decide_eq_false_iff_not, beq_iff_eq, Int.not_lt, Int.not_le, ge_iff_le, gt_iff_lt, bne_iff_ne, ne_eq, bne_eq_false_iff_eq, beq_eq_false_iff_ne, Bool.and_eq_true, Bool.or_eq_false_iff] at c1
    refine X_seq ?_
    refine X_rg fun R hR => ?_
    simp only [EVP, aops, astep, awant, aeff, astore, ev, ofValue, St.put, gd_bool, cl_bool, List.getElem?_cons_succ, List.getElem?_cons_zero, Option.getD_some, Option.map_some, if_true, List.set_cons_succ, List.set_cons_zero, List.length_cons, List.length_nil, List.drop_succ_cons, List.drop_zero, List.take_zero, List.cons_append, List.nil_append, Nat.reduceLeDiff, Nat.zero_add, and_self, ty_bool, b1]
    with_reducible refine hR _ ?_
    clear hR R
    show X _ _ _ _
    refine X_ret ?_
    show resD _ _ _ = some _
    simp only [resD, resAll, resOne, resTup, Try.results4, EVP, mkD, ty_bool, List.getElem?_cons_succ, List.getElem?_cons_zero, List.drop_zero, List.take_succ_cons, List.take_zero, List.length_cons, List.length_nil, Nat.reduceLeDiff, Nat.zero_add, if_true, Bool.false_eq_true, if_false, D.isAgg, Option.map_some] <;> (first | (rfl; done) | (simp_all; done) | (exfalso; simp_all; done))
  · intro b2
    have c2 := b2
    try simp only [] at c2
    refine X_skip ?_
    show X _ _ _ _
    refine X_seq ?_
    refine X_seq ?_
    have hbg := o_backstepref03_Big t
    refine X_rg fun R hR => ?_
    simp only [EVP, aops, astep, awant, aeff, aop, mkD, ev, St.put, pcall, List.map_cons, List.map_nil, List.getElem?_cons_succ, List.getElem?_cons_zero, Option.getD_some, Option.map_some, if_true, List.set_cons_succ, List.set_cons_zero, List.length_cons, List.length_nil, List.drop_zero, List.take_succ_cons, List.take_zero, List.cons_append, List.nil_append, Nat.reduceAdd, Nat.reduceLeDiff, Nat.zero_add, ty_api_Node, any14, dN_agg, hbg]
    with_reducible refine hR _ ?_
    clear hR R
    show X _ _ _ _
    refine X_ite (by simp only [ev, List.getElem?_cons_succ, List.getElem?_cons_zero, Option.getD_some]; exact rfl) ?_ ?_
    · intro b3
      have c3 := b3
      try simp only [Bool.not_eq_true', Bool.not_eq_false', decide_eq_true_eq, decide_eq_false_iff_not, beq_iff_eq, Int.not_lt, Int.not_le, ge_iff_le, gt_iff_lt, bne_iff_ne, ne_eq, bne_eq_false_iff_eq, beq_eq_false_iff_ne, Bool.and_eq_true, Bool.or_eq_false_iff] at c3
      refine X_seq ?_
      refine X_rg fun R hR => ?_
      simp only [EVP, aops, astep, awant, aeff, astore, ev, ofValue, St.put, gd_bool, cl_bool, List.getElem?_cons_succ, List.getElem?_cons_zero, Option.getD_some, Option.map_some, if_true, List.set_cons_succ, List.set_cons_zero, List.length_cons, List.length_nil, List.drop_succ_cons, List.drop_zero, List.take_zero, List.cons_append, List.nil_append, Nat.reduceLeDiff, Nat.zero_add, and_self, ty_bool, b3]
      with_reducible refine hR _ ?_
      clear hR R
      show X _ _ _ _
      refine X_ret ?_
      show resD _ _ _ = some _
      simp only [resD, resAll, resOne, resTup, Try.results4, EVP, mkD, ty_bool, List.getElem?_cons_succ, List.getElem?_cons_zero, List.drop_zero, List.take_succ_cons, List.take_zero, List.length_cons, List.length_nil, Nat.reduceLeDiff, Nat.zero_add, if_true, Bool.false_eq_true, if_false, D.isAgg, Option.map_some] <;> (first | (rfl; done) | (simp_all; done) | (exfalso; simp_all; done))
    · intro b4
      have c4 := b4
      try simp only [Bool.not_eq_true', Bool.not_eq_false', decide_eq_true_eq, decide_eq_false_iff_not, beq_iff_eq, Int.not_lt, Int.not_le, ge_iff_le, gt_iff_lt, bne_iff_ne, ne_eq, bne_eq_false_iff_eq, beq_eq_false_iff_ne, Bool.and_eq_true, Bool.or_eq_false_iff] at c4
      refine X_skip ?_
      show X _ _ _ _
      refine X_seq ?_
      have hb : bigB t = false := by first | assumption | (simp_all; done)
      have hsz := (bigB_no hb).1
      have hP := paths_fn t.size t (Nat.le_refl _) (by omega)
      simp only [slW, sl] at hP
      have hpz := pathsL_len t
      refine X_rg fun R hR => ?_
      simp only [EVP, aops, astep, awant, aeff, aop, mkD, astore, ev, St.put, pcall, gd_slice, cl_slice, List.map_cons, List.map_nil, List.getElem?_cons_succ, List.getElem?_cons_zero, Option.getD_some, Option.map_some, Option.bind_some, if_true, List.set_cons_succ, List.set_cons_zero, List.length_cons, List.length_nil, List.drop_succ_cons, List.drop_zero, List.take_succ_cons, List.take_zero, List.cons_append, List.nil_append, Nat.reduceAdd, Nat.reduceLeDiff, Nat.zero_add, and_self, ty_api_Node, ty_s_s_int, any23, dN_agg, b4, hP]
      with_reducible refine hR _ ?_
      clear hR R
      show X _ _ _ _
      refine X_seq ?_
      refine X_rg fun R hR => ?_
      simp only [EVP, aops, astep, awant, aeff, St.put, Option.map_some, Option.bind_some, if_true, List.set_cons_succ, List.set_cons_zero, List.length_cons, List.length_nil, List.cons_append, List.nil_append, Nat.reduceAdd, Nat.zero_add, ty_s_s_int]
      with_reducible refine hR _ ?_
      clear hR R
      show X _ _ _ _
      refine X_seq ?_
      refine X_seq ?_
      have hW := o_ast_Walk t (by omega)
      refine X_rg fun R hR => ?_
      simp only [EVP, aops, astep, awant, aeff, aop, mkD, ev, St.put, pcall, List.map_cons, List.map_nil, List.getElem?_cons_succ, List.getElem?_cons_zero, Option.getD_some, Option.map_some, if_true, List.set_cons_succ, List.set_cons_zero, List.length_cons, List.length_nil, List.drop_zero, List.take_succ_cons, List.take_zero, List.cons_append, List.nil_append, Nat.reduceAdd, Nat.reduceLeDiff, Nat.zero_add, ty_api_Node, any24, dN_agg, hW]
      with_reducible refine hR _ ?_
      clear hR R
      show X _ _ _ _
      refine X_block ?_
      refine X_range (L := walkD t) (by simp only [ev, List.getElem?_cons_succ, List.getElem?_cons_zero, Option.getD_some]) ?_
      refine XR_inv (fun L σ => ∃ (fr : List D) (r : List (List D)) (W : List (List Int × Tr)) (o : Own) (n : Nat) (K : List (List Int)) (nx : Nat) (lv : List Nat), σ = ⟨fr, [.int .u8 t.kind, .int .i64 t.num, .str t.name, .slice .imm (if (t.kids.map dN).isEmpty = true then 0 else 4) (t.kids.map dN)] :: [.bool false] :: [.slice .imm (if ((pathsL t).map slJ).isEmpty = true then 0 else 1) ((pathsL t).map slJ)] :: [.slice o n (K.map slJ)] :: r, nx, lv⟩ ∧ L = W.map (fun x : List Int × Tr => [sl 1 (x.1.map dI), dN x.2]) ∧ Hid (AccB 33 1 o n (K.map slJ) nx lv) ∧ Hid (K ++ W.map (·.1) = (pathsL t)) ∧ Hid (∀ x ∈ W, atT t x.1 = (x.2, true))) ?_ ?_ _ _ ?_
      rotate_right
      · refine ⟨_, [], walkL [] t, .nil, 0, [], 0, [], rfl, rfl, Lib.hid (.nil _ _ _ _), Lib.hid rfl, Lib.hid (fun x hx => by obtain ⟨q, h1, h2⟩ := walk_at t [] x hx; rw [List.nil_append] at h1; rw [h1]; exact h2)⟩
      · rintro σ ⟨fr, r0, W, o, n, K, nx, lv, rfl, hL, ha, hK, hAt⟩
        have hW0 : W = [] := by cases W with | nil => rfl | cons a b => cases hL
        subst hW0
        have hKe : K = pathsL t := by simpa using hK.out
        subst hKe
        show X _ _ _ _
        refine X_seq ?_
        refine X_seq ?_
        have hne : (((pathsL t).length : Int) != ((pathsL t).length : Int)) = false := by simp
        refine X_rg fun R hR => ?_
        simp only [EVP, aops, astep, awant, aeff, aop, abin, aint, mkD, ev, St.put, ia_slice, List.getElem?_cons_succ, List.getElem?_cons_zero, Option.getD_some, Option.map_some, if_true, List.set_cons_succ, List.set_cons_zero, List.length_map, List.length_cons, List.length_nil, List.drop_zero, List.take_succ_cons, List.take_zero, Nat.reduceLeDiff, Nat.zero_add, Bool.false_eq_true, if_false, bne_self_eq_false, ty_s_s_int, und_s_int]
        with_reducible refine hR _ ?_
        clear hR R
        show X _ _ _ _
        refine X_false (by simp only [ev, List.getElem?_cons_succ, List.getElem?_cons_zero, Option.getD_some]) ?_
        refine X_skip ?_
        show X _ _ _ _
        refine X_seq ?_
        refine X_seq ?_
        refine X_rg fun R hR => ?_
        simp only [inr_i64, Int.reduceLE, Int.reduceNeg, aops, astep, awant, aeff, aop, ev, ofValue, St.put, Option.getD_some, Option.map_some, if_true, List.set_cons_succ, List.set_cons_zero, and_self]
        with_reducible refine hR _ ?_
        clear hR R
        show X _ _ _ _
        refine X_block ?_
        refine X_loop (fun m σ => ∃ (i : Nat), σ = ⟨[slotOf σ 0, .int .u16 sp, .ptr 0 0, slotOf σ 3, .ptr 1 0, .ptr 2 0, .ptr 3 0, slotOf σ 7, slotOf σ 8, slotOf σ 9, slotOf σ 10, .int .i64 i, slotOf σ 12, slotOf σ 13, slotOf σ 14, slotOf σ 15, slotOf σ 16, slotOf σ 17, slotOf σ 18, slotOf σ 19, slotOf σ 20, slotOf σ 21, slotOf σ 22, slotOf σ 23, slotOf σ 24, slotOf σ 25, slotOf σ 26, slotOf σ 27, slotOf σ 28, slotOf σ 29, slotOf σ 30, slotOf σ 31, slotOf σ 32, slotOf σ 33, slotOf σ 34, slotOf σ 35, slotOf σ 36, slotOf σ 37, slotOf σ 38, slotOf σ 39, slotOf σ 40, slotOf σ 41, slotOf σ 42, slotOf σ 43, slotOf σ 44, slotOf σ 45, slotOf σ 46, slotOf σ 47, slotOf σ 48, slotOf σ 49, slotOf σ 50, slotOf σ 51, slotOf σ 52, slotOf σ 53, slotOf σ 54, slotOf σ 55, slotOf σ 56, slotOf σ 57, slotOf σ 58, slotOf σ 59, slotOf σ 60, slotOf σ 61, slotOf σ 62, slotOf σ 63, slotOf σ 64, slotOf σ 65, slotOf σ 66, slotOf σ 67, slotOf σ 68, slotOf σ 69, slotOf σ 70, slotOf σ 71, slotOf σ 72, slotOf σ 73, slotOf σ 74, slotOf σ 75, slotOf σ 76, slotOf σ 77, slotOf σ 78, slotOf σ 79, slotOf σ 80, slotOf σ 81, slotOf σ 82, slotOf σ 83, slotOf σ 84, slotOf σ 85, slotOf σ 86, slotOf σ 87, slotOf σ 88, slotOf σ 89], [.int .u8 t.kind, .int .i64 t.num, .str t.name, .slice .imm (if (t.kids.map dN).isEmpty = true then 0 else 4) (t.kids.map dN)] :: [.bool false] :: [.slice .imm (if ((pathsL t).map slJ).isEmpty = true then 0 else 1) ((pathsL t).map slJ)] :: [.slice o n ((pathsL t).map slJ)] :: r0, nx, lv⟩ ∧ m = (pathsL t).length - i ∧ i ≤ (pathsL t).length) ?_ ((pathsL t).length) _ ?_
        rotate_left
        · exact ⟨0, rfl, rfl, Nat.zero_le _⟩
        rintro m σ ⟨i, hσ, rfl, hi⟩
        generalize slotOf σ = x at hσ
        subst hσ
        refine X_seq ?_
        refine X_seq ?_
        refine X_rg fun R hR => ?_
        simp only [EVP, nat_lt, aops, astep, awant, aeff, aop, abin, aint, mkD, ev, St.put, ia_slice, List.getElem?_cons_succ, List.getElem?_cons_zero, Option.getD_some, Option.map_some, if_true, List.set_cons_succ, List.set_cons_zero, List.length_map, List.length_cons, List.length_nil, List.drop_zero, List.take_succ_cons, List.take_zero, Nat.reduceLeDiff, Nat.zero_add, Bool.false_eq_true, if_false, ty_s_s_int, und_s_int]
        with_reducible refine hR _ ?_
        clear hR R
        show X _ _ _ _
        refine X_ite (by simp only [ev, List.getElem?_cons_succ, List.getElem?_cons_zero, Option.getD_some]; exact rfl) ?_ ?_
        · intro b5
          have c5 := b5
          try simp only [decide_eq_true_eq] at c5
          refine X_skip ?_
          show X _ _ _ _
          refine X_seq ?_
          refine X_block ?_
          refine X_seq ?_
          have hlt2 : i < (pathsL t).length := by first | assumption | omega
          have e1 : ((pathsL t).map slJ)[i]? = some (.slice .imm (if ((pathsL t)[i].map dI).isEmpty = true then 0 else 1) ((pathsL t)[i].map dI)) := by rw [List.getElem?_map, List.getElem?_eq_getElem hlt2]; rfl
          have hn1 : ((if ((pathsL t).map slJ).isEmpty = true then 0 else 1) = 1) = True := eq_true (sl_n (j := i) (by rw [List.length_map]; exact hlt2))
          have hn2 : (n = 1) = True := eq_true (acc_n ha.out (by intro q; have h9 := congrArg List.length q; simp only [List.length_map, List.length_nil] at h9; omega))
          have hpl2 := pathsL_plen _ (List.getElem_mem hlt2)
          have his := ints_self (pathsL t)[i] (by omega)
          simp only [sl] at his
          refine X_rg fun R hR => ?_
          simp only [EVP, nat_lt, nat_0, nat_to, aops, astep, awant, aeff, aop, mkD, ev, St.put, pcall, ia_slice, cl_slice, List.map_cons, List.map_nil, List.getElem?_cons_succ, List.getElem?_cons_zero, Option.getD_some, Option.map_some, if_true, List.set_cons_succ, List.set_cons_zero, List.length_map, List.length_cons, List.length_nil, List.drop_zero, List.take_succ_cons, List.take_zero, List.cons_append, List.nil_append, Nat.reduceLeDiff, Nat.zero_add, Bool.not_true, Bool.false_eq_true, if_false, and_self, decide_true, Option.isSome_some, ty_s_int, ty_s_s_int, und_s_int, siz_s_int, inf_s_int_eq, any27, hlt2, e1, hn1, hn2, his, List.getElem?_cons_zero, List.set_cons_zero, List.getElem?_cons_succ, List.set_cons_succ, List.length_cons, List.length_nil]
          with_reducible refine hR _ ?_
          clear hR R
          show X _ _ _ _
          refine X_false (by simp only [ev, List.getElem?_cons_succ, List.getElem?_cons_zero, Option.getD_some]) ?_
          refine X_skip ?_
          show X _ _ _ _
          have hbig : i < 9223372036854775807 := by omega
          refine X_rg fun R hR => ?_
          simp only [inr_i64, Int.reduceLE, Int.reduceNeg, aops, astep, awant, aeff, aop, abin, aint, ev, ofValue, St.put, List.getElem?_cons_succ, List.getElem?_cons_zero, Option.getD_some, Option.map_some, if_true, List.set_cons_succ, List.set_cons_zero, and_self, nat_succ hbig]
          with_reducible refine hR _ ?_
          clear hR R
          show ∃ m, m < _ ∧ _
          exact ⟨(pathsL t).length - (i + 1), by omega, i + 1, rfl, rfl, by omega⟩
        · intro b6
          have c6 := b6
          try simp only [decide_eq_false_iff_not] at c6
          refine X_exit ?_
          show X _ _ _ _
          refine X_seq ?_
          refine X_rg fun R hR => ?_
          simp only [EVP, inr_i64, Int.reduceLE, Int.reduceNeg, app_get0, app_set0, aops, astep, awant, aeff, astore, ev, ofValue, St.put, gd_int, cl_int, List.getElem?_cons_succ, List.getElem?_cons_zero, Option.getD_some, Option.map_some, Option.bind_some, if_true, List.set_cons_succ, List.set_cons_zero, List.length_cons, List.length_nil, List.drop_succ_cons, List.drop_zero, List.take_zero, List.cons_append, List.nil_append, Nat.reduceLeDiff, Nat.zero_add, and_self, ty_int, b6, app_get0, app_set0, List.getElem?_cons_zero, List.set_cons_zero, List.getElem?_cons_succ, List.set_cons_succ, List.length_cons, List.length_nil]
          with_reducible refine hR _ ?_
          clear hR R
          show X _ _ _ _
          refine X_seq ?_
          have hkc := u16_conv hk0 hk1
          have hs0 : 0 < t.size := size_ge1 t
          obtain ⟨jj, hjj⟩ : ∃ jj : Nat, sp.toNat % (pathsL t).length = jj := ⟨_, rfl⟩
          have hj0 : jj < (pathsL t).length := by have := Nat.mod_lt sp.toNat (show 0 < (pathsL t).length by omega); omega
          have htm := tmod_nat hk0 (pathsL t).length
          rw [hjj] at htm
          clear hjj
          have hz : (((pathsL t).length : Int) = 0) = False := eq_false (by omega)
          have hw1 : IntKind.i64.wrap (1 + (jj : Int)) = ((jj + 1 : Nat) : Int) := by rw [Int.add_comm]; exact nat_succ (by omega)
          obtain ⟨most, hmost⟩ : ∃ most : Nat, most = jj + 1 := ⟨_, rfl⟩
          rw [← hmost] at hw1
          have hm0 : 0 < most := by omega
          have hm1 : most ≤ t.size := by omega
          refine X_rg fun R hR => ?_
          simp only [EVP, inr_i64, Int.reduceLE, Int.reduceNeg, app_get1, app_set1, aops, astep, awant, aeff, aop, abin, aint, mkD, astore, ev, ofValue, St.put, gd_int, cl_int, ia_slice, List.getElem?_cons_succ, List.getElem?_cons_zero, Option.getD_some, Option.map_some, Option.bind_some, if_true, List.set_cons_succ, List.set_cons_zero, List.length_map, List.length_cons, List.length_nil, List.drop_succ_cons, List.drop_zero, List.take_succ_cons, List.take_zero, List.cons_append, List.nil_append, List.append_assoc, Nat.reduceLeDiff, Nat.zero_add, Bool.false_eq_true, if_false, and_self, ty_int, und_int', ty_s_s_int, und_s_int, und_u16, hkc, htm, hz, hw1, app_get1, app_set1, List.getElem?_cons_zero, List.set_cons_zero, List.getElem?_cons_succ, List.set_cons_succ, List.length_append, List.length_cons, List.length_nil]
          with_reducible refine hR _ ?_
          clear hR R
          show X _ _ _ _
          refine X_seq ?_
          refine X_seq ?_
          have hW := o_ast_Walk t (by omega)
          refine X_rg fun R hR => ?_
          simp only [EVP, aops, astep, awant, aeff, aop, mkD, ev, St.put, pcall, List.map_cons, List.map_nil, List.getElem?_cons_succ, List.getElem?_cons_zero, Option.getD_some, Option.map_some, if_true, List.set_cons_succ, List.set_cons_zero, List.length_cons, List.length_nil, List.drop_zero, List.take_succ_cons, List.take_zero, List.cons_append, List.nil_append, Nat.reduceAdd, Nat.reduceLeDiff, Nat.zero_add, ty_api_Node, any24, dN_agg, hW, List.getElem?_cons_zero, List.set_cons_zero, List.getElem?_cons_succ, List.set_cons_succ, List.length_cons, List.length_nil]
          with_reducible refine hR _ ?_
          clear hR R
          show X _ _ _ _
          refine X_block ?_
          refine X_range (L := walkD t) (by simp only [ev, List.getElem?_cons_succ, List.getElem?_cons_zero, Option.getD_some]) ?_
          refine XR_inv (fun L σ => ∃ (fr : List D) (r : List (List D)) (W : List (List Int × Tr)) (k : Nat), σ = ⟨fr, [.int .u8 t.kind, .int .i64 t.num, .str t.name, .slice .imm (if (t.kids.map dN).isEmpty = true then 0 else 4) (t.kids.map dN)] :: [.bool false] :: [.slice .imm (if ((pathsL t).map slJ).isEmpty = true then 0 else 1) ((pathsL t).map slJ)] :: [.slice o n ((pathsL t).map slJ)] :: (r0 ++ [.int .i64 (k : Int)] :: [.int .i64 (most : Int)] :: r), nx, lv⟩ ∧ L = W.map (fun x : List Int × Tr => [sl 1 (x.1.map dI), dN x.2]) ∧ k + W.length = t.size ∧ k < most) ?_ ?_ _ _ ?_
          rotate_right
          · refine ⟨_, [], walkL [] t, 0, rfl, rfl, by rw [walkL_len]; omega, hm0⟩
          · rintro σ ⟨fr, r, W, k, rfl, hL, hk, hkm⟩
            have hW0 : W = [] := by cases W with | nil => rfl | cons a b => cases hL
            subst hW0
            have hkk2 : ((k : Int) == (most : Int)) = true := by exfalso; simp only [List.length_nil] at hk; omega
            show X _ _ _ _
            refine X_seq ?_
            refine X_rg fun R hR => ?_
            simp only [EVP, app_get0, app_get1, aops, astep, awant, aeff, aop, abin, aint, mkD, astore, ev, St.put, gd_bool, cl_bool, ia_int, List.getElem?_cons_succ, List.getElem?_cons_zero, Option.getD_some, Option.map_some, if_true, List.set_cons_succ, List.set_cons_zero, List.length_cons, List.length_nil, List.drop_succ_cons, List.drop_zero, List.take_succ_cons, List.take_zero, List.cons_append, List.nil_append, Nat.reduceLeDiff, Nat.zero_add, Bool.false_eq_true, if_false, and_self, ty_int, ty_bool, hkk2, app_get0, app_get1, List.getElem?_cons_zero, List.set_cons_zero, List.getElem?_cons_succ, List.set_cons_succ, List.length_cons, List.length_nil]
            with_reducible refine hR _ ?_
            clear hR R
            show X _ _ _ _
            refine X_ret ?_
            show resD _ _ _ = some _
            simp only [resD, resAll, resOne, resTup, Try.results4, EVP, mkD, ty_bool, List.getElem?_cons_succ, List.getElem?_cons_zero, List.drop_zero, List.take_succ_cons, List.take_zero, List.length_cons, List.length_nil, Nat.reduceLeDiff, Nat.zero_add, if_true, Bool.false_eq_true, if_false, D.isAgg, Option.map_some] <;> (first | (rfl; done) | (simp_all; done) | (exfalso; simp_all; done))
          · rintro row L σ ⟨fr, r, W, k, rfl, hL, hk, hkm⟩
            obtain ⟨x, W2, rfl⟩ : ∃ x W2, W = x :: W2 := by cases W with | nil => cases hL | cons a b => exact ⟨a, b, rfl⟩
            simp only [List.map_cons, List.cons.injEq] at hL
            obtain ⟨rfl, rfl⟩ := hL
            have hbigk : k < 9223372036854775807 := by omega
            have hkk : (((k + 1 : Nat) : Int) == (most : Int)) = decide (k + 1 = most) := by rw [Bool.eq_iff_iff, beq_iff_eq, decide_eq_true_eq]; omega
            refine ⟨by simp only [List.length_cons, List.length_nil], ?_⟩
            simp only [setPs, List.set_cons_succ, List.set_cons_zero]
            refine X_skip ?_
            refine ⟨rfl, ?_⟩
            refine X_block ?_
            refine X_seq ?_
            refine X_rg fun R hR => ?_
            simp only [EVP, inr_i64, Int.reduceLE, Int.reduceNeg, app_get0, app_set0, aops, astep, awant, aeff, aop, abin, aint, mkD, astore, ev, ofValue, St.put, gd_int, ia_int, cl_int, List.getElem?_cons_succ, List.getElem?_cons_zero, Option.getD_some, Option.map_some, if_true, List.set_cons_succ, List.set_cons_zero, List.length_cons, List.length_nil, List.drop_succ_cons, List.drop_zero, List.take_succ_cons, List.take_zero, List.cons_append, List.nil_append, Nat.reduceLeDiff, Nat.zero_add, Bool.false_eq_true, if_false, and_self, ty_int, sl, nat_succ hbigk, app_get0, app_set0, List.getElem?_cons_zero, List.set_cons_zero, List.getElem?_cons_succ, List.set_cons_succ, List.length_cons, List.length_nil]
            with_reducible refine hR _ ?_
            clear hR R
            show X _ _ _ _
            refine X_seq ?_
            refine X_rg fun R hR => ?_
            simp only [EVP, app_get0, app_get1, aops, astep, awant, aeff, aop, abin, aint, mkD, ev, St.put, ia_int, List.getElem?_cons_succ, List.getElem?_cons_zero, Option.getD_some, Option.map_some, if_true, List.set_cons_succ, List.set_cons_zero, List.length_cons, List.length_nil, List.drop_zero, List.take_succ_cons, List.take_zero, Nat.reduceLeDiff, Nat.zero_add, Bool.false_eq_true, if_false, ty_int, hkk, app_get0, app_get1, List.getElem?_cons_zero, List.set_cons_zero, List.getElem?_cons_succ, List.set_cons_succ, List.length_cons, List.length_nil]
            with_reducible refine hR _ ?_
            clear hR R
            show X _ _ _ _
            refine X_ite (by simp only [ev, List.getElem?_cons_succ, List.getElem?_cons_zero, Option.getD_some]; exact rfl) ?_ ?_
            · intro b7
              have c7 := b7
              try simp only [decide_eq_true_eq] at c7
              refine X_exit ?_
              show X _ _ _ _
              refine X_seq ?_
              have hke : k + 1 = most := by first | assumption | (simp_all; done)
              have hkk2 : (((k + 1 : Nat) : Int) == (most : Int)) = true := by rw [hke]; simp
              refine X_rg fun R hR => ?_
              simp only [EVP, app_get0, app_get1, aops, astep, awant, aeff, aop, abin, aint, mkD, astore, ev, St.put, gd_bool, cl_bool, ia_int, List.getElem?_cons_succ, List.getElem?_cons_zero, Option.getD_some, Option.map_some, if_true, List.set_cons_succ, List.set_cons_zero, List.length_cons, List.length_nil, List.drop_succ_cons, List.drop_zero, List.take_succ_cons, List.take_zero, List.cons_append, List.nil_append, Nat.reduceLeDiff, Nat.zero_add, Bool.false_eq_true, if_false, and_self, ty_int, ty_bool, hkk2, app_get0, app_get1, List.getElem?_cons_zero, List.set_cons_zero, List.getElem?_cons_succ, List.set_cons_succ, List.length_cons, List.length_nil]
              with_reducible refine hR _ ?_
              clear hR R
              show X _ _ _ _
              refine X_ret ?_
              show resD _ _ _ = some _
              simp only [resD, resAll, resOne, resTup, Try.results4, EVP, mkD, ty_bool, List.getElem?_cons_succ, List.getElem?_cons_zero, List.drop_zero, List.take_succ_cons, List.take_zero, List.length_cons, List.length_nil, Nat.reduceLeDiff, Nat.zero_add, if_true, Bool.false_eq_true, if_false, D.isAgg, Option.map_some] <;> (first | (rfl; done) | (simp_all; done) | (exfalso; simp_all; done))
            · intro b8
              have c8 := b8
              try simp only [decide_eq_false_iff_not] at c8
              refine X_skip ?_
              skip
              have hne : ¬ k + 1 = most := by first | assumption | (simp_all; done)
              exact ⟨_, _, W2, k + 1, rfl, rfl, by simp only [List.length_cons] at hk; omega, by omega⟩
      · rintro row L σ ⟨fr, r, W, o, n, K, nx, lv, rfl, hL, ha, hK, hAt⟩
        obtain ⟨x, W2, rfl⟩ : ∃ x W2, W = x :: W2 := by cases W with | nil => cases hL | cons a b => exact ⟨a, b, rfl⟩
        simp only [List.map_cons, List.cons.injEq] at hL
        obtain ⟨rfl, rfl⟩ := hL
        have hlt : K.length < (pathsL t).length := by rw [← hK.out]; simp
        have hge : ((K.length : Int) ≥ ((pathsL t).length : Int)) = False := eq_false (by omega)
        have hgeq : (pathsL t)[K.length]? = some x.1 := by rw [← hK.out, List.getElem?_append_right (Nat.le_refl _), Nat.sub_self]; rfl
        have e1 : ((pathsL t).map slJ)[K.length]? = some (.slice .imm (if (x.1.map dI).isEmpty = true then 0 else 1) (x.1.map dI)) := by rw [List.getElem?_map, hgeq]; rfl
        have hn1 : ((if ((pathsL t).map slJ).isEmpty = true then 0 else 1) = 1) = True := eq_true (sl_n (j := K.length) (by rw [List.length_map]; exact hlt))
        have hpl : x.1.length ≤ t.size := pathsL_plen _ (List.mem_of_getElem? hgeq)
        have hat := rat_fn x.1 t (by omega)
        rw [hAt.out x (by simp)] at hat
        simp only [sl] at hat
        have heq := o_backstepref03_Equal x.2 x.2
        rw [eqB_refl] at heq
        refine ⟨by simp only [List.length_cons, List.length_nil], ?_⟩
        simp only [setPs, List.set_cons_succ, List.set_cons_zero]
        refine X_seq ?_
        refine X_rg fun R hR => ?_
        simp only [aops, astep, awant, aeff, aop, ev, St.put, List.getElem?_cons_succ, List.getElem?_cons_zero, Option.getD_some, Option.map_some, if_true, List.set_cons_succ, List.set_cons_zero, sl]
        with_reducible refine hR _ ?_
        clear hR R
        show X _ _ _ _
        refine X_rg fun R hR => ?_
        simp only [EVP, app_get0, app_set0, aops, astep, awant, aeff, astore, ev, St.put, List.getElem?_cons_succ, List.getElem?_cons_zero, Option.getD_some, Option.map_some, Option.bind_some, if_true, List.set_cons_succ, List.set_cons_zero, List.length_cons, List.length_nil, List.drop_succ_cons, List.drop_zero, List.take_zero, List.cons_append, List.nil_append, Nat.reduceAdd, Nat.reduceLeDiff, Nat.zero_add, and_self, ty_api_Node, dN_cells, dN_good, sl]
        with_reducible refine hR _ ?_
        clear hR R
        refine ⟨rfl, ?_⟩
        refine X_block ?_
        refine X_seq ?_
        refine X_seq ?_
        refine X_rg fun R hR => ?_
        simp only [EVP, aops, astep, awant, aeff, aop, abin, aint, mkD, ev, St.put, ia_slice, List.getElem?_cons_succ, List.getElem?_cons_zero, Option.getD_some, Option.map_some, if_true, List.set_cons_succ, List.set_cons_zero, List.length_map, List.length_cons, List.length_nil, List.drop_zero, List.take_succ_cons, List.take_zero, Nat.reduceLeDiff, Nat.zero_add, Bool.false_eq_true, if_false, decide_false, ty_s_s_int, und_s_int, hge]
        with_reducible refine hR _ ?_
        clear hR R
        show X _ _ _ _
        refine X_false (by simp only [ev, List.getElem?_cons_succ, List.getElem?_cons_zero, Option.getD_some]) ?_
        refine X_skip ?_
        show X _ _ _ _
        refine X_seq ?_
        refine X_rg fun R hR => ?_
        simp only [EVP, app_get1, app_set1, nat_lt, nat_0, nat_to, aops, astep, awant, aeff, aop, mkD, astore, ev, St.put, pcall, ia_slice, cl_slice, List.map_cons, List.map_nil, List.getElem?_cons_succ, List.getElem?_cons_zero, Option.getD_some, Option.map_some, Option.bind_some, if_true, List.set_cons_succ, List.set_cons_zero, List.length_map, List.length_cons, List.length_nil, List.drop_succ_cons, List.drop_zero, List.take_succ_cons, List.take_zero, List.cons_append, List.nil_append, List.append_assoc, Nat.reduceAdd, Nat.reduceLeDiff, Nat.zero_add, Bool.false_eq_true, if_false, and_self, Option.isSome_some, ty_s_int, ty_api_Node, ty_s_s_int, und_s_int, siz_s_int, inf_s_int_eq, any25, dN_agg, dN_cells, dN_good, sl, hlt, e1, hn1, hat, app_get1, app_set1, List.getElem?_cons_zero, List.set_cons_zero, List.getElem?_cons_succ, List.set_cons_succ, List.length_append, List.length_cons, List.length_nil]
        with_reducible refine hR _ ?_
        clear hR R
        show X _ _ _ _
        refine X_seq ?_
        refine X_seq ?_
        refine X_rg fun R hR => ?_
        simp only [EVP, app_get0, app_get1, aops, astep, awant, aeff, aop, mkD, ev, ofValue, St.put, pcall, List.map_cons, List.map_nil, List.getElem?_cons_succ, List.getElem?_cons_zero, Option.getD_some, Option.map_some, Option.bind_some, if_true, List.set_cons_succ, List.set_cons_zero, List.length_cons, List.length_nil, List.drop_zero, List.take_succ_cons, List.take_zero, List.cons_append, List.nil_append, Nat.reduceAdd, Nat.reduceLeDiff, Nat.zero_add, Bool.not_true, Bool.false_eq_true, if_false, beq_self_eq_true, ty_api_Node, any26, dN_agg, heq, app_get0, app_get1, List.getElem?_cons_zero, List.set_cons_zero, List.getElem?_cons_succ, List.set_cons_succ, List.length_cons, List.length_nil]
        with_reducible refine hR _ ?_
        clear hR R
        show X _ _ _ _
        refine X_false (by simp only [ev, List.getElem?_cons_succ, List.getElem?_cons_zero, Option.getD_some]) ?_
        refine X_skip ?_
        show X _ _ _ _
        obtain ⟨lv4, hacc, hap4⟩ := ha.out.app1 (P := Try.prog) (t := 28) und_s_int inf_s_int_eq inf_s_int_size (by omega) (by rw [inf_s_int_bytes]; omega) inf_s_int_zc (slJ x.1) (by rw [List.length_map]; omega)
        have hrow : D.slice .imm (if (x.1.map dI).isEmpty = true then 0 else 1) (x.1.map dI) = slJ x.1 := rfl
        refine X_rg fun R hR => ?_
        simp only [EVP, aops, astep, awant, aeff, aop, mkD, abuild, astore, ev, ofValue, St.put, gd_slice, ia_slice, cl_slice, List.map_cons, List.map_nil, List.getElem?_cons_succ, List.getElem?_cons_zero, Option.getD_some, Option.map_some, if_true, List.set_cons_succ, List.set_cons_zero, List.length_cons, List.length_nil, List.drop_succ_cons, List.drop_zero, List.take_succ_cons, List.take_zero, List.cons_append, List.nil_append, Nat.reduceLeDiff, Nat.reduceLT, Nat.zero_add, Bool.and_true, Bool.false_eq_true, if_false, and_self, List.all_cons, List.all_nil, beq_self_eq_true, Nat.reduceMul, rng_1, ty_s_s_int, und_s_int, inf_s_int_eq, inf_s_int_size, inf_s_int_zero, slJ_good, slJ_cells, hrow, hap4, List.getElem?_cons_zero, List.set_cons_zero, List.getElem?_cons_succ, List.set_cons_succ, List.length_cons, List.length_nil]
        with_reducible refine hR _ ?_
        clear hR R
        skip
        exact ⟨_, _, W2, _, _, K ++ [x.1], _, _, by rw [List.map_append]; rfl, rfl, Lib.hid (by rw [List.map_append]; exact hacc), Lib.hid (by have h9 := hK.out; rw [List.map_cons] at h9; rw [List.append_assoc]; exact h9), Lib.hid (fun y hy => hAt.out y (List.mem_cons_of_mem _ hy))⟩

end Go.Proofs.Ytkngdmilgfgclaa
