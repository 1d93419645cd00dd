/- The law LayoutDisjoint: its walk. -/
import Derived.Test.YthgdibdapjaljaaLd2
namespace Go.Proofs.Ythgdibdapjaljaa
open Go.RowKit

theorem law_pc {P : Program} {k : Nat} {ds : List D} (h : PContract P k ds (.bool true)) {W : World} {vs : List Value} (hv : vals W (gW W) ds vs) : Calls P k vs.toArray W fun e w' => e = .returned (.bool true) ∧ Below W.heap.size W w' := by
 refine (h (gW W) vs W ⟨fun b o q => q, fun b q => q, fun _ _ q => q.elim⟩ hv).mono ?_
 rintro e w' ⟨v, g', rfl, hb, _, hd⟩
 rw [val_bool hd]
 exact ⟨rfl, hb⟩
set_option maxRecDepth 100000 in
set_option maxHeartbeats 4000000 in
theorem law9_pc (l : List Vd) (t : Tr) (hs : t.size ≤ 900000) : PContract Try.prog 9 [sl 3 (l.map dV), dN t] (.bool true) := by
 refine S_pure (f := _) Try.func9 rfl (by simp only [List.all_cons, List.all_nil, sl_pl (f := dV) (fun _ _ => rfl), dN_pl, Bool.and_true]) (by simp only [zmc, zmn, sl_strip (map_strip (f := dV) (fun _ => rfl) _), dN_strip]) ?_
 simp only [enterSt, Try.ntmps9, zlc, zln, Nat.reduceAdd, Nat.reduceSub, zr1, zr0, zca, zna]
 refine S_seq ?_
 refine S_of_X EV_ok (by kernel_rfl) ?_
 refine X_rg fun R hR => ?_
 simp only [aops, astep, awant, aeff, aop, ev, ofValue, St.put, zg1, zg0, zgd, zmo, if_true, zs1, zs0, zln, zna, dN_cells, dN_good, sl]
 with_reducible refine hR _ ?_
 clear hR R
 show S _ _ _ _ _
 refine S_seq ?_
 refine S_seq ?_
 refine S_of_X EV_ok (by kernel_rfl) ?_
 refine X_rg fun R hR => ?_
 simp only [EVP, aops, astep, awant, aeff, aop, ev, St.put, pcall, zmn, zg1, zg0, zgd, zmo, if_true, zs1, zs0, zna, Bool.not_true, any10, awake_ok]
 with_reducible refine hR _ ?_
 clear hR R
 show S _ _ _ _ _
 refine S_ite (by simp only [ev, zg1, zg0, zgd]; exact rfl) ?_ ?_
 ·intro b1
  have c1 := b1
  try simp only [znt, znf, decide_eq_true_eq, decide_eq_false_iff_not, beq_iff_eq, Int.not_lt, Int.not_le, ge_iff_le, gt_iff_lt, bne_iff_ne, ne_eq, bne_eq_false_iff_eq, beq_eq_false_iff_ne, zat, zof] at c1
  refine S_seq ?_
  refine S_of_X EV_ok (by kernel_rfl) ?_
  refine X_rg fun R hR => ?_
  simp only [aops, astep, awant, aeff, aop, ev, ofValue, St.put, zgd, zmo, if_true, zs1, zs0, b1]
  with_reducible refine hR _ ?_
  clear hR R
  show S _ _ _ _ _
  refine S_ret ?_
  refine ⟨.inr rfl, .bool true, ?_, rfl, rfl⟩
  simp only [resD, resAll, resOne, resTup, Try.results9, zg1, zg0, D.good, if_true, zmo] <;> (first | (rfl; done) | (simp_all; done) | (exfalso; simp_all; done))
 ·intro b2
  have c2 := b2
  try simp only [] at c2
  refine S_skip ?_
  show S _ _ _ _ _
  refine S_seq ?_
  refine S_seq ?_
  have hsm := small_fn l t (by omega)
  simp only [sl] at hsm
  refine S_of_X EV_ok (by kernel_rfl) ?_
  refine X_rg fun R hR => ?_
  simp only [EVP, inr_i64, Int.reduceLE, Int.reduceNeg, aops, astep, awant, aeff, aop, abin, aint, mkD, ev, ofValue, St.put, pcall, zmc, zmn, zg1, zg0, zgd, zmo, if_true, zs1, zs0, zlc, zln, zd0, zt1, zt0, zca, zna, Nat.reduceAdd, Nat.reduceLeDiff, Nat.zero_add, and_self, ty_api_Node, any18, dN_agg, hsm, one_eq2]
  with_reducible refine hR _ ?_
  clear hR R
  show S _ _ _ _ _
  refine S_ite (by simp only [ev, zg1, zg0, zgd]; exact rfl) ?_ ?_
  ·intro b3
   have c3 := b3
   try simp only [znt] at c3
   refine S_seq ?_
   refine S_of_X EV_ok (by kernel_rfl) ?_
   refine X_rg fun R hR => ?_
   simp only [aops, astep, awant, aeff, aop, ev, ofValue, St.put, zgd, zmo, if_true, zs1, zs0, b3]
   with_reducible refine hR _ ?_
   clear hR R
   show S _ _ _ _ _
   refine S_ret ?_
   refine ⟨.inr rfl, .bool true, ?_, rfl, rfl⟩
   simp only [resD, resAll, resOne, resTup, Try.results9, zg1, zg0, D.good, if_true, zmo] <;> (first | (rfl; done) | (simp_all; done) | (exfalso; simp_all; done))
  ·intro b4
   have c4 := b4
   try simp only [znf] at c4
   refine S_skip ?_
   show S _ _ _ _ _
   refine S_seq ?_
   have hO := of_fn l t hs
   simp only [dFm, sl] at hO
   refine S_of_X EV_ok (by kernel_rfl) ?_
   refine X_rg fun R hR => ?_
   simp only [EVP, aops, astep, awant, aeff, aop, mkD, astore, ev, St.put, pcall, gd_agg, cl_agg, zmc, zmn, zg1, zg0, zgd, zmo, zbs, if_true, zs1, zs0, zlc, zln, zd1, zd0, zt1, zt0, zca, zna, Nat.reduceAdd, Nat.reduceLeDiff, Nat.zero_add, and_self, ty_api_Node, ty_layout_Frame, any14, dN_agg, b4, hO]
   with_reducible refine hR _ ?_
   clear hR R
   show S _ _ _ _ _
   refine S_seq ?_
   refine S_seq ?_
   refine S_of_X EV_ok (by kernel_rfl) ?_
   refine X_rg fun R hR => ?_
   simp only [inr_i64, Int.reduceLE, Int.reduceNeg, aops, astep, awant, aeff, aop, abin, aint, ev, ofValue, St.put, zg1, zg0, zgd, zmo, if_true, zs1, zs0, and_self]
   with_reducible refine hR _ ?_
   clear hR R
   show S _ _ _ _ _
   refine S_ite (by simp only [ev, zg1, zg0, zgd]; exact rfl) ?_ ?_
   ·intro b5
    have c5 := b5
    try simp only [bne_iff_ne, ne_eq] at c5
    refine S_seq ?_
    have hne : (ofF l t).2 ≠ 0 := by first | assumption | (simp_all; done)
    have hz : (ofF l t).1 = zF := (ofF_cases l t).elim (fun ⟨q, _⟩ => absurd q hne) (fun ⟨_, q⟩ => q)
    simp only [hz, zF, zmn, List.isEmpty_nil]
    have z0 : (((0 : Nat) : Int) == 0) = true := rfl
    refine S_of_X EV_ok (by kernel_rfl) ?_
    refine X_rg fun R hR => ?_
    simp only [EVP, inr_i64, Int.reduceLE, Int.reduceNeg, aops, astep, awant, aeff, aop, abin, aint, mkD, ev, ofValue, St.put, ia_int, ia_slice, zg1, zg0, zgd, zmo, zbs, if_true, zs1, zs0, zlc, zln, zd1, zd0, zt1, zt0, Nat.reduceAdd, Nat.reduceLeDiff, Nat.zero_add, Nat.add_zero, zft, if_false, and_self, reduceCtorEq, beq_self_eq_true, ty_int, ty_s_layout_Slot, ty_layout_Frame, und_layout_Slot, b5, z0]
    with_reducible refine hR _ ?_
    clear hR R
    show S _ _ _ _ _
    refine S_ret ?_
    refine ⟨.inr rfl, .bool true, ?_, rfl, rfl⟩
    simp only [resD, resAll, resOne, resTup, Try.results9, zg1, zg0, D.good, if_true, zmo] <;> (first | (rfl; done) | (simp_all; done) | (exfalso; simp_all; done))
   ·intro b6
    have c6 := b6
    try simp only [bne_eq_false_iff_eq] at c6
    refine S_skip ?_
    show S _ _ _ _ _
    refine S_seq ?_
    have hJ := jf_of l t
    have hb := hJ.bd
    have hln := ofF_len l t
    refine S_of_X EV_ok (by kernel_rfl) ?_
    refine X_rg fun R hR => ?_
    simp only [inr_i64, Int.reduceLE, Int.reduceNeg, aops, astep, awant, aeff, aop, ev, ofValue, St.put, zgd, zmo, if_true, zs1, zs0, and_self, b6]
    with_reducible refine hR _ ?_
    clear hR R
    show S _ _ _ _ _
    refine S_seq ?_
    refine S_seq ?_
    refine S_of_X EV_ok (by kernel_rfl) ?_
    refine X_rg fun R hR => ?_
    simp only [inr_i64, Int.reduceLE, Int.reduceNeg, aops, astep, awant, aeff, aop, ev, ofValue, St.put, zgd, zmo, if_true, zs1, zs0, and_self]
    with_reducible refine hR _ ?_
    clear hR R
    show S _ _ _ _ _
    refine S_block ?_
    refine S_loop (fun m σ => ∃ (i : Nat), σ = ⟨[slotOf σ 0, slotOf σ 1, slotOf σ 2, slotOf σ 3, slotOf σ 4, .ptr 1 0, slotOf σ 6, .int .i64 (cSum ((ofF l t).1.slots.take i)), .int .i64 (sSum ((ofF l t).1.slots.take i)), .int .i64 i, slotOf σ 10, slotOf σ 11, slotOf σ 12, slotOf σ 13, slotOf σ 14, slotOf σ 15, slotOf σ 16, slotOf σ 17, slotOf σ 18, slotOf σ 19, slotOf σ 20, slotOf σ 21, slotOf σ 22, slotOf σ 23, slotOf σ 24, slotOf σ 25, slotOf σ 26, slotOf σ 27, slotOf σ 28, slotOf σ 29, slotOf σ 30, slotOf σ 31, slotOf σ 32, slotOf σ 33, slotOf σ 34, slotOf σ 35, slotOf σ 36, slotOf σ 37, slotOf σ 38, slotOf σ 39, slotOf σ 40, slotOf σ 41, slotOf σ 42, slotOf σ 43, slotOf σ 44, slotOf σ 45, slotOf σ 46, slotOf σ 47, slotOf σ 48, slotOf σ 49, slotOf σ 50, slotOf σ 51, slotOf σ 52, slotOf σ 53, slotOf σ 54, slotOf σ 55, slotOf σ 56, slotOf σ 57, slotOf σ 58, slotOf σ 59, slotOf σ 60, slotOf σ 61, slotOf σ 62, slotOf σ 63, slotOf σ 64, slotOf σ 65, slotOf σ 66, slotOf σ 67, slotOf σ 68, slotOf σ 69, slotOf σ 70, slotOf σ 71, slotOf σ 72, slotOf σ 73, slotOf σ 74, slotOf σ 75, slotOf σ 76, slotOf σ 77, slotOf σ 78, slotOf σ 79, slotOf σ 80, slotOf σ 81, slotOf σ 82], [[.int .u8 t.kind, .int .i64 t.num, .str t.name, .slice .imm (if (t.kids.map dN).isEmpty = true then 0 else 4) (t.kids.map dN)], [.slice .imm (if ((ofF l t).1.slots.map dSl).isEmpty = true then 0 else 4) ((ofF l t).1.slots.map dSl), .int .i64 (ofF l t).1.cells, .int .i64 (ofF l t).1.stacks]], 0, []⟩ ∧ m = (ofF l t).1.slots.length - i ∧ i ≤ (ofF l t).1.slots.length) ?_ ((ofF l t).1.slots.length) ?_
    rotate_left
    ·exact ⟨0, rfl, rfl, Nat.zero_le _⟩
    rintro m σ ⟨i, hσ, rfl, hi⟩
    generalize slotOf σ = x at hσ
    subst hσ
    refine S_seq ?_
    refine S_seq ?_
    refine S_of_X EV_ok (by kernel_rfl) ?_
    refine X_rg fun R hR => ?_
    simp only [EVP, nat_lt, aops, astep, awant, aeff, aop, abin, aint, mkD, ev, St.put, ia_slice, zg1, zg0, zgd, zmo, if_true, zs1, zs0, zlm, zlc, zln, zd0, zt1, zt0, Nat.reduceAdd, Nat.reduceLeDiff, Nat.zero_add, Nat.add_zero, zft, if_false, reduceCtorEq, ty_s_layout_Slot, ty_layout_Frame, und_layout_Slot]
    with_reducible refine hR _ ?_
    clear hR R
    show S _ _ _ _ _
    refine S_ite (by simp only [ev, zg1, zg0, zgd]; exact rfl) ?_ ?_
    ·intro b7
     have c7 := b7
     try simp only [decide_eq_true_eq] at c7
     refine S_skip ?_
     show S _ _ _ _ _
     refine S_seq ?_
     refine S_block ?_
     refine S_seq ?_
     have hlt : i < (ofF l t).1.slots.length := by first | assumption | omega
     have hn4 : ((if ((ofF l t).1.slots.map dSl).isEmpty = true then 0 else 4) = 4) = True := eq_true (sl_n (j := i) (by simpa using hlt))
     have e4 : ((ofF l t).1.slots.map dSl)[i]? = some (.agg [.str (ofF l t).1.slots[i].name, .int .u8 (ofF l t).1.slots[i].kind, .int .i64 (ofF l t).1.slots[i].len, .int .i64 (ofF l t).1.slots[i].off]) := by rw [List.getElem?_map, List.getElem?_eq_getElem hlt]; rfl
     have hbc := cSum_bd (l := (ofF l t).1.slots.take i) (fun x hx => hJ.k x (List.mem_of_mem_take hx))
     have hbs := sSum_bd ((ofF l t).1.slots.take i)
     rw [List.length_take] at hbc hbs
     have hki := hJ.k _ (List.getElem_mem hlt)
     refine S_of_X EV_ok (by kernel_rfl) ?_
     refine X_rg fun R hR => ?_
     simp only [EVP, nat_lt, nat_0, nat_to, aops, astep, awant, aeff, aop, mkD, ev, St.put, ia_int, cl_int, ia_slice, zg1, zg0, zgd, zmo, if_true, zs1, zs0, zlm, zlc, zln, zd1, zd0, zt1, zt0, Nat.reduceAdd, Nat.reduceLeDiff, Nat.zero_add, Nat.add_zero, zft, if_false, and_self, reduceCtorEq, decide_true, zis, ty_uint8, ty_layout_Slot, ty_s_layout_Slot, ty_layout_Frame, und_layout_Slot, siz_layout_Slot, inf_layout_Slot_eq, hlt, hn4, e4]
     with_reducible refine hR _ ?_
     clear hR R
     show S _ _ _ _ _
     refine S_block ?_
     refine S_seq ?_
     refine S_of_X EV_ok (by kernel_rfl) ?_
     refine X_rg fun R hR => ?_
     simp only [inr_u8, Int.reduceLE, aops, astep, awant, aeff, aop, abin, aint, ev, ofValue, St.put, zg1, zg0, zgd, zmo, if_true, zs1, zs0, and_self]
     with_reducible refine hR _ ?_
     clear hR R
     show S _ _ _ _ _
     refine S_ite (by simp only [ev, zg1, zg0, zgd]; exact rfl) ?_ ?_
     ·intro b8
      have c8 := b8
      try simp only [beq_iff_eq] at c8
      have w1 : IntKind.i64.wrap (cSum ((ofF l t).1.slots.take i) + 1) = cSum ((ofF l t).1.slots.take i) + 1 := wrap_i (by omega) (by omega)
      refine S_of_X EV_ok (by kernel_rfl) ?_
      refine X_rg fun R hR => ?_
      simp only [inr_i64, Int.reduceLE, Int.reduceNeg, aops, astep, awant, aeff, aop, abin, aint, ev, ofValue, St.put, zg1, zg0, zgd, zmo, if_true, zs1, zs0, and_self, b8, w1]
      with_reducible refine hR _ ?_
      clear hR R
      show S _ _ _ _ _
      have hbig : i < 9223372036854775807 := by omega
      refine S_of_X EV_ok (by kernel_rfl) ?_
      refine X_rg fun R hR => ?_
      simp only [inr_i64, Int.reduceLE, Int.reduceNeg, aops, astep, awant, aeff, aop, abin, aint, ev, ofValue, St.put, zg1, zg0, zgd, zmo, if_true, zs1, zs0, and_self, nat_succ hbig]
      with_reducible refine hR _ ?_
      clear hR R
      show ∃ m, m < _ ∧ _
      have hk : (ofF l t).1.slots[i].kind = 1 := by first | assumption | (simp_all; done)
      have hc1 : cSum ((ofF l t).1.slots.take (i + 1)) = cSum ((ofF l t).1.slots.take i) + 1 := by rw [cSum_step hlt, hk]; simp
      have hs1 : sSum ((ofF l t).1.slots.take (i + 1)) = sSum ((ofF l t).1.slots.take i) := by rw [sSum_step hlt, hk]; simp
      exact ⟨(ofF l t).1.slots.length - (i + 1), by omega, i + 1, by rw [hc1, hs1]; rfl, rfl, by omega⟩
     ·intro b9
      have c9 := b9
      try simp only [ne_eq, beq_eq_false_iff_ne] at c9
      refine S_seq ?_
      refine S_of_X EV_ok (by kernel_rfl) ?_
      refine X_rg fun R hR => ?_
      simp only [inr_u8, Int.reduceLE, aops, astep, awant, aeff, aop, abin, aint, ev, ofValue, St.put, zg1, zg0, zgd, zmo, if_true, zs1, zs0, and_self, b9]
      with_reducible refine hR _ ?_
      clear hR R
      show S _ _ _ _ _
      refine S_ite (by simp only [ev, zg1, zg0, zgd]; exact rfl) ?_ ?_
      ·intro b10
       have c10 := b10
       try simp only [beq_iff_eq] at c10
       have w2 : IntKind.i64.wrap (cSum ((ofF l t).1.slots.take i) + (ofF l t).1.slots[i].len) = cSum ((ofF l t).1.slots.take i) + (ofF l t).1.slots[i].len := wrap_i (by omega) (by omega)
       refine S_of_X EV_ok (by kernel_rfl) ?_
       refine X_rg fun R hR => ?_
       simp only [EVP, nat_lt, nat_0, nat_to, aops, astep, awant, aeff, aop, abin, aint, mkD, ev, St.put, ia_int, cl_int, ia_slice, zg1, zg0, zgd, zmo, if_true, zs1, zs0, zlm, zlc, zln, zd1, zd0, zt1, zt0, Nat.reduceAdd, Nat.reduceLeDiff, Nat.zero_add, Nat.add_zero, zft, if_false, and_self, reduceCtorEq, zis, ty_int, ty_layout_Slot, ty_s_layout_Slot, ty_layout_Frame, und_layout_Slot, siz_layout_Slot, inf_layout_Slot_eq, b10, w2, hlt, hn4, e4]
       with_reducible refine hR _ ?_
       clear hR R
       show S _ _ _ _ _
       have hbig : i < 9223372036854775807 := by omega
       refine S_of_X EV_ok (by kernel_rfl) ?_
       refine X_rg fun R hR => ?_
       simp only [inr_i64, Int.reduceLE, Int.reduceNeg, aops, astep, awant, aeff, aop, abin, aint, ev, ofValue, St.put, zg1, zg0, zgd, zmo, if_true, zs1, zs0, and_self, nat_succ hbig]
       with_reducible refine hR _ ?_
       clear hR R
       show ∃ m, m < _ ∧ _
       have hk : (ofF l t).1.slots[i].kind = 2 := by first | assumption | (simp_all; done)
       have hc1 : cSum ((ofF l t).1.slots.take (i + 1)) = cSum ((ofF l t).1.slots.take i) + (ofF l t).1.slots[i].len := by rw [cSum_step hlt, hk]; simp
       have hs1 : sSum ((ofF l t).1.slots.take (i + 1)) = sSum ((ofF l t).1.slots.take i) := by rw [sSum_step hlt, hk]; simp
       exact ⟨(ofF l t).1.slots.length - (i + 1), by omega, i + 1, by rw [hc1, hs1]; rfl, rfl, by omega⟩
      ·intro b11
       have c11 := b11
       try simp only [ne_eq, beq_eq_false_iff_ne] at c11
       refine S_seq ?_
       refine S_of_X EV_ok (by kernel_rfl) ?_
       refine X_rg fun R hR => ?_
       simp only [inr_u8, Int.reduceLE, aops, astep, awant, aeff, aop, abin, aint, ev, ofValue, St.put, zg1, zg0, zgd, zmo, if_true, zs1, zs0, and_self, b11]
       with_reducible refine hR _ ?_
       clear hR R
       show S _ _ _ _ _
       refine S_ite (by simp only [ev, zg1, zg0, zgd]; exact rfl) ?_ ?_
       ·intro b12
        have c12 := b12
        try simp only [beq_iff_eq] at c12
        have w3 : IntKind.i64.wrap (sSum ((ofF l t).1.slots.take i) + 1) = sSum ((ofF l t).1.slots.take i) + 1 := wrap_i (by omega) (by omega)
        refine S_of_X EV_ok (by kernel_rfl) ?_
        refine X_rg fun R hR => ?_
        simp only [inr_i64, Int.reduceLE, Int.reduceNeg, aops, astep, awant, aeff, aop, abin, aint, ev, ofValue, St.put, zg1, zg0, zgd, zmo, if_true, zs1, zs0, and_self, b12, w3]
        with_reducible refine hR _ ?_
        clear hR R
        show S _ _ _ _ _
        have hbig : i < 9223372036854775807 := by omega
        refine S_of_X EV_ok (by kernel_rfl) ?_
        refine X_rg fun R hR => ?_
        simp only [inr_i64, Int.reduceLE, Int.reduceNeg, aops, astep, awant, aeff, aop, abin, aint, ev, ofValue, St.put, zg1, zg0, zgd, zmo, if_true, zs1, zs0, and_self, nat_succ hbig]
        with_reducible refine hR _ ?_
        clear hR R
        show ∃ m, m < _ ∧ _
        have hk : (ofF l t).1.slots[i].kind = 3 := by first | assumption | (simp_all; done)
        have hc1 : cSum ((ofF l t).1.slots.take (i + 1)) = cSum ((ofF l t).1.slots.take i) := by rw [cSum_step hlt, hk]; simp
        have hs1 : sSum ((ofF l t).1.slots.take (i + 1)) = sSum ((ofF l t).1.slots.take i) + 1 := by rw [sSum_step hlt, hk]; simp
        exact ⟨(ofF l t).1.slots.length - (i + 1), by omega, i + 1, by rw [hc1, hs1]; rfl, rfl, by omega⟩
       ·intro b13
        have c13 := b13
        try simp only [ne_eq, beq_eq_false_iff_ne] at c13
        exfalso
        rcases hki with h | h | h <;> simp_all
    ·intro b14
     have c14 := b14
     try simp only [decide_eq_false_iff_not] at c14
     refine S_exit ?_
     show S _ _ _ _ _
     refine S_seq ?_
     have hil : i = (ofF l t).1.slots.length := by first | omega | (simp_all; omega)
     subst hil
     rw [List.take_length] at *
     have hD := pcOne_eq 25 [dFm (ofF l t).1] (.bool true)
     simp only [dFm, sl] at hD
     have hcs := hJ.cs
     have hss := hJ.ss
     refine S_rg (CaOk.one (disj_pc (ofF l t).1 hJ (by omega))) (by kernel_rfl) fun R hR => ?_
     simp only [aops, astep, awant, aeff, aop, abin, aint, mkD, ev, ofValue, St.put, pcall, ia_int, zmc, zmn, zg1, zg0, zgd, zmo, zbs, if_true, zs1, zs0, zlc, zln, zd1, zd0, zt1, zt0, zca, zna, Nat.reduceAdd, Nat.reduceLeDiff, Nat.zero_add, zft, if_false, reduceCtorEq, beq_self_eq_true, ty_int, ty_layout_Frame, any25, sl, dFm, b14, hD, hcs, hss]
     with_reducible refine hR _ ?_
     clear hR R
     show S _ _ _ _ _
     refine S_ret ?_
     refine ⟨.inr rfl, .bool true, ?_, rfl, rfl⟩
     simp only [resD, resAll, resOne, resTup, Try.results9, zg1, zg0, D.good, if_true, zmo] <;> (first | (rfl; done) | (simp_all; done) | (exfalso; simp_all; done))

end Go.Proofs.Ythgdibdapjaljaa
