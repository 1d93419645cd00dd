/- The law CheckerLocal: its walk. -/
import Derived.Test.YtmglacjcefajlaaQ9k
namespace Go.Proofs.Ytmglacjcefajlaa
open Go.RowKit

theorem wrap_sm {z : Int} (h0 : 0 ≤ z) (h1 : z ≤ 1000000) : IntKind.i64.wrap z = z := by
 simp only [IntKind.wrap, IntKind.bits, IntKind.signed]; simp; omega
theorem sh_st {f : Ft} {j2 k : Nat} {r2 : List Int} {o : Own} (hp : f.path = (j2 : Int) :: r2) (ho : o.st = .imm) : (D.agg [.int .i64 f.proc, .slice o 1 (.int .i64 ((j2 : Int) + (k : Int)) :: r2.map dI), .int .i64 f.err, .str f.name]).strip = dFt (shF k f) := by
 have h3 : ∀ a b c d : D, (D.agg [a, b, c, d]).strip = .agg [a.strip, b.strip, c.strip, d.strip] := fun _ _ _ _ => by simp only [D.strip, D.strips]
 rw [h3]
 simp only [dFt, shF, hp, shP, zmc, sl, List.isEmpty_cons, zft, if_false]
 simp only [D.strip, D.strips, ho, strips_id (f := dI) (fun _ => rfl), List.isEmpty_cons, zft, if_false]
 rfl
set_option maxRecDepth 100000 in
set_option maxHeartbeats 4000000 in
theorem law5_n (p : Pg) (k : Int) (hbad : ¬ (validB p = true ∧ checkF p = []) ∨ ∃ g, fn EV 12 [dG p] = some (.int .i64 g) ∧ (g == 1) = true) : fn EV 5 [dG p, .int .u8 k] = some (.bool true) := by
 refine fn_X rfl Try.func5 rfl (by simp only [plain, List.all_cons, List.all_nil, dG_pl, int_pl, Bool.and_true]) (rfl) (rfl) (rfl) ?_
 simp only [zmc, zmn, D.strip, dG_strip]
 simp only [enterSt, Try.ntmps5, zlc, zln, Nat.reduceAdd, Nat.reduceSub, zr1, zr0, zca, zna]
 refine X_seq ?_
 refine X_rg fun R hR => ?_
 simp only [aops, astep, awant, aeff, aop, ev, ofValue, St.put, zg0, zgd, zmo, if_true, zs1, zs0, zln, zna, dG_cells, dG_good]
 with_reducible refine hR _ ?_
 clear hR R
 show X _ _ _ _
 refine X_seq ?_
 refine X_seq ?_
 refine X_rg fun R hR => ?_
 simp only [EVP, aops, astep, awant, aeff, aop, ev, St.put, pcall, zmn, zg1, zg0, zgd, zmo, if_true, zs1, zs0, zna, Bool.not_true, any11, awake_ok]
 with_reducible refine hR _ ?_
 clear hR R
 show X _ _ _ _
 refine X_ite (by simp only [ev, zg1, zg0, zgd]; exact rfl) ?_ ?_
 ·intro b1
  have c1 := b1
  try simp only [znt, znf, decide_eq_true_eq, decide_eq_false_iff_not, beq_iff_eq, Int.not_lt, Int.not_le, ge_iff_le, gt_iff_lt, bne_iff_ne, ne_eq, bne_eq_false_iff_eq, beq_eq_false_iff_ne, zat, zof] at c1
  refine X_seq ?_
  refine X_rg fun R hR => ?_
  simp only [aops, astep, awant, aeff, aop, ev, ofValue, St.put, zgd, zmo, if_true, zs1, zs0, b1]
  with_reducible refine hR _ ?_
  clear hR R
  show X _ _ _ _
  refine X_ret ?_
  show resD _ _ _ = some _
  simp only [resD, resAll, resOne, resTup, Try.results5, EVP, zg1, zg0, D.good, if_true, zmo] <;> (first | (rfl; done) | (simp_all; done) | (exfalso; simp_all; done))
 ·intro b2
  have c2 := b2
  try simp only [] at c2
  refine X_skip ?_
  show X _ _ _ _
  refine X_seq ?_
  refine X_seq ?_
  have hV := valid_fn p
  have hF := check_fn p
  have hC := chk_fn p
  obtain ⟨dg, hG, g, rfl⟩ := great_p p
  have h0 : ∀ l : List Ft, decide ((l.length : Int) > 0) = !l.isEmpty := fun l => by cases l with | nil => rfl | cons a r => (first | (simp; done) | (simp; omega))
  have h1 : ∀ l : List Ft, ((l.length : Int) == 0) = l.isEmpty := fun l => by cases l with | nil => rfl | cons a r => (simp only [List.isEmpty_cons, beq_eq_false_iff_ne]; first | (simp; done) | (simp; omega))
  refine X_y ?_
  refine Y_k 4 fun R hR => ?_
  simp only [EVP, inr_i64, Int.reduceLE, Int.reduceNeg, aops, astep, awant, aeff, aop, abin, aint, mkD, ev, ofValue, St.put, pcall, zmc, zmn, zg1, zg0, zgd, zmo, if_true, zs1, zs0, zlc, zln, zd0, zt1, zt0, zca, zna, Nat.reduceAdd, Nat.reduceLeDiff, Nat.zero_add, and_self, ty_api_Program, any12, dG_agg, hG]
  with_reducible refine hR _ ?_
  clear hR R
  simp only [zd1, zd0]
  refine Y_if 15 (by simp only [ev, zg1, zg0, zgd]; exact rfl) ?_ ?_
  ·intro b3
   have c3 := b3
   try simp only [beq_iff_eq] at c3
   refine Y_end fun R hR => ?_
   simp only [EVP, inr_i64, Int.reduceLE, Int.reduceNeg, aops, astep, awant, aeff, aop, abin, mkD, ev, ofValue, St.put, pcall, zmc, zmn, zg1, zg0, zgd, zmo, Option.map_none, zbs, if_true, zs1, zs0, zlc, zln, zd0, zt1, zt0, zca, zna, Nat.reduceAdd, Nat.reduceLeDiff, Nat.zero_add, zft, if_false, and_self, bq_tf, ty_api_Program, und_scope_Fault, any14, any15, dG_agg, b3]
   with_reducible refine hR _ ?_
   clear hR R
   show X _ _ _ _
   refine X_true (by simp only [ev, zg1, zg0, zgd]) ?_
   refine X_seq ?_
   refine X_rg fun R hR => ?_
   simp only [aops, astep, awant, aeff, aop, ev, ofValue, St.put, zgd, zmo, if_true, zs1, zs0]
   with_reducible refine hR _ ?_
   clear hR R
   show X _ _ _ _
   refine X_ret ?_
   show resD _ _ _ = some _
   simp only [resD, resAll, resOne, resTup, Try.results5, EVP, zg1, zg0, D.good, if_true, zmo] <;> (first | (rfl; done) | (simp_all; done) | (exfalso; simp_all; done))
  ·intro b4
   have c4 := b4
   try simp only [ne_eq, beq_eq_false_iff_ne] at c4
   refine Y_k 5 fun R hR => ?_
   simp only [EVP, aops, astep, awant, aeff, aop, mkD, ev, ofValue, St.put, pcall, zmc, zmn, zg1, zg0, zgd, zmo, zbs, if_true, zs1, zs0, zlc, zln, zd0, zt1, zt0, zca, zna, Nat.reduceAdd, Nat.reduceLeDiff, Nat.zero_add, zft, if_false, beq_self_eq_true, ty_api_Program, any14, dG_agg, b4, hV]
   with_reducible refine hR _ ?_
   clear hR R
   simp only [zd1, zd0]
   refine Y_if 20 (by simp only [ev, zg1, zg0, zgd]; exact rfl) ?_ ?_
   ·intro b5
    have c5 := b5
    try simp only [znt] at c5
    refine Y_end fun R hR => ?_
    simp only [EVP, inr_i64, Int.reduceLE, Int.reduceNeg, aops, astep, awant, aeff, aop, abin, mkD, ev, ofValue, St.put, pcall, zmc, zmn, zg1, zg0, zgd, zmo, Option.map_none, zbs, if_true, zs1, zs0, zlc, zln, zd0, zt1, zt0, zca, zna, Nat.reduceAdd, Nat.reduceLeDiff, Nat.zero_add, zft, if_false, and_self, bq_tf, ty_api_Program, und_scope_Fault, any15, dG_agg, b5]
    with_reducible refine hR _ ?_
    clear hR R
    show X _ _ _ _
    refine X_true (by simp only [ev, zg1, zg0, zgd]) ?_
    refine X_seq ?_
    refine X_rg fun R hR => ?_
    simp only [aops, astep, awant, aeff, aop, ev, ofValue, St.put, zgd, zmo, if_true, zs1, zs0]
    with_reducible refine hR _ ?_
    clear hR R
    show X _ _ _ _
    refine X_ret ?_
    show resD _ _ _ = some _
    simp only [resD, resAll, resOne, resTup, Try.results5, EVP, zg1, zg0, D.good, if_true, zmo] <;> (first | (rfl; done) | (simp_all; done) | (exfalso; simp_all; done))
   ·intro b6
    have c6 := b6
    try simp only [znf] at c6
    refine Y_end fun R hR => ?_
    simp only [EVP, inr_i64, Int.reduceLE, Int.reduceNeg, aops, astep, awant, aeff, aop, abin, aint, mkD, ev, ofValue, St.put, pcall, zmc, zmn, zg1, zg0, zgd, zmo, zbs, if_true, zs1, zs0, zlm, zlc, zln, zd0, zt1, zt0, zca, zna, Nat.reduceAdd, Nat.reduceLeDiff, Nat.zero_add, zft, if_false, and_self, beq_self_eq_true, ty_api_Program, und_scope_Fault, any15, sl, dG_agg, b6, hF, h0]
    with_reducible refine hR _ ?_
    clear hR R
    show X _ _ _ _
    refine X_ite (by simp only [ev, zg1, zg0, zgd]; exact rfl) ?_ ?_
    ·intro b7
     have c7 := b7
     try simp only [znt] at c7
     refine X_seq ?_
     refine X_rg fun R hR => ?_
     simp only [aops, astep, awant, aeff, aop, ev, ofValue, St.put, zgd, zmo, if_true, zs1, zs0, b7]
     with_reducible refine hR _ ?_
     clear hR R
     show X _ _ _ _
     refine X_ret ?_
     show resD _ _ _ = some _
     simp only [resD, resAll, resOne, resTup, Try.results5, EVP, zg1, zg0, D.good, if_true, zmo] <;> (first | (rfl; done) | (simp_all; done) | (exfalso; simp_all; done))
    ·intro b8
     have c8 := b8
     try simp only [znf] at c8
     exfalso
     rcases hbad with h | ⟨g2, hg2, hq2⟩
     ·apply h
      refine ⟨by first | assumption | (simp_all; done), ?_⟩
      cases hc : checkF p with | nil => rfl | cons a b => (exfalso; simp_all; done)
     ·rw [hG] at hg2; cases hg2; simp_all
set_option maxRecDepth 100000 in
set_option maxHeartbeats 4000000 in
theorem law5_y (p : Pg) (k : Int) (hk0 : 0 ≤ k) (hk1 : k ≤ 255) (hv : validB p = true) (hno : checkF p = []) (hg1 : ∀ g, fn EV 12 [dG p] = some (.int .i64 g) → (g == 1) = false) : fn EV 5 [dG p, .int .u8 k] = some (.bool true) := by
 obtain ⟨jj, hjj⟩ : ∃ jj : Nat, k.toNat % (p.main.kids.length + 1) = jj := ⟨_, rfl⟩
 have hj0 : jj ≤ p.main.kids.length := by have := Nat.mod_lt k.toNat (show 0 < p.main.kids.length + 1 by omega); omega
 have hkc := u8_conv hk0 hk1
 have htm := tmod_nat hk0 (p.main.kids.length + 1)
 rw [hjj] at htm
 clear hjj
 have hz : (((p.main.kids.length + 1 : Nat) : Int) = 0) = False := eq_false (by omega)
 have hmz := (main_block hv).2.2
 have hkl := p.main.kids_len
 have hsc := nat_succ (a := p.main.kids.length) (by omega)
 have hfr0 : ([[.slice .imm (if (p.vars.map dV).isEmpty = true then 0 else 3) (p.vars.map dV), .slice .imm (if (p.procs.map dP).isEmpty = true then 0 else 6) (p.procs.map dP), .int .u8 p.main.kind, .int .i64 p.main.num, .str p.main.name, .slice .imm (if (p.main.kids.map dN).isEmpty = true then 0 else 4) (p.main.kids.map dN)]] : List (List D)).all (D.unders ([[.slice .imm (if (p.vars.map dV).isEmpty = true then 0 else 3) (p.vars.map dV), .slice .imm (if (p.procs.map dP).isEmpty = true then 0 else 6) (p.procs.map dP), .int .u8 p.main.kind, .int .i64 p.main.num, .str p.main.name, .slice .imm (if (p.main.kids.map dN).isEmpty = true then 0 else 4) (p.main.kids.map dN)]] : List (List D)).length) = true := by
  have h := dG_under 1 p
  simp only [List.all_cons, List.all_nil, Bool.and_true, zlc, zln]
  exact h
 have hb1 := chk_bd (withM p (p.main.kids.take jj))
 have hb2 := chk_bd (withM p (p.main.kids.drop jj))
 have hb3 := chk_bd (withM p p.main.kids)
 have hl1 : (kidsF (-1) 0 (p.main.kids.take jj)).length ≤ 1000000 := by rw [← part_eq hv hno (List.take_sublist _ _)]; exact Nat.le_trans (List.length_filter_le _ _) hb1.1
 have hl2 : (kidsF (-1) 0 (p.main.kids.drop jj)).length ≤ 1000000 := by rw [← part_eq hv hno (List.drop_sublist _ _)]; exact Nat.le_trans (List.length_filter_le _ _) hb2.1
 have hl3 : (kidsF (-1) 0 p.main.kids).length ≤ 1000000 ∧ ∀ f ∈ kidsF (-1) 0 p.main.kids, f.path.length ≤ 1000000 := by
  rw [← part_eq hv hno (List.Sublist.refl _)]
  exact ⟨Nat.le_trans (List.length_filter_le _ _) hb3.1, fun f hf => hb3.2 f (List.mem_filter.1 hf).1⟩
 refine fn_X rfl Try.func5 rfl (by simp only [plain, List.all_cons, List.all_nil, dG_pl, int_pl, Bool.and_true]) (rfl) (rfl) (rfl) ?_
 simp only [zmc, zmn, D.strip, dG_strip]
 simp only [enterSt, Try.ntmps5, zlc, zln, Nat.reduceAdd, Nat.reduceSub, zr1, zr0, zca, zna]
 refine X_seq ?_
 refine X_rg fun R hR => ?_
 simp only [aops, astep, awant, aeff, aop, ev, ofValue, St.put, zg0, zgd, zmo, if_true, zs1, zs0, zln, zna, dG_cells, dG_good]
 with_reducible refine hR _ ?_
 clear hR R
 show X _ _ _ _
 refine X_seq ?_
 refine X_seq ?_
 refine X_rg fun R hR => ?_
 simp only [EVP, aops, astep, awant, aeff, aop, ev, St.put, pcall, zmn, zg1, zg0, zgd, zmo, if_true, zs1, zs0, zna, Bool.not_true, any11, awake_ok]
 with_reducible refine hR _ ?_
 clear hR R
 show X _ _ _ _
 refine X_ite (by simp only [ev, zg1, zg0, zgd]; exact rfl) ?_ ?_
 ·intro b1
  have c1 := b1
  try simp only [znt, znf, decide_eq_true_eq, decide_eq_false_iff_not, beq_iff_eq, Int.not_lt, Int.not_le, ge_iff_le, gt_iff_lt, bne_iff_ne, ne_eq, bne_eq_false_iff_eq, beq_eq_false_iff_ne, zat, zof] at c1
  refine X_seq ?_
  refine X_rg fun R hR => ?_
  simp only [aops, astep, awant, aeff, aop, ev, ofValue, St.put, zgd, zmo, if_true, zs1, zs0, b1]
  with_reducible refine hR _ ?_
  clear hR R
  show X _ _ _ _
  refine X_ret ?_
  show resD _ _ _ = some _
  simp only [resD, resAll, resOne, resTup, Try.results5, EVP, zg1, zg0, D.good, if_true, zmo] <;> (first | (rfl; done) | (simp_all; done) | (exfalso; simp_all; done))
 ·intro b2
  have c2 := b2
  try simp only [] at c2
  refine X_skip ?_
  show X _ _ _ _
  refine X_seq ?_
  refine X_seq ?_
  have hV := valid_fn p
  have hF := check_fn p
  have hC := chk_fn p
  obtain ⟨dg, hG, g, rfl⟩ := great_p p
  have h0 : ∀ l : List Ft, decide ((l.length : Int) > 0) = !l.isEmpty := fun l => by cases l with | nil => rfl | cons a r => (first | (simp; done) | (simp; omega))
  have h1 : ∀ l : List Ft, ((l.length : Int) == 0) = l.isEmpty := fun l => by cases l with | nil => rfl | cons a r => (simp only [List.isEmpty_cons, beq_eq_false_iff_ne]; first | (simp; done) | (simp; omega))
  have hq1 : (g == 1) = false := hg1 g hG
  rw [hv] at hV hF
  rw [if_pos rfl, hno] at hF
  have hz00 : decide (((0 : Nat) : Int) > 0) = false := rfl
  refine X_rg fun R hR => ?_
  simp only [EVP, inr_i64, Int.reduceLE, Int.reduceNeg, aops, astep, awant, aeff, aop, abin, aint, mkD, ev, ofValue, St.put, pcall, zmc, zmn, zg1, zg0, zgd, zmo, zbs, if_true, zs1, zs0, zlc, zln, zd0, zt1, zt0, zca, zna, Nat.reduceAdd, Nat.reduceLeDiff, Nat.zero_add, Bool.not_true, zft, if_false, and_self, beq_self_eq_true, List.isEmpty_nil, ty_api_Program, und_scope_Fault, any12, any14, any15, sl, dG_agg, hV, hF, hG, hq1, hz00, zmn, List.isEmpty_nil, zln]
  with_reducible refine hR _ ?_
  clear hR R
  show X _ _ _ _
  refine X_false (by simp only [ev, zg1, zg0, zgd]) ?_
  refine X_skip ?_
  show X _ _ _ _
  refine X_seq ?_
  refine X_rg fun R hR => ?_
  simp only [EVP, inr_i64, Int.reduceLE, Int.reduceNeg, aops, astep, awant, aeff, aop, abin, aint, mkD, ev, ofValue, St.put, ia_slice, zg1, zg0, zgd, zmo, if_true, zs1, zs0, zlm, zlc, zln, zd1, zd0, zt1, zt0, Nat.reduceAdd, Nat.reduceLeDiff, Nat.zero_add, zft, if_false, and_self, reduceCtorEq, ty_s_api_Node, ty_api_Node, ty_api_Program, und_api_Node, und_int', und_uint8', hkc, htm, hz, hsc]
  with_reducible refine hR _ ?_
  clear hR R
  show X _ _ _ _
  refine X_seq ?_
  refine X_rg fun R hR => ?_
  simp only [aops, astep, awant, aeff, aop, ev, St.put, gd_ptr, ia_ptr, zmc, zmn, zg1, zg0, zgd, zmo, if_true, zs1, zs0, Bool.and_true, Bool.not_false, and_self, List.all_cons, List.all_nil, Array.isEmpty_empty]
  with_reducible refine hR _ ?_
  clear hR R
  show X _ _ _ _
  refine X_seq ?_
  have hT : (p.main.kids.map dN).take jj = (p.main.kids.take jj).map dN := by simp
  have hD : (p.main.kids.map dN).drop jj = (p.main.kids.drop jj).map dN := by simp
  have hTk : ((p.main.kids.drop jj).map dN).take (p.main.kids.length - jj) = (p.main.kids.drop jj).map dN := by rw [List.take_of_length_le (by simp)]
  have hle : (((jj : Nat) : Int) ≤ (p.main.kids.length : Int)) = True := eq_true (by omega)
  obtain ⟨_, _, nx1, lv1, hc1, rfl, o1, n1, rfl, ha1⟩ := part_ex p hv hno (p.main.kids.take jj) (List.take_sublist _ _) (if (p.main.kids.map dN).isEmpty = true then 0 else 4) (fun h => sl_n (j := 0) (by have h9 : (p.main.kids.take jj).length ≠ 0 := fun e => h (List.length_eq_zero_iff.1 e); rw [List.length_take] at h9; rw [zlm]; omega)) [[.slice .imm (if (p.vars.map dV).isEmpty = true then 0 else 3) (p.vars.map dV), .slice .imm (if (p.procs.map dP).isEmpty = true then 0 else 6) (p.procs.map dP), .int .u8 p.main.kind, .int .i64 p.main.num, .str p.main.name, .slice .imm (if (p.main.kids.map dN).isEmpty = true then 0 else 4) (p.main.kids.map dN)]] 0 0 [] rfl hfr0
  refine X_rc fun R hR => ?_
  simp only [EVP, Int.reduceNeg, nat_to, aops, astep, awant, aeff, aop, mkD, idx, aslice, ev, St.put, ia_slice, zmc, zmn, zg1, zg0, zgd, zmo, Option.map_none, if_true, zs1, zs0, zlm, zlc, zln, zd1, zd0, zt1, zt0, zca, zna, Nat.reduceAdd, Nat.reduceLeDiff, Nat.zero_add, zft, if_false, and_self, reduceCtorEq, zis, ty_s_api_Node, ty_api_Node, ty_api_Program, und_api_Node, siz_api_Node, inf_api_Node_eq, any19, any19, hc1, hT, hle, sl_or, Nat.sub_zero, Nat.zero_le, zd0, nat_le]
  with_reducible refine hR _ ?_
  clear hR R
  show X _ _ _ _
  refine X_seq ?_
  refine X_seq ?_
  obtain ⟨_, _, nx2, lv2, hc2, rfl, o2, n2, rfl, ha2⟩ := part_ex p hv hno (p.main.kids.drop jj) (List.drop_sublist _ _) (if (p.main.kids.map dN).isEmpty = true then 0 else 4) (fun h => sl_n (j := 0) (by have h9 : (p.main.kids.drop jj).length ≠ 0 := fun e => h (List.length_eq_zero_iff.1 e); rw [List.length_drop] at h9; rw [zlm]; omega)) [[.slice .imm (if (p.vars.map dV).isEmpty = true then 0 else 3) (p.vars.map dV), .slice .imm (if (p.procs.map dP).isEmpty = true then 0 else 6) (p.procs.map dP), .int .u8 p.main.kind, .int .i64 p.main.num, .str p.main.name, .slice .imm (if (p.main.kids.map dN).isEmpty = true then 0 else 4) (p.main.kids.map dN)]] 0 nx1 lv1 rfl hfr0
  refine X_rc fun R hR => ?_
  simp only [EVP, inr_i64, Int.reduceLE, Int.reduceNeg, nat_to, aops, astep, awant, aeff, aop, mkD, idx, aslice, ev, ofValue, St.put, ia_slice, zmc, zmn, zg1, zg0, zgd, zmo, Option.map_none, if_true, zs1, zs0, zlm, zlc, zln, zd1, zd0, zt1, zt0, zca, zna, Nat.reduceAdd, Nat.reduceLeDiff, Nat.zero_add, zft, if_false, and_self, reduceCtorEq, zis, ty_s_api_Node, ty_api_Node, ty_api_Program, und_api_Node, siz_api_Node, inf_api_Node_eq, und_checker_Rejection, any19, any19, hc2, hD, hTk, hle, sl_or, Nat.zero_le, zd0, nat_le]
  with_reducible refine hR _ ?_
  clear hR R
  show X _ _ _ _
  refine X_block ?_
  refine X_loop (fun m σ => ∃ (i : Nat) (r : List (List D)) (o : Own) (n : Nat) (M : List D) (nx : Nat) (lv : List Nat), σ = ⟨[slotOf σ 0, slotOf σ 1, .ptr 0 0, slotOf σ 3, slotOf σ 4, .int .i64 jj, .fn 19 [.ptr 0 0], .slice o n M, slotOf σ 8, slotOf σ 9, slotOf σ 10, slotOf σ 11, slotOf σ 12, slotOf σ 13, slotOf σ 14, slotOf σ 15, slotOf σ 16, slotOf σ 17, slotOf σ 18, slotOf σ 19, slotOf σ 20, slotOf σ 21, slotOf σ 22, slotOf σ 23, slotOf σ 24, slotOf σ 25, slotOf σ 26, slotOf σ 27, slotOf σ 28, slotOf σ 29, slotOf σ 30, slotOf σ 31, slotOf σ 32, slotOf σ 33, slotOf σ 34, slotOf σ 35, slotOf σ 36, slotOf σ 37, slotOf σ 38, slotOf σ 39, slotOf σ 40, slotOf σ 41, slotOf σ 42, slotOf σ 43, slotOf σ 44, slotOf σ 45, slotOf σ 46, slotOf σ 47, .slice o2 n2 ((kidsF (-1) 0 (p.main.kids.drop jj)).map dFt), .int .i64 (kidsF (-1) 0 (p.main.kids.drop jj)).length, .int .i64 i, slotOf σ 51, slotOf σ 52, slotOf σ 53, slotOf σ 54, slotOf σ 55, slotOf σ 56, slotOf σ 57, slotOf σ 58, slotOf σ 59, slotOf σ 60, slotOf σ 61, slotOf σ 62, slotOf σ 63, slotOf σ 64, slotOf σ 65, slotOf σ 66, slotOf σ 67, slotOf σ 68, slotOf σ 69, slotOf σ 70, slotOf σ 71, slotOf σ 72, slotOf σ 73, slotOf σ 74, slotOf σ 75, slotOf σ 76, slotOf σ 77, slotOf σ 78, slotOf σ 79, slotOf σ 80, slotOf σ 81], [.slice .imm (if (p.vars.map dV).isEmpty = true then 0 else 3) (p.vars.map dV), .slice .imm (if (p.procs.map dP).isEmpty = true then 0 else 6) (p.procs.map dP), .int .u8 p.main.kind, .int .i64 p.main.num, .str p.main.name, .slice .imm (if (p.main.kids.map dN).isEmpty = true then 0 else 4) (p.main.kids.map dN)] :: r, nx, lv⟩ ∧ m = (kidsF (-1) 0 (p.main.kids.drop jj)).length - i ∧ i ≤ (kidsF (-1) 0 (p.main.kids.drop jj)).length ∧ Hid (Free r) ∧ Hid (AccB 43 4 o n M nx lv) ∧ Hid (Lis M ((kidsF (-1) 0 (p.main.kids.take jj)) ++ ((kidsF (-1) 0 (p.main.kids.drop jj)).take i).map (shF jj)))) ?_ ((kidsF (-1) 0 (p.main.kids.drop jj)).length) _ ?_
  rotate_left
  ·exact ⟨0, [], o1, n1, _, nx2, lv2, rfl, rfl, Nat.zero_le _, Lib.hid Free.nil, Lib.hid (ha1.a.keep ha2.k), Lib.hid (by simpa using Lis.of (kidsF (-1) 0 (p.main.kids.take jj)))⟩
  rintro m σ ⟨i, r, o, n, M, nx, lv, hσ, rfl, hi, hr, ha, hli⟩
  generalize slotOf σ = x at hσ
  subst hσ
  refine X_seq ?_
  refine X_rg fun R hR => ?_
  simp only [Int.reduceNeg, nat_lt, aops, astep, awant, aeff, aop, abin, aint, ev, St.put, zg1, zg0, zgd, zmo, if_true, zs1, zs0]
  with_reducible refine hR _ ?_
  clear hR R
  show X _ _ _ _
  refine X_seq ?_
  refine X_ite (by simp only [ev, zg1, zg0, zgd]; exact rfl) ?_ ?_
  ·intro b3
   have c3 := b3
   try simp only [decide_eq_true_eq] at c3
   refine X_skip ?_
   show X _ _ _ _
   refine X_seq ?_
   refine X_block ?_
   refine X_seq ?_
   have hlt : i < (kidsF (-1) 0 (p.main.kids.drop jj)).length := by first | assumption | omega
   obtain ⟨j2, r2, _, hj2, hpe⟩ := kidsF_path (List.getElem_mem hlt)
   have hn2 : (n2 = 4) = True := eq_true (ha2.a.a.n4 (by intro q; have h9 := congrArg List.length q; simp only [zlm, zln] at h9; omega))
   have e1 : ((kidsF (-1) 0 (p.main.kids.drop jj)).map dFt)[i]? = some (.agg [.int .i64 (kidsF (-1) 0 (p.main.kids.drop jj))[i].proc, .slice .imm 1 (.int .i64 (j2 : Int) :: r2.map dI), .int .i64 (kidsF (-1) 0 (p.main.kids.drop jj))[i].err, .str (kidsF (-1) 0 (p.main.kids.drop jj))[i].name]) := by rw [List.getElem?_map, List.getElem?_eq_getElem hlt]; simp only [zmo, dFt, hpe]; rfl
   have hr2 : r2.length ≤ 1000000 := by
    have h9 : (kidsF (-1) 0 (p.main.kids.drop jj))[i] ∈ (kidsF (-1) 0 (p.main.kids.drop jj)) := List.getElem_mem hlt
    have h8 : ∀ f ∈ (kidsF (-1) 0 (p.main.kids.drop jj)), f.path.length ≤ 1000000 := by rw [← part_eq hv hno (List.drop_sublist _ _)]; exact fun f hf => hb2.2 f (List.mem_filter.1 hf).1
    have h7 := h8 _ h9
    rw [hpe] at h7; simp only [zlc] at h7; omega
   refine X_rg fun R hR => ?_
   simp only [EVP, Int.reduceNeg, app_get0, app_set0, nat_lt, nat_0, nat_to, aops, astep, awant, aeff, aop, astore, ev, St.put, gd_agg, ia_agg, cl_agg, zg1, zg0, zgd, zmo, zbs, if_true, zs1, zs0, zlm, zlc, zln, zd1, zd0, zt0, zca, zna, Nat.reduceAdd, Nat.reduceLeDiff, Nat.zero_add, and_self, decide_true, zis, ty_checker_Rejection, und_checker_Rejection, siz_checker_Rejection, inf_checker_Rejection_eq, hlt, hn2, e1, app_get0, app_set0, zg0, zs0]
   with_reducible refine hR _ ?_
   clear hR R
   show X _ _ _ _
   refine X_seq ?_
   refine X_seq ?_
   have hz57 : (((r2.length + 1 : Nat) : Int) == 0) = false := by rw [beq_eq_false_iff_ne]; omega
   refine X_rg fun R hR => ?_
   simp only [EVP, inr_i64, Int.reduceLE, Int.reduceNeg, app_get0, aops, astep, awant, aeff, aop, abin, aint, mkD, ev, ofValue, St.put, ia_slice, zg1, zg0, zgd, zmo, if_true, zs1, zs0, zlm, zlc, zln, zd1, zd0, zt1, zt0, Nat.reduceAdd, Nat.reduceLeDiff, Nat.zero_add, zft, if_false, and_self, reduceCtorEq, ty_s_int, und_int, ty_checker_Rejection, hz57, zlc, zlm, app_get0, zg0, zs0]
   with_reducible refine hR _ ?_
   clear hR R
   show X _ _ _ _
   refine X_false (by simp only [ev, zg1, zg0, zgd]) ?_
   refine X_skip ?_
   show X _ _ _ _
   refine X_seq ?_
   have hl0 : ((0 : Int) < ((r2.length + 1 : Nat) : Int)) = True := eq_true (by omega)
   have hl1b : ((1 : Int) ≤ ((r2.length + 1 : Nat) : Int)) = True := eq_true (by omega)
   have hz01 : (((0 : Nat) : Int) ≤ 1) = True := eq_true (by omega)
   have hl1c : (1 ≤ r2.length + 1) = True := eq_true (by omega)
   have htk : (r2.map dI).take r2.length = r2.map dI := by rw [List.take_of_length_le (by simp)]
   have hww : IntKind.i64.wrap ((j2 : Int) + ((jj : Nat) : Int)) = (j2 : Int) + ((jj : Nat) : Int) := wrap_sm (by omega) (by rw [List.length_drop] at hj2; omega)
   obtain ⟨o3, nx3, lv3, hap3, hkp3, ho3⟩ := cons_app (P := Try.prog) (t := 40) nx lv und_int inf_int_eq inf_int_size (by omega) (by rw [inf_int_bytes]; omega) inf_int_zc (.int .i64 ((j2 : Int) + ((jj : Nat) : Int))) (r2.map dI) (by simp; omega)
   refine X_rg fun R hR => ?_
   simp only [EVP, inr_i64, Int.reduceLE, Int.reduceNeg, app_get0, app_set0, aops, astep, awant, aeff, aop, abin, aint, mkD, idx, aslice, abuild, astore, ev, ofValue, St.put, gd_int, ia_int, cl_int, gd_slice, ia_slice, cl_slice, zmc, zmn, zg1, zg0, zgd, zmo, Option.map_none, if_true, zs1, zs0, zlm, zlc, zln, zd1, zd0, zt1, zt0, zca, zna, Nat.reduceAdd, Nat.reduceLeDiff, Nat.reduceLT, Nat.zero_add, Bool.and_true, zft, if_false, and_self, reduceCtorEq, List.all_cons, List.all_nil, beq_self_eq_true, zis, Nat.reduceMul, rng_1, ty_int, ty_s_int, und_int, siz_int, inf_int_eq, inf_int_size, inf_int_zero, ty_checker_Rejection, hl0, hl1b, hz01, htk, hww, hap3, Int.toNat_zero, Int.toNat_one, zlc, zlm, zd1, Nat.add_sub_cancel, app_get0, app_set0, zg0, zs0, true_or, zd0]
   with_reducible refine hR _ ?_
   clear hR R
   show X _ _ _ _
   have hlM := hli.out.len
   obtain ⟨lv4, hacc, hap4⟩ := (ha.out.keep hkp3).app1 (P := Try.prog) (t := 31) und_checker_Rejection inf_checker_Rejection_eq inf_checker_Rejection_size (by omega) (by rw [inf_checker_Rejection_bytes]; omega) inf_checker_Rejection_zc (.agg [.int .i64 (kidsF (-1) 0 (p.main.kids.drop jj))[i].proc, .slice o3 1 (.int .i64 ((j2 : Int) + ((jj : Nat) : Int)) :: r2.map dI), .int .i64 (kidsF (-1) 0 (p.main.kids.drop jj))[i].err, .str (kidsF (-1) 0 (p.main.kids.drop jj))[i].name]) (by rw [hlM, zla, zlm, List.length_take]; omega)
   refine X_rg fun R hR => ?_
   simp only [EVP, Int.reduceNeg, app_get0, aops, astep, awant, aeff, aop, mkD, abuild, ev, ofValue, St.put, gd_agg, cl_agg, zmc, zmn, zg1, zg0, zgd, zmo, if_true, zs1, zs0, zlc, zln, zd0, zt1, zt0, Nat.reduceAdd, Nat.reduceLeDiff, Nat.reduceLT, Nat.zero_add, Bool.and_true, and_self, List.all_cons, List.all_nil, beq_self_eq_true, Nat.reduceMul, rng_1, ty_checker_Rejection, und_checker_Rejection, inf_checker_Rejection_eq, inf_checker_Rejection_size, inf_checker_Rejection_zero, hap4, app_get0, zg0, zs0]
   with_reducible refine hR _ ?_
   clear hR R
   show X _ _ _ _
   have hbig : i < 9223372036854775807 := by omega
   refine X_rg fun R hR => ?_
   simp only [inr_i64, Int.reduceLE, Int.reduceNeg, aops, astep, awant, aeff, aop, abin, aint, ev, ofValue, St.put, zg1, zg0, zgd, zmo, if_true, zs1, zs0, and_self, nat_succ hbig]
   with_reducible refine hR _ ?_
   clear hR R
   show ∃ m, m < _ ∧ _
   exact ⟨(kidsF (-1) 0 (p.main.kids.drop jj)).length - (i + 1), by omega, i + 1, _, _, _, _, _, _, rfl, rfl, by omega, Lib.hid (hr.out.snoc fun m => by simp only [D.unders, D.under, unders_id (f := dI) (fun _ _ => rfl), Bool.and_true]), Lib.hid hacc, Lib.hid (by rw [List.take_succ_eq_append_getElem hlt, List.map_append, ← zaa]; exact hli.out.app (.one (f := shF jj (kidsF (-1) 0 (p.main.kids.drop jj))[i]) (sh_st hpe ho3) (by simp only [D.under, D.unders, unders_id (f := dI) (fun _ _ => rfl), Bool.and_true])))⟩
  ·intro b4
   have c4 := b4
   try simp only [decide_eq_false_iff_not] at c4
   refine X_exit ?_
   show X _ _ _ _
   refine X_seq ?_
   have hfrr : ([.slice .imm (if (p.vars.map dV).isEmpty = true then 0 else 3) (p.vars.map dV), .slice .imm (if (p.procs.map dP).isEmpty = true then 0 else 6) (p.procs.map dP), .int .u8 p.main.kind, .int .i64 p.main.num, .str p.main.name, .slice .imm (if (p.main.kids.map dN).isEmpty = true then 0 else 4) (p.main.kids.map dN)] :: r).all (D.unders ([.slice .imm (if (p.vars.map dV).isEmpty = true then 0 else 3) (p.vars.map dV), .slice .imm (if (p.procs.map dP).isEmpty = true then 0 else 6) (p.procs.map dP), .int .u8 p.main.kind, .int .i64 p.main.num, .str p.main.name, .slice .imm (if (p.main.kids.map dN).isEmpty = true then 0 else 4) (p.main.kids.map dN)] :: r).length) = true := by
    have h := dG_under (r.length + 1) p
    simp only [List.all_cons, zlc, hr.out.all, Bool.and_true]
    exact h
   obtain ⟨_, _, nx5, lv5, hc5, rfl, o5, n5, rfl, ha5⟩ := part_ex p hv hno p.main.kids (List.Sublist.refl _) (if (p.main.kids.map dN).isEmpty = true then 0 else 4) (fun h => sl_n (j := 0) (by have h9 : p.main.kids.length ≠ 0 := fun e => h (List.length_eq_zero_iff.1 e); rw [zlm]; omega)) ([.slice .imm (if (p.vars.map dV).isEmpty = true then 0 else 3) (p.vars.map dV), .slice .imm (if (p.procs.map dP).isEmpty = true then 0 else 6) (p.procs.map dP), .int .u8 p.main.kind, .int .i64 p.main.num, .str p.main.name, .slice .imm (if (p.main.kids.map dN).isEmpty = true then 0 else 4) (p.main.kids.map dN)] :: r) 0 nx lv rfl hfrr
   have hLi := hli.out
   rw [List.take_of_length_le (show (kidsF (-1) 0 (p.main.kids.drop jj)).length ≤ i by omega), part_join (-1) p.main.kids jj hj0] at hLi
   have hS := same_self (kidsF (-1) 0 p.main.kids) true hl3.1 hl3.2 (acc_own ha5.a.a (.of _)).1 (acc_own ha5.a.a (.of _)).2 (acc_own ha.out.a hLi).1 (acc_own ha.out.a hLi).2
   have hSc := cal_pure hS
   refine X_rc fun R hR => ?_
   simp only [EVP, Int.reduceNeg, aops, astep, awant, aeff, aop, mkD, ev, ofValue, St.put, ia_slice, zmc, zmn, zg1, zg0, zgd, zmo, if_true, zs1, zs0, zlc, zln, zd1, zd0, zt1, zt0, zca, zna, Nat.reduceAdd, Nat.reduceLeDiff, Nat.zero_add, zft, if_false, reduceCtorEq, ty_s_api_Node, ty_api_Node, ty_api_Program, any17, any19, any19, b4, hc5, hSc, zg0, zs0]
   with_reducible refine hR _ ?_
   clear hR R
   show X _ _ _ _
   refine X_ret ?_
   show resD _ _ _ = some _
   simp only [resD, resAll, resOne, resTup, Try.results5, EVP, zg1, zg0, D.good, if_true, zmo] <;> (first | (rfl; done) | (simp_all; done) | (exfalso; simp_all; done))
theorem law5_fn (p : Pg) (k : Int) (hk0 : 0 ≤ k) (hk1 : k ≤ 255) : fn EV 5 [dG p, .int .u8 k] = some (.bool true) := by
 by_cases h : validB p = true ∧ checkF p = []
 ·obtain ⟨_, hG, g, rfl⟩ := great_p p
  cases hq : (g == 1) with
  | true => exact law5_n p k (.inr ⟨g, hG, hq⟩)
  | false => exact law5_y p k hk0 hk1 h.1 h.2 (fun g2 h2 => by rw [hG] at h2; cases h2; exact hq)
 ·exact law5_n p k (.inl h)

end Go.Proofs.Ytmglacjcefajlaa
