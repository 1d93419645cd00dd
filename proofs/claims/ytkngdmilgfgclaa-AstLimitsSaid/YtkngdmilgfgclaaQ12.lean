/- The law AstLimits: its walk. -/
import Derived.Test.YtkngdmilgfgclaaQ19
namespace Go.Proofs.Ytkngdmilgfgclaa
open Go.RowKit

theorem Acc.appN {P : Program} {t e : TypeId} {i : TypeInfo} {sz : Nat} {o : Own} {n : Nat} {L : List D} {lv : List Nat} (h : Acc e sz o n L lv) (hu : P.underlying t = some (.slice e)) (hi : P.info? e = some i) (hs : i.size = sz) (hp : 0 < sz) (hb : i.bytes ≤ 4096) (hz : (i.zero.map fun z => z.cells.size) = some sz) (nx : Nat) (n2 : Nat) (l2 : List D)
    (hl : L.length + l2.length ≤ 16777216) (hn2 : l2 ≠ [] → n2 = sz) : ∃ o' n' nx' lv', Acc e sz o' n' (L ++ l2) lv' ∧ ∀ fr bx, aappend P ⟨fr, bx, nx, lv⟩ t (.slice o n L) (.slice .imm n2 l2) = some (.slice o' n' (L ++ l2), ⟨fr, bx, nx', lv'⟩) := by
  cases l2 with
  | nil => exact ⟨o, n, nx, lv, by rw [List.append_nil]; exact h, fun fr bx => by rw [List.append_nil]; exact Acc.app0 hu hi⟩
  | cons a r =>
    obtain rfl := hn2 (by simp)
    refine ⟨.own nx e, n2, nx + 1, nx :: o.cut lv, .own (List.mem_cons_self), fun fr bx => ?_⟩
    exact Acc.app (σ := ⟨fr, bx, nx, lv⟩) (o2 := .imm) h hu hi hs hp hb hz hl (by simp)
theorem valid_bd {p : Pg} (h : validB p = true) : p.vars.length ≤ 32 ∧ p.procs.length ≤ 64 ∧ (∀ q ∈ p.procs, q.params.length ≤ 8 ∧ q.body.size ≤ 2000 ∧ q.body.depth ≤ 80) ∧ p.main.size ≤ 2000 ∧ p.main.depth ≤ 80 := by
  simp only [validB, Bool.and_eq_true, Bool.not_eq_true', decide_eq_false_iff_not, List.all_eq_true] at h
  obtain ⟨⟨⟨⟨h1, h2⟩, h3⟩, h4⟩, h5⟩ := h
  refine ⟨by omega, by omega, fun q hq => ?_, ?_⟩
  · have := h4 q hq
    simp only [procB, bodyB, Bool.and_eq_true, Bool.not_eq_true', decide_eq_false_iff_not, decide_eq_true_eq] at this
    exact ⟨by omega, this.2.1.2, this.2.1.1⟩
  · simp only [bodyB, Bool.and_eq_true, decide_eq_true_eq] at h5
    exact ⟨h5.1.2, h5.1.1⟩
theorem tmod_nat {k : Int} (hk : 0 ≤ k) (n : Nat) : k.tmod (n : Int) = ((k.toNat % n : Nat) : Int) := by
  obtain ⟨m, rfl⟩ := Int.eq_ofNat_of_zero_le hk
  rw [Int.tmod_eq_emod_of_nonneg hk]; simp
theorem u8_conv {k : Int} (h0 : 0 ≤ k) (h1 : k ≤ 255) : IntKind.i64.wrap k = k := by
  simp only [IntKind.wrap, IntKind.bits, IntKind.signed]; simp; omega
theorem valid_sub {p : Pg} (h : validB p = true) {vs : List Vd} {ps : List Pr} (hv : vs.Sublist p.vars) (hp : ps.Sublist p.procs) : validB ⟨vs, ps, p.main⟩ = true := by
  simp only [validB, Bool.and_eq_true, Bool.not_eq_true', decide_eq_false_iff_not, List.all_eq_true] at h ⊢
  obtain ⟨⟨⟨⟨h1, h2⟩, h3⟩, h4⟩, h5⟩ := h
  have l1 := hv.length_le
  have l2 := hp.length_le
  exact ⟨⟨⟨⟨by omega, by omega⟩, fun x hx => h3 x (hv.subset hx)⟩, fun x hx => h4 x (hp.subset hx)⟩, h5⟩
theorem slV_st {vs : List Vd} {n : Nat} (h : vs ≠ [] → n = 3) : (D.slice .imm n (vs.map dV)).strip = sl 3 (vs.map dV) := by
  simp only [D.strip, Own.st, strips_id (f := dV) (fun _ => rfl), sl]
  cases vs with
  | nil => rfl
  | cons a r => rw [h (by simp)]
theorem slP_st (ps : List Pr) : (D.slice .imm (if (ps.map dP).isEmpty = true then 0 else 6) (ps.map dP)).strip = sl 6 (ps.map dP) := sl_strip (map_strip (f := dP) dP_strip _)
theorem accP_st {o : Own} {n : Nat} {ps : List Pr} {lv : List Nat} (ha : Acc 68 6 o n (ps.map dP) lv) : (D.slice o n (ps.map dP)).strip = sl 6 (ps.map dP) := by
  have h1 : (ps.map dP).map D.strip = ps.map dP := by rw [List.map_map]; exact List.map_congr_left fun x _ => dP_strip x
  rw [ha.strip, h1]; rfl
def QD (x y : D) (m : Tr) : D := .agg [x, y, .int .u8 m.kind, .int .i64 m.num, .str m.name, .slice .imm (if (m.kids.map dN).isEmpty = true then 0 else 4) (m.kids.map dN)]
theorem QD_st {x y : D} {m : Tr} {vs : List Vd} {ps : List Pr} (hx : x.strip = sl 3 (vs.map dV)) (hy : y.strip = sl 6 (ps.map dP)) : (QD x y m).strip = dG ⟨vs, ps, m⟩ := by
  have h1 : ∀ A B x y z C : D, (D.agg [A, B, x, y, z, C]).strip = .agg [A.strip, B.strip, x.strip, y.strip, z.strip, C.strip] := fun _ _ _ _ _ _ => by simp only [D.strip, D.strips]
  have h4 := sl_strip (n := 4) (map_strip dN_strip m.kids)
  simp only [sl] at h4
  unfold QD
  rw [h1, hx, hy, h4]
  rfl
theorem QD_pl {o o' : Own} {n n' : Nat} {m : Tr} (vs : List Vd) (ps : List Pr) : ((QD (.slice o n (vs.map dV)) (.slice o' n' (ps.map dP)) m).under 0 && (QD (.slice o n (vs.map dV)) (.slice o' n' (ps.map dP)) m).good) = true := by
  unfold QD
  simp only [D.under, D.unders, unders_id (f := dV) (fun _ _ => rfl), unders_id (f := dP) dP_under, unders_id (f := dN) dN_under]; rfl
theorem q1_fn {k : Nat} {d : D} {o o' : Own} {n n' : Nat} {m : Tr} {vs : List Vd} {ps : List Pr} (hx : (D.slice o n (vs.map dV)).strip = sl 3 (vs.map dV)) (hy : (D.slice o' n' (ps.map dP)).strip = sl 6 (ps.map dP)) (h : fn EV k [dG ⟨vs, ps, m⟩] = some d) : fn EV k [QD (.slice o n (vs.map dV)) (.slice o' n' (ps.map dP)) m] = some d := by
  rw [← h]
  exact fn_strip (by simp only [plain, List.all_cons, List.all_nil, QD_pl, Bool.and_true]) (by simp only [plain, List.all_cons, List.all_nil, dG_pl, Bool.and_true]) (by simp only [List.map_cons, List.map_nil, QD_st hx hy, dG_strip])
theorem q2_fn {k : Nat} {d : D} {p : Pg} {o o' : Own} {n n' : Nat} {m : Tr} {vs : List Vd} {ps : List Pr} (hx : (D.slice o n (vs.map dV)).strip = sl 3 (vs.map dV)) (hy : (D.slice o' n' (ps.map dP)).strip = sl 6 (ps.map dP)) (h : fn EV k [dG p, dG ⟨vs, ps, m⟩] = some d) : fn EV k [dG p, QD (.slice o n (vs.map dV)) (.slice o' n' (ps.map dP)) m] = some d := by
  rw [← h]
  exact fn_strip (by simp only [plain, List.all_cons, List.all_nil, QD_pl, dG_pl, Bool.and_true]) (by simp only [plain, List.all_cons, List.all_nil, dG_pl, Bool.and_true]) (by simp only [List.map_cons, List.map_nil, QD_st hx hy, dG_strip])
theorem same_ne {p : Pg} {vs : List Vd} {ps : List Pr} (h : p.vars.length ≠ vs.length ∨ p.procs.length ≠ ps.length) : sameB p ⟨vs, ps, p.main⟩ = false := by
  unfold sameB
  rcases h with h | h
  · rw [pairB_len h]; rfl
  · rw [pairB_len h, Bool.and_false]; rfl
theorem wrap_sm {z : Int} (h0 : 0 ≤ z) (h1 : z ≤ 1000000) : IntKind.i64.wrap z = z := by
  simp only [IntKind.wrap, IntKind.bits, IntKind.signed]; simp; omega
set_option maxRecDepth 100000 in
set_option maxHeartbeats 4000000 in
theorem law12_fn (p : Pg) (k : Int) (hk0 : 0 ≤ k) (hk1 : k ≤ 255) : fn EV 12 [dG p, .int .u8 k] = some (.bool true) := by
  refine fn_X rfl Try.func12 rfl (by simp only [plain, List.all_cons, List.all_nil, dG_pl, int_pl, Bool.and_true]) (rfl) (rfl) (rfl) ?_
  simp only [List.map_cons, List.map_nil, D.strip, dG_strip]
  simp only [enterSt, Try.ntmps12, List.length_cons, List.length_nil, Nat.reduceAdd, Nat.reduceSub, List.replicate_succ, List.replicate_zero, List.cons_append, List.nil_append]
  refine X_seq ?_
  refine X_rg fun R hR => ?_
  simp only [aops, astep, awant, aeff, aop, ev, ofValue, St.put, List.getElem?_cons_zero, Option.getD_some, Option.map_some, if_true, List.set_cons_succ, List.set_cons_zero, List.length_nil, List.nil_append, dG_cells, dG_good]
  with_reducible refine hR _ ?_
  clear hR R
  show X _ _ _ _
  refine X_seq ?_
  refine X_seq ?_
  refine X_rg fun R hR => ?_
  simp only [EVP, aops, astep, awant, aeff, aop, ev, St.put, pcall, List.map_nil, List.getElem?_cons_succ, List.getElem?_cons_zero, Option.getD_some, Option.map_some, if_true, List.set_cons_succ, List.set_cons_zero, List.nil_append, Bool.not_true, any13, awake_ok]
  with_reducible refine hR _ ?_
  clear hR R
  show X _ _ _ _
  refine X_ite (by simp only [ev, List.getElem?_cons_succ, List.getElem?_cons_zero, Option.getD_some]; exact rfl) ?_ ?_
  · intro b1
    have c1 := b1
    try simp only [Bool.not_eq_true', Bool.not_eq_false', decide_eq_true_eq, decide_eq_false_iff_not, beq_iff_eq, Int.not_lt, Int.not_le, ge_iff_le, gt_iff_lt, bne_iff_ne, ne_eq, bne_eq_false_iff_eq, beq_eq_false_iff_ne, Bool.and_eq_true, Bool.or_eq_false_iff] at c1
    refine X_seq ?_
    refine X_rg fun R hR => ?_
    simp only [aops, astep, awant, aeff, aop, ev, ofValue, St.put, Option.getD_some, Option.map_some, if_true, List.set_cons_succ, List.set_cons_zero, b1]
    with_reducible refine hR _ ?_
    clear hR R
    show X _ _ _ _
    refine X_ret ?_
    show resD _ _ _ = some _
    simp only [resD, resAll, resOne, resTup, Try.results12, EVP, List.getElem?_cons_succ, List.getElem?_cons_zero, D.good, if_true, Option.map_some] <;> (first | (rfl; done) | (simp_all; done) | (exfalso; simp_all; done))
  · intro b2
    have c2 := b2
    try simp only [] at c2
    refine X_skip ?_
    show X _ _ _ _
    refine X_seq ?_
    refine X_seq ?_
    have hbp := bigP_fn p
    have hva := valid_fn p
    refine X_y ?_
    refine Y_k 3 fun R hR => ?_
    simp only [EVP, aops, astep, awant, aeff, aop, mkD, ev, St.put, pcall, List.map_cons, List.map_nil, List.getElem?_cons_succ, List.getElem?_cons_zero, Option.getD_some, Option.map_some, if_true, List.set_cons_succ, List.set_cons_zero, List.length_cons, List.length_nil, List.drop_zero, List.take_succ_cons, List.take_zero, List.cons_append, List.nil_append, Nat.reduceAdd, Nat.reduceLeDiff, Nat.zero_add, ty_api_Program, any39, hbp, dG_agg]
    with_reducible refine hR _ ?_
    clear hR R
    simp only [List.drop_succ_cons, List.drop_zero]
    refine Y_if 11 (by simp only [ev, List.getElem?_cons_succ, List.getElem?_cons_zero, Option.getD_some]; exact rfl) ?_ ?_
    · intro b3
      have c3 := b3
      try simp only [Bool.not_eq_true', Bool.not_eq_false', decide_eq_true_eq, decide_eq_false_iff_not, beq_iff_eq, Int.not_lt, Int.not_le, ge_iff_le, gt_iff_lt, bne_iff_ne, ne_eq, bne_eq_false_iff_eq, beq_eq_false_iff_ne, Bool.and_eq_true, Bool.or_eq_false_iff] at c3
      refine Y_end fun R hR => ?_
      simp only [EVP, aops, astep, awant, aeff, aop, mkD, ev, ofValue, St.put, pcall, List.map_cons, List.map_nil, List.getElem?_cons_succ, List.getElem?_cons_zero, Option.getD_some, Option.map_some, Option.map_none, Option.bind_some, if_true, List.set_cons_succ, List.set_cons_zero, List.length_cons, List.length_nil, List.drop_zero, List.take_succ_cons, List.take_zero, List.cons_append, List.nil_append, Nat.reduceAdd, Nat.reduceLeDiff, Nat.zero_add, Bool.false_eq_true, if_false, bq_tf, ty_api_Program, any42, b3, dG_agg]
      with_reducible refine hR _ ?_
      clear hR R
      show X _ _ _ _
      refine X_true (by simp only [ev, List.getElem?_cons_succ, List.getElem?_cons_zero, Option.getD_some]) ?_
      refine X_seq ?_
      refine X_rg fun R hR => ?_
      simp only [aops, astep, awant, aeff, aop, ev, ofValue, St.put, Option.getD_some, Option.map_some, if_true, List.set_cons_succ, List.set_cons_zero]
      with_reducible refine hR _ ?_
      clear hR R
      show X _ _ _ _
      refine X_ret ?_
      show resD _ _ _ = some _
      simp only [resD, resAll, resOne, resTup, Try.results12, EVP, List.getElem?_cons_succ, List.getElem?_cons_zero, D.good, if_true, Option.map_some] <;> (first | (rfl; done) | (simp_all; done) | (exfalso; simp_all; done))
    · intro b4
      have c4 := b4
      try simp only [Bool.not_eq_true', Bool.not_eq_false', decide_eq_true_eq, decide_eq_false_iff_not, beq_iff_eq, Int.not_lt, Int.not_le, ge_iff_le, gt_iff_lt, bne_iff_ne, ne_eq, bne_eq_false_iff_eq, beq_eq_false_iff_ne, Bool.and_eq_true, Bool.or_eq_false_iff] at c4
      refine Y_end fun R hR => ?_
      simp only [EVP, aops, astep, awant, aeff, aop, mkD, ev, ofValue, St.put, pcall, List.map_cons, List.map_nil, List.getElem?_cons_succ, List.getElem?_cons_zero, Option.getD_some, Option.map_some, Option.bind_some, if_true, List.set_cons_succ, List.set_cons_zero, List.length_cons, List.length_nil, List.drop_zero, List.take_succ_cons, List.take_zero, List.cons_append, List.nil_append, Nat.reduceAdd, Nat.reduceLeDiff, Nat.zero_add, Bool.false_eq_true, if_false, beq_self_eq_true, ty_api_Program, any42, b4, hva, dG_agg]
      with_reducible refine hR _ ?_
      clear hR R
      show X _ _ _ _
      refine X_ite (by simp only [ev, List.getElem?_cons_succ, List.getElem?_cons_zero, Option.getD_some]; exact rfl) ?_ ?_
      · intro b5
        have c5 := b5
        try simp only [Bool.not_eq_true'] at c5
        refine X_seq ?_
        refine X_rg fun R hR => ?_
        simp only [aops, astep, awant, aeff, aop, ev, ofValue, St.put, Option.getD_some, Option.map_some, if_true, List.set_cons_succ, List.set_cons_zero, b5]
        with_reducible refine hR _ ?_
        clear hR R
        show X _ _ _ _
        refine X_ret ?_
        show resD _ _ _ = some _
        simp only [resD, resAll, resOne, resTup, Try.results12, EVP, List.getElem?_cons_succ, List.getElem?_cons_zero, D.good, if_true, Option.map_some] <;> (first | (rfl; done) | (simp_all; done) | (exfalso; simp_all; done))
      · intro b6
        have c6 := b6
        try simp only [Bool.not_eq_false'] at c6
        refine X_skip ?_
        show X _ _ _ _
        refine X_seq ?_
        refine X_seq ?_
        have b1 : bigP p = false := by first | assumption | (simp_all; done)
        have hv : validB p = true := by first | assumption | (simp_all; done)
        obtain ⟨v1, l1, p1⟩ := big_bd b1
        obtain ⟨bv, bp, bq, bm, bd⟩ := valid_bd hv
        have hbk : blockB p.main = true := by
          have h9 := hv
          simp only [validB, bodyB, Bool.and_eq_true] at h9
          exact h9.2.2
        have hde := o_ast_Depth p.main (by omega)
        have hsz := o_ast_Size p.main (by omega)
        have hib := o_ast_IsBlock p.main
        rw [hbk] at hib
        have hd1 : decide ((p.main.depth : Int) > 80) = false := by rw [decide_eq_false_iff_not]; omega
        have hd2 : decide ((p.main.size : Int) > 2000) = false := by rw [decide_eq_false_iff_not]; omega
        have hd3 : decide ((p.vars.length : Int) > 32) = false := by rw [decide_eq_false_iff_not]; omega
        refine X_rg fun R hR => ?_
        simp only [EVP, inr_i64, Int.reduceLE, Int.reduceNeg, aops, astep, awant, aeff, aop, abin, aint, mkD, ev, ofValue, St.put, pcall, ia_slice, List.map_cons, List.map_nil, List.getElem?_cons_succ, List.getElem?_cons_zero, Option.getD_some, Option.map_some, Option.bind_some, if_true, List.set_cons_succ, List.set_cons_zero, List.length_map, List.length_cons, List.length_nil, List.drop_succ_cons, List.drop_zero, List.take_succ_cons, List.take_zero, List.cons_append, List.nil_append, Nat.reduceAdd, Nat.reduceLeDiff, Nat.zero_add, Nat.add_zero, Bool.not_true, Bool.false_eq_true, if_false, and_self, reduceCtorEq, beq_self_eq_true, ty_s_api_VarDecl, ty_api_Node, ty_api_Program, und_api_VarDecl, any21, any31, any33, dN_agg, b6, hde, hsz, hib, hd1, hd2, hd3]
        with_reducible refine hR _ ?_
        clear hR R
        show X _ _ _ _
        refine X_false (by simp only [ev, List.getElem?_cons_succ, List.getElem?_cons_zero, Option.getD_some]) ?_
        refine X_skip ?_
        show X _ _ _ _
        refine X_seq ?_
        refine X_rg fun R hR => ?_
        simp only [EVP, aops, astep, awant, aeff, aop, mkD, astore, ev, St.put, List.getElem?_cons_succ, List.getElem?_cons_zero, Option.getD_some, Option.map_some, Option.bind_some, if_true, List.set_cons_succ, List.set_cons_zero, List.length_cons, List.length_nil, List.drop_succ_cons, List.drop_zero, List.take_succ_cons, List.take_zero, List.cons_append, List.nil_append, Nat.reduceAdd, Nat.reduceLeDiff, Nat.zero_add, and_self, ty_api_Program, dG_cells, dG_good, dG_agg]
        with_reducible refine hR _ ?_
        clear hR R
        show X _ _ _ _
        refine X_seq ?_
        refine X_seq ?_
        refine X_rg fun R hR => ?_
        simp only [EVP, inr_i64, Int.reduceLE, Int.reduceNeg, aops, astep, awant, aeff, aop, abin, aint, mkD, ev, ofValue, St.put, ia_slice, List.getElem?_cons_succ, List.getElem?_cons_zero, Option.getD_some, Option.map_some, if_true, List.set_cons_succ, List.set_cons_zero, List.length_map, List.length_cons, List.length_nil, List.drop_succ_cons, List.drop_zero, List.take_succ_cons, List.take_zero, Nat.reduceAdd, Nat.reduceLeDiff, Nat.zero_add, Bool.false_eq_true, if_false, and_self, reduceCtorEq, ty_s_api_Proc, ty_api_Program, und_api_Proc]
        with_reducible refine hR _ ?_
        clear hR R
        show X _ _ _ _
        refine X_ite (by simp only [ev, List.getElem?_cons_succ, List.getElem?_cons_zero, Option.getD_some]; exact rfl) ?_ ?_
        · intro b7
          have c7 := b7
          try simp only [decide_eq_true_eq, gt_iff_lt] at c7
          refine X_seq ?_
          have hp0 : 0 < p.procs.length := by first | omega | (simp at *; omega)
          obtain ⟨jj, hjj⟩ : ∃ jj : Nat, k.toNat % p.procs.length = jj := ⟨_, rfl⟩
          have hj0 : jj < p.procs.length := by have := Nat.mod_lt k.toNat hp0; omega
          have hkc := u8_conv hk0 hk1
          have htm := tmod_nat hk0 p.procs.length
          rw [hjj] at htm
          clear hjj
          have hz : ((p.procs.length : Int) = 0) = False := eq_false (by omega)
          refine X_rg fun R hR => ?_
          simp only [EVP, aops, astep, awant, aeff, aop, abin, aint, mkD, ev, St.put, ia_slice, List.getElem?_cons_succ, List.getElem?_cons_zero, Option.getD_some, Option.map_some, if_true, List.set_cons_succ, List.set_cons_zero, List.length_map, List.length_cons, List.length_nil, List.drop_succ_cons, List.drop_zero, List.take_succ_cons, List.take_zero, Nat.reduceAdd, Nat.reduceLeDiff, Nat.zero_add, Bool.false_eq_true, if_false, reduceCtorEq, ty_s_api_Proc, ty_api_Program, und_api_Proc, und_int', und_uint8', b7, hkc, htm, hz]
          with_reducible refine hR _ ?_
          clear hR R
          show X _ _ _ _
          have hT : (p.procs.map dP).take jj = (p.procs.take jj).map dP := by simp
          have hD : (p.procs.map dP).drop (jj + 1) = (p.procs.drop (jj + 1)).map dP := by simp
          have hle : ((jj : Int) ≤ (p.procs.length : Int)) = True := eq_true (by omega)
          have hle2 : (((jj + 1 : Nat) : Int) ≤ (p.procs.length : Int)) = True := eq_true (by omega)
          have hle0 : ((0 : Int) ≤ ((jj + 1 : Nat) : Int)) = True := eq_true (by omega)
          have hw1 : IntKind.i64.wrap ((jj : Int) + 1) = ((jj + 1 : Nat) : Int) := nat_succ (by omega)
          have hTk : ((p.procs.drop (jj + 1)).map dP).take (p.procs.length - (jj + 1)) = (p.procs.drop (jj + 1)).map dP := by rw [List.take_of_length_le (by simp)]
          obtain ⟨o1, n1, nx1, lv1, ha1, hap1⟩ := (Acc.own (e := 68) (sz := 6) (st := 0) (L := []) (lv := [0]) (by simp)).appN (P := Try.prog) (t := 50) und_api_Proc inf_api_Proc_eq inf_api_Proc_size (by omega) (by rw [inf_api_Proc_bytes]; omega) inf_api_Proc_zc 1 (if (p.procs.map dP).isEmpty = true then 0 else 6) ((p.procs.take jj).map dP) (by simp; omega) (fun h => sl_n (j := 0) (by rw [List.length_map]; omega))
          rw [List.nil_append] at ha1 hap1
          obtain ⟨o2, n2, nx2, lv2, ha2, hap2⟩ := ha1.appN (P := Try.prog) (t := 50) und_api_Proc inf_api_Proc_eq inf_api_Proc_size (by omega) (by rw [inf_api_Proc_bytes]; omega) inf_api_Proc_zc nx1 (if (p.procs.map dP).isEmpty = true then 0 else 6) ((p.procs.drop (jj + 1)).map dP) (by simp; omega) (fun h => sl_n (j := 0) (by rw [List.length_map]; omega))
          rw [← List.map_append] at ha2 hap2
          refine X_rg fun R hR => ?_
          simp only [EVP, inr_i64, Int.reduceLE, Int.reduceNeg, nat_to, aops, astep, awant, aeff, aop, abin, aint, mkD, idx, aslice, abuild, astore, ev, ofValue, St.put, gd_slice, ia_slice, cl_slice, List.map_nil, List.getElem?_cons_succ, List.getElem?_cons_zero, Option.getD_some, Option.map_some, Option.map_none, if_true, List.set_cons_succ, List.set_cons_zero, List.length_map, List.length_cons, List.length_nil, List.drop_succ_cons, List.drop_zero, List.take_succ_cons, List.take_zero, List.cons_append, List.nil_append, Nat.reduceAdd, Nat.reduceLeDiff, Nat.reduceLT, Nat.zero_add, Bool.false_eq_true, if_false, and_self, reduceCtorEq, List.all_nil, Option.isSome_some, Nat.reduceMul, rng_0, ty_s_api_Proc, ty_api_Program, und_api_Proc, siz_api_Proc, inf_api_Proc_eq, inf_api_Proc_size, inf_api_Proc_zero, hle, hle2, hw1, hT, hD, hap1, hap2, sl_or, Nat.sub_zero, Nat.zero_le, List.drop_zero, nat_le, hTk]
          with_reducible refine hR _ ?_
          clear hR R
          show X _ _ _ _
          refine X_seq ?_
          refine X_seq ?_
          refine X_rg fun R hR => ?_
          simp only [EVP, inr_i64, Int.reduceLE, Int.reduceNeg, aops, astep, awant, aeff, aop, abin, aint, mkD, ev, ofValue, St.put, ia_slice, List.getElem?_cons_succ, List.getElem?_cons_zero, Option.getD_some, Option.map_some, if_true, List.set_cons_succ, List.set_cons_zero, List.length_map, List.length_cons, List.length_nil, List.drop_zero, List.take_succ_cons, List.take_zero, Nat.reduceAdd, Nat.reduceLeDiff, Nat.zero_add, Nat.add_zero, Bool.false_eq_true, if_false, and_self, reduceCtorEq, ty_s_api_VarDecl, ty_api_Program, und_api_VarDecl]
          with_reducible refine hR _ ?_
          clear hR R
          show X _ _ _ _
          refine X_ite (by simp only [ev, List.getElem?_cons_succ, List.getElem?_cons_zero, Option.getD_some]; exact rfl) ?_ ?_
          · intro b8
            have c8 := b8
            try simp only [decide_eq_true_eq, gt_iff_lt] at c8
            have hv0 : 0 < p.vars.length := by first | omega | (simp at *; omega)
            have hle1 : ((1 : Int) ≤ (p.vars.length : Int)) = True := eq_true (by omega)
            have hle1n : (1 ≤ p.vars.length) = True := eq_true (by omega)
            have hz01 : (((0 : Nat) : Int) ≤ 1) = True := eq_true (by omega)
            have hTv : ((p.vars.map dV).drop 1).take (p.vars.length - 1) = (p.vars.drop 1).map dV := by rw [← List.map_drop, List.take_of_length_le (by simp)]
            refine X_rg fun R hR => ?_
            simp only [EVP, inr_i64, Int.reduceLE, Int.reduceNeg, aops, astep, awant, aeff, aop, mkD, idx, aslice, astore, ev, ofValue, St.put, gd_slice, ia_slice, cl_slice, List.getElem?_cons_succ, List.getElem?_cons_zero, Option.getD_some, Option.map_some, Option.map_none, if_true, List.set_cons_succ, List.set_cons_zero, List.length_map, List.length_cons, List.length_nil, List.drop_succ_cons, List.drop_zero, List.take_succ_cons, List.take_zero, List.cons_append, List.nil_append, Nat.reduceAdd, Nat.reduceLeDiff, Nat.zero_add, Nat.add_zero, Bool.false_eq_true, if_false, and_self, reduceCtorEq, Option.isSome_some, ty_s_api_VarDecl, ty_api_Program, und_api_VarDecl, siz_api_VarDecl, inf_api_VarDecl_eq, b8, hle1, hz01, hTv, Int.toNat_one, sl_or, List.drop_zero]
            with_reducible refine hR _ ?_
            clear hR R
            show X _ _ _ _
            refine X_seq ?_
            have hsub : (p.procs.take jj ++ p.procs.drop (jj + 1)).Sublist p.procs := by
              have h3 : p.procs.take jj ++ p.procs.drop jj = p.procs := List.take_append_drop jj _
              conv => rhs; rw [← h3]
              refine List.Sublist.append (List.Sublist.refl _) ?_
              rw [← List.drop_drop (i := 1) (j := jj)]
              exact List.drop_sublist 1 _
            have hvq := valid_fn ⟨p.vars.drop 1, (p.procs.take jj ++ p.procs.drop (jj + 1)), p.main⟩
            rw [valid_sub hv (List.drop_sublist 1 _) hsub] at hvq
            have hv1 := q1_fn (m := p.main) (slV_st (n := (if (p.vars.map dV).isEmpty = true then 0 else 3)) (fun _ => sl_n (j := 0) (by rw [List.length_map]; omega))) (accP_st ha2) hvq
            have hs0 := same_fn p ⟨p.vars.drop 1, (p.procs.take jj ++ p.procs.drop (jj + 1)), p.main⟩ v1 l1 p1
            rw [same_ne (by right; rw [List.length_append, List.length_take, List.length_drop]; omega)] at hs0
            have hz83 : (IntKind.i64.wrap ((p.procs.length : Int) + (p.vars.length : Int)) == 0) = false := by rw [wrap_sm (by omega) (by omega), beq_eq_false_iff_ne]; omega
            have hs1 := q2_fn (p := p) (m := p.main) (slV_st (n := (if (p.vars.map dV).isEmpty = true then 0 else 3)) (fun _ => sl_n (j := 0) (by rw [List.length_map]; omega))) (accP_st ha2) hs0
            unfold QD at hv1 hs1
            have hGa : D.agg [.slice .imm (if (p.vars.map dV).isEmpty = true then 0 else 3) (p.vars.map dV), .slice .imm (if (p.procs.map dP).isEmpty = true then 0 else 6) (p.procs.map dP), .int .u8 p.main.kind, .int .i64 p.main.num, .str p.main.name, .slice .imm (if (p.main.kids.map dN).isEmpty = true then 0 else 4) (p.main.kids.map dN)] = dG p := rfl
            refine X_rg fun R hR => ?_
            simp only [EVP, inr_i64, Int.reduceLE, Int.reduceNeg, aops, astep, awant, aeff, aop, abin, aint, mkD, ev, ofValue, St.put, pcall, ia_slice, List.map_cons, List.map_nil, List.getElem?_cons_succ, List.getElem?_cons_zero, Option.getD_some, Option.map_some, Option.bind_some, if_true, List.set_cons_succ, List.set_cons_zero, List.length_map, List.length_cons, List.length_nil, List.drop_succ_cons, List.drop_zero, List.take_succ_cons, List.take_zero, List.cons_append, List.nil_append, Nat.reduceAdd, Nat.reduceLeDiff, Nat.zero_add, Nat.add_zero, Bool.false_eq_true, if_false, and_self, reduceCtorEq, beq_self_eq_true, ty_s_api_VarDecl, ty_s_api_Proc, ty_api_Program, und_api_VarDecl, und_api_Proc, und_bool', any40, any42, hv1, hs1, hz83, hGa, und_bool']
            with_reducible refine hR _ ?_
            clear hR R
            show X _ _ _ _
            refine X_ret ?_
            show resD _ _ _ = some _
            simp only [resD, resAll, resOne, resTup, Try.results12, EVP, List.getElem?_cons_succ, List.getElem?_cons_zero, D.good, if_true, Option.map_some] <;> (first | (rfl; done) | (simp_all; done) | (exfalso; simp_all; done))
          · intro b9
            have c9 := b9
            try simp only [decide_eq_false_iff_not, Int.not_lt, gt_iff_lt] at c9
            refine X_skip ?_
            show X _ _ _ _
            refine X_seq ?_
            have hsub : (p.procs.take jj ++ p.procs.drop (jj + 1)).Sublist p.procs := by
              have h3 : p.procs.take jj ++ p.procs.drop jj = p.procs := List.take_append_drop jj _
              conv => rhs; rw [← h3]
              refine List.Sublist.append (List.Sublist.refl _) ?_
              rw [← List.drop_drop (i := 1) (j := jj)]
              exact List.drop_sublist 1 _
            have hvq := valid_fn ⟨p.vars, (p.procs.take jj ++ p.procs.drop (jj + 1)), p.main⟩
            rw [valid_sub hv (List.Sublist.refl _) hsub] at hvq
            have hv1 := q1_fn (m := p.main) (sl_strip (map_strip (f := dV) (fun _ => rfl) _)) (accP_st ha2) hvq
            have hs0 := same_fn p ⟨p.vars, (p.procs.take jj ++ p.procs.drop (jj + 1)), p.main⟩ v1 l1 p1
            rw [same_ne (by right; rw [List.length_append, List.length_take, List.length_drop]; omega)] at hs0
            have hz83 : (IntKind.i64.wrap ((p.procs.length : Int) + (p.vars.length : Int)) == 0) = false := by rw [wrap_sm (by omega) (by omega), beq_eq_false_iff_ne]; omega
            have hs1 := q2_fn (p := p) (m := p.main) (sl_strip (map_strip (f := dV) (fun _ => rfl) _)) (accP_st ha2) hs0
            unfold QD at hv1 hs1
            have hGa : D.agg [.slice .imm (if (p.vars.map dV).isEmpty = true then 0 else 3) (p.vars.map dV), .slice .imm (if (p.procs.map dP).isEmpty = true then 0 else 6) (p.procs.map dP), .int .u8 p.main.kind, .int .i64 p.main.num, .str p.main.name, .slice .imm (if (p.main.kids.map dN).isEmpty = true then 0 else 4) (p.main.kids.map dN)] = dG p := rfl
            refine X_rg fun R hR => ?_
            simp only [EVP, inr_i64, Int.reduceLE, Int.reduceNeg, aops, astep, awant, aeff, aop, abin, aint, mkD, ev, ofValue, St.put, pcall, ia_slice, List.map_cons, List.map_nil, List.getElem?_cons_succ, List.getElem?_cons_zero, Option.getD_some, Option.map_some, Option.bind_some, if_true, List.set_cons_succ, List.set_cons_zero, List.length_map, List.length_cons, List.length_nil, List.drop_succ_cons, List.drop_zero, List.take_succ_cons, List.take_zero, List.cons_append, List.nil_append, Nat.reduceAdd, Nat.reduceLeDiff, Nat.zero_add, Nat.add_zero, Bool.false_eq_true, if_false, and_self, reduceCtorEq, beq_self_eq_true, ty_s_api_VarDecl, ty_s_api_Proc, ty_api_Program, und_api_VarDecl, und_api_Proc, und_bool', any40, any42, b9, hv1, hs1, hz83, hGa, und_bool']
            with_reducible refine hR _ ?_
            clear hR R
            show X _ _ _ _
            refine X_ret ?_
            show resD _ _ _ = some _
            simp only [resD, resAll, resOne, resTup, Try.results12, EVP, List.getElem?_cons_succ, List.getElem?_cons_zero, D.good, if_true, Option.map_some] <;> (first | (rfl; done) | (simp_all; done) | (exfalso; simp_all; done))
        · intro b10
          have c10 := b10
          try simp only [decide_eq_false_iff_not, Int.not_lt, gt_iff_lt] at c10
          refine X_skip ?_
          show X _ _ _ _
          refine X_seq ?_
          refine X_seq ?_
          refine X_rg fun R hR => ?_
          simp only [EVP, inr_i64, Int.reduceLE, Int.reduceNeg, aops, astep, awant, aeff, aop, abin, aint, mkD, ev, ofValue, St.put, ia_slice, List.getElem?_cons_succ, List.getElem?_cons_zero, Option.getD_some, Option.map_some, if_true, List.set_cons_succ, List.set_cons_zero, List.length_map, List.length_cons, List.length_nil, List.drop_zero, List.take_succ_cons, List.take_zero, Nat.reduceAdd, Nat.reduceLeDiff, Nat.zero_add, Nat.add_zero, Bool.false_eq_true, if_false, and_self, reduceCtorEq, ty_s_api_VarDecl, ty_api_Program, und_api_VarDecl, b10]
          with_reducible refine hR _ ?_
          clear hR R
          show X _ _ _ _
          refine X_ite (by simp only [ev, List.getElem?_cons_succ, List.getElem?_cons_zero, Option.getD_some]; exact rfl) ?_ ?_
          · intro b11
            have c11 := b11
            try simp only [decide_eq_true_eq, gt_iff_lt] at c11
            have hv0 : 0 < p.vars.length := by first | omega | (simp at *; omega)
            have hle1 : ((1 : Int) ≤ (p.vars.length : Int)) = True := eq_true (by omega)
            have hle1n : (1 ≤ p.vars.length) = True := eq_true (by omega)
            have hz01 : (((0 : Nat) : Int) ≤ 1) = True := eq_true (by omega)
            have hTv : ((p.vars.map dV).drop 1).take (p.vars.length - 1) = (p.vars.drop 1).map dV := by rw [← List.map_drop, List.take_of_length_le (by simp)]
            refine X_rg fun R hR => ?_
            simp only [EVP, inr_i64, Int.reduceLE, Int.reduceNeg, aops, astep, awant, aeff, aop, mkD, idx, aslice, astore, ev, ofValue, St.put, gd_slice, ia_slice, cl_slice, List.getElem?_cons_succ, List.getElem?_cons_zero, Option.getD_some, Option.map_some, Option.map_none, if_true, List.set_cons_succ, List.set_cons_zero, List.length_map, List.length_cons, List.length_nil, List.drop_succ_cons, List.drop_zero, List.take_succ_cons, List.take_zero, List.cons_append, List.nil_append, Nat.reduceAdd, Nat.reduceLeDiff, Nat.zero_add, Nat.add_zero, Bool.false_eq_true, if_false, and_self, reduceCtorEq, Option.isSome_some, ty_s_api_VarDecl, ty_api_Program, und_api_VarDecl, siz_api_VarDecl, inf_api_VarDecl_eq, b11, hle1, hz01, hTv, Int.toNat_one, sl_or, List.drop_zero]
            with_reducible refine hR _ ?_
            clear hR R
            show X _ _ _ _
            refine X_seq ?_
            have hvq := valid_fn ⟨p.vars.drop 1, p.procs, p.main⟩
            rw [valid_sub hv (List.drop_sublist 1 _) (List.Sublist.refl _)] at hvq
            have hv1 := q1_fn (m := p.main) (slV_st (n := (if (p.vars.map dV).isEmpty = true then 0 else 3)) (fun _ => sl_n (j := 0) (by rw [List.length_map]; omega))) (slP_st _) hvq
            have hs0 := same_fn p ⟨p.vars.drop 1, p.procs, p.main⟩ v1 l1 p1
            rw [same_ne (by left; rw [List.length_drop]; omega)] at hs0
            have hz83 : (IntKind.i64.wrap ((p.procs.length : Int) + (p.vars.length : Int)) == 0) = false := by rw [wrap_sm (by omega) (by omega), beq_eq_false_iff_ne]; omega
            have hs1 := q2_fn (p := p) (m := p.main) (slV_st (n := (if (p.vars.map dV).isEmpty = true then 0 else 3)) (fun _ => sl_n (j := 0) (by rw [List.length_map]; omega))) (slP_st _) hs0
            unfold QD at hv1 hs1
            have hGa : D.agg [.slice .imm (if (p.vars.map dV).isEmpty = true then 0 else 3) (p.vars.map dV), .slice .imm (if (p.procs.map dP).isEmpty = true then 0 else 6) (p.procs.map dP), .int .u8 p.main.kind, .int .i64 p.main.num, .str p.main.name, .slice .imm (if (p.main.kids.map dN).isEmpty = true then 0 else 4) (p.main.kids.map dN)] = dG p := rfl
            refine X_rg fun R hR => ?_
            simp only [EVP, inr_i64, Int.reduceLE, Int.reduceNeg, aops, astep, awant, aeff, aop, abin, aint, mkD, ev, ofValue, St.put, pcall, ia_slice, List.map_cons, List.map_nil, List.getElem?_cons_succ, List.getElem?_cons_zero, Option.getD_some, Option.map_some, Option.bind_some, if_true, List.set_cons_succ, List.set_cons_zero, List.length_map, List.length_cons, List.length_nil, List.drop_succ_cons, List.drop_zero, List.take_succ_cons, List.take_zero, List.cons_append, List.nil_append, Nat.reduceAdd, Nat.reduceLeDiff, Nat.zero_add, Nat.add_zero, Bool.false_eq_true, if_false, and_self, reduceCtorEq, beq_self_eq_true, ty_s_api_VarDecl, ty_s_api_Proc, ty_api_Program, und_api_VarDecl, und_api_Proc, und_bool', any40, any42, hv1, hs1, hz83, hGa, und_bool']
            with_reducible refine hR _ ?_
            clear hR R
            show X _ _ _ _
            refine X_ret ?_
            show resD _ _ _ = some _
            simp only [resD, resAll, resOne, resTup, Try.results12, EVP, List.getElem?_cons_succ, List.getElem?_cons_zero, D.good, if_true, Option.map_some] <;> (first | (rfl; done) | (simp_all; done) | (exfalso; simp_all; done))
          · intro b12
            have c12 := b12
            try simp only [decide_eq_false_iff_not, Int.not_lt, gt_iff_lt] at c12
            refine X_skip ?_
            show X _ _ _ _
            refine X_seq ?_
            have hv1 := valid_fn p
            rw [hv] at hv1
            have hs1 := same_fn p p v1 l1 p1
            rw [sameB_refl] at hs1
            have hz83 : (IntKind.i64.wrap ((p.procs.length : Int) + (p.vars.length : Int)) == 0) = true := by rw [wrap_sm (by omega) (by omega), beq_iff_eq]; omega
            have hGa : D.agg [.slice .imm (if (p.vars.map dV).isEmpty = true then 0 else 3) (p.vars.map dV), .slice .imm (if (p.procs.map dP).isEmpty = true then 0 else 6) (p.procs.map dP), .int .u8 p.main.kind, .int .i64 p.main.num, .str p.main.name, .slice .imm (if (p.main.kids.map dN).isEmpty = true then 0 else 4) (p.main.kids.map dN)] = dG p := rfl
            refine X_rg fun R hR => ?_
            simp only [EVP, inr_i64, Int.reduceLE, Int.reduceNeg, aops, astep, awant, aeff, aop, abin, aint, mkD, ev, ofValue, St.put, pcall, ia_slice, List.map_cons, List.map_nil, List.getElem?_cons_succ, List.getElem?_cons_zero, Option.getD_some, Option.map_some, Option.bind_some, if_true, List.set_cons_succ, List.set_cons_zero, List.length_map, List.length_cons, List.length_nil, List.drop_succ_cons, List.drop_zero, List.take_succ_cons, List.take_zero, List.cons_append, List.nil_append, Nat.reduceAdd, Nat.reduceLeDiff, Nat.zero_add, Nat.add_zero, Bool.false_eq_true, if_false, and_self, reduceCtorEq, beq_self_eq_true, ty_s_api_VarDecl, ty_s_api_Proc, ty_api_Program, und_api_VarDecl, und_api_Proc, und_bool', any40, any42, b12, hv1, hs1, hz83, hGa, und_bool']
            with_reducible refine hR _ ?_
            clear hR R
            show X _ _ _ _
            refine X_ret ?_
            show resD _ _ _ = some _
            simp only [resD, resAll, resOne, resTup, Try.results12, EVP, List.getElem?_cons_succ, List.getElem?_cons_zero, D.good, if_true, Option.map_some] <;> (first | (rfl; done) | (simp_all; done) | (exfalso; simp_all; done))

end Go.Proofs.Ytkngdmilgfgclaa
