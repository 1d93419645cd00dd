/- The law CheckerUpdates: its walk. -/
import Derived.Test.YtmglacjcefajlaaTn
import Derived.Test.YtmglacjcefajlaaDh
import Derived.Test.YtmglacjcefajlaaSo9
namespace Go.Proofs.Ytmglacjcefajlaa
open Go.RowKit

theorem map_avoid {α : Type} {f : α → D} {i : Nat} (h : ∀ x, (f x).avoid i = true) (l : List α) : D.avoids i (l.map f) = true := by
 rw [D.avoids_all, List.all_eq_true]; intro x hx; obtain ⟨y, _, rfl⟩ := List.mem_map.1 hx; exact h y
theorem dNs_avoid2 (i : Nat) (c : List Tr) : D.avoids i (c.map dN) = true := map_avoid (dN_avoid i) c
theorem dVs_avoid (i : Nat) (c : List Vd) : D.avoids i (c.map dV) = true := map_avoid (fun _ => rfl) c
theorem dP_avoid (i : Nat) (p : Pr) : (dP p).avoid i = true := by simp only [dP, D.avoid, D.avoids, sl, dVs_avoid, dNs_avoid2, Bool.and_self]
theorem dPs_avoid (i : Nat) (c : List Pr) : D.avoids i (c.map dP) = true := map_avoid (dP_avoid i) c
theorem dG_avoid (i : Nat) (p : Pg) : (dG p).avoid i = true := by simp only [dG, D.avoid, D.avoids, sl, dVs_avoid, dPs_avoid, dNs_avoid2, Bool.and_self]

/-- the cells of procedures -/
def pC (l : List Pr) : List D := (l.map dP).flatMap D.cells
def pcs (q : Pr) : List D := [.str q.name, sl 3 (q.params.map dV), .int .u8 q.body.kind, .int .i64 q.body.num, .str q.body.name, sl 4 (q.body.kids.map dN)]
theorem dP_pcs (q : Pr) : (dP q).cells = pcs q := by unfold dP pcs; rfl
theorem pC_cons (q : Pr) (l : List Pr) : pC (q :: l) = pcs q ++ pC l := by unfold pC; rw [zmc, List.flatMap_cons, dP_pcs]
theorem pC_len : ∀ l : List Pr, (pC l).length = l.length * 6
 | [] => rfl
 | v :: l => by rw [pC_cons, zla, pC_len l]; simp only [pcs, zlc, zln]; omega
theorem pC_get : ∀ (l : List Pr) (j : Nat) (h : j < l.length), ((pC l).drop (j * 6 + 2)).take 4 = [.int .u8 l[j].body.kind, .int .i64 l[j].body.num, .str l[j].body.name, sl 4 (l[j].body.kids.map dN)]
 | [], _, h => absurd h (Nat.not_lt_zero _)
 | v :: l, 0, _ => by rw [pC_cons]; rfl
 | v :: l, j + 1, h => by
  have ih := pC_get l j (by simpa using h)
  rw [pC_cons, show (j + 1) * 6 + 2 = 6 + (j * 6 + 2) from by omega, ← List.drop_drop]
  exact ih
theorem pC_set : ∀ (l : List Pr) (j : Nat) (h : j < l.length) (t : Tr), (pC l).take (j * 6 + 2) ++ ([.int .u8 t.kind, .int .i64 t.num, .str t.name, sl 4 (t.kids.map dN)] ++ (pC l).drop (j * 6 + 2 + 4)) = pC (l.set j ⟨l[j].name, l[j].params, t⟩)
 | [], _, h, _ => absurd h (Nat.not_lt_zero _)
 | v :: l, 0, _, t => by rw [pC_cons, zs0, pC_cons]; rfl
 | v :: l, j + 1, h, t => by
  have ih := pC_set l j (by simpa using h) t
  have e1 : (pcs v ++ pC l).take ((j + 1) * 6 + 2) = pcs v ++ (pC l).take (j * 6 + 2) := by
   rw [show (j + 1) * 6 + 2 = (pcs v).length + (j * 6 + 2) from by show _ = 6 + _; omega]; exact List.take_length_add_append _
  have e2 : (pcs v ++ pC l).drop ((j + 1) * 6 + 2 + 4) = (pC l).drop (j * 6 + 2 + 4) := by
   rw [show (j + 1) * 6 + 2 + 4 = (pcs v).length + (j * 6 + 2 + 4) from by show _ = 6 + _; omega]; exact List.drop_length_add_append _
  rw [pC_cons, zs1, pC_cons, e1, e2, zaa]
  exact congrArg (pcs v ++ ·) ih
theorem pcs_av (i : Nat) (q : Pr) : D.avoids i (pcs q) = true := by simp only [pcs, D.avoid, D.avoids, sl, dVs_avoid, dNs_avoid2, Bool.and_self]
theorem pC_av (i : Nat) : ∀ l : List Pr, D.avoids i (pC l) = true
 | [] => rfl
 | v :: l => by rw [pC_cons, avoids_app, pcs_av, pC_av i l]; rfl
theorem pC_six (l : List Pr) : ∀ d ∈ l.map dP, d.cells.length = 6 := fun d hd => by obtain ⟨x, _, rfl⟩ := List.mem_map.1 hd; rw [dP_pcs]; rfl
/-- the first j of them turned -/
def trK (c : Int) (l : List Pr) (j : Nat) : List Pr := (l.take j).map (trQ c) ++ l.drop j
theorem trK_len (c : Int) (l : List Pr) (j : Nat) : (trK c l j).length = l.length := by
 unfold trK; rw [zla, zlm, List.length_take, List.length_drop]; omega
theorem trK_at {c : Int} {l : List Pr} {j : Nat} (h : j < l.length) (h' : j < (trK c l j).length) : (trK c l j)[j] = l[j] := by
 have : (trK c l j)[j]? = some l[j] := by
  unfold trK
  rw [List.getElem?_append_right (by simp; omega), zlm, List.length_take, Nat.min_eq_left (Nat.le_of_lt h), Nat.sub_self, List.getElem?_drop, Nat.add_zero, List.getElem?_eq_getElem h]
 exact (List.getElem?_eq_some_iff.1 this).2
theorem trK_step {c : Int} {l : List Pr} {j : Nat} (h : j < l.length) : (trK c l j).set j (trQ c l[j]) = trK c l (j + 1) := by
 unfold trK
 rw [List.set_append_right _ _ (by simp; omega), List.drop_eq_getElem_cons h, List.take_succ_eq_append_getElem h, List.map_append]
 simp [Nat.min_eq_left (Nat.le_of_lt h)]
 rw [List.drop_eq_getElem_cons h, zs0]
theorem trK_all (c : Int) (l : List Pr) : trK c l l.length = l.map (trQ c) := by unfold trK; simp
/-- slots that a freezing of box i can turn: the row and places in it -/
def Bq (i n N : Nat) (d : D) : Prop := d.avoid i = true ∨ d = .bsl i 0 n N ∨ ∃ off, off ≤ N * n ∧ d = .bsl i off 0 0
theorem Bq.fz {i n : Nat} {l : List D} {d : D} (hn : 0 < n) (h4 : ∀ d ∈ l, d.cells.length = n) (h : Bq i n l.length d) : ∃ d', Fz i (l.flatMap D.cells) d d' := by
 rcases h with h | rfl | ⟨off, hk, rfl⟩
 ·exact ⟨d, .keep d h⟩
 ·exact ⟨_, Fz.row (l := l) rfl rfl hn h4⟩
 ·exact ⟨.elem (.agg []), .bpt off 0 0 (.agg []) rfl (by rw [fm_len h4]; exact hk)⟩
inductive BqL (i n N : Nat) : List D → Prop
 | nil : BqL i n N []
 | cons {d : D} {l : List D} (h : Bq i n N d) (t : BqL i n N l) : BqL i n N (d :: l)
theorem BqL.at {i n N : Nat} {l : List D} (h : BqL i n N l) : ∀ t : Nat, Bq i n N (nthD l t) := by
 induction h with
 | nil => intro t; exact .inl rfl
 | cons h _ ih =>
  intro t
  cases t with
  | zero => exact h
  | succ t => exact ih t
theorem BqL.slot {i n N : Nat} {fr : List D} {bx : List (List D)} {nx : Nat} {lv : List Nat} (h : BqL i n N fr) : ∀ t, Bq i n N (slotOf ⟨fr, bx, nx, lv⟩ t) := h.at
/-- turned, as a contract of the environment -/
def TuC : Nat → List D → D → Prop := fun k a d => k = 20 ∧ ∃ (t : Tr) (c : Int), t.size ≤ 1000000 ∧ a = [dN t, .int .u8 c] ∧ d = dN (trT c t)
noncomputable def EVt : Env := EV.by TuC
theorem EVtP : EVt.P = Try.prog := rfl
theorem EVt_ok : EVt.Ok := by_ok EV_ok fun k a d ⟨hk, t, c, h1, ha, hd⟩ => by
 subst hk ha hd
 exact ⟨dN_under 0 _, dN_strip _, turn_any c t h1⟩
theorem turn_t (c : Int) (t : Tr) (h : t.size ≤ 1000000) : fn EVt 20 [dN t, .int .u8 c] = some (dN (trT c t)) := by
 refine by_fn (by simp only [plain, List.all_cons, List.all_nil, dN_pl, int_pl, Bool.and_true]) (by simp only [zmc, zmn, dN_strip, D.strip]) rfl rfl ⟨rfl, t, c, h, rfl, rfl⟩ ?_
 rintro d' ⟨_, t', c', _, h1, rfl⟩
 have h2 := dN_one (List.cons.inj h1).1
 have h3 := (List.cons.inj (List.cons.inj h1).2).1
 simp only [D.int.injEq, true_and] at h3
 rw [h2, h3]
theorem awake_t : fn EVt 11 [] = some (.bool true) := by_up awake_ok
theorem upd_c {to : Int} (h0 : 0 ≤ to) : IntKind.u8.wrap (40 + to.tmod 3) = 40 + to.tmod 3 ∧ updK (40 + to.tmod 3) = true := by
 rw [Int.tmod_eq_emod_of_nonneg h0]
 have h1 := Int.emod_nonneg to (show (3 : Int) ≠ 0 by omega)
 have h2 := Int.emod_lt_of_pos to (show (0 : Int) < 3 by omega)
 refine ⟨by simp only [IntKind.wrap, IntKind.bits, IntKind.signed]; simp; omega, ?_⟩
 unfold updK
 have : to % 3 = 0 ∨ to % 3 = 1 ∨ to % 3 = 2 := by omega
 rcases this with h | h | h <;> rw [h] <;> rfl
set_option maxRecDepth 100000 in
set_option maxHeartbeats 8000000 in
theorem law_cu (p : Pg) (to c : Int) (hcw0 : IntKind.u8.wrap (40 + to.tmod 3) = c) (hcu : updK c = true) (hv0 : 0 < p.procs.length) : PContract Try.prog 6 [dG p, .int .u8 to] (.bool true) := by
 have hn6i : (if (p.procs.map dP).isEmpty = true then 0 else 6) = 6 := sl_n (j := 0) (by simpa using hv0)
 have hn6 : ((if (p.procs.map dP).isEmpty = true then 0 else 6) = 6) = True := eq_true hn6i
 refine S_pure (f := _) Try.func6 rfl (by simp only [List.all_cons, List.all_nil, dG_pl, int_pl, Bool.and_true]) (by simp only [zmc, zmn, dG_strip, D.strip]) ?_
 simp only [enterSt, Try.ntmps6, zlc, zln, Nat.reduceAdd, Nat.reduceSub, zr1, zr0, zca, zna]
 refine S_seq ?_
 refine S_of_X EVt_ok (by kernel_rfl) ?_
 refine X_rg fun R hR => ?_
 simp only [aops, astep, awant, aeff, aop, ev, ofValue, St.put, zg0, zgd, zmo, if_true, zs1, zs0, zln, zna, dG_cells, dG_good]
 with_reducible refine hR _ ?_
 clear hR R
 show S _ _ _ _ _
 refine S_seq ?_
 refine S_seq ?_
 refine S_of_X EVt_ok (by kernel_rfl) ?_
 refine X_rg fun R hR => ?_
 simp only [EVtP, aops, astep, awant, aeff, aop, ev, St.put, pcall, zmn, zg1, zg0, zgd, zmo, if_true, zs1, zs0, zna, Bool.not_true, any11, awake_t]
 with_reducible refine hR _ ?_
 clear hR R
 show S _ _ _ _ _
 refine S_ite (by simp only [ev, zg1, zg0, zgd]; exact rfl) ?_ ?_
 ·intro b1
  have c1 := b1
  try simp only [znt, znf, decide_eq_true_eq, decide_eq_false_iff_not, beq_iff_eq, Int.not_lt, Int.not_le, ge_iff_le, gt_iff_lt, bne_iff_ne, ne_eq, bne_eq_false_iff_eq, beq_eq_false_iff_ne, zat, zof] at c1
  refine S_seq ?_
  refine S_of_X EVt_ok (by kernel_rfl) ?_
  refine X_rg fun R hR => ?_
  simp only [aops, astep, awant, aeff, aop, ev, ofValue, St.put, zgd, zmo, if_true, zs1, zs0, b1]
  with_reducible refine hR _ ?_
  clear hR R
  show S _ _ _ _ _
  refine S_ret ?_
  refine ⟨.inr rfl, .bool true, ?_, rfl, rfl⟩
  simp only [resD, resAll, resOne, resTup, Try.results6, zg1, zg0, D.good, if_true, zmo]
 ·intro b2
  have c2 := b2
  try simp only [] at c2
  refine S_skip ?_
  show S _ _ _ _ _
  refine S_seq ?_
  refine S_seq ?_
  obtain ⟨dg, hG0, g, rfl, hqq⟩ := great_q p
  have hG : fn EVt _ _ = _ := by_up hG0
  refine S_of_X EVt_ok (by kernel_rfl) ?_
  refine X_rg fun R hR => ?_
  simp only [EVtP, inr_i64, Int.reduceLE, Int.reduceNeg, aops, astep, awant, aeff, aop, abin, aint, mkD, ev, ofValue, St.put, pcall, zmc, zmn, zg1, zg0, zgd, zmo, if_true, zs1, zs0, zlc, zln, zd0, zt1, zt0, zca, zna, Nat.reduceAdd, Nat.reduceLeDiff, Nat.zero_add, and_self, ty_api_Program, any12, dG_agg, hG]
  with_reducible refine hR _ ?_
  clear hR R
  show S _ _ _ _ _
  refine S_ite (by simp only [ev, zg1, zg0, zgd]; exact rfl) ?_ ?_
  ·intro b3
   have c3 := b3
   try simp only [beq_iff_eq] at c3
   refine S_seq ?_
   refine S_of_X EVt_ok (by kernel_rfl) ?_
   refine X_rg fun R hR => ?_
   simp only [aops, astep, awant, aeff, aop, ev, ofValue, St.put, zgd, zmo, if_true, zs1, zs0, b3]
   with_reducible refine hR _ ?_
   clear hR R
   show S _ _ _ _ _
   refine S_ret ?_
   refine ⟨.inr rfl, .bool true, ?_, rfl, rfl⟩
   simp only [resD, resAll, resOne, resTup, Try.results6, zg1, zg0, D.good, if_true, zmo]
  ·intro b4
   have c4 := b4
   try simp only [ne_eq, beq_eq_false_iff_ne] at c4
   refine S_skip ?_
   show S _ _ _ _ _
   refine S_seq ?_
   have hne : g ≠ 1 := by first | assumption | (simp_all; done)
   obtain ⟨hp5, hm2, hbs⟩ := hqq.resolve_left hne
   have hsz3 : (3 : Int) ≠ 0 := by omega
   refine S_of_X EVt_ok (by kernel_rfl) ?_
   refine X_rg fun R hR => ?_
   simp only [EVtP, aops, astep, awant, aeff, aop, mkD, astore, ev, St.put, zg1, zg0, zgd, zmo, zbs, if_true, zs1, zs0, zlc, zln, zd1, zd0, zt1, zt0, zca, zna, Nat.reduceAdd, Nat.reduceLeDiff, Nat.zero_add, and_self, ty_api_Program, dG_agg, dG_cells, dG_good, b4]
   with_reducible refine hR _ ?_
   clear hR R
   show S _ _ _ _ _
   refine S_seq ?_
   obtain ⟨z, hz0, hzs⟩ := Option.map_eq_some_iff.1 inf_api_Proc_zc
   refine S_ls ?_
   refine LS_ops EVt_ok 3 (by kernel_rfl) fun R hR => ?_
   simp only [EVtP, aops, astep, awant, aeff, aop, mkD, abuild, ev, ofValue, St.put, ia_slice, zmn, zg1, zg0, zgd, zmo, if_true, zs1, zs0, zlc, zln, zd1, zd0, zt1, zt0, Nat.reduceAdd, Nat.reduceLeDiff, Nat.reduceLT, Nat.zero_add, zft, if_false, and_self, reduceCtorEq, List.all_nil, Nat.reduceMul, rng_0, ty_s_api_Proc, ty_api_Program, und_api_Proc, inf_api_Proc_eq, inf_api_Proc_size, inf_api_Proc_zero, inf_api_Proc_size]
   with_reducible refine hR _ ?_
   clear hR R
   simp only [zd1, zd0]
   refine LS_app (a := 13) (x := 15) (st := 0) (n2 := 6) (l := p.procs.map dP) (t := 23) (e := 37) (i := inf_api_Proc) (z := z) (q2 := .imm) rfl rfl rfl rfl rfl und_api_Proc inf_api_Proc_eq hz0 (hzs.trans inf_api_Proc_size.symm) (by rw [inf_api_Proc_size]; omega) (by rw [inf_api_Proc_bytes]; omega) (by rw [inf_api_Proc_size]; rfl) (by simp only [ev, zg1, zg0, zgd, hn6i]) inf_api_Proc_size.symm (by simp) (by simpa using Nat.ne_of_gt hv0) (by simp; omega) ?_
   rw [inf_api_Proc_size]
   simp only [St.put, zlm, zlc, zln, Nat.reduceAdd, zs1, zs0, zca, zna]
   refine LS_ops EVt_ok 2 (by kernel_rfl) fun R hR => ?_
   simp only [EVtP, aops, astep, awant, aeff, aop, astore, ev, St.put, gd_bsl, cl_bsl, zg1, zg0, zgd, zmo, if_true, zs1, zs0, zlc, zln, zd1, zd0, zt1, zt0, zca, zna, Nat.reduceAdd, Nat.reduceLeDiff, Nat.zero_add, if_false, and_self, reduceCtorEq, ty_s_api_Proc, ty_api_Program]
   with_reducible refine hR _ ?_
   clear hR R
   simp only [zd1, zd0]
   refine LS_nil ?_
   show S _ _ _ _ _
   refine S_seq ?_
   refine S_seq ?_
   refine S_of_X EVt_ok (by kernel_rfl) ?_
   refine X_rg fun R hR => ?_
   simp only [EVtP, inr_i64, Int.reduceLE, Int.reduceNeg, aops, astep, awant, aeff, aop, mkD, ev, ofValue, St.put, ia_bsl, zg1, zg0, zgd, zmo, if_true, zs1, zs0, zlc, zln, zd1, zd0, zt1, zt0, Nat.reduceAdd, Nat.reduceLeDiff, Nat.reduceLT, Nat.zero_add, zft, if_false, and_self, reduceCtorEq, ty_s_api_Proc, ty_api_Program, und_api_Proc]
   with_reducible refine hR _ ?_
   clear hR R
   show S _ _ _ _ _
   refine S_block ?_
   refine S_loop (fun m σ => ∃ (i : Nat) (nx : Nat) (lv : List Nat), σ = ⟨[slotOf σ 0, .int .u8 to, .ptr 0 0, slotOf σ 3, slotOf σ 4, .ptr 1 0, slotOf σ 6, slotOf σ 7, slotOf σ 8, slotOf σ 9, slotOf σ 10, slotOf σ 11, slotOf σ 12, slotOf σ 13, slotOf σ 14, slotOf σ 15, slotOf σ 16, slotOf σ 17, slotOf σ 18, .bsl 2 0 6 p.procs.length, .int .i64 p.procs.length, .int .i64 i, slotOf σ 22, slotOf σ 23, slotOf σ 24, slotOf σ 25, slotOf σ 26, slotOf σ 27, slotOf σ 28, slotOf σ 29, slotOf σ 30, slotOf σ 31, slotOf σ 32, slotOf σ 33, slotOf σ 34, slotOf σ 35, slotOf σ 36, slotOf σ 37, slotOf σ 38, slotOf σ 39, slotOf σ 40, slotOf σ 41, slotOf σ 42, slotOf σ 43, slotOf σ 44, slotOf σ 45, slotOf σ 46, slotOf σ 47, slotOf σ 48, slotOf σ 49, slotOf σ 50, slotOf σ 51, slotOf σ 52, slotOf σ 53, slotOf σ 54, slotOf σ 55, slotOf σ 56, slotOf σ 57, slotOf σ 58], [[.slice .imm (if (p.vars.map dV).isEmpty = true then 0 else 3) (p.vars.map dV), .slice .imm (if (p.procs.map dP).isEmpty = true then 0 else 6) (p.procs.map dP), .int .u8 p.main.kind, .int .i64 p.main.num, .str p.main.name, .slice .imm (if (p.main.kids.map dN).isEmpty = true then 0 else 4) (p.main.kids.map dN)], [.slice .imm (if (p.vars.map dV).isEmpty = true then 0 else 3) (p.vars.map dV), .bsl 2 0 6 p.procs.length, .int .u8 p.main.kind, .int .i64 p.main.num, .str p.main.name, .slice .imm (if (p.main.kids.map dN).isEmpty = true then 0 else 4) (p.main.kids.map dN)], pC (trK c p.procs i)], nx, lv⟩ ∧ m = p.procs.length - i ∧ i ≤ p.procs.length ∧ (∀ s, Bq 2 6 p.procs.length (slotOf σ s))) ?_ (p.procs.length) ?_
   rotate_left
   ·exact ⟨0, _, _, rfl, rfl, Nat.zero_le _, (BqL.slot (by repeat first | exact .nil | apply BqL.cons (.inl rfl) | apply BqL.cons (.inr (.inl rfl)) | apply BqL.cons (.inl (dG_avoid _ _)) | apply BqL.cons (.inl (dN_avoid _ _)) | apply BqL.cons (.inl (by (simp only [D.avoid, dPs_avoid]; done)))))⟩
   rintro m σ ⟨i, nx, lv, hσ, rfl, hi, hx⟩
   generalize slotOf σ = x at hσ hx
   subst hσ
   refine S_seq ?_
   refine S_of_X EVt_ok (by kernel_rfl) ?_
   refine X_rg fun R hR => ?_
   simp only [nat_lt, aops, astep, awant, aeff, aop, abin, aint, ev, St.put, zg1, zg0, zgd, zmo, if_true, zs1, zs0]
   with_reducible refine hR _ ?_
   clear hR R
   show S _ _ _ _ _
   refine S_seq ?_
   refine S_ite (by simp only [ev, zg1, zg0, zgd]; exact rfl) ?_ ?_
   ·intro b5
    have c5 := b5
    try simp only [decide_eq_true_eq] at c5
    refine S_skip ?_
    show S _ _ _ _ _
    refine S_seq ?_
    refine S_block ?_
    refine S_seq ?_
    refine S_of_X EVt_ok (by kernel_rfl) ?_
    refine X_rg fun R hR => ?_
    simp only [aops, astep, awant, aeff, aop, ev, St.put, zg1, zg0, zgd, zmo, if_true, zs1, zs0, b5]
    with_reducible refine hR _ ?_
    clear hR R
    show S _ _ _ _ _
    have hjl : ((i : Int) < (p.procs.length : Int)) = True := eq_true (by omega)
    have hlt : i < p.procs.length := by first | assumption | omega
    have hjl0 : (0 ≤ (i : Int)) = True := eq_true (by omega)
    have hjn : ((i : Int)).toNat = i := Int.toNat_natCast i
    have hkl : i < (trK c p.procs i).length := by rw [trK_len]; exact hlt
    have hget := pC_get (trK c p.procs i) i hkl
    rw [trK_at hlt hkl] at hget
    have hset := pC_set (trK c p.procs i) i hkl (trT c p.procs[i].body)
    rw [trK_at hlt hkl, show (⟨p.procs[i].name, p.procs[i].params, trT c p.procs[i].body⟩ : Pr) = trQ c p.procs[i] from rfl, trK_step hlt] at hset
    have hle : (i * 6 + 2 + 4 ≤ (pC (trK c p.procs i)).length) = True := eq_true (by rw [pC_len, trK_len]; omega)
    have hbz := hbs _ (List.getElem_mem hlt)
    have htb := turn_t c p.procs[i].body (by omega)
    have hcw := hcw0
    simp only [sl] at hget
    simp only [sl, zca, zna] at hset
    refine S_calm EVt_ok 13 (by simp only [zlc, zln]; omega) (by kernel_rfl) ?_
    simp only [zt1, zt0, zd1, zd0]
    refine CS_op rfl fun R hR => ?_
    simp only [EVtP, aeff, aop, ev, zg1, zg0, zgd, zmo, Nat.zero_add, if_false, reduceCtorEq, ty_api_Program]
    with_reducible refine hR _ ?_
    clear hR R
    simp only [zs1, zs0]
    refine CS_op rfl fun R hR => ?_
    simp only [EVtP, aeff, aop, mkD, ev, ia_bsl, zg1, zg0, zgd, zmo, if_true, zlc, zln, zd1, zd0, zt1, zt0, Nat.reduceAdd, Nat.reduceLeDiff, Nat.zero_add, zft, if_false, ty_s_api_Proc]
    with_reducible refine hR _ ?_
    clear hR R
    simp only [zs1, zs0]
    refine CS_op rfl fun R hR => ?_
    simp only [aeff, aop, ev, zg1, zg0, zgd, zmo]
    with_reducible refine hR _ ?_
    clear hR R
    simp only [zs1, zs0]
    refine CS_op rfl fun R hR => ?_
    simp only [EVtP, aeff, aop, ev, zg1, zg0, zgd, zmo, Nat.zero_add, if_false, reduceCtorEq, ty_api_Program]
    with_reducible refine hR _ ?_
    clear hR R
    simp only [zs1, zs0]
    refine CS_op rfl fun R hR => ?_
    simp only [EVtP, aeff, aop, mkD, ev, ia_bsl, zg1, zg0, zgd, zmo, if_true, zlc, zln, zd1, zd0, zt1, zt0, Nat.reduceAdd, Nat.reduceLeDiff, Nat.zero_add, zft, if_false, ty_s_api_Proc]
    with_reducible refine hR _ ?_
    clear hR R
    simp only [zs1, zs0]
    refine CS_op rfl fun R hR => ?_
    simp only [aeff, aop, ev, zg1, zg0, zgd, zmo]
    with_reducible refine hR _ ?_
    clear hR R
    simp only [zs1, zs0]
    refine CS_op rfl fun R hR => ?_
    simp only [EVtP, aeff, aop, ev, zg1, zg0, zgd, zmo, if_true, Nat.reduceLT, Nat.zero_add, and_self, zis, und_api_Proc, siz_api_Proc, inf_api_Proc_eq, hjl, hjl0, hjn, Nat.zero_add, siz_api_Proc]
    with_reducible refine hR _ ?_
    clear hR R
    simp only [zs1, zs0]
    refine CS_field (i := 2) (off := i * 6) (ln := 0) (off' := i * 6 + 2) rfl rfl rfl (by simp only [EVtP, aop, zg1, zg0, if_false, reduceCtorEq, ty_api_Proc]; try rfl) ?_
    simp only [zs1, zs0]
    refine CS_load (i := 2) (off := i * 6 + 2) (ln := 0) rfl rfl rfl fun R hR => ?_
    simp only [EVtP, aop, mkD, zg1, zg0, if_true, ty_api_Node, dN_agg, hget, hle]
    with_reducible refine hR _ ?_
    clear hR R
    simp only [zs1, zs0]
    refine CS_op rfl fun R hR => ?_
    simp only [aeff, aop, ev, zg1, zg0, zgd, zmo]
    with_reducible refine hR _ ?_
    clear hR R
    simp only [zs1, zs0]
    refine CS_op rfl fun R hR => ?_
    simp only [inr_u8, Int.reduceLE, aeff, aop, abin, aint, ev, ofValue, zg1, zg0, zgd, zmo, if_true, if_false, and_self, hsz3]
    with_reducible refine hR _ ?_
    clear hR R
    simp only [zs1, zs0]
    refine CS_op rfl fun R hR => ?_
    simp only [inr_u8, Int.reduceLE, aeff, aop, abin, aint, ev, ofValue, zg1, zg0, zgd, zmo, if_true, and_self, hcw]
    with_reducible refine hR _ ?_
    clear hR R
    simp only [zs1, zs0]
    refine CS_op rfl fun R hR => ?_
    simp only [EVtP, aeff, ev, pcall, zmc, zmn, zg1, zg0, zgd, zmo, if_true, zca, zna, any20, htb]
    with_reducible refine hR _ ?_
    clear hR R
    simp only [zs1, zs0]
    refine CS_nil ?_
    refine LS_ops EVt_ok 1 (by kernel_rfl) fun R hR => ?_
    simp only [EVtP, aops, astep, awant, aeff, aop, ev, St.put, zg1, zg0, zgd, zmo, if_true, zs1, zs0, zt1, zt0, Nat.reduceLT, Nat.zero_add, and_self, zis, und_api_Proc, siz_api_Proc, inf_api_Proc_eq, hjl, hjl0, hjn, Nat.zero_add, siz_api_Proc]
    with_reducible refine hR _ ?_
    clear hR R
    simp only [zd1, zd0]
    refine LS_field (i := 2) (off := i * 6) (ln := 0) (off' := i * 6 + 2) rfl rfl rfl (by simp only [EVtP, aop, zg1, zg0, if_false, reduceCtorEq, ty_api_Proc]; try rfl) ?_
    simp only [St.put, zs1, zs0]
    refine LS_ops EVt_ok 1 (by kernel_rfl) fun R hR => ?_
    simp only [EVtP, aops, astep, awant, aeff, astore, ev, St.put, zg1, zg0, zgd, zmo, if_true, zs1, zs0, zlc, zln, zt1, zt0, zca, zna, zaa, Nat.reduceAdd, Nat.zero_add, and_self, ty_api_Node, dN_cells, dN_good, sl, dN_cells, hset, hle, zca, zna, zaa]
    with_reducible refine hR _ ?_
    clear hR R
    simp only [zd1, zd0]
    refine LS_nil ?_
    show S _ _ _ _ _
    have hbig : i < 9223372036854775807 := by omega
    refine S_of_X EVt_ok (by kernel_rfl) ?_
    refine X_rg fun R hR => ?_
    simp only [inr_i64, Int.reduceLE, Int.reduceNeg, aops, astep, awant, aeff, aop, abin, aint, ev, ofValue, St.put, zg1, zg0, zgd, zmo, if_true, zs1, zs0, and_self, nat_succ hbig]
    with_reducible refine hR _ ?_
    clear hR R
    show ∃ m, m < _ ∧ _
    exact ⟨p.procs.length - (i + 1), by omega, i + 1, _, _, rfl, rfl, by omega, (BqL.slot (by repeat first | exact .nil | apply BqL.cons (.inl rfl) | apply BqL.cons (hx _) | apply BqL.cons (.inr (.inl rfl)) | apply BqL.cons (.inr (.inr ⟨i * 6, by omega, rfl⟩)) | apply BqL.cons (.inr (.inr ⟨i * 6 + 2, by omega, rfl⟩)) | apply BqL.cons (.inl (dG_avoid _ _)) | apply BqL.cons (.inl (dN_avoid _ _)) | apply BqL.cons (.inl (by (simp only [D.avoid, D.avoids, dN_avoid, dG_avoid, dVs_avoid, dPs_avoid, dNs_avoid2, Bool.and_self, Bool.and_true, Bool.true_and]; done)))))⟩
   ·intro b6
    have c6 := b6
    try simp only [decide_eq_false_iff_not] at c6
    refine S_exit ?_
    show S _ _ _ _ _
    refine S_seq ?_
    have hil : i = p.procs.length := by first | omega | (simp_all; omega)
    subst hil
    rw [trK_all]
    have h6 := pC_six (p.procs.map (trQ c))
    have hx2 : ∀ s, ∃ d, Fz 2 (pC (p.procs.map (trQ c))) (x s) d := fun s => Bq.fz (by omega) h6 (by rw [zlm, zlm]; exact hx s)
    obtain ⟨y, hy⟩ := Classical.axiomOfChoice hx2
    have hrow : Fz 2 (pC (p.procs.map (trQ c))) (.bsl 2 0 6 p.procs.length) (.slice .imm 6 ((p.procs.map (trQ c)).map dP)) := Fz.row rfl (by simp) (by omega) h6
    apply S_freeze (i := 2) (t0 := 19) (d0 := .bsl 2 0 6 p.procs.length) (cs := pC (p.procs.map (trQ c))) (Nat.zero_le _) rfl (.inr ⟨_, _, _, rfl⟩) rfl (pC_av 2 _)
    ·dsimp only
     repeat first
       | exact .nil
       | apply FzL.cons (.keep _ rfl)
       | apply FzL.cons (hy _)
       | apply FzL.cons hrow
       | apply FzL.cons (.keep _ (by (simp only [D.avoid, D.avoids, dN_avoid, dG_avoid, dVs_avoid, dPs_avoid, dNs_avoid2, Bool.and_self, Bool.and_true, Bool.true_and]; done)))
    ·dsimp only
     repeat first
       | exact .nil _
       | apply FzB.self (c' := []) rfl
       | apply FzB.turn (t0 := 5) (off := 0) (.cons (.keep _ (by (simp only [D.avoid, dVs_avoid]; done))) (.cons hrow (FzL.same (by (simp only [D.avoid, D.avoids, dNs_avoid2, Bool.and_self]; done))))) rfl
       | apply FzB.keep rfl
       | apply FzB.keep (by (simp only [D.avoid, D.avoids, dVs_avoid, dPs_avoid, dNs_avoid2, Bool.and_self]; done))
    show S _ _ _ _ _
    have htm := turn_t c p.main (by omega)
    have hcw := hcw0
    refine S_of_X EVt_ok (by kernel_rfl) ?_
    refine X_rg fun R hR => ?_
    simp only [EVtP, inr_u8, Int.reduceLE, aops, astep, awant, aeff, aop, abin, aint, mkD, astore, ev, ofValue, St.put, pcall, zmc, zmn, zg1, zg0, zgd, zmo, if_true, zs1, zs0, zlc, zln, zd1, zd0, zt1, zt0, zca, zna, Nat.reduceAdd, Nat.reduceLeDiff, Nat.zero_add, if_false, and_self, reduceCtorEq, Int.reduceEq, ty_api_Node, ty_api_Program, any20, dN_agg, dN_cells, dN_good, sl, b6, htm, hcw, dN_cells]
    with_reducible refine hR _ ?_
    clear hR R
    show S _ _ _ _ _
    refine S_seq ?_
    have hC : fn EVt _ _ = _ := by_up (chk_fn p)
    have hC2 : fn EVt _ _ = _ := by_up (chk_fn (trP c p))
    have hO : fn EVt _ _ = _ := by_up (ok_fn p)
    have hO2 : fn EVt _ _ = _ := by_up (ok_fn (trP c p))
    rw [chkF_tr hcu] at hC2 hO2
    rw [checkF_tr hcu, valid_tr hcu] at hO2
    have hS : fn EVt _ _ = _ := by_up (same_self (chkF p) true (chk_bd p).1 (chk_bd p).2 (sl_own4 (chkF p)).1 (sl_own4 (chkF p)).2 (sl_own4 (chkF p)).1 (sl_own4 (chkF p)).2)
    generalize (validB p && (checkF p).isEmpty && (chkF p).isEmpty) = vv at hO hO2
    have hvv : (vv == vv) = true := by cases vv <;> rfl
    simp only [sl] at hC hC2
    have hgq : dG (trP c p) = .agg [.slice .imm (if (p.vars.map dV).isEmpty = true then 0 else 3) (p.vars.map dV), .slice .imm 6 ((p.procs.map (trQ c)).map dP), .int .u8 (trT c p.main).kind, .int .i64 (trT c p.main).num, .str (trT c p.main).name, .slice .imm (if ((trT c p.main).kids.map dN).isEmpty = true then 0 else 4) ((trT c p.main).kids.map dN)] := by unfold dG trP; simp only [sl]; rw [show (if ((p.procs.map (trQ c)).map dP).isEmpty = true then 0 else 6) = 6 from sl_n (j := 0) (by simpa using hv0)]
    rw [hgq] at hC2 hO2
    refine S_of_X EVt_ok (by kernel_rfl) ?_
    refine X_rg fun R hR => ?_
    simp only [EVtP, aops, astep, awant, aeff, aop, abin, mkD, ev, ofValue, St.put, pcall, zmc, zmn, zg1, zg0, zgd, zmo, zbs, if_true, zs1, zs0, zlc, zln, zd0, zt1, zt0, zca, zna, Nat.reduceAdd, Nat.reduceLeDiff, Nat.zero_add, beq_self_eq_true, ty_api_Program, und_bool', any13, any17, any18, dG_agg, hC, hC2, hO, hO2, hS]
    with_reducible refine hR _ ?_
    clear hR R
    show S _ _ _ _ _
    refine S_ret ?_
    refine ⟨.inr rfl, .bool true, ?_, rfl, rfl⟩
    simp only [resD, resAll, resOne, resTup, Try.results6, zg1, zg0, D.good, if_true, zmo]
theorem call_own {k : Nat} {d : D} {p : Pg} {c : Int} (hp0 : p.procs = []) (h : fn EVt k [dG (trP c p)] = some d) : fn EVt k [.agg [.slice .imm (if (p.vars.map dV).isEmpty = true then 0 else 3) (p.vars.map dV), .slice (.own 0 37) 6 [], .int .u8 (trT c p.main).kind, .int .i64 (trT c p.main).num, .str (trT c p.main).name, .slice .imm (if ((trT c p.main).kids.map dN).isEmpty = true then 0 else 4) ((trT c p.main).kids.map dN)]] = some d := by
 have hst : (D.agg [.slice .imm (if (p.vars.map dV).isEmpty = true then 0 else 3) (p.vars.map dV), .slice (.own 0 37) 6 [], .int .u8 (trT c p.main).kind, .int .i64 (trT c p.main).num, .str (trT c p.main).name, .slice .imm (if ((trT c p.main).kids.map dN).isEmpty = true then 0 else 4) ((trT c p.main).kids.map dN)]).strip = dG (trP c p) := by
  have h1 : ∀ A B x y z C : D, (D.agg [A, B, x, y, z, C]).strip = .agg [A.strip, B.strip, x.strip, y.strip, z.strip, C.strip] := fun _ _ _ _ _ _ => by simp only [D.strip, D.strips]
  have h2 := sl_strip (n := 3) (map_strip dV_strip p.vars)
  have h3 := sl_strip (n := 4) (map_strip dN_strip (trT c p.main).kids)
  simp only [sl] at h2 h3
  rw [h1, h2, h3]
  unfold dG trP
  rw [hp0]
  rfl
 rw [← h]
 refine fn_strip ?_ (by simp only [plain, List.all_cons, List.all_nil, dG_pl, Bool.and_true]) (by simp only [zmc, zmn, dG_strip, hst])
 have h1 := sl_under (n := 3) (m := 0) (map_under (dV_under 0) p.vars)
 have h3 := sl_under (n := 4) (m := 0) (map_under (dN_under 0) (trT c p.main).kids)
 simp only [sl] at h1 h3
 have hu : (D.agg [.slice .imm (if (p.vars.map dV).isEmpty = true then 0 else 3) (p.vars.map dV), .slice (.own 0 37) 6 [], .int .u8 (trT c p.main).kind, .int .i64 (trT c p.main).num, .str (trT c p.main).name, .slice .imm (if ((trT c p.main).kids.map dN).isEmpty = true then 0 else 4) ((trT c p.main).kids.map dN)]).under 0 = true := by
  have e : ∀ A B x y z C : D, (D.agg [A, B, x, y, z, C]).under 0 = (A.under 0 && (B.under 0 && (x.under 0 && (y.under 0 && (z.under 0 && (C.under 0 && true)))))) := fun _ _ _ _ _ _ => rfl
  rw [e, h1, h3]; rfl
 simp only [plain, List.all_cons, List.all_nil, hu, Bool.and_true, Bool.true_and]; rfl
set_option maxRecDepth 100000 in
set_option maxHeartbeats 8000000 in
theorem law_cz (p : Pg) (to c : Int) (hcw0 : IntKind.u8.wrap (40 + to.tmod 3) = c) (hcu : updK c = true) (hp0 : p.procs = []) : PContract Try.prog 6 [dG p, .int .u8 to] (.bool true) := by
 refine S_pure (f := _) Try.func6 rfl (by simp only [List.all_cons, List.all_nil, dG_pl, int_pl, Bool.and_true]) (by simp only [zmc, zmn, dG_strip, D.strip]) ?_
 simp only [enterSt, Try.ntmps6, zlc, zln, Nat.reduceAdd, Nat.reduceSub, zr1, zr0, zca, zna]
 refine S_seq ?_
 refine S_of_X EVt_ok (by kernel_rfl) ?_
 refine X_rg fun R hR => ?_
 simp only [aops, astep, awant, aeff, aop, ev, ofValue, St.put, zg0, zgd, zmo, if_true, zs1, zs0, zln, zna, dG_cells, dG_good]
 with_reducible refine hR _ ?_
 clear hR R
 show S _ _ _ _ _
 refine S_seq ?_
 refine S_seq ?_
 refine S_of_X EVt_ok (by kernel_rfl) ?_
 refine X_rg fun R hR => ?_
 simp only [EVtP, aops, astep, awant, aeff, aop, ev, St.put, pcall, zmn, zg1, zg0, zgd, zmo, if_true, zs1, zs0, zna, Bool.not_true, any11, awake_t]
 with_reducible refine hR _ ?_
 clear hR R
 show S _ _ _ _ _
 refine S_ite (by simp only [ev, zg1, zg0, zgd]; exact rfl) ?_ ?_
 ·intro b1
  have c1 := b1
  try simp only [znt, znf, decide_eq_true_eq, decide_eq_false_iff_not, beq_iff_eq, Int.not_lt, Int.not_le, ge_iff_le, gt_iff_lt, bne_iff_ne, ne_eq, bne_eq_false_iff_eq, beq_eq_false_iff_ne, zat, zof] at c1
  refine S_seq ?_
  refine S_of_X EVt_ok (by kernel_rfl) ?_
  refine X_rg fun R hR => ?_
  simp only [aops, astep, awant, aeff, aop, ev, ofValue, St.put, zgd, zmo, if_true, zs1, zs0, b1]
  with_reducible refine hR _ ?_
  clear hR R
  show S _ _ _ _ _
  refine S_ret ?_
  refine ⟨.inr rfl, .bool true, ?_, rfl, rfl⟩
  simp only [resD, resAll, resOne, resTup, Try.results6, zg1, zg0, D.good, if_true, zmo]
 ·intro b2
  have c2 := b2
  try simp only [] at c2
  refine S_skip ?_
  show S _ _ _ _ _
  refine S_seq ?_
  refine S_seq ?_
  obtain ⟨dg, hG0, g, rfl, hqq⟩ := great_q p
  have hG : fn EVt _ _ = _ := by_up hG0
  refine S_of_X EVt_ok (by kernel_rfl) ?_
  refine X_rg fun R hR => ?_
  simp only [EVtP, inr_i64, Int.reduceLE, Int.reduceNeg, aops, astep, awant, aeff, aop, abin, aint, mkD, ev, ofValue, St.put, pcall, zmc, zmn, zg1, zg0, zgd, zmo, if_true, zs1, zs0, zlc, zln, zd0, zt1, zt0, zca, zna, Nat.reduceAdd, Nat.reduceLeDiff, Nat.zero_add, and_self, ty_api_Program, any12, dG_agg, hG]
  with_reducible refine hR _ ?_
  clear hR R
  show S _ _ _ _ _
  refine S_ite (by simp only [ev, zg1, zg0, zgd]; exact rfl) ?_ ?_
  ·intro b3
   have c3 := b3
   try simp only [beq_iff_eq] at c3
   refine S_seq ?_
   refine S_of_X EVt_ok (by kernel_rfl) ?_
   refine X_rg fun R hR => ?_
   simp only [aops, astep, awant, aeff, aop, ev, ofValue, St.put, zgd, zmo, if_true, zs1, zs0, b3]
   with_reducible refine hR _ ?_
   clear hR R
   show S _ _ _ _ _
   refine S_ret ?_
   refine ⟨.inr rfl, .bool true, ?_, rfl, rfl⟩
   simp only [resD, resAll, resOne, resTup, Try.results6, zg1, zg0, D.good, if_true, zmo]
  ·intro b4
   have c4 := b4
   try simp only [ne_eq, beq_eq_false_iff_ne] at c4
   refine S_skip ?_
   show S _ _ _ _ _
   refine S_seq ?_
   have hne : g ≠ 1 := by first | assumption | (simp_all; done)
   obtain ⟨hp5, hm2, hbs⟩ := hqq.resolve_left hne
   have hsz3 : (3 : Int) ≠ 0 := by omega
   refine S_of_X EVt_ok (by kernel_rfl) ?_
   refine X_rg fun R hR => ?_
   simp only [EVtP, aops, astep, awant, aeff, aop, mkD, astore, ev, St.put, zg1, zg0, zgd, zmo, zbs, if_true, zs1, zs0, zlc, zln, zd1, zd0, zt1, zt0, zca, zna, Nat.reduceAdd, Nat.reduceLeDiff, Nat.zero_add, and_self, ty_api_Program, dG_agg, dG_cells, dG_good, b4]
   with_reducible refine hR _ ?_
   clear hR R
   show S _ _ _ _ _
   refine S_seq ?_
   have hap : ∀ fr bx, aappend Try.prog ⟨fr, bx, 1, [0]⟩ 23 (.slice (.own 0 37) 6 []) (.slice .imm (if (p.procs.map dP).isEmpty = true then 0 else 6) (p.procs.map dP)) = some (.slice (.own 0 37) 6 [], ⟨fr, bx, 1, [0]⟩) := fun fr bx => by rw [hp0]; exact Acc.app0 und_api_Proc inf_api_Proc_eq
   refine S_of_X EVt_ok (by kernel_rfl) ?_
   refine X_rg fun R hR => ?_
   simp only [EVtP, aops, astep, awant, aeff, aop, mkD, abuild, astore, ev, ofValue, St.put, gd_slice, ia_slice, cl_slice, zmn, zg1, zg0, zgd, zmo, if_true, zs1, zs0, zlc, zln, zd1, zd0, zt1, zt0, zca, zna, Nat.reduceAdd, Nat.reduceLeDiff, Nat.reduceLT, Nat.zero_add, zft, if_false, and_self, reduceCtorEq, List.all_nil, Nat.reduceMul, rng_0, ty_s_api_Proc, ty_api_Program, und_api_Proc, inf_api_Proc_eq, inf_api_Proc_size, inf_api_Proc_zero, hap, inf_api_Proc_size]
   with_reducible refine hR _ ?_
   clear hR R
   show S _ _ _ _ _
   refine S_seq ?_
   refine S_seq ?_
   refine S_of_X EVt_ok (by kernel_rfl) ?_
   refine X_rg fun R hR => ?_
   simp only [EVtP, inr_i64, Int.reduceLE, Int.reduceNeg, aops, astep, awant, aeff, aop, mkD, ev, ofValue, St.put, ia_slice, zg1, zg0, zgd, zmo, if_true, zs1, zs0, zlc, zln, zd1, zd0, zt1, zt0, Nat.reduceAdd, Nat.reduceLeDiff, Nat.zero_add, zft, if_false, and_self, reduceCtorEq, ty_s_api_Proc, ty_api_Program, und_api_Proc]
   with_reducible refine hR _ ?_
   clear hR R
   show S _ _ _ _ _
   refine S_block ?_
   refine S_loop (fun m σ => σ = ⟨[slotOf σ 0, .int .u8 to, .ptr 0 0, slotOf σ 3, slotOf σ 4, .ptr 1 0, slotOf σ 6, slotOf σ 7, slotOf σ 8, slotOf σ 9, slotOf σ 10, slotOf σ 11, slotOf σ 12, slotOf σ 13, slotOf σ 14, slotOf σ 15, slotOf σ 16, slotOf σ 17, slotOf σ 18, slotOf σ 19, .int .i64 ((0 : Nat) : Int), .int .i64 0, slotOf σ 22, slotOf σ 23, slotOf σ 24, slotOf σ 25, slotOf σ 26, slotOf σ 27, slotOf σ 28, slotOf σ 29, slotOf σ 30, slotOf σ 31, slotOf σ 32, slotOf σ 33, slotOf σ 34, slotOf σ 35, slotOf σ 36, slotOf σ 37, slotOf σ 38, slotOf σ 39, slotOf σ 40, slotOf σ 41, slotOf σ 42, slotOf σ 43, slotOf σ 44, slotOf σ 45, slotOf σ 46, slotOf σ 47, slotOf σ 48, slotOf σ 49, slotOf σ 50, slotOf σ 51, slotOf σ 52, slotOf σ 53, slotOf σ 54, slotOf σ 55, slotOf σ 56, slotOf σ 57, slotOf σ 58], [[.slice .imm (if (p.vars.map dV).isEmpty = true then 0 else 3) (p.vars.map dV), .slice .imm (if (p.procs.map dP).isEmpty = true then 0 else 6) (p.procs.map dP), .int .u8 p.main.kind, .int .i64 p.main.num, .str p.main.name, .slice .imm (if (p.main.kids.map dN).isEmpty = true then 0 else 4) (p.main.kids.map dN)], [.slice .imm (if (p.vars.map dV).isEmpty = true then 0 else 3) (p.vars.map dV), .slice (.own 0 37) 6 [], .int .u8 p.main.kind, .int .i64 p.main.num, .str p.main.name, .slice .imm (if (p.main.kids.map dN).isEmpty = true then 0 else 4) (p.main.kids.map dN)]], 1, [0]⟩ ∧ m = 0) ?_ (0) ?_
   rotate_left
   ·exact ⟨rfl, rfl⟩
   rintro m σ ⟨hσ, rfl⟩
   generalize slotOf σ = x at hσ
   subst hσ
   refine S_seq ?_
   have hz0 : decide ((0 : Int) < ((0 : Nat) : Int)) = false := rfl
   refine S_of_X EVt_ok (by kernel_rfl) ?_
   refine X_rg fun R hR => ?_
   simp only [aops, astep, awant, aeff, aop, abin, aint, ev, St.put, zg1, zg0, zgd, zmo, if_true, zs1, zs0, hz0]
   with_reducible refine hR _ ?_
   clear hR R
   show S _ _ _ _ _
   refine S_seq ?_
   refine S_false (by simp only [ev, zg1, zg0, zgd]) ?_
   refine S_exit ?_
   show S _ _ _ _ _
   refine S_seq ?_
   have htm := turn_t c p.main (by omega)
   have hcw := hcw0
   refine S_of_X EVt_ok (by kernel_rfl) ?_
   refine X_rg fun R hR => ?_
   simp only [EVtP, inr_u8, Int.reduceLE, aops, astep, awant, aeff, aop, abin, aint, mkD, astore, ev, ofValue, St.put, pcall, zmc, zmn, zg1, zg0, zgd, zmo, if_true, zs1, zs0, zlc, zln, zd1, zd0, zt1, zt0, zca, zna, Nat.reduceAdd, Nat.reduceLeDiff, Nat.zero_add, if_false, and_self, reduceCtorEq, Int.reduceEq, ty_api_Node, ty_api_Program, any20, dN_agg, dN_cells, dN_good, sl, htm, hcw, dN_cells]
   with_reducible refine hR _ ?_
   clear hR R
   show S _ _ _ _ _
   refine S_seq ?_
   have hC : fn EVt _ _ = _ := by_up (chk_fn p)
   have hC2 : fn EVt _ _ = _ := by_up (chk_fn (trP c p))
   have hO : fn EVt _ _ = _ := by_up (ok_fn p)
   have hO2 : fn EVt _ _ = _ := by_up (ok_fn (trP c p))
   rw [chkF_tr hcu] at hC2 hO2
   rw [checkF_tr hcu, valid_tr hcu] at hO2
   have hS : fn EVt _ _ = _ := by_up (same_self (chkF p) true (chk_bd p).1 (chk_bd p).2 (sl_own4 (chkF p)).1 (sl_own4 (chkF p)).2 (sl_own4 (chkF p)).1 (sl_own4 (chkF p)).2)
   generalize (validB p && (checkF p).isEmpty && (chkF p).isEmpty) = vv at hO hO2
   have hvv : (vv == vv) = true := by cases vv <;> rfl
   simp only [sl] at hC hC2
   have hC2 := call_own hp0 hC2
   have hO2 := call_own hp0 hO2
   refine S_of_X EVt_ok (by kernel_rfl) ?_
   refine X_rg fun R hR => ?_
   simp only [EVtP, aops, astep, awant, aeff, aop, abin, mkD, ev, ofValue, St.put, pcall, zmc, zmn, zg1, zg0, zgd, zmo, zbs, if_true, zs1, zs0, zlc, zln, zd0, zt1, zt0, zca, zna, Nat.reduceAdd, Nat.reduceLeDiff, Nat.zero_add, beq_self_eq_true, ty_api_Program, und_bool', any13, any17, any18, dG_agg, hC, hC2, hO, hO2, hS]
   with_reducible refine hR _ ?_
   clear hR R
   show S _ _ _ _ _
   refine S_ret ?_
   refine ⟨.inr rfl, .bool true, ?_, rfl, rfl⟩
   simp only [resD, resAll, resOne, resTup, Try.results6, zg1, zg0, D.good, if_true, zmo]
theorem law_any (p : Pg) (to : Int) (h0 : 0 ≤ to) (_h1 : to ≤ 255) : PContract Try.prog 6 [dG p, .int .u8 to] (.bool true) := by
 obtain ⟨h2, h3⟩ := upd_c h0
 by_cases h : p.procs = []
 ·exact law_cz p to _ h2 h3 h
 ·exact law_cu p to _ h2 h3 (List.length_pos_iff.2 h)

end Go.Proofs.Ytmglacjcefajlaa
