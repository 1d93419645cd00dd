/- The law EffectsVisible: its walk. -/
import Derived.Test.YtkkhjpkkjpcbmaaGreatVe
import Derived.Test.YtkkhjpkkjpcbmaaGreatE8
namespace Go.Proofs.YtkkhjpkkjpcbmaaGreat
open Go.RowKit

theorem map_inj {α : Type} {f : α → D} (hf : ∀ a b, f a = f b → a = b) : ∀ (p q : List α), p.map f = q.map f → p = q
 | [], [], _ => rfl
 | [], _ :: _, h => by cases h
 | _ :: _, [], h => by cases h
 | a :: r, b :: q, h => by
  simp only [zmc, List.cons.injEq] at h
  rw [hf a b h.1, map_inj hf r q h.2]
theorem sl_inj {n : Nat} {l m : List D} (h : sl n l = sl n m) : l = m := by
 simp only [sl, D.slice.injEq] at h; exact h.2.2
theorem node_of {t u : Tr} (h1 : t.kind = u.kind) (h2 : t.num = u.num) (h3 : t.name = u.name) (h4 : t.kids = u.kids) : t = u := by
 cases t; cases u; simp only [Tr.kind, Tr.num, Tr.name, Tr.kids] at h1 h2 h3 h4; subst h1 h2 h3 h4; rfl
theorem dV_inj {a b : Vd} (h : dV a = dV b) : a = b := by
 cases a; cases b; simp only [dV, D.agg.injEq, List.cons.injEq, D.str.injEq, D.int.injEq, true_and, and_true] at h; obtain ⟨rfl, rfl, rfl⟩ := h; rfl
theorem dP_inj {a b : Pr} (h : dP a = dP b) : a = b := by
 simp only [dP, D.agg.injEq, List.cons.injEq, D.str.injEq, D.int.injEq, true_and, and_true] at h
 obtain ⟨h1, h2, h3, h4, h5, h6⟩ := h
 cases a; cases b
 simp only at h1 h2 h3 h4 h5 h6
 have e1 := map_inj (fun _ _ => dV_inj) _ _ (sl_inj h2)
 have e2 := node_of h3 h4 h5 (map_inj (fun _ _ => dN_inj) _ _ (sl_inj h6))
 rw [h1, e1, e2]
theorem dG_inj {a b : Pg} (h : dG a = dG b) : a = b := by
 simp only [dG, D.agg.injEq, List.cons.injEq, D.str.injEq, D.int.injEq, true_and, and_true] at h
 obtain ⟨h1, h2, h3, h4, h5, h6⟩ := h
 cases a; cases b
 simp only at h1 h2 h3 h4 h5 h6
 have e1 := map_inj (fun _ _ => dV_inj) _ _ (sl_inj h1)
 have e3 := map_inj (fun _ _ => dP_inj) _ _ (sl_inj h2)
 have e2 := node_of h3 h4 h5 (map_inj (fun _ _ => dN_inj) _ _ (sl_inj h6))
 rw [e1, e2, e3]
def CallC : Nat → List D → D → Prop := fun k a d => k = 10 ∧ ∃ p q, Sml p ∧ a = [dG p, .int .i64 q] ∧ d = sl 1 ((clF p q).map dI)
/-- the environment with effects.Calls -/
noncomputable def EVg : Env := EVe.by CallC
theorem EVgP : EVg.P = Tryz.prog := rfl
theorem EVg_ok : EVg.Ok := by_ok EVe_ok fun k a d ⟨hk, p, q, ho, ha, hd⟩ => by
 subst hk ha hd
 exact ⟨sl_under (map_under (f := dI) (fun _ => rfl) _), sl_strip (map_strip (f := dI) (fun _ => rfl) _), calls_any p ho q⟩
theorem calls_fn (p : Pg) (ho : Sml p) (q : Int) : fn EVg 10 [dG p, .int .i64 q] = some (sl 1 ((clF p q).map dI)) := by
 refine by_fn (by simp only [plain, List.all_cons, List.all_nil, dG_pl, int_pl, Bool.and_true]) (by simp only [zmc, zmn, dG_strip]; rfl) rfl rfl ⟨rfl, p, q, ho, rfl, rfl⟩ ?_
 rintro d' ⟨_, p', q', _, ha, rfl⟩
 simp only [List.cons.injEq, and_true, D.int.injEq, true_and] at ha
 rw [dG_inj ha.1, ha.2]
theorem few_sz' {t : Tr} (h : fewB t = true) : t.size ≤ 300 := by unfold fewB at h; simpa using h
theorem clF_len {p : Pg} (hs : Sml p) (q : Int) : (clF p q).length ≤ 1000 := by
 unfold clF
 split
 ·rename_i t ht
  rw [sortI_len]
  have h1 := visI_len p (cnT t) []
  have h2 := cnT_len t
  have h3 := hs.at ht
  simp only [zln] at h1
  omega
 ·exact Nat.zero_le _
def smallP (p : Pg) : Bool := !(decide ((p.procs.length : Int) > 8) || !fewB p.main) && p.procs.all fun f => fewB f.body
theorem all_sml {p : Pg} (h : smallP p = true) : Sml p ∧ p.procs.length ≤ 8 := by
 simp only [smallP, zat, znt, zof, decide_eq_false_iff_not, znf, List.all_eq_true] at h
 obtain ⟨⟨h1, h2⟩, h3⟩ := h
 have := few_sz' h2
 exact ⟨⟨by omega, by omega, fun f hf => by have := few_sz' (h3 f hf); omega⟩, by omega⟩
set_option maxRecDepth 100000 in
set_option maxHeartbeats 4000000 in
theorem all_fn (p : Pg) : fn EV 5 [dG p] = some (.bool (smallP p)) := by
 refine fn_X rfl Tryz.func5 rfl (by simp only [plain, List.all_cons, List.all_nil, dG_pl, Bool.and_true]) (rfl) (rfl) (rfl) ?_
 simp only [zmc, zmn, dG_strip]
 simp only [enterSt, Tryz.ntmps5, zlc, zln, Nat.reduceAdd, Nat.reduceSub, zr1, zr0, zca, zna]
 refine X_seq ?_
 refine X_rg fun R hR => ?_
 simp only [aops, astep, awant, aeff, aop, ev, ofValue, St.put, zg0, zgd, zmo, if_true, zs1, zs0, zln, zna, dG_cells, dG_good]
 with_reducible refine hR _ ?_
 clear hR R
 show X _ _ _ _
 refine X_seq ?_
 refine X_seq ?_
 have f1 := few_fn p.main
 refine X_y ?_
 refine Y_k 5 fun R hR => ?_
 simp only [EVP, inr_i64, Int.reduceLE, Int.reduceNeg, aops, astep, awant, aeff, aop, abin, aint, mkD, ev, ofValue, St.put, ia_slice, zg1, zg0, zgd, zmo, if_true, zs1, zs0, zlm, zlc, zln, zd1, zd0, zt1, zt0, Nat.reduceAdd, Nat.reduceLeDiff, Nat.zero_add, zft, if_false, and_self, reduceCtorEq, ty_s_api_Proc, ty_api_Program, und_api_Proc]
 with_reducible refine hR _ ?_
 clear hR R
 simp only [zd1, zd0]
 refine Y_if 9 (by simp only [ev, zg1, zg0, zgd]; exact rfl) ?_ ?_
 ·intro b1
  have c1 := b1
  try simp only [decide_eq_true_eq, gt_iff_lt] at c1
  refine Y_end fun R hR => ?_
  simp only [EVP, aops, astep, awant, aeff, aop, ev, ofValue, St.put, pcall, zmc, zmn, zg1, zg0, zgd, zmo, Option.map_none, zbs, if_true, zs1, zs0, zca, zna, Nat.zero_add, zft, if_false, reduceCtorEq, bq_tf, ty_api_Node, ty_api_Program, any16, b1]
  with_reducible refine hR _ ?_
  clear hR R
  show X _ _ _ _
  refine X_true (by simp only [ev, zg1, zg0, zgd]) ?_
  refine X_seq ?_
  refine X_rg fun R hR => ?_
  simp only [aops, astep, awant, aeff, aop, ev, ofValue, St.put, zgd, zmo, if_true, zs1, zs0]
  with_reducible refine hR _ ?_
  clear hR R
  show X _ _ _ _
  refine X_ret ?_
  show resD _ _ _ = some _
  simp only [resD, resAll, resOne, resTup, Tryz.results5, EVP, zg1, zg0, D.good, if_true, zmo]
  first | (simp [smallP, b1]; done) | (simp_all [smallP]; done) | (exfalso; simp_all; done)
 ·intro b2
  have c2 := b2
  try simp only [decide_eq_false_iff_not, Int.not_lt, gt_iff_lt] at c2
  refine Y_end fun R hR => ?_
  simp only [EVP, aops, astep, awant, aeff, aop, mkD, ev, ofValue, St.put, pcall, zmc, zmn, zg1, zg0, zgd, zmo, zbs, if_true, zs1, zs0, zlc, zln, zd1, zd0, zt1, zt0, zca, zna, Nat.reduceAdd, Nat.reduceLeDiff, Nat.zero_add, zft, if_false, reduceCtorEq, beq_self_eq_true, ty_api_Node, ty_api_Program, any16, dN_agg, b2, f1]
  with_reducible refine hR _ ?_
  clear hR R
  show X _ _ _ _
  refine X_ite (by simp only [ev, zg1, zg0, zgd]; exact rfl) ?_ ?_
  ·intro b3
   have c3 := b3
   try simp only [znt] at c3
   refine X_seq ?_
   refine X_rg fun R hR => ?_
   simp only [aops, astep, awant, aeff, aop, ev, ofValue, St.put, zgd, zmo, if_true, zs1, zs0, b3]
   with_reducible refine hR _ ?_
   clear hR R
   show X _ _ _ _
   refine X_ret ?_
   show resD _ _ _ = some _
   simp only [resD, resAll, resOne, resTup, Tryz.results5, EVP, zg1, zg0, D.good, if_true, zmo]
   first | (simp [smallP, b2, b3]; done) | (simp_all [smallP]; done) | (exfalso; simp_all; done)
  ·intro b4
   have c4 := b4
   try simp only [znf] at c4
   refine X_skip ?_
   show X _ _ _ _
   refine X_seq ?_
   refine X_seq ?_
   refine X_rg fun R hR => ?_
   simp only [EVP, inr_i64, Int.reduceLE, Int.reduceNeg, aops, astep, awant, aeff, aop, mkD, ev, ofValue, St.put, ia_slice, zg1, zg0, zgd, zmo, if_true, zs1, zs0, zlm, zlc, zln, zd1, zd0, zt1, zt0, Nat.reduceAdd, Nat.reduceLeDiff, Nat.zero_add, zft, if_false, and_self, reduceCtorEq, ty_s_api_Proc, ty_api_Program, und_api_Proc, b4]
   with_reducible refine hR _ ?_
   clear hR R
   show X _ _ _ _
   refine X_block ?_
   refine X_loop (fun m σ => ∃ (i : Nat) (r : List (List D)), σ = ⟨[slotOf σ 0, .ptr 0 0, slotOf σ 2, slotOf σ 3, slotOf σ 4, slotOf σ 5, slotOf σ 6, slotOf σ 7, slotOf σ 8, slotOf σ 9, slotOf σ 10, slotOf σ 11, slotOf σ 12, slotOf σ 13, slotOf σ 14, slotOf σ 15, .slice .imm (if (p.procs.map dP).isEmpty = true then 0 else 6) (p.procs.map dP), .int .i64 p.procs.length, .int .i64 i, slotOf σ 19, slotOf σ 20, slotOf σ 21, slotOf σ 22, slotOf σ 23, slotOf σ 24, slotOf σ 25, slotOf σ 26], [.slice .imm (if (p.vars.map dV).isEmpty = true then 0 else 3) (p.vars.map dV), .slice .imm (if (p.procs.map dP).isEmpty = true then 0 else 6) (p.procs.map dP), .int .u8 p.main.kind, .int .i64 p.main.num, .str p.main.name, .slice .imm (if (p.main.kids.map dN).isEmpty = true then 0 else 4) (p.main.kids.map dN)] :: r, 0, []⟩ ∧ m = p.procs.length - i ∧ i ≤ p.procs.length ∧ Hid (smallP p = (p.procs.drop i).all fun f => fewB f.body)) ?_ (p.procs.length) _ ?_
   rotate_left
   ·have ha : smallP p = p.procs.all fun f => fewB f.body := by first | (simp_all [smallP]; done) | (unfold smallP; simp [b2, b4]; done)
    exact ⟨0, _, rfl, rfl, Nat.zero_le _, Lib.hid ha⟩
   rintro m σ ⟨i, r, hσ, rfl, hi, hf⟩
   generalize slotOf σ = x at hσ
   subst hσ
   refine X_seq ?_
   refine X_rg fun R hR => ?_
   simp only [nat_lt, aops, astep, awant, aeff, aop, abin, aint, ev, St.put, zg1, zg0, zgd, zmo, if_true, zs1, zs0]
   with_reducible refine hR _ ?_
   clear hR R
   show X _ _ _ _
   refine X_seq ?_
   refine X_ite (by simp only [ev, zg1, zg0, zgd]; exact rfl) ?_ ?_
   ·intro b5
    have c5 := b5
    try simp only [decide_eq_true_eq] at c5
    refine X_skip ?_
    show X _ _ _ _
    refine X_seq ?_
    refine X_block ?_
    refine X_seq ?_
    have hlt : i < p.procs.length := by first | assumption | omega | simp_all
    have hn1 := idx_n (f := dP) (n := 6) hlt
    have e1 : (p.procs.map dP)[i]? = some (.agg [.str p.procs[i].name, .slice .imm (if (p.procs[i].params.map dV).isEmpty = true then 0 else 3) (p.procs[i].params.map dV), .int .u8 p.procs[i].body.kind, .int .i64 p.procs[i].body.num, .str p.procs[i].body.name, .slice .imm (if (p.procs[i].body.kids.map dN).isEmpty = true then 0 else 4) (p.procs[i].body.kids.map dN)]) := by rw [List.getElem?_map, List.getElem?_eq_getElem hlt]; rfl
    refine X_rg fun R hR => ?_
    simp only [EVP, app_get0, app_set0, nat_lt, nat_0, nat_to, aops, astep, awant, aeff, aop, astore, ev, St.put, gd_agg, ia_agg, cl_agg, zg1, zg0, zgd, zmo, zbs, if_true, zs1, zs0, zlm, zlc, zln, zd1, zd0, zt0, zca, zna, Nat.reduceAdd, Nat.reduceLeDiff, Nat.zero_add, and_self, decide_true, zis, ty_api_Proc, und_api_Proc, siz_api_Proc, inf_api_Proc_eq, hlt, hn1, e1]
    with_reducible refine hR _ ?_
    clear hR R
    show X _ _ _ _
    refine X_seq ?_
    have f2 := few_fn p.procs[i].body
    refine X_rg fun R hR => ?_
    simp only [EVP, app_get0, aops, astep, awant, aeff, aop, mkD, ev, St.put, pcall, zmc, zmn, zg1, zg0, zgd, zmo, if_true, zs1, zs0, zlc, zln, zd1, zd0, zt1, zt0, zca, zna, Nat.reduceAdd, Nat.reduceLeDiff, Nat.zero_add, if_false, reduceCtorEq, ty_api_Node, ty_api_Proc, any16, dN_agg, f2]
    with_reducible refine hR _ ?_
    clear hR R
    show X _ _ _ _
    refine X_ite (by simp only [ev, zg1, zg0, zgd]; exact rfl) ?_ ?_
    ·intro b6
     have c6 := b6
     try simp only [znt] at c6
     refine X_seq ?_
     refine X_rg fun R hR => ?_
     simp only [aops, astep, awant, aeff, aop, ev, ofValue, St.put, zgd, zmo, if_true, zs1, zs0, b6]
     with_reducible refine hR _ ?_
     clear hR R
     show X _ _ _ _
     refine X_ret ?_
     show resD _ _ _ = some _
     simp only [resD, resAll, resOne, resTup, Tryz.results5, EVP, zg1, zg0, D.good, if_true, zmo]
     rw [hf.out, List.drop_eq_getElem_cons hlt, List.all_cons]
     first | (simp_all; done) | (exfalso; simp_all; done)
    ·intro b7
     have c7 := b7
     try simp only [znf] at c7
     refine X_skip ?_
     show X _ _ _ _
     have hbig : i < 9223372036854775807 := by omega
     refine X_rg fun R hR => ?_
     simp only [inr_i64, Int.reduceLE, Int.reduceNeg, aops, astep, awant, aeff, aop, abin, aint, ev, ofValue, St.put, zg1, zg0, zgd, zmo, if_true, zs1, zs0, and_self, b7, nat_succ hbig]
     with_reducible refine hR _ ?_
     clear hR R
     show ∃ m, m < _ ∧ _
     exact ⟨p.procs.length - (i + 1), by omega, i + 1, _, rfl, rfl, by omega, Lib.hid (by rw [hf.out, List.drop_eq_getElem_cons hlt, List.all_cons]; simp_all)⟩
   ·intro b8
    have c8 := b8
    try simp only [decide_eq_false_iff_not] at c8
    refine X_exit ?_
    show X _ _ _ _
    refine X_seq ?_
    refine X_rg fun R hR => ?_
    simp only [aops, astep, awant, aeff, aop, ev, ofValue, St.put, zgd, zmo, if_true, zs1, zs0, b8]
    with_reducible refine hR _ ?_
    clear hR R
    show X _ _ _ _
    refine X_ret ?_
    show resD _ _ _ = some _
    simp only [resD, resAll, resOne, resTup, Tryz.results5, EVP, zg1, zg0, D.good, if_true, zmo]
    rw [hf.out, List.drop_of_length_le (by first | omega | (simp_all; done))]; rfl
theorem awake_g : fn EVg 4 [] = some (.bool true) := by_up awake_e
theorem all_g (p : Pg) : fn EVg 5 [dG p] = some (.bool (smallP p)) := by_up (fn_more (all_fn p))
theorem up_g {k : Nat} {a : List D} {d : D} (h : fn EV k a = some d) : fn EVg k a = some d := by_up (fn_more h)
set_option maxRecDepth 100000 in
set_option maxHeartbeats 4000000 in
theorem lawV_n (p : Pg) (q : Int) (ha : smallP p = false) : fn EVg 3 [dG p, .int .i64 q] = some (.bool true) := by
 refine fn_X rfl Tryz.func3 rfl (by simp only [plain, List.all_cons, List.all_nil, int_pl, dG_pl, Bool.and_true]) (rfl) (rfl) (rfl) ?_
 simp only [zmc, zmn, D.strip, dG_strip]
 simp only [enterSt, Tryz.ntmps3, zlc, zln, Nat.reduceAdd, Nat.reduceSub, zr1, zr0, zca, zna]
 refine X_seq ?_
 refine X_rg fun R hR => ?_
 simp only [aops, astep, awant, aeff, aop, ev, ofValue, St.put, zg0, zgd, zmo, if_true, zs1, zs0, zln, zna, dG_cells, dG_good]
 with_reducible refine hR _ ?_
 clear hR R
 show X _ _ _ _
 refine X_seq ?_
 refine X_seq ?_
 have hA := all_g p
 rw [ha] at hA
 refine X_rg fun R hR => ?_
 simp only [EVgP, inr_i64, Int.reduceLE, Int.reduceNeg, aops, astep, awant, aeff, aop, abin, mkD, ev, ofValue, St.put, pcall, zmc, zmn, zg1, zg0, zgd, zmo, Option.map_none, zbs, if_true, zs1, zs0, zlc, zln, zd0, zt1, zt0, zca, zna, Nat.reduceAdd, Nat.reduceLeDiff, Nat.zero_add, Bool.not_true, Bool.not_false, zft, if_false, and_self, reduceCtorEq, beq_self_eq_true, bq_tf, ty_s_api_Proc, ty_api_Program, und_api_Proc, und_scope_Fault, any4, any5, any6, any7, dG_agg, awake_g, hA]
 with_reducible refine hR _ ?_
 clear hR R
 show X _ _ _ _
 refine X_true (by simp only [ev, zg1, zg0, zgd]) ?_
 refine X_seq ?_
 refine X_rg fun R hR => ?_
 simp only [EVgP, aops, astep, awant, aeff, aop, ev, St.put, pcall, zmn, zg1, zg0, zgd, zmo, if_true, zs1, zs0, zna, any4, awake_g]
 with_reducible refine hR _ ?_
 clear hR R
 show X _ _ _ _
 refine X_ret ?_
 show resD _ _ _ = some _
 simp only [resD, resAll, resOne, resTup, Tryz.results3, EVgP, zg1, zg0, D.good, if_true, zmo]
set_option maxRecDepth 100000 in
set_option maxHeartbeats 4000000 in
theorem lawV_1 (p : Pg) (q : Int) (ha : smallP p = true) (hq : q < -1) : fn EVg 3 [dG p, .int .i64 q] = some (.bool true) := by
 refine fn_X rfl Tryz.func3 rfl (by simp only [plain, List.all_cons, List.all_nil, int_pl, dG_pl, Bool.and_true]) (rfl) (rfl) (rfl) ?_
 simp only [zmc, zmn, D.strip, dG_strip]
 simp only [enterSt, Tryz.ntmps3, zlc, zln, Nat.reduceAdd, Nat.reduceSub, zr1, zr0, zca, zna]
 refine X_seq ?_
 refine X_rg fun R hR => ?_
 simp only [aops, astep, awant, aeff, aop, ev, ofValue, St.put, zg0, zgd, zmo, if_true, zs1, zs0, zln, zna, dG_cells, dG_good]
 with_reducible refine hR _ ?_
 clear hR R
 show X _ _ _ _
 refine X_seq ?_
 refine X_seq ?_
 have hA := all_g p
 rw [ha] at hA
 have h1 : (decide (q < (-1 : Int))) = true := by first | rfl | (simp; done) | (simp; omega)
 refine X_rg fun R hR => ?_
 simp only [EVgP, inr_i64, Int.reduceLE, Int.reduceNeg, aops, astep, awant, aeff, aop, abin, aint, mkD, ev, ofValue, St.put, pcall, zmc, zmn, zg1, zg0, zgd, zmo, Option.map_none, zbs, if_true, zs1, zs0, zlc, zln, zd0, zt1, zt0, zca, zna, Nat.reduceAdd, Nat.reduceLeDiff, Nat.zero_add, Bool.not_true, zft, if_false, and_self, reduceCtorEq, beq_self_eq_true, bq_tf, ty_s_api_Proc, ty_api_Program, und_api_Proc, und_scope_Fault, any4, any5, any6, any7, dG_agg, awake_g, hA, h1]
 with_reducible refine hR _ ?_
 clear hR R
 show X _ _ _ _
 refine X_true (by simp only [ev, zg1, zg0, zgd]) ?_
 refine X_seq ?_
 refine X_rg fun R hR => ?_
 simp only [EVgP, aops, astep, awant, aeff, aop, ev, St.put, pcall, zmn, zg1, zg0, zgd, zmo, if_true, zs1, zs0, zna, any4, awake_g]
 with_reducible refine hR _ ?_
 clear hR R
 show X _ _ _ _
 refine X_ret ?_
 show resD _ _ _ = some _
 simp only [resD, resAll, resOne, resTup, Tryz.results3, EVgP, zg1, zg0, D.good, if_true, zmo]
set_option maxRecDepth 100000 in
set_option maxHeartbeats 4000000 in
theorem lawV_2 (p : Pg) (q : Int) (ha : smallP p = true) (hq0 : ¬ q < -1) (hq : (p.procs.length : Int) ≤ q) : fn EVg 3 [dG p, .int .i64 q] = some (.bool true) := by
 refine fn_X rfl Tryz.func3 rfl (by simp only [plain, List.all_cons, List.all_nil, int_pl, dG_pl, Bool.and_true]) (rfl) (rfl) (rfl) ?_
 simp only [zmc, zmn, D.strip, dG_strip]
 simp only [enterSt, Tryz.ntmps3, zlc, zln, Nat.reduceAdd, Nat.reduceSub, zr1, zr0, zca, zna]
 refine X_seq ?_
 refine X_rg fun R hR => ?_
 simp only [aops, astep, awant, aeff, aop, ev, ofValue, St.put, zg0, zgd, zmo, if_true, zs1, zs0, zln, zna, dG_cells, dG_good]
 with_reducible refine hR _ ?_
 clear hR R
 show X _ _ _ _
 refine X_seq ?_
 refine X_seq ?_
 have hA := all_g p
 rw [ha] at hA
 have h1 : (decide (q < (-1 : Int))) = false := by first | rfl | (simp; done) | (simp; omega)
 have h2 : (decide (q ≥ (p.procs.length : Int))) = true := by first | (simp; done) | (simp; omega)
 refine X_rg fun R hR => ?_
 simp only [EVgP, inr_i64, Int.reduceLE, Int.reduceNeg, aops, astep, awant, aeff, aop, abin, aint, mkD, ev, ofValue, St.put, pcall, ia_slice, zmc, zmn, zg1, zg0, zgd, zmo, Option.map_none, zbs, if_true, zs1, zs0, zlm, zlc, zln, zd1, zd0, zt1, zt0, zca, zna, Nat.reduceAdd, Nat.reduceLeDiff, Nat.zero_add, Bool.not_true, zft, if_false, and_self, reduceCtorEq, beq_self_eq_true, bq_tf, ty_s_api_Proc, ty_api_Program, und_api_Proc, und_scope_Fault, any4, any5, any6, any7, dG_agg, awake_g, hA, h1, h2]
 with_reducible refine hR _ ?_
 clear hR R
 show X _ _ _ _
 refine X_true (by simp only [ev, zg1, zg0, zgd]) ?_
 refine X_seq ?_
 refine X_rg fun R hR => ?_
 simp only [EVgP, aops, astep, awant, aeff, aop, ev, St.put, pcall, zmn, zg1, zg0, zgd, zmo, if_true, zs1, zs0, zna, any4, awake_g]
 with_reducible refine hR _ ?_
 clear hR R
 show X _ _ _ _
 refine X_ret ?_
 show resD _ _ _ = some _
 simp only [resD, resAll, resOne, resTup, Tryz.results3, EVgP, zg1, zg0, D.good, if_true, zmo]
set_option maxRecDepth 100000 in
set_option maxHeartbeats 4000000 in
theorem lawV_v (p : Pg) (q : Int) (ha : smallP p = true) (hq0 : ¬ q < -1) (hq1 : q < (p.procs.length : Int)) (hv : validB p = false) : fn EVg 3 [dG p, .int .i64 q] = some (.bool true) := by
 refine fn_X rfl Tryz.func3 rfl (by simp only [plain, List.all_cons, List.all_nil, int_pl, dG_pl, Bool.and_true]) (rfl) (rfl) (rfl) ?_
 simp only [zmc, zmn, D.strip, dG_strip]
 simp only [enterSt, Tryz.ntmps3, zlc, zln, Nat.reduceAdd, Nat.reduceSub, zr1, zr0, zca, zna]
 refine X_seq ?_
 refine X_rg fun R hR => ?_
 simp only [aops, astep, awant, aeff, aop, ev, ofValue, St.put, zg0, zgd, zmo, if_true, zs1, zs0, zln, zna, dG_cells, dG_good]
 with_reducible refine hR _ ?_
 clear hR R
 show X _ _ _ _
 refine X_seq ?_
 refine X_seq ?_
 have hA := all_g p
 rw [ha] at hA
 have h1 : (decide (q < (-1 : Int))) = false := by first | rfl | (simp; done) | (simp; omega)
 have h2 : (decide (q ≥ (p.procs.length : Int))) = false := by first | (simp; done) | (simp; omega)
 have hva := up_g (valid_fn p)
 rw [hv] at hva
 refine X_rg fun R hR => ?_
 simp only [EVgP, inr_i64, Int.reduceLE, Int.reduceNeg, aops, astep, awant, aeff, aop, abin, aint, mkD, ev, ofValue, St.put, pcall, ia_slice, zmc, zmn, zg1, zg0, zgd, zmo, Option.map_none, zbs, if_true, zs1, zs0, zlm, zlc, zln, zd1, zd0, zt1, zt0, zca, zna, Nat.reduceAdd, Nat.reduceLeDiff, Nat.zero_add, Bool.not_true, Bool.not_false, zft, if_false, and_self, reduceCtorEq, beq_self_eq_true, bq_tf, ty_s_api_Proc, ty_api_Program, und_api_Proc, und_scope_Fault, any4, any5, any6, any7, dG_agg, awake_g, hA, h1, h2, hva]
 with_reducible refine hR _ ?_
 clear hR R
 show X _ _ _ _
 refine X_true (by simp only [ev, zg1, zg0, zgd]) ?_
 refine X_seq ?_
 refine X_rg fun R hR => ?_
 simp only [EVgP, aops, astep, awant, aeff, aop, ev, St.put, pcall, zmn, zg1, zg0, zgd, zmo, if_true, zs1, zs0, zna, any4, awake_g]
 with_reducible refine hR _ ?_
 clear hR R
 show X _ _ _ _
 refine X_ret ?_
 show resD _ _ _ = some _
 simp only [resD, resAll, resOne, resTup, Tryz.results3, EVgP, zg1, zg0, D.good, if_true, zmo]
set_option maxRecDepth 100000 in
set_option maxHeartbeats 4000000 in
theorem lawV_c (p : Pg) (q : Int) (ha : smallP p = true) (hq0 : ¬ q < -1) (hq1 : q < (p.procs.length : Int)) (hv : validB p = true) (hc : checkF p ≠ []) : fn EVg 3 [dG p, .int .i64 q] = some (.bool true) := by
 refine fn_X rfl Tryz.func3 rfl (by simp only [plain, List.all_cons, List.all_nil, int_pl, dG_pl, Bool.and_true]) (rfl) (rfl) (rfl) ?_
 simp only [zmc, zmn, D.strip, dG_strip]
 simp only [enterSt, Tryz.ntmps3, zlc, zln, Nat.reduceAdd, Nat.reduceSub, zr1, zr0, zca, zna]
 refine X_seq ?_
 refine X_rg fun R hR => ?_
 simp only [aops, astep, awant, aeff, aop, ev, ofValue, St.put, zg0, zgd, zmo, if_true, zs1, zs0, zln, zna, dG_cells, dG_good]
 with_reducible refine hR _ ?_
 clear hR R
 show X _ _ _ _
 refine X_seq ?_
 refine X_seq ?_
 have hA := all_g p
 rw [ha] at hA
 have h1 : (decide (q < (-1 : Int))) = false := by first | rfl | (simp; done) | (simp; omega)
 have h2 : (decide (q ≥ (p.procs.length : Int))) = false := by first | (simp; done) | (simp; omega)
 have hva := up_g (valid_fn p)
 rw [hv] at hva
 have hch := up_g (check_fn p)
 rw [if_pos hv] at hch
 have hcl : (decide (((checkF p).length : Int) > 0)) = true := by have := List.length_pos_iff.2 hc; simp; omega
 simp only [sl] at hch
 refine X_rg fun R hR => ?_
 simp only [EVgP, inr_i64, Int.reduceLE, Int.reduceNeg, aops, astep, awant, aeff, aop, abin, aint, mkD, ev, ofValue, St.put, pcall, ia_slice, zmc, zmn, zg1, zg0, zgd, zmo, zbs, if_true, zs1, zs0, zlm, zlc, zln, zd1, zd0, zt1, zt0, zca, zna, Nat.reduceAdd, Nat.reduceLeDiff, Nat.zero_add, Bool.not_true, zft, if_false, and_self, reduceCtorEq, beq_self_eq_true, ty_s_api_Proc, ty_api_Program, und_api_Proc, und_scope_Fault, any4, any5, any6, any7, dG_agg, awake_g, hA, h1, h2, hva, hch, hcl]
 with_reducible refine hR _ ?_
 clear hR R
 show X _ _ _ _
 refine X_true (by simp only [ev, zg1, zg0, zgd]) ?_
 refine X_seq ?_
 refine X_rg fun R hR => ?_
 simp only [EVgP, aops, astep, awant, aeff, aop, ev, St.put, pcall, zmn, zg1, zg0, zgd, zmo, if_true, zs1, zs0, zna, any4, awake_g]
 with_reducible refine hR _ ?_
 clear hR R
 show X _ _ _ _
 refine X_ret ?_
 show resD _ _ _ = some _
 simp only [resD, resAll, resOne, resTup, Tryz.results3, EVgP, zg1, zg0, D.good, if_true, zmo]
set_option maxRecDepth 100000 in
set_option maxHeartbeats 4000000 in
theorem lawV_k (p : Pg) (k : Nat) (ha : smallP p = true) (hk : k < p.procs.length) (hv : validB p = true) (hc : checkF p = []) : fn EVg 3 [dG p, .int .i64 (k : Int)] = some (.bool true) := by
 obtain ⟨hs, hp8⟩ := all_sml ha
 obtain ⟨bv, bp, bq, bm, _⟩ := valid_bd hv
 have hsm := hs.m
 have hsb := hs.b _ (List.getElem_mem hk)
 obtain ⟨bq1, bq2, _⟩ := bq p.procs[k] (List.getElem_mem hk)
 have hll := rrT_len p.procs[k].body
 have hcl2 := clF_len hs (k : Int)
 refine fn_X rfl Tryz.func3 rfl (by simp only [plain, List.all_cons, List.all_nil, int_pl, dG_pl, Bool.and_true]) (rfl) (rfl) (rfl) ?_
 simp only [zmc, zmn, D.strip, dG_strip]
 simp only [enterSt, Tryz.ntmps3, zlc, zln, Nat.reduceAdd, Nat.reduceSub, zr1, zr0, zca, zna]
 refine X_seq ?_
 refine X_rg fun R hR => ?_
 simp only [aops, astep, awant, aeff, aop, ev, ofValue, St.put, zg0, zgd, zmo, if_true, zs1, zs0, zln, zna, dG_cells, dG_good]
 with_reducible refine hR _ ?_
 clear hR R
 show X _ _ _ _
 refine X_seq ?_
 refine X_seq ?_
 have hA := all_g p
 rw [ha] at hA
 have h1 : (decide ((k : Int) < (-1 : Int))) = false := by first | rfl | (simp; done) | (simp; omega)
 have h2 : (decide ((k : Int) ≥ (p.procs.length : Int))) = false := by first | (simp; done) | (simp; omega)
 have hva := up_g (valid_fn p)
 rw [hv] at hva
 have hch := up_g (check_fn p)
 rw [if_pos hv] at hch
 rw [hc] at hch
 simp only [sl, zmn] at hch
 have hz0 : (decide (((0 : Nat) : Int) > 0)) = false := by decide
 refine X_rg fun R hR => ?_
 simp only [EVgP, inr_i64, Int.reduceLE, Int.reduceNeg, aops, astep, awant, aeff, aop, abin, aint, mkD, ev, ofValue, St.put, pcall, ia_slice, zmc, zmn, zg1, zg0, zgd, zmo, zbs, if_true, zs1, zs0, zlm, zlc, zln, zd1, zd0, zt1, zt0, zca, zna, Nat.reduceAdd, Nat.reduceLeDiff, Nat.zero_add, Bool.not_true, zft, if_false, and_self, reduceCtorEq, beq_self_eq_true, List.isEmpty_nil, ty_s_api_Proc, ty_api_Program, und_api_Proc, und_scope_Fault, any4, any5, any6, any7, dG_agg, awake_g, hA, h1, h2, hva, hch, hz0]
 with_reducible refine hR _ ?_
 clear hR R
 show X _ _ _ _
 refine X_false (by simp only [ev, zg1, zg0, zgd]) ?_
 refine X_skip ?_
 show X _ _ _ _
 refine X_seq ?_
 refine X_rg fun R hR => ?_
 simp only [EVgP, aops, astep, awant, aeff, aop, mkD, astore, ev, St.put, ia_slice, zg1, zg0, zgd, zmo, zbs, if_true, zs1, zs0, zlc, zln, zd1, zd0, zt1, zt0, zca, zna, Nat.reduceAdd, Nat.reduceLeDiff, Nat.zero_add, Nat.add_zero, zft, if_false, and_self, reduceCtorEq, ty_s_api_VarDecl, ty_api_Node, ty_api_Program, dN_agg, dN_cells, dN_good, sl]
 with_reducible refine hR _ ?_
 clear hR R
 show X _ _ _ _
 refine X_seq ?_
 refine X_seq ?_
 have h3 : (decide ((k : Int) ≥ (0 : Int))) = true := by simp
 refine X_rg fun R hR => ?_
 simp only [inr_i64, Int.reduceLE, Int.reduceNeg, nat_0, aops, astep, awant, aeff, aop, abin, aint, ev, ofValue, St.put, zg1, zg0, zgd, zmo, if_true, zs1, zs0, and_self, decide_true]
 with_reducible refine hR _ ?_
 clear hR R
 show X _ _ _ _
 refine X_true (by simp only [ev, zg1, zg0, zgd]) ?_
 have hn6 : ((if (p.procs.map dP).isEmpty = true then 0 else 6) = 6) = True := eq_true (sl_n (j := k) (by simpa using hk))
 have e6 : (p.procs.map dP)[k]? = some (.agg [.str p.procs[k].name, .slice .imm (if (p.procs[k].params.map dV).isEmpty = true then 0 else 3) (p.procs[k].params.map dV), .int .u8 p.procs[k].body.kind, .int .i64 p.procs[k].body.num, .str p.procs[k].body.name, .slice .imm (if (p.procs[k].body.kids.map dN).isEmpty = true then 0 else 4) (p.procs[k].body.kids.map dN)]) := by rw [List.getElem?_map, List.getElem?_eq_getElem hk]; rfl
 have hkl : ((k : Int) < (p.procs.length : Int)) = True := eq_true (by omega)
 have hk0 : (0 ≤ (k : Int)) = True := eq_true (by omega)
 have hkn : ((k : Int)).toNat = k := Int.toNat_natCast k
 refine X_rg fun R hR => ?_
 simp only [EVgP, aops, astep, awant, aeff, aop, mkD, astore, ev, St.put, ia_slice, cl_slice, zg1, zg0, zgd, zmo, if_true, zs1, zs0, zlm, zlc, zln, zd1, zd0, zt1, zt0, zca, zna, Nat.reduceAdd, Nat.reduceLeDiff, Nat.zero_add, zft, if_false, and_self, reduceCtorEq, zis, ty_s_api_VarDecl, ty_s_api_Proc, ty_api_Node, ty_api_Proc, ty_api_Program, und_api_Proc, siz_api_Proc, inf_api_Proc_eq, dN_agg, dN_cells, dN_isAgg, dN_good, sl, hn6, e6, hkl, hk0, hkn]
 with_reducible refine hR _ ?_
 clear hR R
 show X _ _ _ _
 refine X_seq ?_
 refine X_seq ?_
 have hrd : fn EVg _ _ = _ := by_up (reads_e p.procs[k].body (by omega))
 simp only [sl] at hrd
 refine X_rg fun R hR => ?_
 simp only [EVgP, inr_i64, Int.reduceLE, Int.reduceNeg, aops, astep, awant, aeff, aop, mkD, ev, ofValue, St.put, pcall, zmc, zmn, zg1, zg0, zgd, zmo, if_true, zs1, zs0, zlm, zlc, zln, zd0, zt1, zt0, zca, zna, Nat.reduceAdd, Nat.reduceLeDiff, Nat.zero_add, and_self, ty_api_Node, und_string, any8, dN_agg, hrd]
 with_reducible refine hR _ ?_
 clear hR R
 show X _ _ _ _
 refine X_block ?_
 refine X_loop (fun m σ => ∃ (i : Nat) (r : List (List D)) (nx : Nat) (lv : List Nat), σ = ⟨[slotOf σ 0, .int .i64 (k : Int), .ptr 0 0, slotOf σ 3, slotOf σ 4, .slice .imm (if (p.procs[k].params.map dV).isEmpty = true then 0 else 3) (p.procs[k].params.map dV), slotOf σ 6, slotOf σ 7, slotOf σ 8, slotOf σ 9, slotOf σ 10, slotOf σ 11, slotOf σ 12, slotOf σ 13, slotOf σ 14, slotOf σ 15, slotOf σ 16, slotOf σ 17, slotOf σ 18, slotOf σ 19, slotOf σ 20, slotOf σ 21, slotOf σ 22, slotOf σ 23, slotOf σ 24, slotOf σ 25, slotOf σ 26, slotOf σ 27, slotOf σ 28, slotOf σ 29, slotOf σ 30, slotOf σ 31, slotOf σ 32, slotOf σ 33, slotOf σ 34, slotOf σ 35, slotOf σ 36, slotOf σ 37, slotOf σ 38, slotOf σ 39, slotOf σ 40, slotOf σ 41, slotOf σ 42, slotOf σ 43, slotOf σ 44, slotOf σ 45, slotOf σ 46, slotOf σ 47, slotOf σ 48, slotOf σ 49, slotOf σ 50, slotOf σ 51, slotOf σ 52, slotOf σ 53, slotOf σ 54, slotOf σ 55, slotOf σ 56, slotOf σ 57, slotOf σ 58, slotOf σ 59, slotOf σ 60, slotOf σ 61, .slice .imm (if ((rrT p.procs[k].body).map dS).isEmpty = true then 0 else 1) ((rrT p.procs[k].body).map dS), .int .i64 (rrT p.procs[k].body).length, .int .i64 i, slotOf σ 65, slotOf σ 66, slotOf σ 67, slotOf σ 68, slotOf σ 69, slotOf σ 70, slotOf σ 71, slotOf σ 72, slotOf σ 73, slotOf σ 74, slotOf σ 75, slotOf σ 76, slotOf σ 77, slotOf σ 78, slotOf σ 79, slotOf σ 80, slotOf σ 81, slotOf σ 82, slotOf σ 83, slotOf σ 84, slotOf σ 85, slotOf σ 86, slotOf σ 87, slotOf σ 88, slotOf σ 89, slotOf σ 90, slotOf σ 91, slotOf σ 92, slotOf σ 93, slotOf σ 94, slotOf σ 95, slotOf σ 96, slotOf σ 97, slotOf σ 98, slotOf σ 99, slotOf σ 100, slotOf σ 101, slotOf σ 102, slotOf σ 103, slotOf σ 104, slotOf σ 105, slotOf σ 106], [.slice .imm (if (p.vars.map dV).isEmpty = true then 0 else 3) (p.vars.map dV), .slice .imm (if (p.procs.map dP).isEmpty = true then 0 else 6) (p.procs.map dP), .int .u8 p.main.kind, .int .i64 p.main.num, .str p.main.name, .slice .imm (if (p.main.kids.map dN).isEmpty = true then 0 else 4) (p.main.kids.map dN)] :: r, nx, lv⟩ ∧ m = (rrT p.procs[k].body).length - i ∧ i ≤ (rrT p.procs[k].body).length) ?_ ((rrT p.procs[k].body).length) _ ?_
 rotate_left
 ·exact ⟨0, _, _, _, rfl, rfl, Nat.zero_le _⟩
 rintro m σ ⟨i, r, nx, lv, hσ, rfl, hi⟩
 generalize slotOf σ = x at hσ
 subst hσ
 refine X_seq ?_
 refine X_rg fun R hR => ?_
 simp only [nat_lt, aops, astep, awant, aeff, aop, abin, aint, ev, St.put, zg1, zg0, zgd, zmo, if_true, zs1, zs0]
 with_reducible refine hR _ ?_
 clear hR R
 show X _ _ _ _
 refine X_seq ?_
 refine X_ite (by simp only [ev, zg1, zg0, zgd]; exact rfl) ?_ ?_
 ·intro b1
  have c1 := b1
  try simp only [decide_eq_true_eq] at c1
  refine X_skip ?_
  show X _ _ _ _
  refine X_seq ?_
  refine X_block ?_
  refine X_seq ?_
  have hlt : i < (rrT p.procs[k].body).length := by first | assumption | omega
  have hn1 : ((if ((rrT p.procs[k].body).map dS).isEmpty = true then 0 else 1) = 1) = True := eq_true (sl_n (j := i) (by simpa using hlt))
  have e1 : ((rrT p.procs[k].body).map dS)[i]? = some (.str (rrT p.procs[k].body)[i]) := by rw [List.getElem?_map, List.getElem?_eq_getElem hlt]; rfl
  refine X_rg fun R hR => ?_
  simp only [EVgP, nat_lt, nat_0, nat_to, aops, astep, awant, aeff, aop, ev, St.put, ia_str, cl_str, zg1, zg0, zgd, zmo, if_true, zs1, zs0, zlm, zlc, zln, Nat.zero_add, and_self, decide_true, zis, ty_string, und_string, siz_string, inf_string_eq, hlt, hn1, e1]
  with_reducible refine hR _ ?_
  clear hR R
  show X _ _ _ _
  refine X_seq ?_
  have hfi := up_g (find_fn p.procs[k].params (rrT p.procs[k].body)[i] (by omega))
  rw [hasV_eq, reads_proc hv hc hk (List.getElem_mem hlt)] at hfi
  simp only [sl] at hfi
  refine X_rg fun R hR => ?_
  simp only [EVgP, app_get0, app_set0, aops, astep, awant, aeff, aop, astore, ev, St.put, pcall, zmc, zmn, zg1, zg0, zgd, zmo, zbs, if_true, zs1, zs0, zlc, zln, zd1, zd0, zt0, zca, zna, Nat.reduceAdd, Nat.reduceLeDiff, Nat.zero_add, and_self, ty_api_VarDecl, any9, dV_cells, dV_good, hfi]
  with_reducible refine hR _ ?_
  clear hR R
  show X _ _ _ _
  refine X_seq ?_
  refine X_rg fun R hR => ?_
  simp only [aops, astep, awant, aeff, aop, ev, St.put, zg1, zg0, zgd, zmo, if_true, zs1, zs0, Bool.not_true]
  with_reducible refine hR _ ?_
  clear hR R
  show X _ _ _ _
  refine X_false (by simp only [ev, zg1, zg0, zgd]) ?_
  refine X_skip ?_
  show X _ _ _ _
  have hbig : i < 9223372036854775807 := by have := hll; omega
  refine X_rg fun R hR => ?_
  simp only [inr_i64, Int.reduceLE, Int.reduceNeg, aops, astep, awant, aeff, aop, abin, aint, ev, ofValue, St.put, zg1, zg0, zgd, zmo, if_true, zs1, zs0, and_self, nat_succ hbig]
  with_reducible refine hR _ ?_
  clear hR R
  show ∃ m, m < _ ∧ _
  exact ⟨(rrT p.procs[k].body).length - (i + 1), by omega, i + 1, _, _, _, rfl, rfl, by omega⟩
 ·intro b2
  have c2 := b2
  try simp only [decide_eq_false_iff_not] at c2
  refine X_exit ?_
  show X _ _ _ _
  refine X_seq ?_
  refine X_seq ?_
  have hcs := calls_fn p hs ((k : Int))
  simp only [sl] at hcs
  refine X_rg fun R hR => ?_
  simp only [EVgP, inr_i64, Int.reduceLE, Int.reduceNeg, aops, astep, awant, aeff, aop, mkD, ev, ofValue, St.put, pcall, zmc, zmn, zg1, zg0, zgd, zmo, if_true, zs1, zs0, zlm, zlc, zln, zd0, zt1, zt0, zca, zna, Nat.reduceAdd, Nat.reduceLeDiff, Nat.zero_add, and_self, ty_api_Program, und_int, any10, dG_agg, b2, hcs]
  with_reducible refine hR _ ?_
  clear hR R
  show X _ _ _ _
  refine X_block ?_
  refine X_loop (fun m σ => ∃ (i : Nat) (r : List (List D)) (nx : Nat) (lv : List Nat), σ = ⟨[slotOf σ 0, slotOf σ 1, .ptr 0 0, slotOf σ 3, slotOf σ 4, slotOf σ 5, slotOf σ 6, slotOf σ 7, slotOf σ 8, slotOf σ 9, slotOf σ 10, slotOf σ 11, slotOf σ 12, slotOf σ 13, slotOf σ 14, slotOf σ 15, slotOf σ 16, slotOf σ 17, slotOf σ 18, slotOf σ 19, slotOf σ 20, slotOf σ 21, slotOf σ 22, slotOf σ 23, slotOf σ 24, slotOf σ 25, slotOf σ 26, slotOf σ 27, slotOf σ 28, slotOf σ 29, slotOf σ 30, slotOf σ 31, slotOf σ 32, slotOf σ 33, slotOf σ 34, slotOf σ 35, slotOf σ 36, slotOf σ 37, slotOf σ 38, slotOf σ 39, slotOf σ 40, slotOf σ 41, slotOf σ 42, slotOf σ 43, slotOf σ 44, slotOf σ 45, slotOf σ 46, slotOf σ 47, slotOf σ 48, slotOf σ 49, slotOf σ 50, slotOf σ 51, slotOf σ 52, slotOf σ 53, slotOf σ 54, slotOf σ 55, slotOf σ 56, slotOf σ 57, slotOf σ 58, slotOf σ 59, slotOf σ 60, slotOf σ 61, slotOf σ 62, slotOf σ 63, slotOf σ 64, slotOf σ 65, slotOf σ 66, slotOf σ 67, slotOf σ 68, slotOf σ 69, slotOf σ 70, slotOf σ 71, slotOf σ 72, slotOf σ 73, slotOf σ 74, slotOf σ 75, slotOf σ 76, slotOf σ 77, slotOf σ 78, .slice .imm (if ((clF p ((k : Int))).map dI).isEmpty = true then 0 else 1) ((clF p ((k : Int))).map dI), .int .i64 (clF p ((k : Int))).length, .int .i64 i, slotOf σ 82, slotOf σ 83, slotOf σ 84, slotOf σ 85, slotOf σ 86, slotOf σ 87, slotOf σ 88, slotOf σ 89, slotOf σ 90, slotOf σ 91, slotOf σ 92, slotOf σ 93, slotOf σ 94, slotOf σ 95, slotOf σ 96, slotOf σ 97, slotOf σ 98, slotOf σ 99, slotOf σ 100, slotOf σ 101, slotOf σ 102, slotOf σ 103, slotOf σ 104, slotOf σ 105, slotOf σ 106], [.slice .imm (if (p.vars.map dV).isEmpty = true then 0 else 3) (p.vars.map dV), .slice .imm (if (p.procs.map dP).isEmpty = true then 0 else 6) (p.procs.map dP), .int .u8 p.main.kind, .int .i64 p.main.num, .str p.main.name, .slice .imm (if (p.main.kids.map dN).isEmpty = true then 0 else 4) (p.main.kids.map dN)] :: r, nx, lv⟩ ∧ m = (clF p ((k : Int))).length - i ∧ i ≤ (clF p ((k : Int))).length) ?_ ((clF p ((k : Int))).length) _ ?_
  rotate_left
  ·exact ⟨0, _, _, _, rfl, rfl, Nat.zero_le _⟩
  rintro m σ ⟨i, r, nx, lv, hσ, rfl, hi⟩
  generalize slotOf σ = x at hσ
  subst hσ
  refine X_seq ?_
  refine X_rg fun R hR => ?_
  simp only [nat_lt, aops, astep, awant, aeff, aop, abin, aint, ev, St.put, zg1, zg0, zgd, zmo, if_true, zs1, zs0]
  with_reducible refine hR _ ?_
  clear hR R
  show X _ _ _ _
  refine X_seq ?_
  refine X_ite (by simp only [ev, zg1, zg0, zgd]; exact rfl) ?_ ?_
  ·intro b3
   have c3 := b3
   try simp only [decide_eq_true_eq] at c3
   refine X_skip ?_
   show X _ _ _ _
   refine X_seq ?_
   refine X_block ?_
   refine X_seq ?_
   have hlt : i < (clF p ((k : Int))).length := by first | assumption | omega
   have hn1 : ((if ((clF p ((k : Int))).map dI).isEmpty = true then 0 else 1) = 1) = True := eq_true (sl_n (j := i) (by simpa using hlt))
   obtain ⟨m, hm, hme, hmp⟩ := clF_ok (List.getElem_mem hlt)
   have e1 : ((clF p ((k : Int))).map dI)[i]? = some (.int .i64 (m : Int)) := by rw [List.getElem?_map, List.getElem?_eq_getElem hlt, hme]; rfl
   refine X_rg fun R hR => ?_
   simp only [EVgP, nat_lt, nat_0, nat_to, aops, astep, awant, aeff, aop, ev, St.put, ia_int, cl_int, zg1, zg0, zgd, zmo, if_true, zs1, zs0, zlm, zlc, zln, Nat.zero_add, and_self, decide_true, zis, ty_int, und_int, siz_int, inf_int_eq, hlt, hn1, e1]
   with_reducible refine hR _ ?_
   clear hR R
   show X _ _ _ _
   refine X_seq ?_
   have g1 : (decide ((m : Int) < 0)) = false := by simp; try omega
   have g2 : (decide ((m : Int) ≥ (p.procs.length : Int))) = false := by simp; try omega
   have g3 : (decide (p.procs.length ≤ m)) = false := by simp; try omega
   have hm6 : ((if (p.procs.map dP).isEmpty = true then 0 else 6) = 6) = True := eq_true (sl_n (j := m) (by simpa using hm))
   have em : (p.procs.map dP)[m]? = some (.agg [.str p.procs[m].name, .slice .imm (if (p.procs[m].params.map dV).isEmpty = true then 0 else 3) (p.procs[m].params.map dV), .int .u8 p.procs[m].body.kind, .int .i64 p.procs[m].body.num, .str p.procs[m].body.name, .slice .imm (if (p.procs[m].body.kids.map dN).isEmpty = true then 0 else 4) (p.procs[m].body.kids.map dN)]) := by rw [List.getElem?_map, List.getElem?_eq_getElem hm]; rfl
   have hml : ((m : Int) < (p.procs.length : Int)) = True := eq_true (by omega)
   have hm0 : (0 ≤ (m : Int)) = True := eq_true (by omega)
   have hmn : ((m : Int)).toNat = m := Int.toNat_natCast m
   have hpi := up_g (proc_fn p p.procs[m].name (by omega))
   have hpi2 : idxN p.procs p.procs[m].name 0 p.procs.length = procI p p.procs[m].name := rfl
   rw [hpi2, hmp] at hpi
   refine X_rg fun R hR => ?_
   simp only [EVgP, inr_i64, Int.reduceLE, Int.reduceNeg, aops, astep, awant, aeff, aop, abin, aint, mkD, ev, ofValue, St.put, pcall, ia_str, cl_str, ia_slice, zmc, zmn, zg1, zg0, zgd, zmo, zbs, if_true, zs1, zs0, zlm, zlc, zln, zd1, zd0, zt1, zt0, zca, zna, Nat.reduceAdd, Nat.reduceLeDiff, Nat.zero_add, zft, if_false, and_self, reduceCtorEq, beq_self_eq_true, bne_self_eq_false, zis, ty_string, ty_s_api_Proc, ty_api_Proc, ty_api_Program, und_api_Proc, siz_api_Proc, inf_api_Proc_eq, any11, dG_agg, g1, g2, hm6, em, hml, hm0, hmn, hpi, bne_self_eq_false, beq_self_eq_true]
   with_reducible refine hR _ ?_
   clear hR R
   show X _ _ _ _
   refine X_false (by simp only [ev, zg1, zg0, zgd]) ?_
   refine X_skip ?_
   show X _ _ _ _
   have hbig : i < 9223372036854775807 := by have := hcl2; omega
   refine X_rg fun R hR => ?_
   simp only [inr_i64, Int.reduceLE, Int.reduceNeg, aops, astep, awant, aeff, aop, abin, aint, ev, ofValue, St.put, zg1, zg0, zgd, zmo, if_true, zs1, zs0, and_self, nat_succ hbig]
   with_reducible refine hR _ ?_
   clear hR R
   show ∃ m, m < _ ∧ _
   exact ⟨(clF p ((k : Int))).length - (i + 1), by omega, i + 1, _, _, _, rfl, rfl, by omega⟩
  ·intro b4
   have c4 := b4
   try simp only [decide_eq_false_iff_not] at c4
   refine X_exit ?_
   show X _ _ _ _
   refine X_seq ?_
   refine X_rg fun R hR => ?_
   simp only [aops, astep, awant, aeff, aop, ev, ofValue, St.put, zgd, zmo, if_true, zs1, zs0, b4]
   with_reducible refine hR _ ?_
   clear hR R
   show X _ _ _ _
   refine X_ret ?_
   show resD _ _ _ = some _
   simp only [resD, resAll, resOne, resTup, Tryz.results3, EVgP, zg1, zg0, D.good, if_true, zmo]
set_option maxRecDepth 100000 in
set_option maxHeartbeats 4000000 in
theorem lawV_m (p : Pg) (ha : smallP p = true) (hv : validB p = true) (hc : checkF p = []) : fn EVg 3 [dG p, .int .i64 (-1)] = some (.bool true) := by
 obtain ⟨hs, hp8⟩ := all_sml ha
 obtain ⟨bv, bp, bq, bm, _⟩ := valid_bd hv
 have hsm := hs.m
 have hll := rrT_len p.main
 have hcl2 := clF_len hs (-1)
 refine fn_X rfl Tryz.func3 rfl (by simp only [plain, List.all_cons, List.all_nil, int_pl, dG_pl, Bool.and_true]) (rfl) (rfl) (rfl) ?_
 simp only [zmc, zmn, D.strip, dG_strip]
 simp only [enterSt, Tryz.ntmps3, zlc, zln, Nat.reduceAdd, Nat.reduceSub, zr1, zr0, zca, zna]
 refine X_seq ?_
 refine X_rg fun R hR => ?_
 simp only [Int.reduceNeg, aops, astep, awant, aeff, aop, ev, ofValue, St.put, zg0, zgd, zmo, if_true, zs1, zs0, zln, zna, dG_cells, dG_good]
 with_reducible refine hR _ ?_
 clear hR R
 show X _ _ _ _
 refine X_seq ?_
 refine X_seq ?_
 have hA := all_g p
 rw [ha] at hA
 have h1 : (decide (-1 < (-1 : Int))) = false := by first | rfl | (simp; done) | (simp; omega)
 have h2 : (decide (-1 ≥ (p.procs.length : Int))) = false := by first | (simp; done) | (simp; omega)
 have hva := up_g (valid_fn p)
 rw [hv] at hva
 have hch := up_g (check_fn p)
 rw [if_pos hv] at hch
 rw [hc] at hch
 simp only [sl, zmn] at hch
 have hz0 : (decide (((0 : Nat) : Int) > 0)) = false := by decide
 refine X_rg fun R hR => ?_
 simp only [EVgP, inr_i64, Int.reduceLE, Int.reduceNeg, aops, astep, awant, aeff, aop, abin, aint, mkD, ev, ofValue, St.put, pcall, ia_slice, zmc, zmn, zg1, zg0, zgd, zmo, zbs, if_true, zs1, zs0, zlm, zlc, zln, zd1, zd0, zt1, zt0, zca, zna, Nat.reduceAdd, Nat.reduceLeDiff, Nat.zero_add, Bool.not_true, zft, if_false, and_self, reduceCtorEq, decide_false, beq_self_eq_true, List.isEmpty_nil, Int.reduceLT, ty_s_api_Proc, ty_api_Program, und_api_Proc, und_scope_Fault, any4, any5, any6, any7, dG_agg, awake_g, hA, h2, hva, hch, hz0]
 with_reducible refine hR _ ?_
 clear hR R
 show X _ _ _ _
 refine X_false (by simp only [ev, zg1, zg0, zgd]) ?_
 refine X_skip ?_
 show X _ _ _ _
 refine X_seq ?_
 refine X_rg fun R hR => ?_
 simp only [EVgP, Int.reduceNeg, aops, astep, awant, aeff, aop, mkD, astore, ev, St.put, ia_slice, zg1, zg0, zgd, zmo, zbs, if_true, zs1, zs0, zlc, zln, zd1, zd0, zt1, zt0, zca, zna, Nat.reduceAdd, Nat.reduceLeDiff, Nat.zero_add, Nat.add_zero, zft, if_false, and_self, reduceCtorEq, ty_s_api_VarDecl, ty_api_Node, ty_api_Program, dN_agg, dN_cells, dN_good, sl]
 with_reducible refine hR _ ?_
 clear hR R
 show X _ _ _ _
 refine X_seq ?_
 refine X_seq ?_
 have h3 : (decide (-1 ≥ (0 : Int))) = false := by simp
 refine X_rg fun R hR => ?_
 simp only [inr_i64, Int.reduceLE, Int.reduceNeg, aops, astep, awant, aeff, aop, abin, aint, ev, ofValue, St.put, zg1, zg0, zgd, zmo, if_true, zs1, zs0, and_self, decide_false, Int.reduceGE]
 with_reducible refine hR _ ?_
 clear hR R
 show X _ _ _ _
 refine X_false (by simp only [ev, zg1, zg0, zgd]) ?_
 refine X_skip ?_
 show X _ _ _ _
 refine X_seq ?_
 refine X_seq ?_
 have hrd : fn EVg _ _ = _ := by_up (reads_e p.main (by omega))
 simp only [sl] at hrd
 refine X_rg fun R hR => ?_
 simp only [EVgP, inr_i64, Int.reduceLE, Int.reduceNeg, aops, astep, awant, aeff, aop, mkD, ev, ofValue, St.put, pcall, zmc, zmn, zg1, zg0, zgd, zmo, if_true, zs1, zs0, zlm, zlc, zln, zd0, zt1, zt0, zca, zna, Nat.reduceAdd, Nat.reduceLeDiff, Nat.zero_add, and_self, ty_api_Node, und_string, any8, dN_agg, hrd]
 with_reducible refine hR _ ?_
 clear hR R
 show X _ _ _ _
 refine X_block ?_
 refine X_loop (fun m σ => ∃ (i : Nat) (r : List (List D)) (nx : Nat) (lv : List Nat), σ = ⟨[slotOf σ 0, .int .i64 (-1), .ptr 0 0, slotOf σ 3, slotOf σ 4, .slice .imm (if (p.vars.map dV).isEmpty = true then 0 else 3) (p.vars.map dV), slotOf σ 6, slotOf σ 7, slotOf σ 8, slotOf σ 9, slotOf σ 10, slotOf σ 11, slotOf σ 12, slotOf σ 13, slotOf σ 14, slotOf σ 15, slotOf σ 16, slotOf σ 17, slotOf σ 18, slotOf σ 19, slotOf σ 20, slotOf σ 21, slotOf σ 22, slotOf σ 23, slotOf σ 24, slotOf σ 25, slotOf σ 26, slotOf σ 27, slotOf σ 28, slotOf σ 29, slotOf σ 30, slotOf σ 31, slotOf σ 32, slotOf σ 33, slotOf σ 34, slotOf σ 35, slotOf σ 36, slotOf σ 37, slotOf σ 38, slotOf σ 39, slotOf σ 40, slotOf σ 41, slotOf σ 42, slotOf σ 43, slotOf σ 44, slotOf σ 45, slotOf σ 46, slotOf σ 47, slotOf σ 48, slotOf σ 49, slotOf σ 50, slotOf σ 51, slotOf σ 52, slotOf σ 53, slotOf σ 54, slotOf σ 55, slotOf σ 56, slotOf σ 57, slotOf σ 58, slotOf σ 59, slotOf σ 60, slotOf σ 61, .slice .imm (if ((rrT p.main).map dS).isEmpty = true then 0 else 1) ((rrT p.main).map dS), .int .i64 (rrT p.main).length, .int .i64 i, slotOf σ 65, slotOf σ 66, slotOf σ 67, slotOf σ 68, slotOf σ 69, slotOf σ 70, slotOf σ 71, slotOf σ 72, slotOf σ 73, slotOf σ 74, slotOf σ 75, slotOf σ 76, slotOf σ 77, slotOf σ 78, slotOf σ 79, slotOf σ 80, slotOf σ 81, slotOf σ 82, slotOf σ 83, slotOf σ 84, slotOf σ 85, slotOf σ 86, slotOf σ 87, slotOf σ 88, slotOf σ 89, slotOf σ 90, slotOf σ 91, slotOf σ 92, slotOf σ 93, slotOf σ 94, slotOf σ 95, slotOf σ 96, slotOf σ 97, slotOf σ 98, slotOf σ 99, slotOf σ 100, slotOf σ 101, slotOf σ 102, slotOf σ 103, slotOf σ 104, slotOf σ 105, slotOf σ 106], [.slice .imm (if (p.vars.map dV).isEmpty = true then 0 else 3) (p.vars.map dV), .slice .imm (if (p.procs.map dP).isEmpty = true then 0 else 6) (p.procs.map dP), .int .u8 p.main.kind, .int .i64 p.main.num, .str p.main.name, .slice .imm (if (p.main.kids.map dN).isEmpty = true then 0 else 4) (p.main.kids.map dN)] :: r, nx, lv⟩ ∧ m = (rrT p.main).length - i ∧ i ≤ (rrT p.main).length) ?_ ((rrT p.main).length) _ ?_
 rotate_left
 ·exact ⟨0, _, _, _, rfl, rfl, Nat.zero_le _⟩
 rintro m σ ⟨i, r, nx, lv, hσ, rfl, hi⟩
 generalize slotOf σ = x at hσ
 subst hσ
 refine X_seq ?_
 refine X_rg fun R hR => ?_
 simp only [Int.reduceNeg, nat_lt, aops, astep, awant, aeff, aop, abin, aint, ev, St.put, zg1, zg0, zgd, zmo, if_true, zs1, zs0]
 with_reducible refine hR _ ?_
 clear hR R
 show X _ _ _ _
 refine X_seq ?_
 refine X_ite (by simp only [ev, zg1, zg0, zgd]; exact rfl) ?_ ?_
 ·intro b1
  have c1 := b1
  try simp only [decide_eq_true_eq] at c1
  refine X_skip ?_
  show X _ _ _ _
  refine X_seq ?_
  refine X_block ?_
  refine X_seq ?_
  have hlt : i < (rrT p.main).length := by first | assumption | omega
  have hn1 : ((if ((rrT p.main).map dS).isEmpty = true then 0 else 1) = 1) = True := eq_true (sl_n (j := i) (by simpa using hlt))
  have e1 : ((rrT p.main).map dS)[i]? = some (.str (rrT p.main)[i]) := by rw [List.getElem?_map, List.getElem?_eq_getElem hlt]; rfl
  refine X_rg fun R hR => ?_
  simp only [EVgP, Int.reduceNeg, nat_lt, nat_0, nat_to, aops, astep, awant, aeff, aop, ev, St.put, ia_str, cl_str, zg1, zg0, zgd, zmo, if_true, zs1, zs0, zlm, zlc, zln, Nat.zero_add, and_self, decide_true, zis, ty_string, und_string, siz_string, inf_string_eq, hlt, hn1, e1]
  with_reducible refine hR _ ?_
  clear hR R
  show X _ _ _ _
  refine X_seq ?_
  have hfi := up_g (find_fn p.vars (rrT p.main)[i] (by omega))
  rw [hasV_eq, reads_main hv hc (List.getElem_mem hlt)] at hfi
  simp only [sl] at hfi
  refine X_rg fun R hR => ?_
  simp only [EVgP, Int.reduceNeg, app_get0, app_set0, aops, astep, awant, aeff, aop, astore, ev, St.put, pcall, zmc, zmn, zg1, zg0, zgd, zmo, zbs, if_true, zs1, zs0, zlc, zln, zd1, zd0, zt0, zca, zna, Nat.reduceAdd, Nat.reduceLeDiff, Nat.zero_add, and_self, ty_api_VarDecl, any9, dV_cells, dV_good, hfi]
  with_reducible refine hR _ ?_
  clear hR R
  show X _ _ _ _
  refine X_seq ?_
  refine X_rg fun R hR => ?_
  simp only [Int.reduceNeg, aops, astep, awant, aeff, aop, ev, St.put, zg1, zg0, zgd, zmo, if_true, zs1, zs0, Bool.not_true]
  with_reducible refine hR _ ?_
  clear hR R
  show X _ _ _ _
  refine X_false (by simp only [ev, zg1, zg0, zgd]) ?_
  refine X_skip ?_
  show X _ _ _ _
  have hbig : i < 9223372036854775807 := by have := hll; omega
  refine X_rg fun R hR => ?_
  simp only [inr_i64, Int.reduceLE, Int.reduceNeg, aops, astep, awant, aeff, aop, abin, aint, ev, ofValue, St.put, zg1, zg0, zgd, zmo, if_true, zs1, zs0, and_self, nat_succ hbig]
  with_reducible refine hR _ ?_
  clear hR R
  show ∃ m, m < _ ∧ _
  exact ⟨(rrT p.main).length - (i + 1), by omega, i + 1, _, _, _, rfl, rfl, by omega⟩
 ·intro b2
  have c2 := b2
  try simp only [decide_eq_false_iff_not] at c2
  refine X_exit ?_
  show X _ _ _ _
  refine X_seq ?_
  refine X_seq ?_
  have hcs := calls_fn p hs (-1)
  simp only [sl] at hcs
  refine X_rg fun R hR => ?_
  simp only [EVgP, inr_i64, Int.reduceLE, Int.reduceNeg, aops, astep, awant, aeff, aop, mkD, ev, ofValue, St.put, pcall, zmc, zmn, zg1, zg0, zgd, zmo, if_true, zs1, zs0, zlm, zlc, zln, zd0, zt1, zt0, zca, zna, Nat.reduceAdd, Nat.reduceLeDiff, Nat.zero_add, and_self, ty_api_Program, und_int, any10, dG_agg, b2, hcs]
  with_reducible refine hR _ ?_
  clear hR R
  show X _ _ _ _
  refine X_block ?_
  refine X_loop (fun m σ => ∃ (i : Nat) (r : List (List D)) (nx : Nat) (lv : List Nat), σ = ⟨[slotOf σ 0, slotOf σ 1, .ptr 0 0, slotOf σ 3, slotOf σ 4, slotOf σ 5, slotOf σ 6, slotOf σ 7, slotOf σ 8, slotOf σ 9, slotOf σ 10, slotOf σ 11, slotOf σ 12, slotOf σ 13, slotOf σ 14, slotOf σ 15, slotOf σ 16, slotOf σ 17, slotOf σ 18, slotOf σ 19, slotOf σ 20, slotOf σ 21, slotOf σ 22, slotOf σ 23, slotOf σ 24, slotOf σ 25, slotOf σ 26, slotOf σ 27, slotOf σ 28, slotOf σ 29, slotOf σ 30, slotOf σ 31, slotOf σ 32, slotOf σ 33, slotOf σ 34, slotOf σ 35, slotOf σ 36, slotOf σ 37, slotOf σ 38, slotOf σ 39, slotOf σ 40, slotOf σ 41, slotOf σ 42, slotOf σ 43, slotOf σ 44, slotOf σ 45, slotOf σ 46, slotOf σ 47, slotOf σ 48, slotOf σ 49, slotOf σ 50, slotOf σ 51, slotOf σ 52, slotOf σ 53, slotOf σ 54, slotOf σ 55, slotOf σ 56, slotOf σ 57, slotOf σ 58, slotOf σ 59, slotOf σ 60, slotOf σ 61, slotOf σ 62, slotOf σ 63, slotOf σ 64, slotOf σ 65, slotOf σ 66, slotOf σ 67, slotOf σ 68, slotOf σ 69, slotOf σ 70, slotOf σ 71, slotOf σ 72, slotOf σ 73, slotOf σ 74, slotOf σ 75, slotOf σ 76, slotOf σ 77, slotOf σ 78, .slice .imm (if ((clF p (-1)).map dI).isEmpty = true then 0 else 1) ((clF p (-1)).map dI), .int .i64 (clF p (-1)).length, .int .i64 i, slotOf σ 82, slotOf σ 83, slotOf σ 84, slotOf σ 85, slotOf σ 86, slotOf σ 87, slotOf σ 88, slotOf σ 89, slotOf σ 90, slotOf σ 91, slotOf σ 92, slotOf σ 93, slotOf σ 94, slotOf σ 95, slotOf σ 96, slotOf σ 97, slotOf σ 98, slotOf σ 99, slotOf σ 100, slotOf σ 101, slotOf σ 102, slotOf σ 103, slotOf σ 104, slotOf σ 105, slotOf σ 106], [.slice .imm (if (p.vars.map dV).isEmpty = true then 0 else 3) (p.vars.map dV), .slice .imm (if (p.procs.map dP).isEmpty = true then 0 else 6) (p.procs.map dP), .int .u8 p.main.kind, .int .i64 p.main.num, .str p.main.name, .slice .imm (if (p.main.kids.map dN).isEmpty = true then 0 else 4) (p.main.kids.map dN)] :: r, nx, lv⟩ ∧ m = (clF p (-1)).length - i ∧ i ≤ (clF p (-1)).length) ?_ ((clF p (-1)).length) _ ?_
  rotate_left
  ·exact ⟨0, _, _, _, rfl, rfl, Nat.zero_le _⟩
  rintro m σ ⟨i, r, nx, lv, hσ, rfl, hi⟩
  generalize slotOf σ = x at hσ
  subst hσ
  refine X_seq ?_
  refine X_rg fun R hR => ?_
  simp only [Int.reduceNeg, nat_lt, aops, astep, awant, aeff, aop, abin, aint, ev, St.put, zg1, zg0, zgd, zmo, if_true, zs1, zs0]
  with_reducible refine hR _ ?_
  clear hR R
  show X _ _ _ _
  refine X_seq ?_
  refine X_ite (by simp only [ev, zg1, zg0, zgd]; exact rfl) ?_ ?_
  ·intro b3
   have c3 := b3
   try simp only [decide_eq_true_eq] at c3
   refine X_skip ?_
   show X _ _ _ _
   refine X_seq ?_
   refine X_block ?_
   refine X_seq ?_
   have hlt : i < (clF p (-1)).length := by first | assumption | omega
   have hn1 : ((if ((clF p (-1)).map dI).isEmpty = true then 0 else 1) = 1) = True := eq_true (sl_n (j := i) (by simpa using hlt))
   obtain ⟨m, hm, hme, hmp⟩ := clF_ok (List.getElem_mem hlt)
   have e1 : ((clF p (-1)).map dI)[i]? = some (.int .i64 (m : Int)) := by rw [List.getElem?_map, List.getElem?_eq_getElem hlt, hme]; rfl
   refine X_rg fun R hR => ?_
   simp only [EVgP, Int.reduceNeg, nat_lt, nat_0, nat_to, aops, astep, awant, aeff, aop, ev, St.put, ia_int, cl_int, zg1, zg0, zgd, zmo, if_true, zs1, zs0, zlm, zlc, zln, Nat.zero_add, and_self, decide_true, zis, ty_int, und_int, siz_int, inf_int_eq, hlt, hn1, e1]
   with_reducible refine hR _ ?_
   clear hR R
   show X _ _ _ _
   refine X_seq ?_
   have g1 : (decide ((m : Int) < 0)) = false := by simp; try omega
   have g2 : (decide ((m : Int) ≥ (p.procs.length : Int))) = false := by simp; try omega
   have g3 : (decide (p.procs.length ≤ m)) = false := by simp; try omega
   have hm6 : ((if (p.procs.map dP).isEmpty = true then 0 else 6) = 6) = True := eq_true (sl_n (j := m) (by simpa using hm))
   have em : (p.procs.map dP)[m]? = some (.agg [.str p.procs[m].name, .slice .imm (if (p.procs[m].params.map dV).isEmpty = true then 0 else 3) (p.procs[m].params.map dV), .int .u8 p.procs[m].body.kind, .int .i64 p.procs[m].body.num, .str p.procs[m].body.name, .slice .imm (if (p.procs[m].body.kids.map dN).isEmpty = true then 0 else 4) (p.procs[m].body.kids.map dN)]) := by rw [List.getElem?_map, List.getElem?_eq_getElem hm]; rfl
   have hml : ((m : Int) < (p.procs.length : Int)) = True := eq_true (by omega)
   have hm0 : (0 ≤ (m : Int)) = True := eq_true (by omega)
   have hmn : ((m : Int)).toNat = m := Int.toNat_natCast m
   have hpi := up_g (proc_fn p p.procs[m].name (by omega))
   have hpi2 : idxN p.procs p.procs[m].name 0 p.procs.length = procI p p.procs[m].name := rfl
   rw [hpi2, hmp] at hpi
   refine X_rg fun R hR => ?_
   simp only [EVgP, inr_i64, Int.reduceLE, Int.reduceNeg, aops, astep, awant, aeff, aop, abin, aint, mkD, ev, ofValue, St.put, pcall, ia_str, cl_str, ia_slice, zmc, zmn, zg1, zg0, zgd, zmo, zbs, if_true, zs1, zs0, zlm, zlc, zln, zd1, zd0, zt1, zt0, zca, zna, Nat.reduceAdd, Nat.reduceLeDiff, Nat.zero_add, zft, if_false, and_self, reduceCtorEq, beq_self_eq_true, bne_self_eq_false, zis, ty_string, ty_s_api_Proc, ty_api_Proc, ty_api_Program, und_api_Proc, siz_api_Proc, inf_api_Proc_eq, any11, dG_agg, g1, g2, hm6, em, hml, hm0, hmn, hpi, bne_self_eq_false, beq_self_eq_true]
   with_reducible refine hR _ ?_
   clear hR R
   show X _ _ _ _
   refine X_false (by simp only [ev, zg1, zg0, zgd]) ?_
   refine X_skip ?_
   show X _ _ _ _
   have hbig : i < 9223372036854775807 := by have := hcl2; omega
   refine X_rg fun R hR => ?_
   simp only [inr_i64, Int.reduceLE, Int.reduceNeg, aops, astep, awant, aeff, aop, abin, aint, ev, ofValue, St.put, zg1, zg0, zgd, zmo, if_true, zs1, zs0, and_self, nat_succ hbig]
   with_reducible refine hR _ ?_
   clear hR R
   show ∃ m, m < _ ∧ _
   exact ⟨(clF p (-1)).length - (i + 1), by omega, i + 1, _, _, _, rfl, rfl, by omega⟩
  ·intro b4
   have c4 := b4
   try simp only [decide_eq_false_iff_not] at c4
   refine X_exit ?_
   show X _ _ _ _
   refine X_seq ?_
   refine X_rg fun R hR => ?_
   simp only [Int.reduceNeg, aops, astep, awant, aeff, aop, ev, ofValue, St.put, zgd, zmo, if_true, zs1, zs0, b4]
   with_reducible refine hR _ ?_
   clear hR R
   show X _ _ _ _
   refine X_ret ?_
   show resD _ _ _ = some _
   simp only [resD, resAll, resOne, resTup, Tryz.results3, EVgP, zg1, zg0, D.good, if_true, zmo]
theorem lawV_fn (p : Pg) (q : Int) (_ : -9223372036854775808 ≤ q) (_ : q ≤ 9223372036854775807) : fn EVg 3 [dG p, .int .i64 q] = some (.bool true) := by
 cases ha : smallP p with
 | false => exact lawV_n p q ha
 | true =>
  by_cases h1 : q < -1
  ·exact lawV_1 p q ha h1
  by_cases h2 : (p.procs.length : Int) ≤ q
  ·exact lawV_2 p q ha h1 h2
  cases hv : validB p with
  | false => exact lawV_v p q ha h1 (by omega) hv
  | true =>
   by_cases hc : checkF p = []
   ·by_cases h3 : q = -1
    ·subst h3; exact lawV_m p ha hv hc
    ·obtain ⟨k, rfl⟩ : ∃ k : Nat, q = (k : Int) := ⟨q.toNat, by omega⟩
     exact lawV_k p k ha (by omega) hv hc
   ·exact lawV_c p q ha h1 (by omega) hv hc

end Go.Proofs.YtkkhjpkkjpcbmaaGreat
