/- The law AstAt: its walk. -/
import Derived.Test.YtkngdmilgfgclaaPut
namespace Go.Proofs.Ytkngdmilgfgclaa
open Go.RowKit

/-- the contracts of Replace, Put and Copy -/
def AtC : Nat → List D → D → Prop := fun k a d => RepC k a d ∨ (k = 38 ∧ ∃ t p m r, m.size ≤ 1000000 ∧ t.size ≤ 1000000 ∧ putO t p m = some r ∧ a = [dN t, sl 1 (p.map dI), dN m] ∧ d = dN r) ∨ (k = 29 ∧ ∃ t, t.size ≤ 1000000 ∧ a = [dN t] ∧ d = dN t)
noncomputable def EVa : Env := EV.by AtC
theorem EVaP : EVa.P = Try.prog := rfl
theorem EVa_ok : EVa.Ok := by_ok EV_ok fun k a d h => by
  rcases h with ⟨hk, t, p, m, h1, h2, ha, hd⟩ | ⟨hk, t, p, m, r, h1, h2, h3, ha, hd⟩ | ⟨hk, t, h1, ha, hd⟩
  · subst hk ha hd
    exact ⟨(repD_good t p m).1, (repD_good t p m).2, rep_any m p t h1 h2⟩
  · subst hk ha hd
    exact ⟨dN_under 0 r, dN_strip r, put_any m h1 p t r h2 h3⟩
  · subst hk ha hd
    exact ⟨dN_under 0 t, dN_strip t, copy_p t h1⟩
theorem rep_fa (t : Tr) (p : List Int) (m : Tr) (h1 : p.length ≤ 1000000) (h2 : t.size ≤ 16777216) : fn EVa 36 [dN t, sl 1 (p.map dI), dN m] = some (repD t p m) := by
  refine by_fn (by simp only [plain, List.all_cons, List.all_nil, dN_pl, sl_pl (f := dI) (fun _ _ => rfl), Bool.and_true]) (by simp only [List.map_cons, List.map_nil, dN_strip, sl_strip (map_strip (f := dI) (fun _ => rfl) _)]) rfl rfl (.inl ⟨rfl, t, p, m, h1, h2, rfl, rfl⟩) ?_
  rintro d' (⟨_, t', p', m', _, _, ha, rfl⟩ | ⟨hk, _⟩ | ⟨hk, _⟩)
  · simp only [List.cons.injEq, and_true] at ha
    obtain ⟨e1, e2, e3⟩ := ha
    rw [dN_inj e1, sl_inj e2, dN_inj e3]
  · exact absurd hk (by decide)
  · exact absurd hk (by decide)
theorem put_fa (t : Tr) (p : List Int) (m r : Tr) (h1 : m.size ≤ 1000000) (h2 : t.size ≤ 1000000) (h3 : putO t p m = some r) : fn EVa 38 [dN t, sl 1 (p.map dI), dN m] = some (dN r) := by
  refine by_fn (by simp only [plain, List.all_cons, List.all_nil, dN_pl, sl_pl (f := dI) (fun _ _ => rfl), Bool.and_true]) (by simp only [List.map_cons, List.map_nil, dN_strip, sl_strip (map_strip (f := dI) (fun _ => rfl) _)]) rfl rfl (.inr (.inl ⟨rfl, t, p, m, r, h1, h2, h3, rfl, rfl⟩)) ?_
  rintro d' (⟨hk, _⟩ | ⟨_, t', p', m', r', _, _, h4, ha, rfl⟩ | ⟨hk, _⟩)
  · exact absurd hk (by decide)
  · simp only [List.cons.injEq, and_true] at ha
    obtain ⟨e1, e2, e3⟩ := ha
    rw [dN_inj e1, sl_inj e2, dN_inj e3, h4] at h3
    cases h3; rfl
  · exact absurd hk (by decide)
theorem copy_fa (t : Tr) (h : t.size ≤ 1000000) : fn EVa 29 [dN t] = some (dN t) := by
  refine by_fn (by simp only [plain, List.all_cons, List.all_nil, dN_pl, Bool.and_true]) (by simp only [List.map_cons, List.map_nil, dN_strip]) rfl rfl (.inr (.inr ⟨rfl, t, h, rfl, rfl⟩)) ?_
  rintro d' (⟨hk, _⟩ | ⟨hk, _⟩ | ⟨_, t', _, ha, rfl⟩)
  · exact absurd hk (by decide)
  · exact absurd hk (by decide)
  · simp only [List.cons.injEq, and_true] at ha
    rw [dN_inj ha]
theorem awake_a : fn EVa 13 [] = some (.bool true) := by_up awake_ok
theorem equal_no : fn EVa 26 [dN noT, .agg [.int .u8 0, .int .i64 0, .str ⟨#[]⟩, .slice .nil 0 []]] = some (.bool true) := by
  have h : fn EVa 26 [dN noT, dN noT] = some (.bool (eqB noT noT)) := by_up (o_backstepref03_Equal noT noT)
  rw [eqB_refl] at h
  rw [← h]
  refine fn_strip rfl rfl rfl
set_option maxRecDepth 100000 in
set_option maxHeartbeats 4000000 in
theorem law8_no (t m : Tr) (p : List Int) (hbt : bigB t = false) (hbm : bigB m = false) (hpl : p.length ≤ 100) (hO : atO t p = none) (hP : putO t p m = none) : fn EVa 8 [dN t, dN m, sl 1 (p.map dI)] = some (.bool true) := by
  have ht := (bigB_no hbt).1
  have hm := (bigB_no hbm).1
  refine fn_X rfl Try.func8 rfl (by simp only [plain, List.all_cons, List.all_nil, dN_pl, sl_pl (f := dI) (fun _ _ => rfl), Bool.and_true]) (rfl) (rfl) (rfl) ?_
  simp only [List.map_cons, List.map_nil, dN_strip, sl_strip (map_strip (f := dI) (fun _ => rfl) _)]
  simp only [enterSt, Try.ntmps8, List.length_cons, List.length_nil, Nat.reduceAdd, Nat.reduceSub, List.replicate_succ, List.replicate_zero, List.cons_append, List.nil_append]
  refine X_seq ?_
  refine X_rg fun R hR => ?_
  simp only [aops, astep, awant, aeff, aop, ev, ofValue, St.put, List.getElem?_cons_succ, List.getElem?_cons_zero, Option.getD_some, Option.map_some, if_true, List.set_cons_succ, List.set_cons_zero, List.length_cons, List.length_nil, List.cons_append, List.nil_append, Nat.zero_add, dN_cells, dN_good, sl]
  with_reducible refine hR _ ?_
  clear hR R
  show X _ _ _ _
  refine X_seq ?_
  refine X_seq ?_
  refine X_rg fun R hR => ?_
  simp only [EVaP, aops, astep, awant, aeff, aop, ev, St.put, pcall, List.map_nil, List.getElem?_cons_succ, List.getElem?_cons_zero, Option.getD_some, Option.map_some, if_true, List.set_cons_succ, List.set_cons_zero, List.nil_append, Bool.not_true, any13, awake_a]
  with_reducible refine hR _ ?_
  clear hR R
  show X _ _ _ _
  refine X_false (by simp only [ev, List.getElem?_cons_succ, List.getElem?_cons_zero, Option.getD_some]) ?_
  refine X_skip ?_
  show X _ _ _ _
  refine X_seq ?_
  refine X_seq ?_
  have hb1 : fn EVa _ _ = _ := by_up (o_backstepref03_Big t)
  have hb2 : fn EVa _ _ = _ := by_up (o_backstepref03_Big m)
  rw [hbt] at hb1
  rw [hbm] at hb2
  have hp100 : decide ((100 : Int) < (p.length : Int)) = false := by rw [decide_eq_false_iff_not]; omega
  refine X_rg fun R hR => ?_
  simp only [EVaP, inr_i64, Int.reduceLE, Int.reduceNeg, aops, astep, awant, aeff, aop, abin, aint, mkD, ev, ofValue, St.put, pcall, List.map_cons, List.map_nil, List.getElem?_cons_succ, List.getElem?_cons_zero, Option.getD_some, Option.map_some, Option.bind_some, if_true, List.set_cons_succ, List.set_cons_zero, List.length_map, List.length_cons, List.length_nil, List.drop_zero, List.take_succ_cons, List.take_zero, List.cons_append, List.nil_append, Nat.reduceAdd, Nat.reduceLeDiff, Nat.zero_add, Bool.false_eq_true, if_false, and_self, beq_self_eq_true, ty_api_Node, und_int, any14, dN_agg, hb1, hb2, hp100, gt_iff_lt]
  with_reducible refine hR _ ?_
  clear hR R
  show X _ _ _ _
  refine X_false (by simp only [ev, List.getElem?_cons_succ, List.getElem?_cons_zero, Option.getD_some]) ?_
  refine X_skip ?_
  show X _ _ _ _
  refine X_seq ?_
  have hcp := copy_fa t (by omega)
  refine X_rg fun R hR => ?_
  simp only [EVaP, aops, astep, awant, aeff, aop, mkD, astore, ev, St.put, pcall, List.map_cons, List.map_nil, List.getElem?_cons_succ, List.getElem?_cons_zero, Option.getD_some, Option.map_some, Option.bind_some, if_true, List.set_cons_succ, List.set_cons_zero, List.length_cons, List.length_nil, List.drop_succ_cons, List.drop_zero, List.take_succ_cons, List.take_zero, List.cons_append, List.nil_append, Nat.reduceAdd, Nat.reduceLeDiff, Nat.zero_add, and_self, ty_api_Node, any29, dN_agg, dN_cells, dN_good, sl, hcp]
  with_reducible refine hR _ ?_
  clear hR R
  show X _ _ _ _
  refine X_seq ?_
  have hat : fn EVa _ _ = _ := by_up (at_fn t p (by omega))
  rw [atO_eq, hO] at hat
  simp only [sl] at hat
  refine X_rg fun R hR => ?_
  simp only [EVaP, aops, astep, awant, aeff, aop, mkD, astore, ev, St.put, pcall, List.map_cons, List.map_nil, List.getElem?_cons_succ, List.getElem?_cons_zero, Option.getD_some, Option.map_some, Option.bind_some, if_true, List.set_cons_succ, List.set_cons_zero, List.length_cons, List.length_nil, List.drop_succ_cons, List.drop_zero, List.take_succ_cons, List.take_zero, List.cons_append, List.nil_append, Nat.reduceAdd, Nat.reduceLeDiff, Nat.zero_add, and_self, ty_api_Node, any37, dN_agg, dN_cells, dN_good, sl, hat]
  with_reducible refine hR _ ?_
  clear hR R
  show X _ _ _ _
  refine X_seq ?_
  have hrat : fn EVa _ _ = _ := by_up (rat_fn p t (by omega))
  rw [atO_eq, hO] at hrat
  simp only [sl] at hrat
  refine X_rg fun R hR => ?_
  simp only [EVaP, aops, astep, awant, aeff, aop, mkD, astore, ev, St.put, pcall, List.map_cons, List.map_nil, List.getElem?_cons_succ, List.getElem?_cons_zero, Option.getD_some, Option.map_some, Option.bind_some, if_true, List.set_cons_succ, List.set_cons_zero, List.length_cons, List.length_nil, List.drop_succ_cons, List.drop_zero, List.take_succ_cons, List.take_zero, List.cons_append, List.nil_append, Nat.reduceAdd, Nat.reduceLeDiff, Nat.zero_add, and_self, ty_api_Node, any25, dN_agg, dN_cells, dN_good, sl, hrat]
  with_reducible refine hR _ ?_
  clear hR R
  show X _ _ _ _
  refine X_seq ?_
  have hrep := rep_fa t p m (by omega) (by omega)
  rw [show repD t p m = .tup [dN noT, .bool false] from by unfold repD; rw [hP]] at hrep
  simp only [sl] at hrep
  refine X_rg fun R hR => ?_
  simp only [EVaP, aops, astep, awant, aeff, aop, mkD, astore, ev, St.put, pcall, List.map_cons, List.map_nil, List.getElem?_cons_succ, List.getElem?_cons_zero, Option.getD_some, Option.map_some, Option.bind_some, if_true, List.set_cons_succ, List.set_cons_zero, List.length_cons, List.length_nil, List.drop_succ_cons, List.drop_zero, List.take_succ_cons, List.take_zero, List.cons_append, List.nil_append, Nat.reduceAdd, Nat.reduceLeDiff, Nat.zero_add, and_self, ty_api_Node, any36, dN_agg, dN_cells, dN_good, sl, hrep]
  with_reducible refine hR _ ?_
  clear hR R
  show X _ _ _ _
  refine X_seq ?_
  refine X_seq ?_
  have he1 : fn EVa _ _ = _ := by_up (o_backstepref03_Equal t t)
  rw [eqB_refl] at he1
  refine X_rg fun R hR => ?_
  simp only [EVaP, aops, astep, awant, aeff, aop, abin, mkD, ev, ofValue, St.put, pcall, List.map_cons, List.map_nil, List.getElem?_cons_succ, List.getElem?_cons_zero, Option.getD_some, Option.map_some, Option.bind_some, if_true, List.set_cons_succ, List.set_cons_zero, List.length_cons, List.length_nil, List.drop_zero, List.take_succ_cons, List.take_zero, List.cons_append, List.nil_append, Nat.reduceAdd, Nat.reduceLeDiff, Nat.zero_add, Bool.not_true, Bool.false_eq_true, if_false, beq_self_eq_true, ty_api_Node, und_bool', any26, dN_agg, he1, beq_self_eq_true]
  with_reducible refine hR _ ?_
  clear hR R
  show X _ _ _ _
  refine X_false (by simp only [ev, List.getElem?_cons_succ, List.getElem?_cons_zero, Option.getD_some]) ?_
  refine X_skip ?_
  show X _ _ _ _
  refine X_seq ?_
  refine X_seq ?_
  refine X_rg fun R hR => ?_
  simp only [aops, astep, awant, aeff, aop, ev, St.put, List.getElem?_cons_succ, List.getElem?_cons_zero, Option.getD_some, Option.map_some, if_true, List.set_cons_succ, List.set_cons_zero, Bool.not_false]
  with_reducible refine hR _ ?_
  clear hR R
  show X _ _ _ _
  refine X_true (by simp only [ev, List.getElem?_cons_succ, List.getElem?_cons_zero, Option.getD_some]) ?_
  refine X_seq ?_
  refine X_rg fun R hR => ?_
  simp only [EVaP, aops, astep, awant, aeff, aop, mkD, afill, ev, ofValue, St.put, pcall, List.map_cons, List.map_nil, List.getElem?_cons_succ, List.getElem?_cons_zero, Option.getD_some, Option.map_some, Option.bind_some, if_true, List.set_cons_succ, List.set_cons_zero, List.length_cons, List.length_nil, List.drop_zero, List.take_succ_cons, List.take_zero, List.cons_append, List.nil_append, Nat.reduceAdd, Nat.reduceLeDiff, Nat.zero_add, beq_self_eq_true, ty_api_Node, st_api_Node, sta_api_Node, any26, dN_agg, equal_no]
  with_reducible refine hR _ ?_
  clear hR R
  show X _ _ _ _
  refine X_ret ?_
  show resD _ _ _ = some _
  simp only [resD, resAll, resOne, resTup, Try.results8, EVaP, List.getElem?_cons_succ, List.getElem?_cons_zero, D.good, if_true, Option.map_some] <;> (first | (rfl; done) | (simp_all; done) | (exfalso; simp_all; done))
set_option maxRecDepth 100000 in
set_option maxHeartbeats 4000000 in
theorem law8_yes (t m x r : Tr) (p : List Int) (hbt : bigB t = false) (hbm : bigB m = false) (hpl : p.length ≤ 100) (hO : atO t p = some x) (hP : putO t p m = some r) : fn EVa 8 [dN t, dN m, sl 1 (p.map dI)] = some (.bool true) := by
  have ht := (bigB_no hbt).1
  have hm := (bigB_no hbm).1
  refine fn_X rfl Try.func8 rfl (by simp only [plain, List.all_cons, List.all_nil, dN_pl, sl_pl (f := dI) (fun _ _ => rfl), Bool.and_true]) (rfl) (rfl) (rfl) ?_
  simp only [List.map_cons, List.map_nil, dN_strip, sl_strip (map_strip (f := dI) (fun _ => rfl) _)]
  simp only [enterSt, Try.ntmps8, List.length_cons, List.length_nil, Nat.reduceAdd, Nat.reduceSub, List.replicate_succ, List.replicate_zero, List.cons_append, List.nil_append]
  refine X_seq ?_
  refine X_rg fun R hR => ?_
  simp only [aops, astep, awant, aeff, aop, ev, ofValue, St.put, List.getElem?_cons_succ, List.getElem?_cons_zero, Option.getD_some, Option.map_some, if_true, List.set_cons_succ, List.set_cons_zero, List.length_cons, List.length_nil, List.cons_append, List.nil_append, Nat.zero_add, dN_cells, dN_good, sl]
  with_reducible refine hR _ ?_
  clear hR R
  show X _ _ _ _
  refine X_seq ?_
  refine X_seq ?_
  refine X_rg fun R hR => ?_
  simp only [EVaP, aops, astep, awant, aeff, aop, ev, St.put, pcall, List.map_nil, List.getElem?_cons_succ, List.getElem?_cons_zero, Option.getD_some, Option.map_some, if_true, List.set_cons_succ, List.set_cons_zero, List.nil_append, Bool.not_true, any13, awake_a]
  with_reducible refine hR _ ?_
  clear hR R
  show X _ _ _ _
  refine X_false (by simp only [ev, List.getElem?_cons_succ, List.getElem?_cons_zero, Option.getD_some]) ?_
  refine X_skip ?_
  show X _ _ _ _
  refine X_seq ?_
  refine X_seq ?_
  have hb1 : fn EVa _ _ = _ := by_up (o_backstepref03_Big t)
  have hb2 : fn EVa _ _ = _ := by_up (o_backstepref03_Big m)
  rw [hbt] at hb1
  rw [hbm] at hb2
  have hp100 : decide ((100 : Int) < (p.length : Int)) = false := by rw [decide_eq_false_iff_not]; omega
  refine X_rg fun R hR => ?_
  simp only [EVaP, inr_i64, Int.reduceLE, Int.reduceNeg, aops, astep, awant, aeff, aop, abin, aint, mkD, ev, ofValue, St.put, pcall, List.map_cons, List.map_nil, List.getElem?_cons_succ, List.getElem?_cons_zero, Option.getD_some, Option.map_some, Option.bind_some, if_true, List.set_cons_succ, List.set_cons_zero, List.length_map, List.length_cons, List.length_nil, List.drop_zero, List.take_succ_cons, List.take_zero, List.cons_append, List.nil_append, Nat.reduceAdd, Nat.reduceLeDiff, Nat.zero_add, Bool.false_eq_true, if_false, and_self, beq_self_eq_true, ty_api_Node, und_int, any14, dN_agg, hb1, hb2, hp100, gt_iff_lt]
  with_reducible refine hR _ ?_
  clear hR R
  show X _ _ _ _
  refine X_false (by simp only [ev, List.getElem?_cons_succ, List.getElem?_cons_zero, Option.getD_some]) ?_
  refine X_skip ?_
  show X _ _ _ _
  refine X_seq ?_
  have hcp := copy_fa t (by omega)
  refine X_rg fun R hR => ?_
  simp only [EVaP, aops, astep, awant, aeff, aop, mkD, astore, ev, St.put, pcall, List.map_cons, List.map_nil, List.getElem?_cons_succ, List.getElem?_cons_zero, Option.getD_some, Option.map_some, Option.bind_some, if_true, List.set_cons_succ, List.set_cons_zero, List.length_cons, List.length_nil, List.drop_succ_cons, List.drop_zero, List.take_succ_cons, List.take_zero, List.cons_append, List.nil_append, Nat.reduceAdd, Nat.reduceLeDiff, Nat.zero_add, and_self, ty_api_Node, any29, dN_agg, dN_cells, dN_good, sl, hcp]
  with_reducible refine hR _ ?_
  clear hR R
  show X _ _ _ _
  refine X_seq ?_
  have hat : fn EVa _ _ = _ := by_up (at_fn t p (by omega))
  rw [atO_eq, hO] at hat
  simp only [sl] at hat
  refine X_rg fun R hR => ?_
  simp only [EVaP, aops, astep, awant, aeff, aop, mkD, astore, ev, St.put, pcall, List.map_cons, List.map_nil, List.getElem?_cons_succ, List.getElem?_cons_zero, Option.getD_some, Option.map_some, Option.bind_some, if_true, List.set_cons_succ, List.set_cons_zero, List.length_cons, List.length_nil, List.drop_succ_cons, List.drop_zero, List.take_succ_cons, List.take_zero, List.cons_append, List.nil_append, Nat.reduceAdd, Nat.reduceLeDiff, Nat.zero_add, and_self, ty_api_Node, any37, dN_agg, dN_cells, dN_good, sl, hat]
  with_reducible refine hR _ ?_
  clear hR R
  show X _ _ _ _
  refine X_seq ?_
  have hrat : fn EVa _ _ = _ := by_up (rat_fn p t (by omega))
  rw [atO_eq, hO] at hrat
  simp only [sl] at hrat
  refine X_rg fun R hR => ?_
  simp only [EVaP, aops, astep, awant, aeff, aop, mkD, astore, ev, St.put, pcall, List.map_cons, List.map_nil, List.getElem?_cons_succ, List.getElem?_cons_zero, Option.getD_some, Option.map_some, Option.bind_some, if_true, List.set_cons_succ, List.set_cons_zero, List.length_cons, List.length_nil, List.drop_succ_cons, List.drop_zero, List.take_succ_cons, List.take_zero, List.cons_append, List.nil_append, Nat.reduceAdd, Nat.reduceLeDiff, Nat.zero_add, and_self, ty_api_Node, any25, dN_agg, dN_cells, dN_good, sl, hrat]
  with_reducible refine hR _ ?_
  clear hR R
  show X _ _ _ _
  refine X_seq ?_
  have hrep := rep_fa t p m (by omega) (by omega)
  rw [show repD t p m = .tup [dN r, .bool true] from by unfold repD; rw [hP]] at hrep
  simp only [sl] at hrep
  refine X_rg fun R hR => ?_
  simp only [EVaP, aops, astep, awant, aeff, aop, mkD, astore, ev, St.put, pcall, List.map_cons, List.map_nil, List.getElem?_cons_succ, List.getElem?_cons_zero, Option.getD_some, Option.map_some, Option.bind_some, if_true, List.set_cons_succ, List.set_cons_zero, List.length_cons, List.length_nil, List.drop_succ_cons, List.drop_zero, List.take_succ_cons, List.take_zero, List.cons_append, List.nil_append, Nat.reduceAdd, Nat.reduceLeDiff, Nat.zero_add, and_self, ty_api_Node, any36, dN_agg, dN_cells, dN_good, sl, hrep]
  with_reducible refine hR _ ?_
  clear hR R
  show X _ _ _ _
  refine X_seq ?_
  refine X_seq ?_
  have he1 : fn EVa _ _ = _ := by_up (o_backstepref03_Equal t t)
  rw [eqB_refl] at he1
  refine X_rg fun R hR => ?_
  simp only [EVaP, aops, astep, awant, aeff, aop, abin, mkD, ev, ofValue, St.put, pcall, List.map_cons, List.map_nil, List.getElem?_cons_succ, List.getElem?_cons_zero, Option.getD_some, Option.map_some, Option.bind_some, if_true, List.set_cons_succ, List.set_cons_zero, List.length_cons, List.length_nil, List.drop_zero, List.take_succ_cons, List.take_zero, List.cons_append, List.nil_append, Nat.reduceAdd, Nat.reduceLeDiff, Nat.zero_add, Bool.not_true, Bool.false_eq_true, if_false, beq_self_eq_true, ty_api_Node, und_bool', any26, dN_agg, he1, beq_self_eq_true]
  with_reducible refine hR _ ?_
  clear hR R
  show X _ _ _ _
  refine X_false (by simp only [ev, List.getElem?_cons_succ, List.getElem?_cons_zero, Option.getD_some]) ?_
  refine X_skip ?_
  show X _ _ _ _
  refine X_seq ?_
  refine X_seq ?_
  refine X_rg fun R hR => ?_
  simp only [aops, astep, awant, aeff, aop, ev, St.put, List.getElem?_cons_succ, List.getElem?_cons_zero, Option.getD_some, Option.map_some, if_true, List.set_cons_succ, List.set_cons_zero, Bool.not_true]
  with_reducible refine hR _ ?_
  clear hR R
  show X _ _ _ _
  refine X_false (by simp only [ev, List.getElem?_cons_succ, List.getElem?_cons_zero, Option.getD_some]) ?_
  refine X_skip ?_
  show X _ _ _ _
  refine X_seq ?_
  have he2 : fn EVa _ _ = _ := by_up (o_backstepref03_Equal x x)
  rw [eqB_refl] at he2
  have he3 : fn EVa _ _ = _ := by_up (o_backstepref03_Equal r r)
  rw [eqB_refl] at he3
  have hpu := put_fa t p m r (by omega) (by omega) hP
  simp only [sl] at hpu
  refine X_rg fun R hR => ?_
  simp only [EVaP, aops, astep, awant, aeff, aop, mkD, ev, ofValue, St.put, pcall, List.map_cons, List.map_nil, List.getElem?_cons_succ, List.getElem?_cons_zero, Option.getD_some, Option.map_some, Option.bind_some, if_true, List.set_cons_succ, List.set_cons_zero, List.length_cons, List.length_nil, List.drop_zero, List.take_succ_cons, List.take_zero, List.cons_append, List.nil_append, Nat.reduceAdd, Nat.reduceLeDiff, Nat.zero_add, beq_self_eq_true, ty_api_Node, any26, any38, dN_agg, he2, he3, hpu]
  with_reducible refine hR _ ?_
  clear hR R
  show X _ _ _ _
  refine X_ret ?_
  show resD _ _ _ = some _
  simp only [resD, resAll, resOne, resTup, Try.results8, EVaP, List.getElem?_cons_succ, List.getElem?_cons_zero, D.good, if_true, Option.map_some] <;> (first | (rfl; done) | (simp_all; done) | (exfalso; simp_all; done))
set_option maxRecDepth 100000 in
set_option maxHeartbeats 4000000 in
theorem law8_big1 (t m : Tr) (p : List Int) (hbt : bigB t = true) : fn EVa 8 [dN t, dN m, sl 1 (p.map dI)] = some (.bool true) := by
  refine fn_X rfl Try.func8 rfl (by simp only [plain, List.all_cons, List.all_nil, dN_pl, sl_pl (f := dI) (fun _ _ => rfl), Bool.and_true]) (rfl) (rfl) (rfl) ?_
  simp only [List.map_cons, List.map_nil, dN_strip, sl_strip (map_strip (f := dI) (fun _ => rfl) _)]
  simp only [enterSt, Try.ntmps8, List.length_cons, List.length_nil, Nat.reduceAdd, Nat.reduceSub, List.replicate_succ, List.replicate_zero, List.cons_append, List.nil_append]
  refine X_seq ?_
  refine X_rg fun R hR => ?_
  simp only [aops, astep, awant, aeff, aop, ev, ofValue, St.put, List.getElem?_cons_succ, List.getElem?_cons_zero, Option.getD_some, Option.map_some, if_true, List.set_cons_succ, List.set_cons_zero, List.length_cons, List.length_nil, List.cons_append, List.nil_append, Nat.zero_add, dN_cells, dN_good, sl]
  with_reducible refine hR _ ?_
  clear hR R
  show X _ _ _ _
  refine X_seq ?_
  refine X_seq ?_
  refine X_rg fun R hR => ?_
  simp only [EVaP, aops, astep, awant, aeff, aop, ev, St.put, pcall, List.map_nil, List.getElem?_cons_succ, List.getElem?_cons_zero, Option.getD_some, Option.map_some, if_true, List.set_cons_succ, List.set_cons_zero, List.nil_append, Bool.not_true, any13, awake_a]
  with_reducible refine hR _ ?_
  clear hR R
  show X _ _ _ _
  refine X_false (by simp only [ev, List.getElem?_cons_succ, List.getElem?_cons_zero, Option.getD_some]) ?_
  refine X_skip ?_
  show X _ _ _ _
  refine X_seq ?_
  refine X_seq ?_
  have hb1 : fn EVa _ _ = _ := by_up (o_backstepref03_Big t)
  rw [hbt] at hb1
  refine X_rg fun R hR => ?_
  simp only [EVaP, inr_i64, Int.reduceLE, Int.reduceNeg, aops, astep, awant, aeff, aop, abin, mkD, ev, ofValue, St.put, pcall, List.map_cons, List.map_nil, List.getElem?_cons_succ, List.getElem?_cons_zero, Option.getD_some, Option.map_some, Option.map_none, Option.bind_some, if_true, List.set_cons_succ, List.set_cons_zero, List.length_cons, List.length_nil, List.drop_zero, List.take_succ_cons, List.take_zero, List.cons_append, List.nil_append, Nat.reduceAdd, Nat.reduceLeDiff, Nat.zero_add, Bool.false_eq_true, if_false, and_self, bq_tf, ty_api_Node, und_int, any14, dN_agg, hb1]
  with_reducible refine hR _ ?_
  clear hR R
  show X _ _ _ _
  refine X_true (by simp only [ev, List.getElem?_cons_succ, List.getElem?_cons_zero, Option.getD_some]) ?_
  refine X_seq ?_
  refine X_rg fun R hR => ?_
  simp only [aops, astep, awant, aeff, aop, ev, ofValue, St.put, Option.getD_some, Option.map_some, if_true, List.set_cons_succ, List.set_cons_zero]
  with_reducible refine hR _ ?_
  clear hR R
  show X _ _ _ _
  refine X_ret ?_
  show resD _ _ _ = some _
  simp only [resD, resAll, resOne, resTup, Try.results8, EVaP, List.getElem?_cons_succ, List.getElem?_cons_zero, D.good, if_true, Option.map_some] <;> (first | (rfl; done) | (simp_all; done) | (exfalso; simp_all; done))
set_option maxRecDepth 100000 in
set_option maxHeartbeats 4000000 in
theorem law8_big2 (t m : Tr) (p : List Int) (hbt : bigB t = false) (hbm : bigB m = true) : fn EVa 8 [dN t, dN m, sl 1 (p.map dI)] = some (.bool true) := by
  refine fn_X rfl Try.func8 rfl (by simp only [plain, List.all_cons, List.all_nil, dN_pl, sl_pl (f := dI) (fun _ _ => rfl), Bool.and_true]) (rfl) (rfl) (rfl) ?_
  simp only [List.map_cons, List.map_nil, dN_strip, sl_strip (map_strip (f := dI) (fun _ => rfl) _)]
  simp only [enterSt, Try.ntmps8, List.length_cons, List.length_nil, Nat.reduceAdd, Nat.reduceSub, List.replicate_succ, List.replicate_zero, List.cons_append, List.nil_append]
  refine X_seq ?_
  refine X_rg fun R hR => ?_
  simp only [aops, astep, awant, aeff, aop, ev, ofValue, St.put, List.getElem?_cons_succ, List.getElem?_cons_zero, Option.getD_some, Option.map_some, if_true, List.set_cons_succ, List.set_cons_zero, List.length_cons, List.length_nil, List.cons_append, List.nil_append, Nat.zero_add, dN_cells, dN_good, sl]
  with_reducible refine hR _ ?_
  clear hR R
  show X _ _ _ _
  refine X_seq ?_
  refine X_seq ?_
  refine X_rg fun R hR => ?_
  simp only [EVaP, aops, astep, awant, aeff, aop, ev, St.put, pcall, List.map_nil, List.getElem?_cons_succ, List.getElem?_cons_zero, Option.getD_some, Option.map_some, if_true, List.set_cons_succ, List.set_cons_zero, List.nil_append, Bool.not_true, any13, awake_a]
  with_reducible refine hR _ ?_
  clear hR R
  show X _ _ _ _
  refine X_false (by simp only [ev, List.getElem?_cons_succ, List.getElem?_cons_zero, Option.getD_some]) ?_
  refine X_skip ?_
  show X _ _ _ _
  refine X_seq ?_
  refine X_seq ?_
  have hb1 : fn EVa _ _ = _ := by_up (o_backstepref03_Big t)
  rw [hbt] at hb1
  have hb2 : fn EVa _ _ = _ := by_up (o_backstepref03_Big m)
  rw [hbm] at hb2
  refine X_rg fun R hR => ?_
  simp only [EVaP, inr_i64, Int.reduceLE, Int.reduceNeg, aops, astep, awant, aeff, aop, abin, mkD, ev, ofValue, St.put, pcall, List.map_cons, List.map_nil, List.getElem?_cons_succ, List.getElem?_cons_zero, Option.getD_some, Option.map_some, Option.map_none, Option.bind_some, if_true, List.set_cons_succ, List.set_cons_zero, List.length_cons, List.length_nil, List.drop_zero, List.take_succ_cons, List.take_zero, List.cons_append, List.nil_append, Nat.reduceAdd, Nat.reduceLeDiff, Nat.zero_add, Bool.false_eq_true, if_false, and_self, beq_self_eq_true, bq_tf, ty_api_Node, und_int, any14, dN_agg, hb1, hb2]
  with_reducible refine hR _ ?_
  clear hR R
  show X _ _ _ _
  refine X_true (by simp only [ev, List.getElem?_cons_succ, List.getElem?_cons_zero, Option.getD_some]) ?_
  refine X_seq ?_
  refine X_rg fun R hR => ?_
  simp only [aops, astep, awant, aeff, aop, ev, ofValue, St.put, Option.getD_some, Option.map_some, if_true, List.set_cons_succ, List.set_cons_zero]
  with_reducible refine hR _ ?_
  clear hR R
  show X _ _ _ _
  refine X_ret ?_
  show resD _ _ _ = some _
  simp only [resD, resAll, resOne, resTup, Try.results8, EVaP, List.getElem?_cons_succ, List.getElem?_cons_zero, D.good, if_true, Option.map_some] <;> (first | (rfl; done) | (simp_all; done) | (exfalso; simp_all; done))
set_option maxRecDepth 100000 in
set_option maxHeartbeats 4000000 in
theorem law8_big3 (t m : Tr) (p : List Int) (hbt : bigB t = false) (hbm : bigB m = false) (hpl : 100 < p.length) : fn EVa 8 [dN t, dN m, sl 1 (p.map dI)] = some (.bool true) := by
  refine fn_X rfl Try.func8 rfl (by simp only [plain, List.all_cons, List.all_nil, dN_pl, sl_pl (f := dI) (fun _ _ => rfl), Bool.and_true]) (rfl) (rfl) (rfl) ?_
  simp only [List.map_cons, List.map_nil, dN_strip, sl_strip (map_strip (f := dI) (fun _ => rfl) _)]
  simp only [enterSt, Try.ntmps8, List.length_cons, List.length_nil, Nat.reduceAdd, Nat.reduceSub, List.replicate_succ, List.replicate_zero, List.cons_append, List.nil_append]
  refine X_seq ?_
  refine X_rg fun R hR => ?_
  simp only [aops, astep, awant, aeff, aop, ev, ofValue, St.put, List.getElem?_cons_succ, List.getElem?_cons_zero, Option.getD_some, Option.map_some, if_true, List.set_cons_succ, List.set_cons_zero, List.length_cons, List.length_nil, List.cons_append, List.nil_append, Nat.zero_add, dN_cells, dN_good, sl]
  with_reducible refine hR _ ?_
  clear hR R
  show X _ _ _ _
  refine X_seq ?_
  refine X_seq ?_
  refine X_rg fun R hR => ?_
  simp only [EVaP, aops, astep, awant, aeff, aop, ev, St.put, pcall, List.map_nil, List.getElem?_cons_succ, List.getElem?_cons_zero, Option.getD_some, Option.map_some, if_true, List.set_cons_succ, List.set_cons_zero, List.nil_append, Bool.not_true, any13, awake_a]
  with_reducible refine hR _ ?_
  clear hR R
  show X _ _ _ _
  refine X_false (by simp only [ev, List.getElem?_cons_succ, List.getElem?_cons_zero, Option.getD_some]) ?_
  refine X_skip ?_
  show X _ _ _ _
  refine X_seq ?_
  refine X_seq ?_
  have hb1 : fn EVa _ _ = _ := by_up (o_backstepref03_Big t)
  rw [hbt] at hb1
  have hb2 : fn EVa _ _ = _ := by_up (o_backstepref03_Big m)
  rw [hbm] at hb2
  have hp100 : decide ((100 : Int) < (p.length : Int)) = true := by rw [decide_eq_true_eq]; omega
  refine X_rg fun R hR => ?_
  simp only [EVaP, inr_i64, Int.reduceLE, Int.reduceNeg, aops, astep, awant, aeff, aop, abin, aint, mkD, ev, ofValue, St.put, pcall, List.map_cons, List.map_nil, List.getElem?_cons_succ, List.getElem?_cons_zero, Option.getD_some, Option.map_some, Option.bind_some, if_true, List.set_cons_succ, List.set_cons_zero, List.length_map, List.length_cons, List.length_nil, List.drop_zero, List.take_succ_cons, List.take_zero, List.cons_append, List.nil_append, Nat.reduceAdd, Nat.reduceLeDiff, Nat.zero_add, Bool.false_eq_true, if_false, and_self, beq_self_eq_true, ty_api_Node, und_int, any14, dN_agg, hb1, hb2, hp100, gt_iff_lt]
  with_reducible refine hR _ ?_
  clear hR R
  show X _ _ _ _
  refine X_true (by simp only [ev, List.getElem?_cons_succ, List.getElem?_cons_zero, Option.getD_some]) ?_
  refine X_seq ?_
  refine X_rg fun R hR => ?_
  simp only [aops, astep, awant, aeff, aop, ev, ofValue, St.put, Option.getD_some, Option.map_some, if_true, List.set_cons_succ, List.set_cons_zero]
  with_reducible refine hR _ ?_
  clear hR R
  show X _ _ _ _
  refine X_ret ?_
  show resD _ _ _ = some _
  simp only [resD, resAll, resOne, resTup, Try.results8, EVaP, List.getElem?_cons_succ, List.getElem?_cons_zero, D.good, if_true, Option.map_some] <;> (first | (rfl; done) | (simp_all; done) | (exfalso; simp_all; done))
theorem law8_fn (t m : Tr) (p : List Int) : fn EVa 8 [dN t, dN m, sl 1 (p.map dI)] = some (.bool true) := by
  cases h1 : bigB t with
  | true => exact law8_big1 t m p h1
  | false =>
  cases h2 : bigB m with
  | true => exact law8_big2 t m p h1 h2
  | false =>
  by_cases h3 : 100 < p.length
  · exact law8_big3 t m p h1 h2 h3
  · have h4 := putO_isSome m p t
    cases hO : atO t p with
    | none =>
      rw [hO] at h4
      refine law8_no t m p h1 h2 (by omega) hO ?_
      cases hq : putO t p m with
      | none => rfl
      | some r => rw [hq] at h4; cases h4
    | some x =>
      rw [hO] at h4
      obtain ⟨r, hr⟩ := Option.isSome_iff_exists.1 h4
      exact law8_yes t m x r p h1 h2 (by omega) hO hr

end Go.Proofs.Ytkngdmilgfgclaa
