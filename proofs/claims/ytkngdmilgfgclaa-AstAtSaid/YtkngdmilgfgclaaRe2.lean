/- ast.Replace at a good index. -/
import Derived.Test.YtkngdmilgfgclaaRe
import Derived.Test.YtkngdmilgfgclaaPw
namespace Go.Proofs.Ytkngdmilgfgclaa
open Go.RowKit

/-- one contract -/
def One (k : Nat) (a : List D) (d : D) : Nat → List D → D → Prop := fun k' a' d' => k' = k ∧ a' = a ∧ d' = d
theorem one_env {k : Nat} {a : List D} {d : D} (h : PContract Try.prog k a d) (hu : d.under 0 = true) (hd : d.strip = d) (hp : plain a = true) (hs : a.map D.strip = a) (h0 : EV.orc k a = none) (hf : EV.fs k = false) : ∃ EX : Env, EX.Ok ∧ EX.P = Try.prog ∧ fn EX k a = some d :=
  ⟨EV.by (One k a d), by_ok EV_ok (fun k' a' d' q => by obtain ⟨rfl, rfl, rfl⟩ := q; exact ⟨hu, hd, h⟩), rfl, by_fn hp hs h0 hf ⟨rfl, rfl, rfl⟩ (fun d' q => q.2.2)⟩
/-- what ast.Replace answers -/
def repD (t : Tr) (p : List Int) (m : Tr) : D := match putO t p m with
  | some r => .tup [dN r, .bool true]
  | none => .tup [dN noT, .bool false]
mutual
theorem dN_avoid (i : Nat) : ∀ t : Tr, (dN t).avoid i = true
  | .mk k n s c => by simp only [dN, D.avoid, D.avoids, dNs_avoid i c, Bool.and_true]
theorem dNs_avoid (i : Nat) : ∀ c : List Tr, D.avoids i (dNs c) = true
  | [] => rfl
  | t :: r => by simp only [dNs, D.avoids, dN_avoid i t, dNs_avoid i r, Bool.and_true]
end
theorem dNs_avoid' (i : Nat) (c : List Tr) : D.avoids i (c.map dN) = true := by rw [← dNs_map]; exact dNs_avoid i c
theorem dIs_avoid (i : Nat) : ∀ c : List Int, D.avoids i (c.map dI) = true
  | [] => rfl
  | x :: r => by simp only [List.map_cons, D.avoids, dIs_avoid i r, Bool.and_true]; rfl
theorem flat_avoids {i : Nat} : ∀ l : List D, (∀ d ∈ l, d.avoid i = true) → D.avoids i (l.flatMap D.cells) = true
  | [], _ => rfl
  | d :: r, h => by
    rw [List.flatMap_cons, D.avoids_all, List.all_append, ← D.avoids_all, ← D.avoids_all, flat_avoids r (fun x hx => h x (List.mem_cons_of_mem _ hx)), Bool.and_true]
    have h1 := h d List.mem_cons_self
    cases d with
    | agg l => simpa [D.cells, D.avoid] using h1
    | _ => simpa [D.cells, D.avoids] using h1
theorem rep_under (t r : Tr) (j : Nat) : (D.tup [.agg [.int .u8 t.kind, .int .i64 t.num, .str t.name, .slice .imm 4 ((t.kids.map dN).set j (dN r))], .bool true]).under 0 = true := by
  simp only [D.under, D.unders, Bool.and_true, Bool.true_and]
  rw [D.unders_all, List.all_eq_true]
  intro d hd
  rcases List.mem_or_eq_of_mem_set hd with h9 | rfl
  · obtain ⟨x, _, rfl⟩ := List.mem_map.1 h9; exact dN_under 0 x
  · exact dN_under 0 r
theorem set_map {t r : Tr} {j : Nat} : (t.kids.map dN).set j (dN r) = (t.kids.set j r).map dN := by rw [List.map_set]
theorem rep_strip (t r : Tr) {j : Nat} (_hj : j < t.kids.length) : (D.tup [.agg [.int .u8 t.kind, .int .i64 t.num, .str t.name, .slice .imm 4 ((t.kids.map dN).set j (dN r))], .bool true]).strip = .tup [dN (.mk t.kind t.num t.name (t.kids.set j r)), .bool true] := by
  rw [set_map, dN_eq]
  have h0 : (D.slice .imm 4 ((t.kids.set j r).map dN)).strip = sl 4 ((t.kids.set j r).map dN) := by
    simp only [D.strip, Own.st, strips_id dN_strip, sl]
  simp only [D.strip, D.strips, Tr.kind, Tr.num, Tr.name, Tr.kids] at h0 ⊢
  rw [h0]
theorem rep_tail {E : Env} {k : Nat} {c m : Tr} {p : List Int} {d : D} (h : fn E k [dN c, sl 1 (p.map dI), dN m] = some d) : fn E k [dN c, .slice .imm 1 (p.map dI), dN m] = some d := by
  rw [← h]
  have h0 : ((D.slice .imm 1 (p.map dI)).under 0 && (D.slice .imm 1 (p.map dI)).good) = true := by simp only [D.under, unders_id (f := dI) (fun _ _ => rfl)]; rfl
  refine fn_strip ?_ (by simp only [plain, List.all_cons, List.all_nil, dN_pl, sl_pl (f := dI) (fun _ _ => rfl), Bool.and_true]) ?_
  · simp only [plain, List.all_cons, List.all_nil, dN_pl, h0, Bool.and_true]
  · simp only [List.map_cons, List.map_nil, D.strip, Own.st, strips_id (f := dI) (fun _ => rfl), sl]
    cases p <;> rfl
set_option maxRecDepth 100000 in
set_option maxHeartbeats 4000000 in
theorem rep_no (t m : Tr) (j : Nat) (hj : j < t.kids.length) (hb : t.kids.length ≤ 16777216) (p : List Int) (hpb : p.length ≤ 1000000) (hq : putO t.kids[j] p m = none) (ih : PContract Try.prog 36 [dN t.kids[j], sl 1 (p.map dI), dN m] (repD t.kids[j] p m)) : PContract Try.prog 36 [dN t, sl 1 (((j : Int) :: p).map dI), dN m] (repD t ((j : Int) :: p) m) := by
  have hput : repD t ((j : Int) :: p) m = .tup [dN noT, .bool false] := by unfold repD; rw [putO_cons (k := t.kids[j]) (Int.natCast_nonneg j) (by simp [hj]), hq]; rfl
  have hih : repD t.kids[j] p m = .tup [dN noT, .bool false] := by unfold repD; rw [hq]
  rw [hih] at ih
  obtain ⟨EX, EX_ok, EXP, hrec⟩ := one_env ih (by simp only [D.under, D.unders, dN_under]; rfl) (by simp only [D.strip, D.strips, dN_strip]) (by simp only [plain, List.all_cons, List.all_nil, dN_pl, sl_pl (f := dI) (fun _ _ => rfl), Bool.and_true]) (by simp only [List.map_cons, List.map_nil, dN_strip, sl_strip (map_strip (f := dI) (fun _ => rfl) _)]) rfl rfl
  have hrec := rep_tail hrec
  have ca_cl : CaOk EX.P _ := EXP ▸ ca_clone
  have hn4 : ((if (t.kids.map dN).isEmpty = true then 0 else 4) = 4) = True := eq_true (sl_n (j := j) (by simpa using hj))
  have e2 : (t.kids.map dN)[j]? = some (dN t.kids[j]) := by simp [hj]
  have hjn : ((j : Int)).toNat = j := Int.toNat_natCast j
  have hjl : ((j : Int) < (t.kids.length : Int)) = True := eq_true (by omega)
  have hj1 : (0 ≤ (j : Int)) = True := eq_true (by omega)
  have hj0 : decide ((j : Int) < 0) = false := by rw [decide_eq_false_iff_not]; omega
  have hge : decide ((t.kids.length : Int) ≤ (j : Int)) = false := by rw [decide_eq_false_iff_not]; omega
  have hdI : dI (j : Int) = .int .i64 (j : Int) := rfl
  have hlen : (t.kids.map dN).length = t.kids.length := List.length_map ..
  have hcl : (t.kids.length ≤ 16777216) = True := eq_true hb
  have hne : (t.kids.map dN ≠ []) = True := eq_true (by intro e; have h9 := congrArg List.length e; simp only [List.length_map, List.length_nil] at h9; omega)
  refine S_pure (f := _) Try.func36 rfl (by rw [List.all_cons, List.all_cons, List.all_cons, List.all_nil, dN_under, dN_good, sl_under (map_under (f := dI) (fun _ => rfl) _), dN_under, dN_good]; try rfl) (by show [(dN t).strip, (sl 1 (((j : Int) :: p).map dI)).strip, (dN m).strip] = _; rw [dN_strip, dN_strip, sl_strip (map_strip (f := dI) (fun _ => rfl) _)]) ?_
  simp only [enterSt, Try.ntmps36, List.length_cons, List.length_nil, Nat.reduceAdd, Nat.reduceSub, List.replicate_succ, List.replicate_zero, List.cons_append, List.nil_append]
  simp only [sl, List.map_cons, List.isEmpty_cons, Bool.false_eq_true, if_false, hdI]
  rw [← EXP]
  refine S_seq ?_
  refine S_of_X EX_ok (by kernel_rfl) ?_
  refine X_rg fun R hR => ?_
  simp only [EXP, aops, astep, awant, aeff, aop, ev, ofValue, St.put, List.getElem?_cons_succ, List.getElem?_cons_zero, Option.getD_some, Option.map_some, Option.bind_some, if_true, List.set_cons_succ, List.set_cons_zero, List.length_cons, List.length_nil, List.cons_append, List.nil_append, Nat.reduceAdd, Nat.zero_add, ty_api_Node, dN_cells, dN_good, sl]
  with_reducible refine hR _ ?_
  clear hR R
  show S _ _ _ _ _
  refine S_seq ?_
  refine S_seq ?_
  have hz8 : (((p.length + 1 : Nat) : Int) == 0) = false := by rw [beq_eq_false_iff_ne]; omega
  have hl0 : ((0 : Int) < ((p.length + 1 : Nat) : Int)) = True := eq_true (by omega)
  have hl1 : ((1 : Int) ≤ ((p.length + 1 : Nat) : Int)) = True := eq_true (by omega)
  have hl1n : (1 ≤ p.length + 1) = True := eq_true (by omega)
  have hl0n : (0 < p.length + 1) = True := eq_true (by omega)
  have hz01 : (((0 : Nat) : Int) ≤ 1) = True := eq_true (by omega)
  have hTk : (p.map dI).take p.length = p.map dI := by rw [List.take_of_length_le (by simp)]
  refine S_of_X EX_ok (by kernel_rfl) ?_
  refine X_rg fun R hR => ?_
  simp only [EXP, inr_i64, Int.reduceLE, Int.reduceNeg, aops, astep, awant, aeff, aop, abin, aint, ev, ofValue, St.put, List.getElem?_cons_succ, List.getElem?_cons_zero, Option.getD_some, Option.map_some, if_true, List.set_cons_succ, List.set_cons_zero, List.length_map, List.length_cons, and_self, und_int, hz8, List.length_cons, List.length_map]
  with_reducible refine hR _ ?_
  clear hR R
  show S _ _ _ _ _
  refine S_false (by simp only [ev, List.getElem?_cons_succ, List.getElem?_cons_zero, Option.getD_some]) ?_
  refine S_skip ?_
  show S _ _ _ _ _
  refine S_seq ?_
  refine S_of_X EX_ok (by kernel_rfl) ?_
  refine X_rg fun R hR => ?_
  simp only [EXP, inr_i64, Int.reduceLE, Int.reduceNeg, aops, astep, awant, aeff, aop, ev, ofValue, St.put, ia_int, cl_int, List.getElem?_cons_succ, List.getElem?_cons_zero, Option.getD_some, Option.map_some, if_true, List.set_cons_succ, List.set_cons_zero, List.length_map, List.length_cons, List.length_nil, Nat.zero_add, and_self, Option.isSome_some, ty_int, und_int, siz_int, inf_int_eq, hl0, List.length_cons, List.length_map, Int.toNat_zero]
  with_reducible refine hR _ ?_
  clear hR R
  show S _ _ _ _ _
  refine S_seq ?_
  refine S_seq ?_
  refine S_of_X EX_ok (by kernel_rfl) ?_
  refine X_rg fun R hR => ?_
  simp only [EXP, inr_i64, Int.reduceLE, Int.reduceNeg, aops, astep, awant, aeff, aop, abin, aint, mkD, ev, ofValue, St.put, ia_slice, List.getElem?_cons_succ, List.getElem?_cons_zero, Option.getD_some, Option.map_some, Option.bind_some, if_true, List.set_cons_succ, List.set_cons_zero, List.length_cons, List.length_nil, List.drop_succ_cons, List.drop_zero, List.take_succ_cons, List.take_zero, Nat.reduceAdd, Nat.reduceLeDiff, Nat.zero_add, Bool.false_eq_true, if_false, and_self, reduceCtorEq, beq_self_eq_true, ty_s_api_Node, ty_api_Node, und_api_Node, hlen, List.length_cons, List.drop_succ_cons, List.drop_zero, hj0, hge]
  with_reducible refine hR _ ?_
  clear hR R
  show S _ _ _ _ _
  refine S_false (by simp only [ev, List.getElem?_cons_succ, List.getElem?_cons_zero, Option.getD_some]) ?_
  refine S_skip ?_
  show S _ _ _ _ _
  refine S_seq ?_
  refine S_of_X EX_ok (by kernel_rfl) ?_
  refine X_rg fun R hR => ?_
  simp only [EXP, inr_i64, Int.reduceLE, Int.reduceNeg, aops, astep, awant, aeff, aop, mkD, idx, aslice, astore, ev, ofValue, St.put, pcall, ia_slice, List.map_cons, List.map_nil, List.getElem?_cons_succ, List.getElem?_cons_zero, Option.getD_some, Option.map_some, Option.map_none, Option.bind_some, if_true, List.set_cons_succ, List.set_cons_zero, List.length_map, List.length_cons, List.length_nil, List.drop_succ_cons, List.drop_zero, List.take_succ_cons, List.take_zero, List.cons_append, List.nil_append, Nat.reduceAdd, Nat.reduceLeDiff, Nat.zero_add, Bool.false_eq_true, if_false, and_self, reduceCtorEq, Option.isSome_some, ty_s_api_Node, ty_api_Node, und_int, siz_int, inf_int_eq, und_api_Node, siz_api_Node, inf_api_Node_eq, any36, dN_agg, dN_cells, dN_isAgg, dN_good, sl, hn4, hlen, hl1, hz01, hTk, List.length_cons, List.length_map, Int.toNat_one, List.drop_succ_cons, Nat.add_sub_cancel, List.drop_zero, or_false, hjn, hjl, hj1, e2, hrec]
  with_reducible refine hR _ ?_
  clear hR R
  show S _ _ _ _ _
  refine S_seq ?_
  refine S_seq ?_
  refine S_of_X EX_ok (by kernel_rfl) ?_
  refine X_rg fun R hR => ?_
  simp only [aops, astep, awant, aeff, aop, ev, St.put, List.getElem?_cons_succ, List.getElem?_cons_zero, Option.getD_some, Option.map_some, if_true, List.set_cons_succ, List.set_cons_zero, Bool.not_false]
  with_reducible refine hR _ ?_
  clear hR R
  show S _ _ _ _ _
  refine S_true (by simp only [ev, List.getElem?_cons_succ, List.getElem?_cons_zero, Option.getD_some]) ?_
  refine S_seq ?_
  refine S_of_X EX_ok (by kernel_rfl) ?_
  refine X_rg fun R hR => ?_
  simp only [EXP, aops, astep, awant, aeff, aop, afill, astore, ev, ofValue, St.put, gd_agg, cl_agg, List.map_nil, List.getElem?_cons_succ, List.getElem?_cons_zero, Option.getD_some, Option.map_some, if_true, List.set_cons_succ, List.set_cons_zero, List.length_cons, List.length_nil, List.drop_succ_cons, List.drop_zero, List.take_zero, List.cons_append, List.nil_append, Nat.reduceAdd, Nat.reduceLeDiff, Nat.zero_add, and_self, ty_api_Node, st_api_Node, sta_api_Node]
  with_reducible refine hR _ ?_
  clear hR R
  show S _ _ _ _ _
  refine S_ret ?_
  refine ⟨.inr rfl, .tup [.agg [.int .u8 0, .int .i64 0, .str ⟨#[]⟩, .slice .nil 0 []], .bool false], ?_, by rfl, ?_⟩
  simp only [resD, resAll, resOne, resTup, Try.results36, EXP, mkD, ty_api_Node, List.getElem?_cons_succ, List.getElem?_cons_zero, List.drop_zero, List.take_succ_cons, List.take_zero, List.length_cons, List.length_nil, Nat.reduceAdd, Nat.reduceLeDiff, Nat.zero_add, D.good, if_true, Option.map_some]; try exact rfl
  rw [hput]; rfl
set_option maxRecDepth 100000 in
set_option maxHeartbeats 4000000 in
theorem rep_yes (t m r : Tr) (j : Nat) (hj : j < t.kids.length) (hb : t.kids.length ≤ 16777216) (p : List Int) (hpb : p.length ≤ 1000000) (hq : putO t.kids[j] p m = some r) (ih : PContract Try.prog 36 [dN t.kids[j], sl 1 (p.map dI), dN m] (repD t.kids[j] p m)) : PContract Try.prog 36 [dN t, sl 1 (((j : Int) :: p).map dI), dN m] (repD t ((j : Int) :: p) m) := by
  have hput : repD t ((j : Int) :: p) m = .tup [dN (.mk t.kind t.num t.name (t.kids.set j r)), .bool true] := by unfold repD; rw [putO_cons (k := t.kids[j]) (Int.natCast_nonneg j) (by simp [hj]), hq]; simp
  have hih : repD t.kids[j] p m = .tup [dN r, .bool true] := by unfold repD; rw [hq]
  rw [hih] at ih
  obtain ⟨EX, EX_ok, EXP, hrec⟩ := one_env ih (by simp only [D.under, D.unders, dN_under]; rfl) (by simp only [D.strip, D.strips, dN_strip]) (by simp only [plain, List.all_cons, List.all_nil, dN_pl, sl_pl (f := dI) (fun _ _ => rfl), Bool.and_true]) (by simp only [List.map_cons, List.map_nil, dN_strip, sl_strip (map_strip (f := dI) (fun _ => rfl) _)]) rfl rfl
  have hrec := rep_tail hrec
  have ca_cl : CaOk EX.P _ := EXP ▸ ca_clone
  have hn4 : ((if (t.kids.map dN).isEmpty = true then 0 else 4) = 4) = True := eq_true (sl_n (j := j) (by simpa using hj))
  have e2 : (t.kids.map dN)[j]? = some (dN t.kids[j]) := by simp [hj]
  have hjn : ((j : Int)).toNat = j := Int.toNat_natCast j
  have hjl : ((j : Int) < (t.kids.length : Int)) = True := eq_true (by omega)
  have hj1 : (0 ≤ (j : Int)) = True := eq_true (by omega)
  have hj0 : decide ((j : Int) < 0) = false := by rw [decide_eq_false_iff_not]; omega
  have hge : decide ((t.kids.length : Int) ≤ (j : Int)) = false := by rw [decide_eq_false_iff_not]; omega
  have hdI : dI (j : Int) = .int .i64 (j : Int) := rfl
  have hlen : (t.kids.map dN).length = t.kids.length := List.length_map ..
  have hcl : (t.kids.length ≤ 16777216) = True := eq_true hb
  have hne : (t.kids.map dN ≠ []) = True := eq_true (by intro e; have h9 := congrArg List.length e; simp only [List.length_map, List.length_nil] at h9; omega)
  have hK4 : ∀ d ∈ t.kids.map dN, d.cells.length = 4 := fun d hd => by obtain ⟨x, _, rfl⟩ := List.mem_map.1 hd; rw [dN_cells]; rfl
  have hL4 : ∀ d ∈ (t.kids.map dN).set j (dN r), d.cells.length = 4 := fun d hd => by
    rcases List.mem_or_eq_of_mem_set hd with h9 | rfl
    · exact hK4 d h9
    · rw [dN_cells]; rfl
  have hLl : ((t.kids.map dN).set j (dN r)).length = t.kids.length := by rw [List.length_set, List.length_map]
  have hjL : j < ((t.kids.map dN).set j (dN r)).length := by omega
  have hset0 := fm_set (x := dN r) (by rw [dN_cells]; rfl) hK4 j (by omega)
  have hFl0 := fm_len hK4
  obtain ⟨G, hG⟩ : ∃ G, G = ((t.kids.map dN).set j (dN r)).flatMap D.cells := ⟨_, rfl⟩
  have hGav : ∀ i, D.avoids i G = true := fun i => by rw [hG]; exact flat_avoids _ (fun d hd => by rcases List.mem_or_eq_of_mem_set hd with h9 | rfl; (obtain ⟨x, _, rfl⟩ := List.mem_map.1 h9; exact dN_avoid i x); exact dN_avoid i r)
  obtain ⟨FF, hF⟩ : ∃ FF, (t.kids.map dN).flatMap D.cells = FF := ⟨_, rfl⟩
  rw [hF, ← hG, dN_cells] at hset0
  rw [hF, hlen] at hFl0
  have hset : FF.take (j * 4) ++ [.int .u8 r.kind, .int .i64 r.num, .str r.name, sl 4 (r.kids.map dN)] ++ FF.drop (j * 4 + 4) = G := hset0
  simp only [sl, List.append_assoc, List.cons_append, List.nil_append] at hset
  have hFle : (j * 4 + 4 ≤ t.kids.length * 4) = True := eq_true (by omega)
  have hFl := hFl0
  refine S_pure (f := _) Try.func36 rfl (by rw [List.all_cons, List.all_cons, List.all_cons, List.all_nil, dN_under, dN_good, sl_under (map_under (f := dI) (fun _ => rfl) _), dN_under, dN_good]; try rfl) (by show [(dN t).strip, (sl 1 (((j : Int) :: p).map dI)).strip, (dN m).strip] = _; rw [dN_strip, dN_strip, sl_strip (map_strip (f := dI) (fun _ => rfl) _)]) ?_
  simp only [enterSt, Try.ntmps36, List.length_cons, List.length_nil, Nat.reduceAdd, Nat.reduceSub, List.replicate_succ, List.replicate_zero, List.cons_append, List.nil_append]
  simp only [sl, List.map_cons, List.isEmpty_cons, Bool.false_eq_true, if_false, hdI]
  rw [← EXP]
  refine S_seq ?_
  refine S_of_X EX_ok (by kernel_rfl) ?_
  refine X_rg fun R hR => ?_
  simp only [EXP, aops, astep, awant, aeff, aop, ev, ofValue, St.put, List.getElem?_cons_succ, List.getElem?_cons_zero, Option.getD_some, Option.map_some, Option.bind_some, if_true, List.set_cons_succ, List.set_cons_zero, List.length_cons, List.length_nil, List.cons_append, List.nil_append, Nat.reduceAdd, Nat.zero_add, ty_api_Node, dN_cells, dN_good, sl]
  with_reducible refine hR _ ?_
  clear hR R
  show S _ _ _ _ _
  refine S_seq ?_
  refine S_seq ?_
  have hz8 : (((p.length + 1 : Nat) : Int) == 0) = false := by rw [beq_eq_false_iff_ne]; omega
  have hl0 : ((0 : Int) < ((p.length + 1 : Nat) : Int)) = True := eq_true (by omega)
  have hl1 : ((1 : Int) ≤ ((p.length + 1 : Nat) : Int)) = True := eq_true (by omega)
  have hl1n : (1 ≤ p.length + 1) = True := eq_true (by omega)
  have hl0n : (0 < p.length + 1) = True := eq_true (by omega)
  have hz01 : (((0 : Nat) : Int) ≤ 1) = True := eq_true (by omega)
  have hTk : (p.map dI).take p.length = p.map dI := by rw [List.take_of_length_le (by simp)]
  refine S_of_X EX_ok (by kernel_rfl) ?_
  refine X_rg fun R hR => ?_
  simp only [EXP, inr_i64, Int.reduceLE, Int.reduceNeg, aops, astep, awant, aeff, aop, abin, aint, ev, ofValue, St.put, List.getElem?_cons_succ, List.getElem?_cons_zero, Option.getD_some, Option.map_some, if_true, List.set_cons_succ, List.set_cons_zero, List.length_map, List.length_cons, and_self, und_int, hz8, List.length_cons, List.length_map]
  with_reducible refine hR _ ?_
  clear hR R
  show S _ _ _ _ _
  refine S_false (by simp only [ev, List.getElem?_cons_succ, List.getElem?_cons_zero, Option.getD_some]) ?_
  refine S_skip ?_
  show S _ _ _ _ _
  refine S_seq ?_
  refine S_of_X EX_ok (by kernel_rfl) ?_
  refine X_rg fun R hR => ?_
  simp only [EXP, inr_i64, Int.reduceLE, Int.reduceNeg, aops, astep, awant, aeff, aop, ev, ofValue, St.put, ia_int, cl_int, List.getElem?_cons_succ, List.getElem?_cons_zero, Option.getD_some, Option.map_some, if_true, List.set_cons_succ, List.set_cons_zero, List.length_map, List.length_cons, List.length_nil, Nat.zero_add, and_self, Option.isSome_some, ty_int, und_int, siz_int, inf_int_eq, hl0, List.length_cons, List.length_map, Int.toNat_zero]
  with_reducible refine hR _ ?_
  clear hR R
  show S _ _ _ _ _
  refine S_seq ?_
  refine S_seq ?_
  refine S_of_X EX_ok (by kernel_rfl) ?_
  refine X_rg fun R hR => ?_
  simp only [EXP, inr_i64, Int.reduceLE, Int.reduceNeg, aops, astep, awant, aeff, aop, abin, aint, mkD, ev, ofValue, St.put, ia_slice, List.getElem?_cons_succ, List.getElem?_cons_zero, Option.getD_some, Option.map_some, Option.bind_some, if_true, List.set_cons_succ, List.set_cons_zero, List.length_cons, List.length_nil, List.drop_succ_cons, List.drop_zero, List.take_succ_cons, List.take_zero, Nat.reduceAdd, Nat.reduceLeDiff, Nat.zero_add, Bool.false_eq_true, if_false, and_self, reduceCtorEq, beq_self_eq_true, ty_s_api_Node, ty_api_Node, und_api_Node, hlen, List.length_cons, List.drop_succ_cons, List.drop_zero, hj0, hge]
  with_reducible refine hR _ ?_
  clear hR R
  show S _ _ _ _ _
  refine S_false (by simp only [ev, List.getElem?_cons_succ, List.getElem?_cons_zero, Option.getD_some]) ?_
  refine S_skip ?_
  show S _ _ _ _ _
  refine S_seq ?_
  refine S_of_X EX_ok (by kernel_rfl) ?_
  refine X_rg fun R hR => ?_
  simp only [EXP, inr_i64, Int.reduceLE, Int.reduceNeg, aops, astep, awant, aeff, aop, mkD, idx, aslice, astore, ev, ofValue, St.put, pcall, ia_slice, List.map_cons, List.map_nil, List.getElem?_cons_succ, List.getElem?_cons_zero, Option.getD_some, Option.map_some, Option.map_none, Option.bind_some, if_true, List.set_cons_succ, List.set_cons_zero, List.length_map, List.length_cons, List.length_nil, List.drop_succ_cons, List.drop_zero, List.take_succ_cons, List.take_zero, List.cons_append, List.nil_append, Nat.reduceAdd, Nat.reduceLeDiff, Nat.zero_add, Bool.false_eq_true, if_false, and_self, reduceCtorEq, Option.isSome_some, ty_s_api_Node, ty_api_Node, und_int, siz_int, inf_int_eq, und_api_Node, siz_api_Node, inf_api_Node_eq, any36, dN_agg, dN_cells, dN_isAgg, dN_good, sl, hn4, hlen, hl1, hz01, hTk, List.length_cons, List.length_map, Int.toNat_one, List.drop_succ_cons, Nat.add_sub_cancel, List.drop_zero, or_false, hjn, hjl, hj1, e2, hrec]
  with_reducible refine hR _ ?_
  clear hR R
  show S _ _ _ _ _
  refine S_seq ?_
  refine S_seq ?_
  refine S_of_X EX_ok (by kernel_rfl) ?_
  refine X_rg fun R hR => ?_
  simp only [aops, astep, awant, aeff, aop, ev, St.put, List.getElem?_cons_succ, List.getElem?_cons_zero, Option.getD_some, Option.map_some, if_true, List.set_cons_succ, List.set_cons_zero, Bool.not_true]
  with_reducible refine hR _ ?_
  clear hR R
  show S _ _ _ _ _
  refine S_false (by simp only [ev, List.getElem?_cons_succ, List.getElem?_cons_zero, Option.getD_some]) ?_
  refine S_skip ?_
  show S _ _ _ _ _
  refine S_seq ?_
  refine S_rg (CaOk.or ca_cl (CaOk.cal EX_ok)) (by kernel_rfl) fun R hR => ?_
  simp only [EXP, aops, astep, awant, aeff, aop, mkD, astore, ev, St.put, ia_slice, gd_bsl, cl_bsl, List.map_cons, List.map_nil, List.getElem?_cons_succ, List.getElem?_cons_zero, Option.getD_some, Option.map_some, if_true, List.set_cons_succ, List.set_cons_zero, List.length_cons, List.length_nil, List.drop_succ_cons, List.drop_zero, List.take_succ_cons, List.take_zero, List.cons_append, List.nil_append, Nat.reduceAdd, Nat.reduceLeDiff, Nat.zero_add, Bool.false_eq_true, if_false, and_self, reduceCtorEq, ty_s_api_Node, ty_api_Node, any57, hn4, hlen, hne, hcl, hF, cloneCa, calOr]
  with_reducible refine hR _ ?_
  clear hR R
  show S _ _ _ _ _
  refine S_seq ?_
  refine S_of_X EX_ok (by kernel_rfl) ?_
  refine X_rg fun R hR => ?_
  simp only [EXP, nat_0, aops, astep, awant, aeff, aop, mkD, astore, ev, St.put, ia_bsl, List.getElem?_cons_succ, List.getElem?_cons_zero, Option.getD_some, Option.map_some, if_true, List.set_cons_succ, List.set_cons_zero, List.length_cons, List.length_nil, List.drop_succ_cons, List.drop_zero, List.take_succ_cons, List.take_zero, List.cons_append, List.nil_append, List.append_assoc, Nat.reduceAdd, Nat.reduceLeDiff, Nat.reduceLT, Nat.zero_add, Bool.false_eq_true, if_false, and_self, reduceCtorEq, Option.isSome_some, ty_s_api_Node, ty_api_Node, und_api_Node, siz_api_Node, inf_api_Node_eq, dN_agg, dN_cells, dN_good, sl, hjn, hjl, hset, hFl, hFle]
  with_reducible refine hR _ ?_
  clear hR R
  show S _ _ _ _ _
  refine S_seq ?_
  refine S_of_X EX_ok (by kernel_rfl) ?_
  refine X_rg fun R hR => ?_
  simp only [EXP, aops, astep, awant, aeff, aop, mkD, astore, ev, ofValue, St.put, gd_agg, cl_agg, List.getElem?_cons_succ, List.getElem?_cons_zero, Option.getD_some, Option.map_some, if_true, List.set_cons_succ, List.set_cons_zero, List.length_cons, List.length_nil, List.drop_succ_cons, List.drop_zero, List.take_succ_cons, List.take_zero, List.cons_append, List.nil_append, Nat.reduceAdd, Nat.reduceLeDiff, Nat.zero_add, and_self, ty_api_Node]
  with_reducible refine hR _ ?_
  clear hR R
  show S _ _ _ _ _
  apply S_freeze (i := 4) (t0 := 45) (d0 := .bsl 4 0 4 t.kids.length) (Nat.zero_le _) rfl (.inr ⟨_, _, _, rfl⟩) rfl (hGav 4)
  · dsimp only
    repeat first
        | exact .nil
        | apply FzL.cons (.keep _ rfl)
        | apply FzL.cons (.keep _ (dN_avoid _ _))
        | apply FzL.cons (Fz.row hG hLl (by omega) hL4)
        | apply FzL.cons (Fz.cell hG (Nat.zero_add _).symm hjL hL4)
        | apply FzL.cons (Fz.cell hG rfl hjL hL4)
        | apply FzL.cons (FzL.agg (.cons (.keep _ rfl) (.cons (.keep _ rfl) (.cons (.keep _ rfl) (.cons (Fz.row hG hLl (by omega) hL4) .nil)))))
        | apply FzL.cons (.keep _ (by (simp only [D.avoid, D.avoids, dN_avoid, dNs_avoid', dIs_avoid, Bool.and_self]; done)))
  · dsimp only
    repeat first
        | exact .nil _
        | apply FzB.self (c' := []) rfl
        | apply FzB.turn (t0 := 3) (off := 0) (.cons (.keep _ rfl) (.cons (.keep _ rfl) (.cons (.keep _ rfl) (.cons (Fz.row hG hLl (by omega) hL4) .nil)))) rfl
        | apply FzB.turn (t0 := 6) (off := 0) (.cons (.keep _ rfl) (.cons (.keep _ rfl) (.cons (.keep _ rfl) (.cons (Fz.row hG hLl (by omega) hL4) .nil)))) rfl
        | apply FzB.keep (by (simp only [D.avoid, D.avoids, dNs_avoid', Bool.and_self]; done))
  show S _ _ _ _ _
  refine S_ret ?_
  refine ⟨.inr rfl, .tup [.agg [.int .u8 t.kind, .int .i64 t.num, .str t.name, .slice .imm 4 ((t.kids.map dN).set j (dN r))], .bool true], ?_, ?_, ?_⟩
  · simp only [resD, resAll, resOne, resTup, Try.results36, EXP, mkD, ty_api_Node, List.getElem?_cons_succ, List.getElem?_cons_zero, List.drop_zero, List.take_succ_cons, List.take_zero, List.length_cons, List.length_nil, Nat.reduceAdd, Nat.reduceLeDiff, Nat.zero_add, D.good, if_true, Option.map_some]; try exact rfl
  · exact rep_under t r j
  · rw [hput]; exact rep_strip t r hj

end Go.Proofs.Ytkngdmilgfgclaa
