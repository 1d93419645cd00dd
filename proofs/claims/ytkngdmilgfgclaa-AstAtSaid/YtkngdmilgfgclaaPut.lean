/- The reference's Put. -/
import Derived.Test.YtkngdmilgfgclaaRe3
import Derived.Test.YtkngdmilgfgclaaMk
namespace Go.Proofs.Ytkngdmilgfgclaa
open Go.RowKit

theorem copy_p (t : Tr) (h : t.size ≤ 1000000) : PContract Try.prog 29 [dN t] (dN t) := by
  have h1 := fit_makes (k := 29) (N := 1000000) copy_any
  exact (h1 [dN t] (dN t) (by simp only [orcN, toTr_of, Option.bind_some]; rw [if_pos h])).2.2
theorem put_under (t r : Tr) (j : Nat) : (D.agg [.int .u8 t.kind, .int .i64 t.num, .str t.name, .slice .imm 4 ((t.kids.map dN).set j (dN r))]).under 0 = true := by
  have := rep_under t r j
  simp only [D.under, D.unders, Bool.and_true, Bool.true_and] at this ⊢
  exact this
theorem put_strip (t r : Tr) {j : Nat} (hj : j < t.kids.length) : (D.agg [.int .u8 t.kind, .int .i64 t.num, .str t.name, .slice .imm 4 ((t.kids.map dN).set j (dN r))]).strip = dN (.mk t.kind t.num t.name (t.kids.set j r)) := by
  have := rep_strip t r hj
  simp only [D.strip, D.strips, D.tup.injEq, List.cons.injEq] at this
  simp only [D.strip, D.strips]
  exact this.1
set_option maxRecDepth 100000 in
set_option maxHeartbeats 4000000 in
theorem put_nil (t m : Tr) (hm : m.size ≤ 1000000) : PContract Try.prog 38 [dN t, sl 1 (([] : List Int).map dI), dN m] (dN m) := by
  have hcp : PContract Try.prog 29 [dN m] (dN m) := copy_p m hm
  have hcall : pcOne 29 [dN m] (dN m) 29 [dN m] = some (dN m) := pcOne_eq _ _ _
  have hz : (((0 : Nat) : Int) == 0) = true := rfl
  refine S_pure (f := _) Try.func38 rfl (by rw [List.all_cons, List.all_cons, List.all_cons, List.all_nil, dN_under, dN_good, sl_under (map_under (f := dI) (fun _ => rfl) _), dN_under, dN_good]; try rfl) (by show [(dN t).strip, (sl 1 (([] : List Int).map dI)).strip, (dN m).strip] = _; rw [dN_strip, dN_strip, sl_strip (map_strip (f := dI) (fun _ => rfl) _)]) ?_
  simp only [enterSt, Try.ntmps38, List.length_cons, List.length_nil, Nat.reduceAdd, Nat.reduceSub, List.replicate_succ, List.replicate_zero, List.cons_append, List.nil_append]
  simp only [sl, List.map_nil, List.isEmpty_nil, if_true]
  refine S_seq ?_
  refine S_of_X EV_ok (by kernel_rfl) ?_
  refine X_rg fun R hR => ?_
  simp only [EVP, aops, astep, awant, aeff, ev, St.put, List.getElem?_cons_succ, List.getElem?_cons_zero, Option.getD_some, Option.map_some, Option.bind_some, if_true, List.set_cons_succ, List.set_cons_zero, List.length_cons, List.length_nil, List.cons_append, List.nil_append, Nat.reduceAdd, Nat.zero_add, ty_api_Node, dN_cells, dN_good, sl]
  with_reducible refine hR _ ?_
  clear hR R
  show S _ _ _ _ _
  refine S_seq ?_
  refine S_seq ?_
  refine S_of_X EV_ok (by kernel_rfl) ?_
  refine X_rg fun R hR => ?_
  simp only [EVP, inr_i64, Int.reduceLE, Int.reduceNeg, aops, astep, awant, aeff, aop, abin, aint, ev, ofValue, St.put, List.getElem?_cons_succ, List.getElem?_cons_zero, Option.getD_some, Option.map_some, if_true, List.set_cons_succ, List.set_cons_zero, List.length_nil, and_self, und_int, hz]
  with_reducible refine hR _ ?_
  clear hR R
  show S _ _ _ _ _
  refine S_true (by simp only [ev, List.getElem?_cons_succ, List.getElem?_cons_zero, Option.getD_some]) ?_
  refine S_seq ?_
  refine S_rg (CaOk.one hcp) (by kernel_rfl) fun R hR => ?_
  simp only [aops, astep, awant, aeff, aop, mkD, astore, ev, St.put, pcall, List.map_cons, List.map_nil, List.getElem?_cons_succ, List.getElem?_cons_zero, Option.getD_some, Option.map_some, if_true, List.set_cons_succ, List.set_cons_zero, List.length_cons, List.length_nil, List.drop_succ_cons, List.drop_zero, List.take_succ_cons, List.take_zero, List.cons_append, List.nil_append, Nat.reduceAdd, Nat.reduceLeDiff, Nat.zero_add, and_self, ty_api_Node, any29, dN_agg, dN_cells, dN_good, sl, hcall]
  with_reducible refine hR _ ?_
  clear hR R
  show S _ _ _ _ _
  refine S_ret ?_
  refine ⟨.inr rfl, dN m, ?_, dN_under 0 m, dN_strip m⟩
  simp only [resD, resAll, resOne, resTup, Try.results38, mkD, ty_api_Node, List.getElem?_cons_succ, List.getElem?_cons_zero, List.drop_zero, List.take_succ_cons, List.take_zero, List.length_cons, List.length_nil, Nat.reduceAdd, Nat.reduceLeDiff, Nat.zero_add, if_true, Option.map_some]; simp only [dN_agg]
set_option maxRecDepth 100000 in
set_option maxHeartbeats 4000000 in
theorem put_cons (t m r : Tr) (j : Nat) (hj : j < t.kids.length) (hb : t.size ≤ 1000000) (p : List Int) (ih : PContract Try.prog 38 [dN t.kids[j], sl 1 (p.map dI), dN m] (dN r)) : PContract Try.prog 38 [dN t, sl 1 (((j : Int) :: p).map dI), dN m] (dN (.mk t.kind t.num t.name (t.kids.set j r))) := by
  obtain ⟨EX, EX_ok, EXP, hrec⟩ := one_env ih (dN_under 0 r) (dN_strip r) (by simp only [plain, List.all_cons, List.all_nil, dN_pl, sl_pl (f := dI) (fun _ _ => rfl), Bool.and_true]) (by simp only [List.map_cons, List.map_nil, dN_strip, sl_strip (map_strip (f := dI) (fun _ => rfl) _)]) rfl rfl
  have hrec := rep_tail hrec
  have ca_cp : CaOk EX.P _ := EXP ▸ ca_copy
  have hn4 : ((if (t.kids.map dN).isEmpty = true then 0 else 4) = 4) = True := eq_true (sl_n (j := j) (by simpa using hj))
  have e2 : (t.kids.map dN)[j]? = some (dN t.kids[j]) := by simp [hj]
  have hjn : ((j : Int)).toNat = j := Int.toNat_natCast j
  have hjl : ((j : Int) < (t.kids.length : Int)) = True := eq_true (by omega)
  have hj1 : (0 ≤ (j : Int)) = True := eq_true (by omega)
  have hdI : dI (j : Int) = .int .i64 (j : Int) := rfl
  have hlen : (t.kids.map dN).length = t.kids.length := List.length_map ..
  have hcopy := makeCa_eq (k := 29) (N := 1000000) (t := t) (by intro e; rw [e] at hj; exact absurd hj (Nat.not_lt_zero _)) hb
  have hK4 : ∀ d ∈ t.kids.map dN, d.cells.length = 4 := fun d hd => by obtain ⟨x, _, rfl⟩ := List.mem_map.1 hd; rw [dN_cells]; rfl
  have hL4 : ∀ d ∈ (t.kids.map dN).set j (dN r), d.cells.length = 4 := fun d hd => by
    rcases List.mem_or_eq_of_mem_set hd with h9 | rfl
    · exact hK4 d h9
    · rw [dN_cells]; rfl
  have hLl : ((t.kids.map dN).set j (dN r)).length = t.kids.length := by rw [List.length_set, List.length_map]
  have hjL : j < ((t.kids.map dN).set j (dN r)).length := by omega
  have hset0 := fm_set (x := dN r) (by rw [dN_cells]; rfl) hK4 j (by omega)
  have hFl0 := fm_len hK4
  obtain ⟨G, hG⟩ : ∃ G, G = ((t.kids.map dN).set j (dN r)).flatMap D.cells := ⟨_, rfl⟩
  have hGav : ∀ i, D.avoids i G = true := fun i => by rw [hG]; exact flat_avoids _ (fun d hd => by rcases List.mem_or_eq_of_mem_set hd with h9 | rfl; (obtain ⟨x, _, rfl⟩ := List.mem_map.1 h9; exact dN_avoid i x); exact dN_avoid i r)
  obtain ⟨FF, hF⟩ : ∃ FF, (t.kids.map dN).flatMap D.cells = FF := ⟨_, rfl⟩
  rw [hF, ← hG, dN_cells] at hset0
  rw [hF, hlen] at hFl0
  have hset : FF.take (j * 4) ++ [.int .u8 r.kind, .int .i64 r.num, .str r.name, sl 4 (r.kids.map dN)] ++ FF.drop (j * 4 + 4) = G := hset0
  simp only [sl, List.append_assoc, List.cons_append, List.nil_append] at hset
  have hFle : (j * 4 + 4 ≤ t.kids.length * 4) = True := eq_true (by omega)
  have hFl := hFl0
  refine S_pure (f := _) Try.func38 rfl (by rw [List.all_cons, List.all_cons, List.all_cons, List.all_nil, dN_under, dN_good, sl_under (map_under (f := dI) (fun _ => rfl) _), dN_under, dN_good]; try rfl) (by show [(dN t).strip, (sl 1 (((j : Int) :: p).map dI)).strip, (dN m).strip] = _; rw [dN_strip, dN_strip, sl_strip (map_strip (f := dI) (fun _ => rfl) _)]) ?_
  simp only [enterSt, Try.ntmps38, List.length_cons, List.length_nil, Nat.reduceAdd, Nat.reduceSub, List.replicate_succ, List.replicate_zero, List.cons_append, List.nil_append]
  simp only [sl, List.map_cons, List.isEmpty_cons, Bool.false_eq_true, if_false, hdI]
  rw [← EXP]
  refine S_seq ?_
  refine S_of_X EX_ok (by kernel_rfl) ?_
  refine X_rg fun R hR => ?_
  simp only [EXP, aops, astep, awant, aeff, ev, St.put, List.getElem?_cons_succ, List.getElem?_cons_zero, Option.getD_some, Option.map_some, Option.bind_some, if_true, List.set_cons_succ, List.set_cons_zero, List.length_cons, List.length_nil, List.cons_append, List.nil_append, Nat.reduceAdd, Nat.zero_add, ty_api_Node, dN_cells, dN_good, sl]
  with_reducible refine hR _ ?_
  clear hR R
  show S _ _ _ _ _
  refine S_seq ?_
  refine S_seq ?_
  have hz8 : (((p.length + 1 : Nat) : Int) == 0) = false := by rw [beq_eq_false_iff_ne]; omega
  have hl0 : ((0 : Int) < ((p.length + 1 : Nat) : Int)) = True := eq_true (by omega)
  have hl1 : ((1 : Int) ≤ ((p.length + 1 : Nat) : Int)) = True := eq_true (by omega)
  have hl1n : (1 ≤ p.length + 1) = True := eq_true (by omega)
  have hl0n : (0 < p.length + 1) = True := eq_true (by omega)
  have hz01 : (((0 : Nat) : Int) ≤ 1) = True := eq_true (by omega)
  have hTk : (p.map dI).take p.length = p.map dI := by rw [List.take_of_length_le (by simp)]
  refine S_of_X EX_ok (by kernel_rfl) ?_
  refine X_rg fun R hR => ?_
  simp only [EXP, inr_i64, Int.reduceLE, Int.reduceNeg, aops, astep, awant, aeff, aop, abin, aint, ev, ofValue, St.put, List.getElem?_cons_succ, List.getElem?_cons_zero, Option.getD_some, Option.map_some, if_true, List.set_cons_succ, List.set_cons_zero, List.length_map, List.length_cons, and_self, und_int, hz8, List.length_cons, List.length_map]
  with_reducible refine hR _ ?_
  clear hR R
  show S _ _ _ _ _
  refine S_false (by simp only [ev, List.getElem?_cons_succ, List.getElem?_cons_zero, Option.getD_some]) ?_
  refine S_skip ?_
  show S _ _ _ _ _
  refine S_seq ?_
  refine S_rg ca_cp (by kernel_rfl) fun R hR => ?_
  simp only [EXP, aops, astep, awant, aeff, aop, mkD, astore, ev, St.put, gd_agg, cl_agg, List.map_cons, List.map_nil, List.getElem?_cons_succ, List.getElem?_cons_zero, Option.getD_some, Option.map_some, Option.bind_some, if_true, List.set_cons_succ, List.set_cons_zero, List.length_cons, List.length_nil, List.drop_succ_cons, List.drop_zero, List.take_succ_cons, List.take_zero, List.cons_append, List.nil_append, Nat.reduceAdd, Nat.reduceLeDiff, Nat.zero_add, and_self, ty_api_Node, any29, dN_agg, hcopy, hF]
  with_reducible refine hR _ ?_
  clear hR R
  show S _ _ _ _ _
  refine S_seq ?_
  refine S_dg EX_ok ca_cp 16 (by simp only [List.length_cons, List.length_nil]; omega) (by kernel_rfl) fun R hR => ?_
  simp only [EXP, inr_i64, Int.reduceLE, Int.reduceNeg, aops, astep, awant, aeff, aop, mkD, idx, aslice, ev, ofValue, St.put, pcall, ia_int, cl_int, ia_slice, ia_bsl, List.map_cons, List.map_nil, List.getElem?_cons_succ, List.getElem?_cons_zero, Option.getD_some, Option.map_some, Option.map_none, if_true, List.set_cons_succ, List.set_cons_zero, List.length_map, List.length_cons, List.length_nil, List.drop_succ_cons, List.drop_zero, List.take_succ_cons, List.take_zero, List.cons_append, List.nil_append, Nat.reduceAdd, Nat.reduceLeDiff, Nat.zero_add, Bool.false_eq_true, if_false, and_self, reduceCtorEq, Option.isSome_some, ty_int, ty_s_api_Node, ty_api_Node, und_int, siz_int, inf_int_eq, und_api_Node, siz_api_Node, inf_api_Node_eq, any38, dN_agg, dN_cells, dN_isAgg, sl, hn4, hlen, hl0, hl1, hz01, hTk, List.length_cons, List.length_map, Int.toNat_zero, Int.toNat_one, List.drop_succ_cons, Nat.add_sub_cancel, List.drop_zero, or_false, hjn, hjl, hj1, e2, hrec]
  with_reducible refine hR _ ?_
  clear hR R
  intro R hR
  simp only [EXP, aops, astep, awant, aeff, aop, astore, ev, St.put, List.getElem?_cons_succ, List.getElem?_cons_zero, Option.getD_some, Option.map_some, if_true, List.set_cons_succ, List.set_cons_zero, List.length_cons, List.length_nil, List.drop_succ_cons, List.drop_zero, List.cons_append, List.nil_append, List.append_assoc, Nat.reduceAdd, Nat.reduceLT, Nat.zero_add, and_self, Option.isSome_some, ty_api_Node, und_api_Node, siz_api_Node, inf_api_Node_eq, dN_cells, dN_good, sl, List.length_cons, List.drop_succ_cons, List.drop_zero, hjn, hjl, hj1, hset, hFl, hFle]
  with_reducible refine hR _ ?_
  clear hR R
  show S _ _ _ _ _
  refine S_seq ?_
  refine S_of_X EX_ok (by kernel_rfl) ?_
  refine X_rg fun R hR => ?_
  simp only [EXP, aops, astep, awant, aeff, aop, mkD, astore, ev, St.put, gd_agg, cl_agg, List.getElem?_cons_succ, List.getElem?_cons_zero, Option.getD_some, Option.map_some, if_true, List.set_cons_succ, List.set_cons_zero, List.length_cons, List.length_nil, List.drop_succ_cons, List.drop_zero, List.take_succ_cons, List.take_zero, List.cons_append, List.nil_append, Nat.reduceAdd, Nat.reduceLeDiff, Nat.zero_add, and_self, ty_api_Node]
  with_reducible refine hR _ ?_
  clear hR R
  show S _ _ _ _ _
  apply S_freeze (i := 3) (t0 := 16) (d0 := .bsl 3 0 4 t.kids.length) (Nat.zero_le _) rfl (.inr ⟨_, _, _, rfl⟩) rfl (hGav 3)
  · dsimp only
    repeat first
        | exact .nil
        | apply FzL.cons (.keep _ rfl)
        | apply FzL.cons (.keep _ (dN_avoid _ _))
        | apply FzL.cons (Fz.row hG hLl (by omega) hL4)
        | apply FzL.cons (Fz.cell hG (Nat.zero_add _).symm hjL hL4)
        | apply FzL.cons (Fz.cell hG rfl hjL hL4)
        | apply FzL.cons (FzL.agg (.cons (.keep _ rfl) (.cons (.keep _ rfl) (.cons (.keep _ rfl) (.cons (Fz.row hG hLl (by omega) hL4) .nil)))))
        | apply FzL.cons (.keep _ (by (simp only [D.avoid, D.avoids, dN_avoid, dNs_avoid', dIs_avoid, Bool.and_self]; done)))
  · dsimp only
    repeat first
        | exact .nil _
        | apply FzB.self (c' := []) rfl
        | apply FzB.turn (t0 := 6) (off := 0) (.cons (.keep _ rfl) (.cons (.keep _ rfl) (.cons (.keep _ rfl) (.cons (Fz.row hG hLl (by omega) hL4) .nil)))) rfl
        | apply FzB.turn (t0 := 7) (off := 0) (.cons (.keep _ rfl) (.cons (.keep _ rfl) (.cons (.keep _ rfl) (.cons (Fz.row hG hLl (by omega) hL4) .nil)))) rfl
        | apply FzB.keep (by (simp only [D.avoid, D.avoids, dNs_avoid', Bool.and_self]; done))
  show S _ _ _ _ _
  refine S_ret ?_
  refine ⟨.inr rfl, .agg [.int .u8 t.kind, .int .i64 t.num, .str t.name, .slice .imm 4 ((t.kids.map dN).set j (dN r))], ?_, ?_, ?_⟩
  · simp only [resD, resAll, resOne, resTup, Try.results38, EXP, mkD, ty_api_Node, List.getElem?_cons_succ, List.getElem?_cons_zero, List.drop_zero, List.take_succ_cons, List.take_zero, List.length_cons, List.length_nil, Nat.reduceAdd, Nat.reduceLeDiff, Nat.zero_add, if_true, Option.map_some]; try exact rfl
  · exact put_under t r j
  · exact put_strip t r hj
/-- the reference's Put, where the path leads to a node -/
theorem put_any (m : Tr) (hm : m.size ≤ 1000000) : ∀ (p : List Int) (t r : Tr), t.size ≤ 1000000 → putO t p m = some r → PContract Try.prog 38 [dN t, sl 1 (p.map dI), dN m] (dN r)
  | [], t, r, _, hr => by cases hr; exact put_nil t m hm
  | i :: p, t, r, ht, hr => by
    simp only [putO] at hr
    split at hr
    · rename_i h0
      split at hr
      · rename_i k hk
        rw [Option.map_eq_some_iff] at hr
        obtain ⟨z, h3, rfl⟩ := hr
        obtain ⟨j, rfl⟩ := Int.eq_ofNat_of_zero_le h0
        rw [Int.toNat_natCast] at hk ⊢
        obtain ⟨hj, rfl⟩ := List.getElem?_eq_some_iff.1 hk
        have hs := sizes_at t.kids j hj
        have ht2 : Tr.sizes t.kids < t.size := by cases t; simp only [Tr.size, Tr.kids]; omega
        exact put_cons t m z j hj ht p (put_any m hm p t.kids[j] z (by omega) h3)
      · cases hr
    · cases hr

end Go.Proofs.Ytkngdmilgfgclaa
