/- ast.Replace at any path; ast.At. -/
import Derived.Test.YtkngdmilgfgclaaRe2
import Derived.Test.YtkngdmilgfgclaaQ19
namespace Go.Proofs.Ytkngdmilgfgclaa
open Go.RowKit

theorem sizes_at (c : List Tr) (j : Nat) (hj : j < c.length) : (c[j]).size ≤ Tr.sizes c := Tr.size_le_of_mem (List.getElem_mem hj)
/-- ast.Replace at any path -/
theorem rep_any (m : Tr) : ∀ (p : List Int) (t : Tr), p.length ≤ 1000000 → t.size ≤ 16777216 → PContract Try.prog 36 [dN t, sl 1 (p.map dI), dN m] (repD t p m)
  | [], t, _, _ => rep_nil t m
  | i :: p, t, hp, ht => by
    have hk := Tr.length_kids t
    by_cases h0 : i < 0
    · have := rep_bad0 t m i p h0
      have e : repD t (i :: p) m = .tup [dN noT, .bool false] := by unfold repD; simp only [putO]; rw [if_neg (by omega)]
      rw [e]; exact this
    · by_cases h1 : (t.kids.length : Int) ≤ i
      · have := rep_bad1 t m i p (by omega) h1
        have e : repD t (i :: p) m = .tup [dN noT, .bool false] := by unfold repD; simp only [putO]; rw [if_pos (by omega), List.getElem?_eq_none (by omega)]
        rw [e]; exact this
      · obtain ⟨j, rfl⟩ := Int.eq_ofNat_of_zero_le (show 0 ≤ i by omega)
        have hj : j < t.kids.length := by omega
        have hs := sizes_at t.kids j hj
        have ht2 : Tr.sizes t.kids < t.size := by cases t; simp only [Tr.size, Tr.kids]; omega
        have ih := rep_any m p t.kids[j] (by simp only [List.length_cons] at hp; omega) (by omega)
        cases hq : putO t.kids[j] p m with
        | none => exact rep_no t m j hj (by omega) p (by simp only [List.length_cons] at hp; omega) hq ih
        | some r => exact rep_yes t m r j hj (by omega) p (by simp only [List.length_cons] at hp; omega) hq ih
def RepC : Nat → List D → D → Prop := fun k a d => k = 36 ∧ ∃ t p m, p.length ≤ 1000000 ∧ t.size ≤ 16777216 ∧ a = [dN t, sl 1 (p.map dI), dN m] ∧ d = repD t p m
/-- the environment with ast.Replace -/
noncomputable def EVr : Env := EV.by RepC
theorem EVrP : EVr.P = Try.prog := rfl
theorem repD_good (t : Tr) (p : List Int) (m : Tr) : (repD t p m).under 0 = true ∧ (repD t p m).strip = repD t p m := by
  unfold repD
  split
  · exact ⟨by simp only [D.under, D.unders, dN_under, Bool.and_true], by simp only [D.strip, D.strips, dN_strip]⟩
  · exact ⟨by simp only [D.under, D.unders, dN_under, Bool.and_true], by simp only [D.strip, D.strips, dN_strip]⟩
theorem EVr_ok : EVr.Ok := by_ok EV_ok fun k a d ⟨hk, t, p, m, h1, h2, ha, hd⟩ => by
  subst hk ha hd
  exact ⟨(repD_good t p m).1, (repD_good t p m).2, rep_any m p t h1 h2⟩
theorem dN_inj {t u : Tr} (h : dN t = dN u) : t = u := by
  have := toTr_of t
  rw [h, toTr_of u] at this
  exact (Option.some.inj this).symm
theorem sl_inj {p q : List Int} (h : sl 1 (p.map dI) = sl 1 (q.map dI)) : p = q := by
  simp only [sl, D.slice.injEq] at h
  have : ∀ a b : Int, dI a = dI b → a = b := fun a b h => by simpa [dI] using h
  have hm : ∀ (p q : List Int), p.map dI = q.map dI → p = q := fun p => by
    induction p with
    | nil => intro q h; cases q with | nil => rfl | cons a b => cases h
    | cons a b ih => intro q h; cases q with
      | nil => cases h
      | cons c d => simp only [List.map_cons, List.cons.injEq] at h; rw [this a c h.1, ih d h.2]
  exact hm p q h.2.2
theorem rep_fn (t : Tr) (p : List Int) (m : Tr) (h1 : p.length ≤ 1000000) (h2 : t.size ≤ 16777216) : fn EVr 36 [dN t, sl 1 (p.map dI), dN m] = some (repD t p m) := by
  refine by_fn (by simp only [plain, List.all_cons, List.all_nil, dN_pl, sl_pl (f := dI) (fun _ _ => rfl), Bool.and_true]) (by simp only [List.map_cons, List.map_nil, dN_strip, sl_strip (map_strip (f := dI) (fun _ => rfl) _)]) rfl rfl ⟨rfl, t, p, m, h1, h2, rfl, rfl⟩ ?_
  rintro d' ⟨_, t', p', m', _, _, ha, rfl⟩
  simp only [List.cons.injEq, and_true] at ha
  obtain ⟨e1, e2, e3⟩ := ha
  rw [dN_inj e1, sl_inj e2, dN_inj e3]
theorem atO_eq : ∀ (p : List Int) (t : Tr), atT t p = (match atO t p with | some x => (x, true) | none => (noT, false))
  | [], t => rfl
  | i :: p, t => by
    simp only [atT, atO]
    by_cases h0 : i < 0
    · rw [if_pos h0, if_neg (by omega)]
    · rw [if_neg h0, if_pos (by omega)]
      cases t.kids[i.toNat]? with
      | none => rfl
      | some k => exact atO_eq p k
set_option maxRecDepth 100000 in
set_option maxHeartbeats 4000000 in
theorem at_fn (t : Tr) (path : List Int) (hl : path.length ≤ 1000000) : fn EV 37 [dN t, sl 1 (path.map dI)] = some (.tup [dN (atT t path).1, .bool (atT t path).2]) := by
  refine fn_Xs rfl Try.func37 rfl (by simp only [plain, List.all_cons, List.all_nil, dN_pl, sl_pl (f := dI) (fun _ _ => rfl), Bool.and_true]) (rfl) ?_
  simp only [List.map_cons, List.map_nil, dN_strip, sl_strip (map_strip (f := dI) (fun _ => rfl) _)]
  simp only [enterSt, Try.ntmps37, List.length_cons, List.length_nil, Nat.reduceAdd, Nat.reduceSub, List.replicate_succ, List.replicate_zero, List.cons_append, List.nil_append]
  refine X_seq ?_
  refine X_rg fun R hR => ?_
  simp only [EVP, aops, astep, awant, aeff, aop, ev, ofValue, St.put, List.getElem?_cons_zero, Option.getD_some, Option.map_some, Option.bind_some, if_true, List.set_cons_succ, List.set_cons_zero, List.length_cons, List.length_nil, List.cons_append, List.nil_append, Nat.zero_add, ty_api_Node, dN_cells, dN_good, sl]
  with_reducible refine hR _ ?_
  clear hR R
  show X _ _ _ _
  refine X_seq ?_
  refine X_seq ?_
  refine X_rg fun R hR => ?_
  simp only [EVP, inr_i64, Int.reduceLE, Int.reduceNeg, aops, astep, awant, aeff, aop, ev, ofValue, St.put, List.getElem?_cons_succ, List.getElem?_cons_zero, Option.getD_some, Option.map_some, if_true, List.set_cons_succ, List.set_cons_zero, List.length_map, and_self, und_int]
  with_reducible refine hR _ ?_
  clear hR R
  show X _ _ _ _
  refine X_block ?_
  refine X_loop (fun m σ => ∃ (i : Nat) (c : Tr), σ = ⟨[slotOf σ 0, slotOf σ 1, .ptr 0 0, slotOf σ 3, .ptr 1 0, slotOf σ 5, slotOf σ 6, slotOf σ 7, .slice .imm (if (path.map dI).isEmpty = true then 0 else 1) (path.map dI), .int .i64 path.length, .int .i64 i, slotOf σ 11, slotOf σ 12, slotOf σ 13, slotOf σ 14, slotOf σ 15, slotOf σ 16, slotOf σ 17, slotOf σ 18, slotOf σ 19, slotOf σ 20, slotOf σ 21, slotOf σ 22, slotOf σ 23, slotOf σ 24, slotOf σ 25, slotOf σ 26, slotOf σ 27, slotOf σ 28, slotOf σ 29, slotOf σ 30], [[.int .u8 c.kind, .int .i64 c.num, .str c.name, .slice .imm (if (c.kids.map dN).isEmpty = true then 0 else 4) (c.kids.map dN)], [.int .u8 0, .int .i64 0, .str ⟨#[]⟩, .slice .nil 0 []]], 0, []⟩ ∧ m = path.length - i ∧ i ≤ path.length ∧ Hid (atT t path = atT c (path.drop i))) ?_ (path.length) _ ?_
  rotate_left
  · exact ⟨0, t, rfl, rfl, Nat.zero_le _, Lib.hid rfl⟩
  rintro m σ ⟨i, c, hσ, rfl, hi, ht⟩
  generalize slotOf σ = x at hσ
  subst hσ
  have hn1 : ∀ j, j < path.length → ((if (path.map dI).isEmpty = true then 0 else 1) = 1) = True := fun j h => eq_true (sl_n (j := j) (by simpa using h))
  refine X_seq ?_
  refine X_rg fun R hR => ?_
  simp only [nat_lt, aops, astep, awant, aeff, aop, abin, aint, ev, St.put, List.getElem?_cons_succ, List.getElem?_cons_zero, Option.getD_some, Option.map_some, if_true, List.set_cons_succ, List.set_cons_zero]
  with_reducible refine hR _ ?_
  clear hR R
  show X _ _ _ _
  refine X_seq ?_
  refine X_ite (by simp only [ev, List.getElem?_cons_succ, List.getElem?_cons_zero, Option.getD_some]; exact rfl) ?_ ?_
  · intro b1
    have c1 := b1
    try simp only [decide_eq_true_eq] at c1
    refine X_skip ?_
    show X _ _ _ _
    refine X_seq ?_
    refine X_block ?_
    refine X_seq ?_
    have hlt : i < path.length := by first | assumption | omega
    have h1 := hn1 i hlt
    have e1 : (path.map dI)[i]? = some (.int .i64 path[i]) := by simp [hlt]; rfl
    have hdr : path.drop i = path[i] :: path.drop (i + 1) := List.drop_eq_getElem_cons hlt
    refine X_rg fun R hR => ?_
    simp only [EVP, nat_lt, nat_0, nat_to, aops, astep, awant, aeff, aop, ev, St.put, ia_int, cl_int, List.getElem?_cons_succ, List.getElem?_cons_zero, Option.getD_some, Option.map_some, if_true, List.set_cons_succ, List.set_cons_zero, List.length_map, List.length_cons, List.length_nil, Nat.zero_add, and_self, decide_true, Option.isSome_some, ty_int, und_int, siz_int, inf_int_eq, c1, h1, e1]
    with_reducible refine hR _ ?_
    clear hR R
    show X _ _ _ _
    refine X_seq ?_
    refine X_seq ?_
    refine X_y ?_
    refine Y_k 3 fun R hR => ?_
    simp only [EVP, inr_i64, Int.reduceLE, Int.reduceNeg, aops, astep, awant, aeff, aop, abin, aint, ev, ofValue, St.put, List.getElem?_cons_succ, List.getElem?_cons_zero, Option.getD_some, Option.map_some, if_true, List.set_cons_succ, List.set_cons_zero, List.take_succ_cons, List.take_zero, and_self]
    with_reducible refine hR _ ?_
    clear hR R
    simp only [List.drop_succ_cons, List.drop_zero]
    refine Y_if 16 (by simp only [ev, List.getElem?_cons_succ, List.getElem?_cons_zero, Option.getD_some]; exact rfl) ?_ ?_
    · intro b2
      have c2 := b2
      try simp only [decide_eq_true_eq] at c2
      refine Y_end fun R hR => ?_
      simp only [EVP, aops, astep, awant, aeff, aop, abin, ev, ofValue, St.put, List.getElem?_cons_succ, List.getElem?_cons_zero, Option.getD_some, Option.map_some, Option.map_none, Option.bind_some, if_true, List.set_cons_succ, List.set_cons_zero, Nat.zero_add, Bool.false_eq_true, if_false, reduceCtorEq, decide_true, bq_tf, ty_s_api_Node, ty_api_Node, und_api_Node, c2]
      with_reducible refine hR _ ?_
      clear hR R
      show X _ _ _ _
      refine X_true (by simp only [ev, List.getElem?_cons_succ, List.getElem?_cons_zero, Option.getD_some]) ?_
      refine X_seq ?_
      refine X_rg fun R hR => ?_
      simp only [EVP, aops, astep, awant, aeff, aop, afill, astore, ev, ofValue, St.put, gd_agg, cl_agg, List.map_nil, List.getElem?_cons_succ, List.getElem?_cons_zero, Option.getD_some, Option.map_some, if_true, List.set_cons_succ, List.set_cons_zero, List.length_cons, List.length_nil, List.drop_succ_cons, List.drop_zero, List.take_zero, List.cons_append, List.nil_append, Nat.reduceAdd, Nat.reduceLeDiff, Nat.zero_add, and_self, ty_api_Node, st_api_Node, sta_api_Node]
      with_reducible refine hR _ ?_
      clear hR R
      show X _ _ _ _
      refine X_ret ?_
      show ∃ d, resD _ _ _ = some d ∧ _ ∧ _
      simp only [resD, resAll, resOne, resTup, Try.results37, EVP, mkD, ty_api_Node, List.getElem?_cons_succ, List.getElem?_cons_zero, List.drop_zero, List.take_succ_cons, List.take_zero, List.length_cons, List.length_nil, Nat.reduceAdd, Nat.reduceLeDiff, Nat.zero_add, D.good, if_true, Option.map_some]
      exact ⟨_, rfl, rfl, by rw [ht.out, hdr, atT_no (by first | (left; assumption) | (right; assumption) | omega)]; rw [dN_eq]; rfl⟩
    · intro b3
      have c3 := b3
      try simp only [decide_eq_false_iff_not, Int.not_lt] at c3
      refine Y_end fun R hR => ?_
      simp only [EVP, aops, astep, awant, aeff, aop, abin, aint, mkD, ev, ofValue, St.put, ia_slice, List.getElem?_cons_succ, List.getElem?_cons_zero, Option.getD_some, Option.map_some, Option.bind_some, if_true, List.set_cons_succ, List.set_cons_zero, List.length_map, List.length_cons, List.length_nil, List.drop_succ_cons, List.drop_zero, List.take_succ_cons, List.take_zero, Nat.reduceAdd, Nat.reduceLeDiff, Nat.zero_add, Bool.false_eq_true, if_false, reduceCtorEq, beq_self_eq_true, ty_s_api_Node, ty_api_Node, und_api_Node, b3]
      with_reducible refine hR _ ?_
      clear hR R
      show X _ _ _ _
      refine X_ite (by simp only [ev, List.getElem?_cons_succ, List.getElem?_cons_zero, Option.getD_some]; exact rfl) ?_ ?_
      · intro b4
        have c4 := b4
        try simp only [decide_eq_true_eq, ge_iff_le] at c4
        refine X_seq ?_
        refine X_rg fun R hR => ?_
        simp only [EVP, aops, astep, awant, aeff, aop, afill, astore, ev, ofValue, St.put, gd_agg, cl_agg, List.map_nil, List.getElem?_cons_succ, List.getElem?_cons_zero, Option.getD_some, Option.map_some, if_true, List.set_cons_succ, List.set_cons_zero, List.length_cons, List.length_nil, List.drop_succ_cons, List.drop_zero, List.take_zero, List.cons_append, List.nil_append, Nat.reduceAdd, Nat.reduceLeDiff, Nat.zero_add, and_self, decide_true, ty_api_Node, st_api_Node, sta_api_Node, c4]
        with_reducible refine hR _ ?_
        clear hR R
        show X _ _ _ _
        refine X_ret ?_
        show ∃ d, resD _ _ _ = some d ∧ _ ∧ _
        simp only [resD, resAll, resOne, resTup, Try.results37, EVP, mkD, ty_api_Node, List.getElem?_cons_succ, List.getElem?_cons_zero, List.drop_zero, List.take_succ_cons, List.take_zero, List.length_cons, List.length_nil, Nat.reduceAdd, Nat.reduceLeDiff, Nat.zero_add, D.good, if_true, Option.map_some]
        exact ⟨_, rfl, rfl, by rw [ht.out, hdr, atT_no (by first | (left; assumption) | (right; assumption) | omega)]; rw [dN_eq]; rfl⟩
      · intro b5
        have c5 := b5
        try simp only [decide_eq_false_iff_not, Int.not_le, ge_iff_le] at c5
        refine X_skip ?_
        show X _ _ _ _
        have hk0 : 0 ≤ path[i] := by first | assumption | omega
        have hk1 : path[i] < (c.kids.length : Int) := by first | assumption | omega
        have hk2 : path[i].toNat < c.kids.length := by omega
        have hn4 : ((if (c.kids.map dN).isEmpty = true then 0 else 4) = 4) = True := eq_true (sl_n (j := path[i].toNat) (by simpa using hk2))
        have e2 : (c.kids.map dN)[path[i].toNat]? = some (dN c.kids[path[i].toNat]) := by simp [hk2]
        refine X_rg fun R hR => ?_
        simp only [EVP, aops, astep, awant, aeff, aop, mkD, astore, ev, St.put, ia_slice, List.getElem?_cons_succ, List.getElem?_cons_zero, Option.getD_some, Option.map_some, if_true, List.set_cons_succ, List.set_cons_zero, List.length_map, List.length_cons, List.length_nil, List.drop_succ_cons, List.drop_zero, List.take_succ_cons, List.take_zero, List.cons_append, List.nil_append, Nat.reduceAdd, Nat.reduceLeDiff, Nat.zero_add, Bool.false_eq_true, if_false, and_self, reduceCtorEq, Option.isSome_some, ty_s_api_Node, ty_api_Node, und_api_Node, siz_api_Node, inf_api_Node_eq, dN_cells, dN_isAgg, dN_good, sl, c3, b5, c5, hn4, e2]
        with_reducible refine hR _ ?_
        clear hR R
        show X _ _ _ _
        have hbig : i < 9223372036854775807 := by omega
        refine X_rg fun R hR => ?_
        simp only [inr_i64, Int.reduceLE, Int.reduceNeg, aops, astep, awant, aeff, aop, abin, aint, ev, ofValue, St.put, List.getElem?_cons_succ, List.getElem?_cons_zero, Option.getD_some, Option.map_some, if_true, List.set_cons_succ, List.set_cons_zero, and_self, nat_succ hbig]
        with_reducible refine hR _ ?_
        clear hR R
        show ∃ m, m < _ ∧ _
        exact ⟨path.length - (i + 1), by omega, i + 1, c.kids[path[i].toNat], rfl, rfl, by omega, Lib.hid (by rw [ht.out, hdr]; have := atT_kid (t := c) (i := path[i].toNat) (r := path.drop (i + 1)) (List.getElem?_eq_getElem hk2); rw [Int.toNat_of_nonneg hk0] at this; exact this)⟩
  · intro b6
    have c6 := b6
    try simp only [decide_eq_false_iff_not] at c6
    refine X_exit ?_
    show X _ _ _ _
    refine X_seq ?_
    refine X_rg fun R hR => ?_
    simp only [EVP, aops, astep, awant, aeff, aop, mkD, astore, ev, ofValue, St.put, List.getElem?_cons_succ, List.getElem?_cons_zero, Option.getD_some, Option.map_some, if_true, List.set_cons_succ, List.set_cons_zero, List.length_cons, List.length_nil, List.drop_succ_cons, List.drop_zero, List.take_succ_cons, List.take_zero, List.cons_append, List.nil_append, Nat.reduceAdd, Nat.reduceLeDiff, Nat.zero_add, and_self, decide_false, ty_api_Node, dN_agg, dN_cells, dN_good, sl, c6]
    with_reducible refine hR _ ?_
    clear hR R
    show X _ _ _ _
    refine X_ret ?_
    show ∃ d, resD _ _ _ = some d ∧ _ ∧ _
    simp only [resD, resAll, resOne, resTup, Try.results37, EVP, mkD, ty_api_Node, List.getElem?_cons_succ, List.getElem?_cons_zero, List.drop_zero, List.take_succ_cons, List.take_zero, List.length_cons, List.length_nil, Nat.reduceAdd, Nat.reduceLeDiff, Nat.zero_add, D.good, if_true, Option.map_some]
    simp only [dN_agg]
    exact ⟨_, rfl, by simp only [D.under, D.unders, dN_under, Bool.and_true], by rw [ht.out, List.drop_of_length_le (by omega)]; simp only [atT, D.strip, D.strips, dN_strip]⟩

end Go.Proofs.Ytkngdmilgfgclaa
