/- The law ScopeArity: its walk. -/
import Derived.Test.YtjikokmhknnnoaaQ64
namespace Go.Proofs.Ytjikokmhknnnoaa
open Go.RowKit

theorem findN_some {l : List Vd} {s : ByteArray} {i : Nat} (hi : i < l.length) (h : (l[i].name.toList == s.toList) = true) : ∀ n, i < n → n ≤ l.length → (findN l s n).2 = true
  | 0, h0, _ => absurd h0 (Nat.not_lt_zero _)
  | n + 1, h0, h1 => by
    by_cases q : (l[n].name.toList == s.toList) = true
    · rw [findN_y h1 q]
    · rw [findN_n h1 (by simpa using q)]
      by_cases e : n = i
      · subst e; exact absurd h q
      · exact findN_some hi h n (by omega) (by omega)
theorem idxN_congr {l : List Pr} {s s' : ByteArray} (h : s.toList = s'.toList) : ∀ (n i : Nat), idxN l s i n = idxN l s' i n
  | 0, _ => rfl
  | n + 1, i => by
    unfold idxN
    rw [h, idxN_congr h n (i + 1)]
theorem idxN_at {l : List Pr} {s : ByteArray} : ∀ (n i : Nat), i + n ≤ l.length → ∀ j : Nat, idxN l s i n = (j : Int) → ∃ hj : j < l.length, (l[j].name.toList == s.toList) = true
  | 0, i, _, j, h => by simp only [idxN] at h; omega
  | n + 1, i, hn, j, h => by
    have hi : i < l.length := by omega
    simp only [idxN, List.getElem?_eq_getElem hi] at h
    split at h
    · rename_i q
      have : i = j := by omega
      subst this; exact ⟨hi, q⟩
    · exact idxN_at n (i + 1) (by omega) j h
theorem idxN_ex {l : List Pr} {s : ByteArray} : ∀ (n i : Nat), i + n ≤ l.length → (∃ j, ∃ hj : j < l.length, i ≤ j ∧ j < i + n ∧ (l[j].name.toList == s.toList) = true) → 0 ≤ idxN l s i n
  | 0, i, _, ⟨j, _, h1, h2, _⟩ => absurd h2 (by omega)
  | n + 1, i, hn, ⟨j, hj, h1, h2, h3⟩ => by
    have hi : i < l.length := by omega
    simp only [idxN, List.getElem?_eq_getElem hi]
    split
    · omega
    · rename_i q
      have : i ≠ j := fun e => by subst e; exact q h3
      exact idxN_ex n (i + 1) (by omega) ⟨j, hj, by omega, by omega, h3⟩
/-- the procedure that a name of a procedure finds -/
theorem proc_own {p : Pg} {j : Nat} (hj : j < p.procs.length) : 0 ≤ procI p p.procs[j].name ∧ (prQ p p.procs[j].name).name.toList = p.procs[j].name.toList ∧ prmN p (prQ p p.procs[j].name).name = (prQ p p.procs[j].name).params ∧ procI p (prQ p p.procs[j].name).name = procI p p.procs[j].name := by
  have h0 : 0 ≤ procI p p.procs[j].name := idxN_ex _ _ (by omega) ⟨j, hj, by omega, by omega, by simp⟩
  obtain ⟨m, hm, e, _⟩ := procI_in (p := p) (s := p.procs[j].name) (by omega)
  obtain ⟨hm', q⟩ := idxN_at _ _ (by omega) m e
  have hq : prQ p p.procs[j].name = p.procs[m] := by unfold prQ; rw [e]; simp [hm]
  have hn : (prQ p p.procs[j].name).name.toList = p.procs[j].name.toList := by rw [hq]; simpa using q
  have hp : procI p (prQ p p.procs[j].name).name = procI p p.procs[j].name := idxN_congr hn _ _
  refine ⟨h0, hn, ?_, hp⟩
  rw [prmN_eq]; unfold prQ; unfold prQ at hp; rw [hp]
def vT (s : ByteArray) : Tr := .mk 2 0 s []
def callT (nm v : ByteArray) (m : Nat) : Tr := .mk 50 0 nm (List.replicate m (vT v))
def blkT (l : List Tr) : Tr := .mk 57 0 ⟨#[]⟩ l
theorem args_none {p : Pg} {pr : Int} {t : Tr} {path : List Int} {vs : List Vd} : ∀ (c : List Tr) (i : Nat), (∀ j, i ≤ j → argE p t j vs = 0) → argsF p pr t path vs c i = []
  | [], _, _ => rfl
  | c :: r, i, h => by
    rw [argsF, rep_n (h i (Nat.le_refl _)), args_none r (i + 1) fun j hj => h j (by omega)]; rfl
theorem arity_last {g : Pg} {nm v : ByteArray} {m : Nat} (hmain : g.main = blkT [callT nm v m]) (h0 : 0 ≤ procI g nm) (hm : ¬ m = (prmN g nm).length) (hv : (findN g.vars v g.vars.length).2 = true) :
    ∃ X, checkF g = X ++ [⟨g.procs.length, [0], 7, nm⟩] := by
  obtain ⟨t, ht⟩ : ∃ t, t = callT nm v m := ⟨_, rfl⟩
  obtain ⟨u, hu⟩ : ∃ u, u = blkT [t] := ⟨_, rfl⟩
  have k1 : t.kind = 50 := by rw [ht]; rfl
  have k2 : t.name = nm := by rw [ht]; rfl
  have k3 : t.kids.length = m := by rw [ht]; simp [callT, Tr.kids]
  have k4 : ∀ c ∈ t.kids, c.name = v := by
    intro c hc
    rw [ht] at hc
    simp only [callT, Tr.kids] at hc
    rw [(List.mem_replicate.1 hc).2]; rfl
  have u1 : u.kind = 57 := by rw [hu]; rfl
  have u2 : u.kids = [t] := by rw [hu]; rfl
  have hf1 : faultE g u g.vars = 0 := by simp [faultE, u1]
  have hf2 : faultE g t g.vars = 7 := by
    have h1 : ¬ procI g nm < 0 := by omega
    simp [faultE, k1, k2, k3, h1, hm]
  have hin : innerV u ((0 : Nat) : Int) g.vars = g.vars := by simp [innerV, u1]
  have har : ∀ j, 0 ≤ j → argE g t j g.vars = 0 := by
    intro j _
    unfold argE
    split
    · rfl
    · rename_i c hc
      have hcn := k4 c (List.mem_of_getElem? hc)
      have h1 : ¬ procI g nm < 0 := by omega
      rw [hcn, k2, k3, if_pos hv, if_neg h1, if_neg hm]
  refine ⟨vrF (-1) true g.vars g.vars 0 ++ procsF g g.procs 0, ?_⟩
  rw [checkF, List.append_assoc, hmain, ← ht, ← hu, visF_eq, hf1, rep_n rfl, if_neg (by rw [u1]; decide), u2]
  simp only [visL, List.append_nil, List.nil_append]
  rw [hin, visF_eq, hf2, rep_y (by decide), if_pos (.inl k1), args_none t.kids 0 har, k2]
  rfl
theorem v_fn (s : ByteArray) : fn EV 28 [.str s] = some (dN (vT s)) := fn_of (n := 10) (by unfold vT; kernel_rfl)
theorem tmod_nat {k : Int} (hk : 0 ≤ k) (n : Nat) : k.tmod (n : Int) = ((k.toNat % n : Nat) : Int) := by
  obtain ⟨m, rfl⟩ := Int.eq_ofNat_of_zero_le hk
  rw [Int.tmod_eq_emod_of_nonneg hk]; simp
theorem u8_conv {k : Int} (h0 : 0 ≤ k) (h1 : k ≤ 255) : IntKind.i64.wrap k = k := by
  simp only [IntKind.wrap, IntKind.bits, IntKind.signed]; simp; omega
theorem add2 {a : Nat} (h : a ≤ 1000000) : IntKind.i64.wrap ((a : Int) + 2) = ((a + 2 : Nat) : Int) := by
  simp only [IntKind.wrap, IntKind.bits, IntKind.signed]; simp; omega
theorem nat_wrap {a : Nat} (h : a ≤ 1000000) : IntKind.i64.wrap (a : Int) = (a : Int) := by
  simp only [IntKind.wrap, IntKind.bits, IntKind.signed]; simp; omega
theorem dFt_isAgg (f : Ft) : (dFt f).isAgg = true := rfl
theorem sub1' {a : Nat} (h : a ≤ 1000000) : IntKind.i64.wrap ((a : Int) - 1) = (a : Int) - 1 := by
  simp only [IntKind.wrap, IntKind.bits, IntKind.signed]; simp; omega
theorem ints_own (l w : List Int) (o : Own) (ho : o.st = .imm) (hw : w ≠ []) (hl : l.length ≤ 1000000) : fn EV 24 [sl 1 (l.map dI), .slice o 1 (w.map dI)] = some (.bool (decide (l = w))) := by
  rw [fn_strip (args' := [sl 1 (l.map dI), sl 1 (w.map dI)])]
  · exact ints_fn l w hl
  · have h0 : D.under 0 (.slice o 1 (w.map dI)) = true := by simp only [D.under, unders_id (f := dI) (fun _ _ => rfl)]
    simp only [plain, List.all_cons, List.all_nil, sl_pl (f := dI) (fun _ _ => rfl), h0, Bool.and_true, Bool.true_and]; rfl
  · simp only [plain, List.all_cons, List.all_nil, sl_pl (f := dI) (fun _ _ => rfl), Bool.and_true]
  · simp only [List.map_cons, List.map_nil, sl_own (f := dI) (fun _ => rfl) hw o ho, sl_strip (map_strip (f := dI) (fun _ => rfl) _)]
theorem small_eq (p : Pg) : ((if smallB p = true then (1 : Int) else 0) == 0) = !smallB p := by cases smallB p <;> rfl
set_option maxRecDepth 100000 in
set_option maxHeartbeats 4000000 in
theorem blkL_fn (l : List Tr) : fn EV 26 [sl 4 (l.map dN)] = some (dN (blkT l)) := by
  refine fn_X rfl Try.func26 rfl (by simp only [plain, List.all_cons, List.all_nil, sl_pl dN_under, Bool.and_true]) (rfl) (dN_under _ _) (dN_strip _) ?_
  simp only [List.map_cons, List.map_nil, sl_strip (map_strip dN_strip _)]
  simp only [enterSt, Try.ntmps26, List.length_cons, List.length_nil, Nat.reduceAdd, Nat.reduceSub, List.replicate_succ, List.replicate_zero, List.cons_append, List.nil_append]
  refine X_seq ?_
  refine X_rg fun R hR => ?_
  simp only [EVP, aops, astep, awant, aeff, St.put, Option.map_some, Option.bind_some, if_true, List.set_cons_succ, List.set_cons_zero, List.length_nil, List.nil_append, ty_api_Node, sl]
  with_reducible refine hR _ ?_
  clear hR R
  show X _ _ _ _
  refine X_seq ?_
  refine X_rg fun R hR => ?_
  simp only [EVP, inr_u8, Int.reduceLE, aops, astep, awant, aeff, aop, afill, astore, ev, ofValue, St.put, gd_int, cl_int, gd_agg, cl_agg, gd_slice, cl_slice, List.map_cons, List.map_nil, List.getElem?_cons_succ, List.getElem?_cons_zero, Option.getD_some, Option.map_some, if_true, List.set_cons_succ, List.set_cons_zero, List.length_cons, List.length_nil, List.drop_succ_cons, List.drop_zero, List.take_succ_cons, List.take_zero, List.cons_append, List.nil_append, Nat.reduceAdd, Nat.reduceLeDiff, Nat.zero_add, and_self, ty_api_Node, st_api_Node, sta_api_Node]
  with_reducible refine hR _ ?_
  clear hR R
  show X _ _ _ _
  refine X_ret ?_
  show resD _ _ _ = some _
  simp only [resD, resAll, resOne, resTup, Try.results26, EVP, mkD, ty_api_Node, List.getElem?_cons_succ, List.getElem?_cons_zero, List.drop_zero, List.take_succ_cons, List.take_zero, List.length_cons, List.length_nil, Nat.reduceAdd, Nat.reduceLeDiff, Nat.zero_add, if_true, Option.map_some]
  rw [dN_eq]; rfl
theorem blk_fn (nm v : ByteArray) (m : Nat) (o : Own) (ho : o.st = .imm) (o2 : Own) (ho2 : o2.st = .imm) (n : Nat) (hn : n = 4 ∨ m = 0) : fn EV 26 [.slice o 4 [.agg [.int .u8 50, .int .i64 0, .str nm, .slice o2 n ((List.replicate m (vT v)).map dN)]]] = some (dN (blkT [callT nm v m])) := by
  rw [fn_strip (args' := [sl 4 ([callT nm v m].map dN)])]
  · exact blkL_fn [callT nm v m]
  · simp only [plain, List.all_cons, List.all_nil, D.under, D.unders, unders_id dN_under, Bool.and_true]; rfl
  · simp only [plain, List.all_cons, List.all_nil, sl_pl dN_under, Bool.and_true]
  · simp only [List.map_cons, List.map_nil, D.strip, D.strips, ho, ho2, strips_id dN_strip, sl, dN_eq, callT, Tr.kind, Tr.num, Tr.name, Tr.kids, List.isEmpty_cons]
    cases m with
    | zero => simp <;> rfl
    | succ m =>
      have : n = 4 := by omega
      subst this; simp [List.replicate_succ] <;> rfl
theorem bool_pl (b : Bool) : ((D.bool b).under 0 && (D.bool b).good) = true := rfl
set_option maxRecDepth 100000 in
set_option maxHeartbeats 4000000 in
theorem law7_y (p : Pg) (k : Int) (more : Bool) (hk0 : 0 ≤ k) (hk1 : k ≤ 255) (hsb : smallB p = true) (hp0 : 0 < p.procs.length) (hv0 : 0 < p.vars.length) : fn EV 7 [dG p, .int .u8 k, .bool more] = some (.bool true) := by
  obtain ⟨hvd, hp6, hv20, _⟩ := small_valid hsb
  have hj0 : k.toNat % p.procs.length < p.procs.length := Nat.mod_lt _ hp0
  have hkc := u8_conv hk0 hk1
  have htm := tmod_nat hk0 p.procs.length
  have hn1 : ((if (p.procs.map dP).isEmpty = true then 0 else 6) = 6) = True := eq_true (sl_n (j := 0) (by simpa using hp0))
  have e1 : (p.procs.map dP)[k.toNat % p.procs.length]? = some (dP p.procs[k.toNat % p.procs.length]) := by simp [hj0]
  have hP := proc_fn p p.procs[k.toNat % p.procs.length].name (by omega)
  have hP2 : idxN p.procs p.procs[k.toNat % p.procs.length].name 0 p.procs.length = procI p p.procs[k.toNat % p.procs.length].name := rfl
  rw [hP2] at hP
  obtain ⟨w0, w1, w2, w3⟩ := proc_own (p := p) hj0
  have hz : ((p.procs.length : Int) = 0) = False := eq_false (by omega)
  have pq1 := pq_1 w0
  have pq3 := pq_3 w0
  have hlt0 : (procI p p.procs[k.toNat % p.procs.length].name < 0) = False := by simp; exact w0
  have hge : (procI p p.procs[k.toNat % p.procs.length].name ≥ (p.procs.length : Int)) = False := by have := of_eq_true pq1; simp; exact this
  have w00 : (0 ≤ procI p p.procs[k.toNat % p.procs.length].name) = True := eq_true w0
  obtain ⟨_, _, bq, _⟩ := valid_bd hvd
  have hpl8 : (prQ p p.procs[k.toNat % p.procs.length].name).params.length ≤ 8 := by
    obtain ⟨m, hm, e, _⟩ := procI_in (p := p) (s := p.procs[k.toNat % p.procs.length].name) (Int.not_lt.2 w0)
    have hq : (prQ p p.procs[k.toNat % p.procs.length].name) = p.procs[m] := by unfold prQ; rw [e]; simp [hm]
    rw [hq]; exact (bq _ (List.getElem_mem hm)).1
  refine fn_X rfl Try.func7 rfl (by simp only [plain, List.all_cons, List.all_nil, int_pl, bool_pl, dG_pl, Bool.and_true]) (rfl) (rfl) (rfl) ?_
  simp only [List.map_cons, List.map_nil, D.strip, dG_strip]
  simp only [enterSt, Try.ntmps7, List.length_cons, List.length_nil, Nat.reduceAdd, Nat.reduceSub, List.replicate_succ, List.replicate_zero, List.cons_append, List.nil_append]
  refine X_seq ?_
  refine X_rg fun R hR => ?_
  simp only [aops, astep, awant, aeff, aop, ev, ofValue, St.put, List.getElem?_cons_zero, Option.getD_some, Option.map_some, if_true, List.set_cons_succ, List.set_cons_zero, List.length_nil, List.nil_append, dG_cells, dG_good]
  with_reducible refine hR _ ?_
  clear hR R
  show X _ _ _ _
  refine X_seq ?_
  refine X_seq ?_
  refine X_rg fun R hR => ?_
  simp only [EVP, aops, astep, awant, aeff, aop, ev, St.put, pcall, List.map_nil, List.getElem?_cons_succ, List.getElem?_cons_zero, Option.getD_some, Option.map_some, if_true, List.set_cons_succ, List.set_cons_zero, List.nil_append, Bool.not_true, any12, awake_ok]
  with_reducible refine hR _ ?_
  clear hR R
  show X _ _ _ _
  refine X_false (by simp only [ev, List.getElem?_cons_succ, List.getElem?_cons_zero, Option.getD_some]) ?_
  refine X_skip ?_
  show X _ _ _ _
  refine X_seq ?_
  refine X_seq ?_
  have hsm := small_fn p
  rw [if_pos hsb] at hsm
  have hz2 : ((p.procs.length : Int) == 0) = false := by rw [beq_eq_false_iff_ne]; omega
  have hz3 : ((p.vars.length : Int) == 0) = false := by rw [beq_eq_false_iff_ne]; omega
  refine X_rg fun R hR => ?_
  simp only [EVP, inr_i64, Int.reduceLE, Int.reduceNeg, aops, astep, awant, aeff, aop, abin, aint, mkD, ev, ofValue, St.put, pcall, ia_slice, List.map_cons, List.map_nil, List.getElem?_cons_succ, List.getElem?_cons_zero, Option.getD_some, Option.map_some, Option.bind_some, if_true, List.set_cons_succ, List.set_cons_zero, List.length_map, List.length_cons, List.length_nil, List.drop_succ_cons, List.drop_zero, List.take_succ_cons, List.take_zero, List.cons_append, List.nil_append, Nat.reduceAdd, Nat.reduceLeDiff, Nat.zero_add, Nat.add_zero, Bool.false_eq_true, if_false, and_self, reduceCtorEq, beq_self_eq_true, Int.reduceBEq, ty_s_api_VarDecl, ty_s_api_Proc, ty_api_Program, und_api_VarDecl, und_api_Proc, any19, dG_agg, hsm, hz2, hz3]
  with_reducible refine hR _ ?_
  clear hR R
  show X _ _ _ _
  refine X_false (by simp only [ev, List.getElem?_cons_succ, List.getElem?_cons_zero, Option.getD_some]) ?_
  refine X_skip ?_
  show X _ _ _ _
  refine X_seq ?_
  refine X_rg fun R hR => ?_
  simp only [EVP, nat_lt, nat_0, nat_to, aops, astep, awant, aeff, aop, abin, aint, mkD, ev, St.put, pcall, ia_str, cl_str, ia_slice, List.map_cons, List.map_nil, List.getElem?_cons_succ, List.getElem?_cons_zero, Option.getD_some, Option.map_some, if_true, List.set_cons_succ, List.set_cons_zero, List.length_map, List.length_cons, List.length_nil, List.drop_succ_cons, List.drop_zero, List.take_succ_cons, List.take_zero, List.cons_append, List.nil_append, Nat.reduceAdd, Nat.reduceLeDiff, Nat.zero_add, Bool.false_eq_true, if_false, and_self, reduceCtorEq, Option.isSome_some, ty_string, ty_s_api_Proc, ty_api_Proc, ty_api_Program, und_api_Proc, siz_api_Proc, inf_api_Proc_eq, und_int', und_uint8', any15, sl, dG_agg, dP, hkc, htm, hn1, e1, hP, hz, hj0]
  with_reducible refine hR _ ?_
  clear hR R
  show X _ _ _ _
  refine X_seq ?_
  refine X_seq ?_
  refine X_rg fun R hR => ?_
  simp only [EVP, inr_i64, Int.reduceLE, Int.reduceNeg, aops, astep, awant, aeff, aop, abin, aint, mkD, ev, ofValue, St.put, ia_slice, List.getElem?_cons_succ, List.getElem?_cons_zero, Option.getD_some, Option.map_some, Option.bind_some, if_true, List.set_cons_succ, List.set_cons_zero, List.length_map, List.length_cons, List.length_nil, List.drop_succ_cons, List.drop_zero, List.take_succ_cons, List.take_zero, Nat.reduceAdd, Nat.reduceLeDiff, Nat.zero_add, Bool.false_eq_true, if_false, and_self, reduceCtorEq, decide_false, beq_self_eq_true, ty_s_api_Proc, ty_api_Program, und_api_Proc, hlt0, hge]
  with_reducible refine hR _ ?_
  clear hR R
  show X _ _ _ _
  refine X_false (by simp only [ev, List.getElem?_cons_succ, List.getElem?_cons_zero, Option.getD_some]) ?_
  refine X_skip ?_
  show X _ _ _ _
  refine X_seq ?_
  refine X_rg fun R hR => ?_
  simp only [EVP, aops, astep, awant, aeff, aop, mkD, ev, St.put, ia_slice, cl_slice, List.getElem?_cons_succ, List.getElem?_cons_zero, Option.getD_some, Option.map_some, if_true, List.set_cons_succ, List.set_cons_zero, List.length_map, List.length_cons, List.length_nil, List.drop_succ_cons, List.drop_zero, List.take_succ_cons, List.take_zero, Nat.reduceAdd, Nat.reduceLeDiff, Nat.zero_add, Bool.false_eq_true, if_false, and_self, reduceCtorEq, Option.isSome_some, ty_s_api_VarDecl, ty_s_api_Proc, ty_api_Proc, ty_api_Program, und_api_VarDecl, und_api_Proc, siz_api_Proc, inf_api_Proc_eq, sl, dP, pq1, hn1, pq3, w00]
  with_reducible refine hR _ ?_
  clear hR R
  show X _ _ _ _
  refine X_seqJ (fun σ => ∃ (N : Nat), σ = ⟨[slotOf σ 0, slotOf σ 1, slotOf σ 2, .ptr 0 0, slotOf σ 4, slotOf σ 5, slotOf σ 6, .int .i64 (procI p p.procs[k.toNat % p.procs.length].name), .int .i64 N, slotOf σ 9, slotOf σ 10, slotOf σ 11, slotOf σ 12, slotOf σ 13, slotOf σ 14, slotOf σ 15, slotOf σ 16, slotOf σ 17, slotOf σ 18, slotOf σ 19, slotOf σ 20, slotOf σ 21, slotOf σ 22, slotOf σ 23, slotOf σ 24, slotOf σ 25, slotOf σ 26, slotOf σ 27, slotOf σ 28, slotOf σ 29, slotOf σ 30, slotOf σ 31, slotOf σ 32, slotOf σ 33, slotOf σ 34, slotOf σ 35, slotOf σ 36, slotOf σ 37, slotOf σ 38, slotOf σ 39, slotOf σ 40, slotOf σ 41, slotOf σ 42, slotOf σ 43, slotOf σ 44, slotOf σ 45, slotOf σ 46, slotOf σ 47, slotOf σ 48, slotOf σ 49, slotOf σ 50, slotOf σ 51, slotOf σ 52, slotOf σ 53, slotOf σ 54, slotOf σ 55, slotOf σ 56, slotOf σ 57, slotOf σ 58, slotOf σ 59, slotOf σ 60, slotOf σ 61, slotOf σ 62, slotOf σ 63, slotOf σ 64, slotOf σ 65, slotOf σ 66, slotOf σ 67, slotOf σ 68, slotOf σ 69, slotOf σ 70, slotOf σ 71, slotOf σ 72, slotOf σ 73, slotOf σ 74, slotOf σ 75, slotOf σ 76, slotOf σ 77, slotOf σ 78, slotOf σ 79, slotOf σ 80, slotOf σ 81, slotOf σ 82, slotOf σ 83, slotOf σ 84, slotOf σ 85, slotOf σ 86, slotOf σ 87, slotOf σ 88, slotOf σ 89, slotOf σ 90, slotOf σ 91, slotOf σ 92, slotOf σ 93, slotOf σ 94, slotOf σ 95, slotOf σ 96, slotOf σ 97, slotOf σ 98, slotOf σ 99, slotOf σ 100, slotOf σ 101, slotOf σ 102, slotOf σ 103, slotOf σ 104, slotOf σ 105, slotOf σ 106, slotOf σ 107, slotOf σ 108, slotOf σ 109, slotOf σ 110, slotOf σ 111, slotOf σ 112, slotOf σ 113, slotOf σ 114, slotOf σ 115, slotOf σ 116, slotOf σ 117, slotOf σ 118, slotOf σ 119, slotOf σ 120, slotOf σ 121, slotOf σ 122, slotOf σ 123, slotOf σ 124, slotOf σ 125, slotOf σ 126, slotOf σ 127, slotOf σ 128, slotOf σ 129, slotOf σ 130, slotOf σ 131, slotOf σ 132, slotOf σ 133, slotOf σ 134, slotOf σ 135, slotOf σ 136, slotOf σ 137], [[.slice .imm (if (p.vars.map dV).isEmpty = true then 0 else 3) (p.vars.map dV), .slice .imm (if (p.procs.map dP).isEmpty = true then 0 else 6) (p.procs.map dP), .int .u8 p.main.kind, .int .i64 p.main.num, .str p.main.name, .slice .imm (if (p.main.kids.map dN).isEmpty = true then 0 else 4) (p.main.kids.map dN)]], 0, []⟩ ∧ (N = (prQ p p.procs[k.toNat % p.procs.length].name).params.length ∨ N = (prQ p p.procs[k.toNat % p.procs.length].name).params.length + 2)) ?_ ?_
  · skip
    refine X_seq ?_
    refine X_rg fun R hR => ?_
    simp only [aops, astep, awant, aeff, aop, ev, St.put, List.getElem?_cons_succ, List.getElem?_cons_zero, Option.getD_some, Option.map_some, if_true, List.set_cons_succ, List.set_cons_zero]
    with_reducible refine hR _ ?_
    clear hR R
    show X _ _ _ _
    refine X_ite (by simp only [ev, List.getElem?_cons_succ, List.getElem?_cons_zero, Option.getD_some]; exact rfl) ?_ ?_
    · intro b1
      have c1 := b1
      try simp only [Bool.not_eq_true', Bool.not_eq_false', decide_eq_true_eq, decide_eq_false_iff_not, beq_iff_eq, Int.not_lt, Int.not_le, ge_iff_le, gt_iff_lt, bne_iff_ne, ne_eq, bne_eq_false_iff_eq, beq_eq_false_iff_ne, Bool.and_eq_true, Bool.or_eq_false_iff] at c1
      have ha2 := add2 (a := (prQ p p.procs[k.toNat % p.procs.length].name).params.length) (by omega)
      refine X_rg fun R hR => ?_
      simp only [inr_i64, Int.reduceLE, Int.reduceNeg, aops, astep, awant, aeff, aop, abin, aint, ev, ofValue, St.put, List.getElem?_cons_succ, List.getElem?_cons_zero, Option.getD_some, Option.map_some, if_true, List.set_cons_succ, List.set_cons_zero, and_self, b1, ha2]
      with_reducible refine hR _ ?_
      clear hR R
      exact ⟨(prQ p p.procs[k.toNat % p.procs.length].name).params.length + 2, rfl, .inr rfl⟩
    · intro b2
      have c2 := b2
      try simp only [Bool.not_eq_true', Bool.not_eq_false', decide_eq_true_eq, decide_eq_false_iff_not, beq_iff_eq, Int.not_lt, Int.not_le, ge_iff_le, gt_iff_lt, bne_iff_ne, ne_eq, bne_eq_false_iff_eq, beq_eq_false_iff_ne, Bool.and_eq_true, Bool.or_eq_false_iff] at c2
      refine X_skip ?_
      exact ⟨(prQ p p.procs[k.toNat % p.procs.length].name).params.length, rfl, .inl rfl⟩
  · skip
    rintro σ ⟨N, hσ, hN⟩
    generalize slotOf σ = x at hσ
    subst hσ
    refine X_seq ?_
    refine X_seq ?_
    have hs1 := sub1' (a := N) (by omega)
    refine X_y ?_
    refine Y_k 3 fun R hR => ?_
    simp only [EVP, inr_i64, Int.reduceLE, Int.reduceNeg, aops, astep, awant, aeff, aop, abin, aint, ev, ofValue, St.put, List.getElem?_cons_succ, List.getElem?_cons_zero, Option.getD_some, Option.map_some, if_true, List.set_cons_succ, List.set_cons_zero, List.take_succ_cons, List.take_zero, and_self]
    with_reducible refine hR _ ?_
    clear hR R
    simp only [List.drop_succ_cons, List.drop_zero]
    refine Y_if 65 (by simp only [ev, List.getElem?_cons_succ, List.getElem?_cons_zero, Option.getD_some]; exact rfl) ?_ ?_
    · intro b3
      have c3 := b3
      try simp only [beq_iff_eq] at c3
      refine Y_end fun R hR => ?_
      simp only [inr_i64, Int.reduceLE, Int.reduceNeg, aops, astep, awant, aeff, aop, abin, ev, ofValue, St.put, List.getElem?_cons_succ, List.getElem?_cons_zero, Option.getD_some, Option.map_some, Option.map_none, Option.bind_some, if_true, List.set_cons_succ, List.set_cons_zero, Bool.false_eq_true, if_false, and_self, bq_tf, b3]
      with_reducible refine hR _ ?_
      clear hR R
      show X _ _ _ _
      refine X_true (by simp only [ev, List.getElem?_cons_succ, List.getElem?_cons_zero, Option.getD_some]) ?_
      refine X_seq ?_
      refine X_rg fun R hR => ?_
      simp only [aops, astep, awant, aeff, aop, ev, ofValue, St.put, Option.getD_some, Option.map_some, if_true, List.set_cons_succ, List.set_cons_zero]
      with_reducible refine hR _ ?_
      clear hR R
      show X _ _ _ _
      refine X_ret ?_
      show resD _ _ _ = some _
      simp only [resD, resAll, resOne, resTup, Try.results7, EVP, List.getElem?_cons_succ, List.getElem?_cons_zero, D.good, if_true, Option.map_some] <;> (first | (rfl; done) | (simp_all; done) | (exfalso; simp_all; done) | (trace_state; fail))
    · intro b4
      have c4 := b4
      try simp only [ne_eq, beq_eq_false_iff_ne] at c4
      refine Y_end fun R hR => ?_
      simp only [inr_i64, Int.reduceLE, Int.reduceNeg, aops, astep, awant, aeff, aop, abin, aint, ev, ofValue, St.put, List.getElem?_cons_succ, List.getElem?_cons_zero, Option.getD_some, Option.map_some, Option.bind_some, if_true, List.set_cons_succ, List.set_cons_zero, Bool.false_eq_true, if_false, and_self, beq_self_eq_true, b4, hs1]
      with_reducible refine hR _ ?_
      clear hR R
      show X _ _ _ _
      refine X_ite (by simp only [ev, List.getElem?_cons_succ, List.getElem?_cons_zero, Option.getD_some]; exact rfl) ?_ ?_
      · intro b5
        have c5 := b5
        try simp only [decide_eq_true_eq, gt_iff_lt] at c5
        refine X_seq ?_
        refine X_rg fun R hR => ?_
        simp only [aops, astep, awant, aeff, aop, ev, ofValue, St.put, Option.getD_some, Option.map_some, if_true, List.set_cons_succ, List.set_cons_zero, b5]
        with_reducible refine hR _ ?_
        clear hR R
        show X _ _ _ _
        refine X_ret ?_
        show resD _ _ _ = some _
        simp only [resD, resAll, resOne, resTup, Try.results7, EVP, List.getElem?_cons_succ, List.getElem?_cons_zero, D.good, if_true, Option.map_some] <;> (first | (rfl; done) | (simp_all; done) | (exfalso; simp_all; done) | (trace_state; fail))
      · intro b6
        have c6 := b6
        try simp only [decide_eq_false_iff_not, Int.not_lt, gt_iff_lt] at c6
        refine X_skip ?_
        show X _ _ _ _
        refine X_seq ?_
        refine X_rg fun R hR => ?_
        simp only [EVP, inr_u8, Int.reduceLE, aops, astep, awant, aeff, aop, mkD, afill, astore, ev, ofValue, St.put, gd_int, cl_int, gd_str, ia_str, cl_str, gd_agg, cl_agg, ia_slice, List.map_cons, List.map_nil, List.getElem?_cons_succ, List.getElem?_cons_zero, Option.getD_some, Option.map_some, Option.bind_some, if_true, List.set_cons_succ, List.set_cons_zero, List.length_map, List.length_cons, List.length_nil, List.drop_succ_cons, List.drop_zero, List.take_succ_cons, List.take_zero, List.cons_append, List.nil_append, Nat.reduceAdd, Nat.reduceLeDiff, Nat.zero_add, Bool.false_eq_true, if_false, and_self, reduceCtorEq, Option.isSome_some, ty_string, ty_s_api_Proc, ty_api_Node, ty_api_Proc, ty_api_Program, st_api_Node, sta_api_Node, und_api_Proc, siz_api_Proc, inf_api_Proc_eq, sl, dP, b6, pq1, hn1, pq3, w00]
        with_reducible refine hR _ ?_
        clear hR R
        show X _ _ _ _
        refine X_seq ?_
        refine X_seq ?_
        refine X_rg fun R hR => ?_
        simp only [inr_i64, Int.reduceLE, Int.reduceNeg, aops, astep, awant, aeff, aop, ev, ofValue, St.put, Option.getD_some, Option.map_some, if_true, List.set_cons_succ, List.set_cons_zero, and_self]
        with_reducible refine hR _ ?_
        clear hR R
        show X _ _ _ _
        refine X_block ?_
        refine X_loop (fun m σ => ∃ (j : Nat) (o : Own) (n : Nat) (nx : Nat) (lv : List Nat), σ = ⟨[slotOf σ 0, slotOf σ 1, slotOf σ 2, .ptr 0 0, slotOf σ 4, slotOf σ 5, slotOf σ 6, slotOf σ 7, .int .i64 N, .ptr 1 0, .int .i64 j, slotOf σ 11, slotOf σ 12, slotOf σ 13, slotOf σ 14, slotOf σ 15, slotOf σ 16, slotOf σ 17, slotOf σ 18, slotOf σ 19, slotOf σ 20, slotOf σ 21, slotOf σ 22, slotOf σ 23, slotOf σ 24, slotOf σ 25, slotOf σ 26, slotOf σ 27, slotOf σ 28, slotOf σ 29, slotOf σ 30, slotOf σ 31, slotOf σ 32, slotOf σ 33, slotOf σ 34, slotOf σ 35, slotOf σ 36, slotOf σ 37, slotOf σ 38, slotOf σ 39, slotOf σ 40, slotOf σ 41, slotOf σ 42, slotOf σ 43, slotOf σ 44, slotOf σ 45, slotOf σ 46, slotOf σ 47, slotOf σ 48, slotOf σ 49, slotOf σ 50, slotOf σ 51, slotOf σ 52, slotOf σ 53, slotOf σ 54, slotOf σ 55, slotOf σ 56, slotOf σ 57, slotOf σ 58, slotOf σ 59, slotOf σ 60, slotOf σ 61, slotOf σ 62, slotOf σ 63, slotOf σ 64, slotOf σ 65, slotOf σ 66, slotOf σ 67, slotOf σ 68, slotOf σ 69, slotOf σ 70, slotOf σ 71, slotOf σ 72, slotOf σ 73, slotOf σ 74, slotOf σ 75, slotOf σ 76, slotOf σ 77, slotOf σ 78, slotOf σ 79, slotOf σ 80, slotOf σ 81, slotOf σ 82, slotOf σ 83, slotOf σ 84, slotOf σ 85, slotOf σ 86, slotOf σ 87, slotOf σ 88, slotOf σ 89, slotOf σ 90, slotOf σ 91, slotOf σ 92, slotOf σ 93, slotOf σ 94, slotOf σ 95, slotOf σ 96, slotOf σ 97, slotOf σ 98, slotOf σ 99, slotOf σ 100, slotOf σ 101, slotOf σ 102, slotOf σ 103, slotOf σ 104, slotOf σ 105, slotOf σ 106, slotOf σ 107, slotOf σ 108, slotOf σ 109, slotOf σ 110, slotOf σ 111, slotOf σ 112, slotOf σ 113, slotOf σ 114, slotOf σ 115, slotOf σ 116, slotOf σ 117, slotOf σ 118, slotOf σ 119, slotOf σ 120, slotOf σ 121, slotOf σ 122, slotOf σ 123, slotOf σ 124, slotOf σ 125, slotOf σ 126, slotOf σ 127, slotOf σ 128, slotOf σ 129, slotOf σ 130, slotOf σ 131, slotOf σ 132, slotOf σ 133, slotOf σ 134, slotOf σ 135, slotOf σ 136, slotOf σ 137], [[.slice .imm (if (p.vars.map dV).isEmpty = true then 0 else 3) (p.vars.map dV), .slice .imm (if (p.procs.map dP).isEmpty = true then 0 else 6) (p.procs.map dP), .int .u8 p.main.kind, .int .i64 p.main.num, .str p.main.name, .slice .imm (if (p.main.kids.map dN).isEmpty = true then 0 else 4) (p.main.kids.map dN)], [.int .u8 50, .int .i64 0, .str (prQ p p.procs[k.toNat % p.procs.length].name).name, .slice o n ((List.replicate j (vT p.vars[0].name)).map dN)]], nx, lv⟩ ∧ m = N - 1 - j ∧ j ≤ N - 1 ∧ Hid (Acc 28 4 o n ((List.replicate j (vT p.vars[0].name)).map dN) lv)) ?_ (N - 1) _ ?_
        rotate_left
        · exact ⟨0, .nil, 0, 0, [], rfl, rfl, Nat.zero_le _, Lib.hid (.nil _ _ _)⟩
        rintro m σ ⟨j, o, n, nx, lv, hσ, rfl, hj, ha⟩
        generalize slotOf σ = x at hσ
        subst hσ
        refine X_seq ?_
        refine X_seq ?_
        have hs1 := sub1' (a := N) (by omega)
        refine X_rg fun R hR => ?_
        simp only [inr_i64, Int.reduceLE, Int.reduceNeg, aops, astep, awant, aeff, aop, abin, aint, ev, ofValue, St.put, List.getElem?_cons_succ, List.getElem?_cons_zero, Option.getD_some, Option.map_some, if_true, List.set_cons_succ, List.set_cons_zero, and_self, hs1]
        with_reducible refine hR _ ?_
        clear hR R
        show X _ _ _ _
        refine X_ite (by simp only [ev, List.getElem?_cons_succ, List.getElem?_cons_zero, Option.getD_some]; exact rfl) ?_ ?_
        · intro b7
          have c7 := b7
          try simp only [decide_eq_true_eq] at c7
          refine X_skip ?_
          show X _ _ _ _
          refine X_seq ?_
          refine X_block ?_
          have hjl : j < N - 1 := by first | omega | (simp_all; omega)
          have hvf := v_fn p.vars[0].name
          have e0 : (p.vars.map dV)[0]? = some (dV p.vars[0]) := by simp [hv0]
          have hn3 : ((if (p.vars.map dV).isEmpty = true then 0 else 3) = 3) = True := eq_true (sl_n (j := 0) (by simpa using hv0))
          have hv00 : ((0 : Nat) < p.vars.length) = True := eq_true hv0
          have hv01 : ((0 : Int) < (p.vars.length : Int)) = True := by simp; omega
          have hap := fun fr bx => (ha.out.more nx).app (P := Try.prog) (σ := ⟨fr, bx, nx + 1, nx :: lv⟩) (t := 26) (o2 := .own nx 28) (l2 := [dN (vT p.vars[0].name)]) und_api_Node inf_api_Node_eq inf_api_Node_size (by omega) (by rw [inf_api_Node_bytes]; omega) inf_api_Node_zc (by simp; omega) (by simp)
          have hrs : ((List.replicate j (vT p.vars[0].name)).map dN) ++ [dN (vT p.vars[0].name)] = (List.replicate (j + 1) (vT p.vars[0].name)).map dN := by rw [List.replicate_succ', List.map_append]; rfl
          refine X_rg fun R hR => ?_
          simp only [EVP, inr_i64, Int.reduceLE, Int.reduceNeg, aops, astep, awant, aeff, aop, mkD, abuild, astore, ev, ofValue, St.put, pcall, ia_str, cl_str, gd_slice, ia_slice, cl_slice, List.map_cons, List.map_nil, List.getElem?_cons_succ, List.getElem?_cons_zero, Option.getD_some, Option.map_some, if_true, List.set_cons_succ, List.set_cons_zero, List.length_map, List.length_cons, List.length_nil, List.drop_succ_cons, List.drop_zero, List.take_succ_cons, List.take_zero, List.cons_append, List.nil_append, Nat.reduceAdd, Nat.reduceLeDiff, Nat.reduceLT, Nat.zero_add, Nat.add_zero, Bool.and_true, Bool.false_eq_true, if_false, and_self, reduceCtorEq, List.all_cons, List.all_nil, beq_self_eq_true, Option.isSome_some, Nat.reduceMul, rng_1, ty_string, ty_s_api_Node, ty_s_api_VarDecl, ty_api_Node, ty_api_VarDecl, ty_api_Program, und_api_Node, inf_api_Node_eq, inf_api_Node_size, inf_api_Node_zero, und_api_VarDecl, siz_api_VarDecl, inf_api_VarDecl_eq, any28, dN_cells, dN_good, sl, dV, b7, hvf, e0, hn3, hv01, hap, hrs, Int.toNat_zero, dN_good, dN_cells]
          with_reducible refine hR _ ?_
          clear hR R
          show X _ _ _ _
          have hbig : j < 9223372036854775807 := by omega
          refine X_rg fun R hR => ?_
          simp only [inr_i64, Int.reduceLE, Int.reduceNeg, aops, astep, awant, aeff, aop, abin, aint, ev, ofValue, St.put, List.getElem?_cons_succ, List.getElem?_cons_zero, Option.getD_some, Option.map_some, if_true, List.set_cons_succ, List.set_cons_zero, and_self, nat_succ hbig]
          with_reducible refine hR _ ?_
          clear hR R
          show ∃ m, m < _ ∧ _
          exact ⟨N - 1 - (j + 1), by omega, j + 1, _, _, _, _, rfl, rfl, by omega, Lib.hid (.own (by simp))⟩
        · intro b8
          have c8 := b8
          try simp only [decide_eq_false_iff_not, Int.not_lt] at c8
          refine X_exit ?_
          show X _ _ _ _
          refine X_seq ?_
          refine X_rg fun R hR => ?_
          simp only [EVP, aops, astep, awant, aeff, aop, mkD, astore, ev, St.put, List.getElem?_cons_succ, List.getElem?_cons_zero, Option.getD_some, Option.map_some, Option.bind_some, if_true, List.set_cons_succ, List.set_cons_zero, List.length_cons, List.length_nil, List.drop_succ_cons, List.drop_zero, List.take_succ_cons, List.take_zero, List.cons_append, List.nil_append, Nat.reduceAdd, Nat.reduceLeDiff, Nat.zero_add, and_self, ty_api_Program, dG_agg, dG_cells, dG_good, b8]
          with_reducible refine hR _ ?_
          clear hR R
          show X _ _ _ _
          refine X_seq ?_
          have hjN : j = N - 1 := by first | omega | (simp_all; omega)
          obtain ⟨b, hb⟩ : ∃ b, b = blkT [callT (prQ p p.procs[k.toNat % p.procs.length].name).name p.vars[0].name j] := ⟨_, rfl⟩
          have hbf := fun st => blk_fn (prQ p p.procs[k.toNat % p.procs.length].name).name p.vars[0].name j (.own st 28) rfl o (by rcases ha.out with ⟨q, _, _⟩ | ⟨st, q, _, _⟩ <;> rw [q] <;> rfl) n (by rcases ha.out with ⟨_, q, _⟩ | ⟨st, _, _, q⟩; exact .inr (by simpa using q); exact .inl q)
          rw [← hb] at hbf
          refine X_rg fun R hR => ?_
          simp only [EVP, aops, astep, awant, aeff, aop, mkD, abuild, astore, ev, ofValue, St.put, pcall, gd_agg, cl_agg, List.map_cons, List.map_nil, List.getElem?_cons_succ, List.getElem?_cons_zero, Option.getD_some, Option.map_some, if_true, List.set_cons_succ, List.set_cons_zero, List.length_cons, List.length_nil, List.drop_succ_cons, List.drop_zero, List.take_succ_cons, List.take_zero, List.cons_append, List.nil_append, Nat.reduceAdd, Nat.reduceLeDiff, Nat.reduceLT, Nat.zero_add, Bool.and_true, if_false, and_self, reduceCtorEq, List.all_cons, List.all_nil, beq_self_eq_true, Nat.reduceMul, rng_1, ty_api_Node, ty_api_Program, und_api_Node, inf_api_Node_eq, inf_api_Node_size, inf_api_Node_zero, any26, dN_cells, dN_good, sl, hbf]
          with_reducible refine hR _ ?_
          clear hR R
          show X _ _ _ _
          refine X_seq ?_
          refine X_seq ?_
          have hva := valid_fn (Pg.mk p.vars p.procs b)
          simp only [dG, sl] at hva
          refine X_rg fun R hR => ?_
          simp only [EVP, aops, astep, awant, aeff, aop, mkD, ev, St.put, pcall, List.map_cons, List.map_nil, List.getElem?_cons_succ, List.getElem?_cons_zero, Option.getD_some, Option.map_some, if_true, List.set_cons_succ, List.set_cons_zero, List.length_cons, List.length_nil, List.drop_zero, List.take_succ_cons, List.take_zero, List.cons_append, List.nil_append, Nat.reduceAdd, Nat.reduceLeDiff, Nat.zero_add, ty_api_Program, any17, hva]
          with_reducible refine hR _ ?_
          clear hR R
          show X _ _ _ _
          refine X_ite (by simp only [ev, List.getElem?_cons_succ, List.getElem?_cons_zero, Option.getD_some]; exact rfl) ?_ ?_
          · intro b9
            have c9 := b9
            try simp only [Bool.not_eq_true'] at c9
            refine X_seq ?_
            refine X_rg fun R hR => ?_
            simp only [aops, astep, awant, aeff, aop, ev, ofValue, St.put, Option.getD_some, Option.map_some, if_true, List.set_cons_succ, List.set_cons_zero, b9]
            with_reducible refine hR _ ?_
            clear hR R
            show X _ _ _ _
            refine X_ret ?_
            show resD _ _ _ = some _
            simp only [resD, resAll, resOne, resTup, Try.results7, EVP, List.getElem?_cons_succ, List.getElem?_cons_zero, D.good, if_true, Option.map_some] <;> (first | (rfl; done) | (simp_all; done) | (exfalso; simp_all; done) | (trace_state; fail))
          · intro b10
            have c10 := b10
            try simp only [Bool.not_eq_false'] at c10
            refine X_skip ?_
            show X _ _ _ _
            refine X_seq ?_
            have hvq : validB (Pg.mk p.vars p.procs b) = true := by first | assumption | simp_all
            have hch := check_fn (Pg.mk p.vars p.procs b)
            rw [if_pos hvq] at hch
            obtain ⟨XX, hX⟩ := arity_last (g := (Pg.mk p.vars p.procs b)) (nm := (prQ p p.procs[k.toNat % p.procs.length].name).name) (v := p.vars[0].name) (m := j) hb (show 0 ≤ procI p (prQ p p.procs[k.toNat % p.procs.length].name).name by rw [w3]; exact w0) (show ¬ j = (prmN p (prQ p p.procs[k.toNat % p.procs.length].name).name).length by rw [w2]; omega) (findN_some hv0 (by simp) _ hv0 (Nat.le_refl _))
            rw [hX] at hch
            have hxl := (checkF_bd hvq).1
            rw [hX, List.length_append] at hxl
            simp only [List.length_singleton] at hxl
            simp only [dG, sl, List.map_append, List.map_cons, List.map_nil] at hch
            have hne : (XX.map dFt ++ [dFt ⟨p.procs.length, [0], 7, (prQ p p.procs[k.toNat % p.procs.length].name).name⟩]).isEmpty = false := by simp
            simp only [hne, Bool.false_eq_true, if_false] at hch
            refine X_rg fun R hR => ?_
            simp only [EVP, aops, astep, awant, aeff, aop, mkD, ev, St.put, pcall, List.map_cons, List.map_nil, List.getElem?_cons_succ, List.getElem?_cons_zero, Option.getD_some, Option.map_some, if_true, List.set_cons_succ, List.set_cons_zero, List.length_cons, List.length_nil, List.drop_zero, List.take_succ_cons, List.take_zero, List.cons_append, List.nil_append, Nat.reduceAdd, Nat.reduceLeDiff, Nat.zero_add, ty_api_Program, any18, b10, hch]
            with_reducible refine hR _ ?_
            clear hR R
            show X _ _ _ _
            refine X_seq ?_
            refine X_rg fun R hR => ?_
            simp only [EVP, aops, astep, awant, aeff, aop, afill, astore, ev, ofValue, St.put, gd_agg, cl_agg, List.map_nil, List.getElem?_cons_succ, List.getElem?_cons_zero, Option.getD_some, Option.map_some, Option.bind_some, if_true, List.set_cons_succ, List.set_cons_zero, List.length_cons, List.length_nil, List.drop_succ_cons, List.drop_zero, List.take_zero, List.cons_append, List.nil_append, Nat.reduceAdd, Nat.reduceLeDiff, Nat.zero_add, and_self, ty_scope_Fault, st_scope_Fault, sta_scope_Fault]
            with_reducible refine hR _ ?_
            clear hR R
            show X _ _ _ _
            refine X_seq ?_
            refine X_seq ?_
            have hg0 : (((XX.length + 1 : Nat) : Int) > 0) = True := eq_true (by omega)
            refine X_rg fun R hR => ?_
            simp only [EVP, inr_i64, Int.reduceLE, Int.reduceNeg, aops, astep, awant, aeff, aop, abin, aint, ev, ofValue, St.put, List.getElem?_cons_succ, List.getElem?_cons_zero, Option.getD_some, Option.map_some, if_true, List.set_cons_succ, List.set_cons_zero, List.length_map, List.length_cons, List.length_nil, Nat.zero_add, and_self, decide_true, und_scope_Fault, hg0, List.length_append, List.length_map]
            with_reducible refine hR _ ?_
            clear hR R
            show X _ _ _ _
            refine X_true (by simp only [ev, List.getElem?_cons_succ, List.getElem?_cons_zero, Option.getD_some]) ?_
            have hs2 := sub1' (a := XX.length + 1) (by omega)
            have hs3 : ((XX.length + 1 : Nat) : Int) - 1 = (XX.length : Int) := by omega
            have ex : (XX.map dFt ++ [dFt ⟨p.procs.length, [0], 7, (prQ p p.procs[k.toNat % p.procs.length].name).name⟩])[XX.length]? = some (dFt ⟨p.procs.length, [0], 7, (prQ p p.procs[k.toNat % p.procs.length].name).name⟩) := by simp
            have hlx : (XX.length < XX.length + 1) = True := by simp
            have hs4 : IntKind.i64.wrap (XX.length : Int) = (XX.length : Int) := nat_wrap (by omega)
            refine X_rg fun R hR => ?_
            simp only [EVP, inr_i64, Int.reduceLE, Int.reduceNeg, nat_lt, nat_0, nat_to, aops, astep, awant, aeff, aop, abin, aint, astore, ev, ofValue, St.put, List.map_cons, List.map_nil, List.getElem?_cons_succ, List.getElem?_cons_zero, Option.getD_some, Option.map_some, if_true, List.set_cons_succ, List.set_cons_zero, List.length_map, List.length_cons, List.length_nil, List.drop_succ_cons, List.drop_zero, List.take_zero, List.cons_append, List.nil_append, Nat.reduceAdd, Nat.reduceLeDiff, Nat.zero_add, and_self, Option.isSome_some, ty_scope_Fault, und_scope_Fault, siz_scope_Fault, inf_scope_Fault_eq, hs3, ex, hlx, List.length_append, List.length_map, hs4, dFt_good, dFt_cells, dFt_isAgg]
            with_reducible refine hR _ ?_
            clear hR R
            show X _ _ _ _
            refine X_seq ?_
            have hii := fun st => ints_own [0] [0] (.own st 3) rfl (by simp) (by simp)
            simp only [sl, List.map_cons, List.map_nil, dI, List.isEmpty_cons, Bool.false_eq_true, if_false, decide_true] at hii
            refine X_rg fun R hR => ?_
            simp only [EVP, inr_i64, Int.reduceLE, Int.reduceNeg, aops, astep, awant, aeff, aop, abin, aint, astr, mkD, abuild, ev, ofValue, St.put, pcall, gd_int, ia_int, cl_int, ia_str, ia_slice, List.map_cons, List.map_nil, List.getElem?_cons_succ, List.getElem?_cons_zero, Option.getD_some, Option.map_some, Option.bind_some, if_true, List.set_cons_succ, List.set_cons_zero, List.length_map, List.length_cons, List.length_nil, List.drop_succ_cons, List.drop_zero, List.take_succ_cons, List.take_zero, List.cons_append, List.nil_append, Nat.reduceAdd, Nat.reduceLeDiff, Nat.reduceLT, Nat.zero_add, Nat.add_zero, Bool.and_true, Bool.false_eq_true, if_false, and_self, reduceCtorEq, List.all_cons, List.all_nil, beq_self_eq_true, Nat.reduceMul, rng_1, ty_int, ty_string, ty_s_int, ty_s_api_Proc, ty_api_Node, ty_api_Program, und_int, inf_int_eq, inf_int_size, inf_int_zero, und_api_Proc, ty_api_Errno, ty_scope_Fault, any24, hii, dI, List.isEmpty_cons]
            with_reducible refine hR _ ?_
            clear hR R
            show X _ _ _ _
            refine X_ret ?_
            show resD _ _ _ = some _
            simp only [resD, resAll, resOne, resTup, Try.results7, EVP, List.getElem?_cons_succ, List.getElem?_cons_zero, D.good, if_true, Option.map_some] <;> (first | (rfl; done) | (simp_all; done) | (exfalso; simp_all; done) | (trace_state; fail))
set_option maxRecDepth 100000 in
set_option maxHeartbeats 4000000 in
theorem law7_n (p : Pg) (k : Int) (more : Bool) (hno : smallB p = false ∨ p.procs.length = 0 ∨ p.vars.length = 0) : fn EV 7 [dG p, .int .u8 k, .bool more] = some (.bool true) := by
  refine fn_X rfl Try.func7 rfl (by simp only [plain, List.all_cons, List.all_nil, int_pl, bool_pl, dG_pl, Bool.and_true]) (rfl) (rfl) (rfl) ?_
  simp only [List.map_cons, List.map_nil, D.strip, dG_strip]
  simp only [enterSt, Try.ntmps7, List.length_cons, List.length_nil, Nat.reduceAdd, Nat.reduceSub, List.replicate_succ, List.replicate_zero, List.cons_append, List.nil_append]
  refine X_seq ?_
  refine X_rg fun R hR => ?_
  simp only [aops, astep, awant, aeff, aop, ev, ofValue, St.put, List.getElem?_cons_zero, Option.getD_some, Option.map_some, if_true, List.set_cons_succ, List.set_cons_zero, List.length_nil, List.nil_append, dG_cells, dG_good]
  with_reducible refine hR _ ?_
  clear hR R
  show X _ _ _ _
  refine X_seq ?_
  refine X_seq ?_
  refine X_rg fun R hR => ?_
  simp only [EVP, aops, astep, awant, aeff, aop, ev, St.put, pcall, List.map_nil, List.getElem?_cons_succ, List.getElem?_cons_zero, Option.getD_some, Option.map_some, if_true, List.set_cons_succ, List.set_cons_zero, List.nil_append, Bool.not_true, any12, awake_ok]
  with_reducible refine hR _ ?_
  clear hR R
  show X _ _ _ _
  refine X_false (by simp only [ev, List.getElem?_cons_succ, List.getElem?_cons_zero, Option.getD_some]) ?_
  refine X_skip ?_
  show X _ _ _ _
  refine X_seq ?_
  refine X_seq ?_
  have hsm := small_fn p
  refine X_y ?_
  refine Y_k 4 fun R hR => ?_
  simp only [EVP, inr_i64, Int.reduceLE, Int.reduceNeg, aops, astep, awant, aeff, aop, abin, aint, mkD, ev, ofValue, St.put, pcall, List.map_cons, List.map_nil, List.getElem?_cons_succ, List.getElem?_cons_zero, Option.getD_some, Option.map_some, if_true, List.set_cons_succ, List.set_cons_zero, List.length_cons, List.length_nil, List.drop_zero, List.take_succ_cons, List.take_zero, List.cons_append, List.nil_append, Nat.reduceAdd, Nat.reduceLeDiff, Nat.zero_add, and_self, ty_api_Program, any19, dG_agg, hsm, small_eq]
  with_reducible refine hR _ ?_
  clear hR R
  simp only [List.drop_succ_cons, List.drop_zero]
  refine Y_if 19 (by simp only [ev, List.getElem?_cons_succ, List.getElem?_cons_zero, Option.getD_some]; exact rfl) ?_ ?_
  · intro b1
    have c1 := b1
    try simp only [Bool.not_eq_true'] at c1
    refine Y_end fun R hR => ?_
    simp only [EVP, inr_i64, Int.reduceLE, Int.reduceNeg, aops, astep, awant, aeff, aop, abin, ev, ofValue, St.put, List.getElem?_cons_succ, List.getElem?_cons_zero, Option.getD_some, Option.map_some, Option.map_none, Option.bind_some, if_true, List.set_cons_succ, List.set_cons_zero, Nat.zero_add, Nat.add_zero, Bool.false_eq_true, if_false, and_self, reduceCtorEq, bq_tf, ty_s_api_VarDecl, ty_s_api_Proc, ty_api_Program, und_api_VarDecl, und_api_Proc, b1]
    with_reducible refine hR _ ?_
    clear hR R
    show X _ _ _ _
    refine X_true (by simp only [ev, List.getElem?_cons_succ, List.getElem?_cons_zero, Option.getD_some]) ?_
    refine X_seq ?_
    refine X_rg fun R hR => ?_
    simp only [aops, astep, awant, aeff, aop, ev, ofValue, St.put, Option.getD_some, Option.map_some, if_true, List.set_cons_succ, List.set_cons_zero]
    with_reducible refine hR _ ?_
    clear hR R
    show X _ _ _ _
    refine X_ret ?_
    show resD _ _ _ = some _
    simp only [resD, resAll, resOne, resTup, Try.results7, EVP, List.getElem?_cons_succ, List.getElem?_cons_zero, D.good, if_true, Option.map_some] <;> (first | (rfl; done) | (simp_all; done) | (exfalso; simp_all; done) | (trace_state; fail))
  · intro b2
    have c2 := b2
    try simp only [Bool.not_eq_false'] at c2
    refine Y_k 6 fun R hR => ?_
    simp only [EVP, inr_i64, Int.reduceLE, Int.reduceNeg, aops, astep, awant, aeff, aop, abin, aint, mkD, ev, ofValue, St.put, ia_slice, List.getElem?_cons_succ, List.getElem?_cons_zero, Option.getD_some, Option.map_some, Option.bind_some, if_true, List.set_cons_succ, List.set_cons_zero, List.length_map, List.length_cons, List.length_nil, List.drop_succ_cons, List.drop_zero, List.take_succ_cons, List.take_zero, Nat.reduceAdd, Nat.reduceLeDiff, Nat.zero_add, Bool.false_eq_true, if_false, and_self, reduceCtorEq, beq_self_eq_true, ty_s_api_Proc, ty_api_Program, und_api_Proc, b2]
    with_reducible refine hR _ ?_
    clear hR R
    simp only [List.drop_succ_cons, List.drop_zero]
    refine Y_if 25 (by simp only [ev, List.getElem?_cons_succ, List.getElem?_cons_zero, Option.getD_some]; exact rfl) ?_ ?_
    · intro b3
      have c3 := b3
      try simp only [beq_iff_eq] at c3
      refine Y_end fun R hR => ?_
      simp only [EVP, inr_i64, Int.reduceLE, Int.reduceNeg, aops, astep, awant, aeff, aop, abin, ev, ofValue, St.put, List.getElem?_cons_succ, List.getElem?_cons_zero, Option.getD_some, Option.map_some, Option.map_none, Option.bind_some, if_true, List.set_cons_succ, List.set_cons_zero, Nat.add_zero, Bool.false_eq_true, if_false, and_self, reduceCtorEq, bq_tf, ty_s_api_VarDecl, ty_api_Program, und_api_VarDecl, b3]
      with_reducible refine hR _ ?_
      clear hR R
      show X _ _ _ _
      refine X_true (by simp only [ev, List.getElem?_cons_succ, List.getElem?_cons_zero, Option.getD_some]) ?_
      refine X_seq ?_
      refine X_rg fun R hR => ?_
      simp only [aops, astep, awant, aeff, aop, ev, ofValue, St.put, Option.getD_some, Option.map_some, if_true, List.set_cons_succ, List.set_cons_zero]
      with_reducible refine hR _ ?_
      clear hR R
      show X _ _ _ _
      refine X_ret ?_
      show resD _ _ _ = some _
      simp only [resD, resAll, resOne, resTup, Try.results7, EVP, List.getElem?_cons_succ, List.getElem?_cons_zero, D.good, if_true, Option.map_some] <;> (first | (rfl; done) | (simp_all; done) | (exfalso; simp_all; done) | (trace_state; fail))
    · intro b4
      have c4 := b4
      try simp only [ne_eq, beq_eq_false_iff_ne] at c4
      refine Y_end fun R hR => ?_
      simp only [EVP, inr_i64, Int.reduceLE, Int.reduceNeg, aops, astep, awant, aeff, aop, abin, aint, mkD, ev, ofValue, St.put, ia_slice, List.getElem?_cons_succ, List.getElem?_cons_zero, Option.getD_some, Option.map_some, Option.bind_some, if_true, List.set_cons_succ, List.set_cons_zero, List.length_map, List.length_cons, List.length_nil, List.drop_zero, List.take_succ_cons, List.take_zero, Nat.reduceAdd, Nat.reduceLeDiff, Nat.zero_add, Nat.add_zero, Bool.false_eq_true, if_false, and_self, reduceCtorEq, beq_self_eq_true, ty_s_api_VarDecl, ty_api_Program, und_api_VarDecl, b4]
      with_reducible refine hR _ ?_
      clear hR R
      show X _ _ _ _
      refine X_ite (by simp only [ev, List.getElem?_cons_succ, List.getElem?_cons_zero, Option.getD_some]; exact rfl) ?_ ?_
      · intro b5
        have c5 := b5
        try simp only [beq_iff_eq] at c5
        refine X_seq ?_
        refine X_rg fun R hR => ?_
        simp only [aops, astep, awant, aeff, aop, ev, ofValue, St.put, Option.getD_some, Option.map_some, if_true, List.set_cons_succ, List.set_cons_zero, b5]
        with_reducible refine hR _ ?_
        clear hR R
        show X _ _ _ _
        refine X_ret ?_
        show resD _ _ _ = some _
        simp only [resD, resAll, resOne, resTup, Try.results7, EVP, List.getElem?_cons_succ, List.getElem?_cons_zero, D.good, if_true, Option.map_some] <;> (first | (rfl; done) | (simp_all; done) | (exfalso; simp_all; done) | (trace_state; fail))
      · intro b6
        have c6 := b6
        try simp only [ne_eq, beq_eq_false_iff_ne] at c6
        exfalso
        have k1 : smallB p = true := by first | assumption | (simp_all; done)
        have k2 : ¬ p.procs.length = 0 := by first | omega | (simp_all; done)
        have k3 : ¬ p.vars.length = 0 := by first | omega | (simp_all; done)
        rcases hno with h | h | h
        · rw [k1] at h; cases h
        · exact k2 h
        · exact k3 h
theorem law7_fn (p : Pg) (k : Int) (more : Bool) (hk0 : 0 ≤ k) (hk1 : k ≤ 255) : fn EV 7 [dG p, .int .u8 k, .bool more] = some (.bool true) := by
  by_cases h1 : smallB p = true
  · by_cases h2 : p.procs.length = 0
    · exact law7_n p k more (.inr (.inl h2))
    · by_cases h3 : p.vars.length = 0
      · exact law7_n p k more (.inr (.inr h3))
      · exact law7_y p k more hk0 hk1 h1 (by omega) (by omega)
  · exact law7_n p k more (.inl (by simpa using h1))

end Go.Proofs.Ytjikokmhknnnoaa
