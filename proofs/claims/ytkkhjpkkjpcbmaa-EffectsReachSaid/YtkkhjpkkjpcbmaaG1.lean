/- Procedures by name; the reference's names and Calls over data. -/
import Derived.Test.YtkkhjpkkjpcbmaaE10
namespace Go.Proofs.Ytkkhjpkkjpcbmaa
open Go.RowKit

theorem dG_agg (p : Pg) : D.agg [.slice .imm (if (p.vars.map dV).isEmpty = true then 0 else 3) (p.vars.map dV), .slice .imm (if (p.procs.map dP).isEmpty = true then 0 else 6) (p.procs.map dP), .int .u8 p.main.kind, .int .i64 p.main.num, .str p.main.name, .slice .imm (if (p.main.kids.map dN).isEmpty = true then 0 else 4) (p.main.kids.map dN)] = dG p := rfl
theorem dG_cells (p : Pg) : (dG p).cells = [.slice .imm (if (p.vars.map dV).isEmpty = true then 0 else 3) (p.vars.map dV), .slice .imm (if (p.procs.map dP).isEmpty = true then 0 else 6) (p.procs.map dP), .int .u8 p.main.kind, .int .i64 p.main.num, .str p.main.name, .slice .imm (if (p.main.kids.map dN).isEmpty = true then 0 else 4) (p.main.kids.map dN)] := rfl
theorem dG_good (p : Pg) : (dG p).good = true := rfl
theorem int_pl (k : IntKind) (n : Int) : ((D.int k n).under 0 && (D.int k n).good) = true := rfl
theorem dG_pl (t : Pg) : ((dG t).under 0 && (dG t).good) = true := by rw [dG_under]; rfl
def idxN (l : List Pr) (s : ByteArray) : Nat → Nat → Int
 | _, 0 => -1
 | i, k + 1 => match l[i]? with
  | some q => if q.name.toList == s.toList then (i : Int) else idxN l s (i + 1) k
  | none => -1
theorem idxN_y {l : List Pr} {s : ByteArray} {i : Nat} (h : i < l.length) (h' : (l[i].name.toList == s.toList) = true) : idxN l s i (l.length - i) = i := by
 obtain ⟨k, hk⟩ : ∃ k, l.length - i = k + 1 := ⟨l.length - i - 1, by omega⟩
 rw [hk]; simp only [idxN, List.getElem?_eq_getElem h, h', if_true]
theorem idxN_n {l : List Pr} {s : ByteArray} {i : Nat} (h : i < l.length) (h' : (l[i].name.toList == s.toList) = false) : idxN l s i (l.length - i) = idxN l s (i + 1) (l.length - (i + 1)) := by
 obtain ⟨k, hk⟩ : ∃ k, l.length - i = k + 1 := ⟨l.length - i - 1, by omega⟩
 rw [hk, show l.length - (i + 1) = k from by omega]; simp only [idxN, List.getElem?_eq_getElem h, h', zft, if_false]
set_option maxRecDepth 100000 in
set_option maxHeartbeats 4000000 in
theorem clo_cal (q : Pr) (s : ByteArray) (b : Nat) (fr : List D) (B : List (List D)) (nx : Nat) (lv : List Nat) (hb : B[b]? = some [.str s]) (hfr : Free B) : cal EV 60 [dP q, .ptr b 0] ⟨fr, B, nx, lv⟩ = some (.bool (q.name.toList == s.toList), ⟨fr, B, nx, lv⟩) := by
 have hb2 : ∀ c, (B ++ [c])[b]? = some [.str s] := fun c => by rw [List.getElem?_append_left (List.getElem?_eq_some_iff.1 hb).1]; exact hb
 refine cal_X (σ := ⟨fr, B, nx, lv⟩) rfl Try.func60 rfl (by simp [plain, D.under, dP_under]) rfl (hfr.all _) ?_
 simp only [enterSt, Try.ntmps60, zlc, zln, Nat.reduceAdd, Nat.reduceSub, zr1, zr0, zca, zna]
 refine X_seq ?_
 refine X_rc fun R hR => ?_
 simp only [aops, astep, awant, aeff, aop, ev, ofValue, St.put, gd_agg, cl_agg, zg0, zgd, zmo, if_true, zs1, zs0, sl, dP]
 with_reducible refine hR _ ?_
 clear hR R
 show X _ _ _ _
 refine X_seq ?_
 refine X_rc fun R hR => ?_
 simp only [EVP, app_get0, aops, astep, awant, aeff, aop, abin, astr, mkD, ev, St.put, ia_str, zg1, zg0, zgd, zmo, if_true, zs1, zs0, zlc, zln, zd0, zt1, zt0, Nat.reduceAdd, Nat.reduceLeDiff, Nat.zero_add, Nat.add_zero, zft, if_false, reduceCtorEq, ty_string, ty_api_Proc, hb2]
 with_reducible refine hR _ ?_
 clear hR R
 show X _ _ _ _
 refine X_ret ?_
 show _ ∧ _
 refine ⟨.inr rfl, ?_, by simp, by simp, rfl, rfl⟩
 simp only [resD, resAll, resOne, resTup, Try.results60, EVP, zg1, zg0, D.good, if_true, zmo] <;> rfl
set_option maxRecDepth 100000 in
set_option maxHeartbeats 4000000 in
theorem idx_cal (l : List Pr) (s : ByteArray) (b : Nat) (fr : List D) (B : List (List D)) (nx : Nat) (lv : List Nat) (hll : l.length ≤ 9223372036854775807) (hb : B[b]? = some [.str s]) (hfr : Free B) : cal EV 59 [sl 6 (l.map dP), .fn 60 [.ptr b 0]] ⟨fr, B, nx, lv⟩ = some (.int .i64 (idxN l s 0 l.length), ⟨fr, B, nx, lv⟩) := by
 refine cal_X (σ := ⟨fr, B, nx, lv⟩) rfl Try.func59 rfl (by simp [plain, D.under, D.unders, sl_under (map_under (f := dP) (dP_under 0) _)]) rfl (hfr.all _) ?_
 simp only [enterSt, Try.ntmps59, zlc, zln, Nat.reduceAdd, Nat.reduceSub, zr1, zr0, zca, zna]
 refine X_seq ?_
 refine X_rc fun R hR => ?_
 simp only [inr_i64, Int.reduceLE, Int.reduceNeg, aops, astep, awant, aeff, aop, ev, ofValue, St.put, zgd, zmo, if_true, zs1, zs0, and_self, sl]
 with_reducible refine hR _ ?_
 clear hR R
 show X _ _ _ _
 refine X_seq ?_
 refine X_seq ?_
 refine X_rc fun R hR => ?_
 simp only [EVP, inr_i64, Int.reduceLE, Int.reduceNeg, aops, astep, awant, aeff, aop, ev, ofValue, St.put, zg1, zg0, zgd, zmo, if_true, zs1, zs0, zlm, and_self, und_api_Proc]
 with_reducible refine hR _ ?_
 clear hR R
 show X _ _ _ _
 refine X_block ?_
 refine X_loop (fun m σ => ∃ (i : Nat), σ = ⟨[.slice .imm (if (l.map dP).isEmpty = true then 0 else 6) (l.map dP), .fn 60 [.ptr b 0], slotOf σ 2, slotOf σ 3, slotOf σ 4, slotOf σ 5, .slice .imm (if (l.map dP).isEmpty = true then 0 else 6) (l.map dP), .int .i64 l.length, .int .i64 i, slotOf σ 9, slotOf σ 10, slotOf σ 11, slotOf σ 12, slotOf σ 13, slotOf σ 14, slotOf σ 15, slotOf σ 16, slotOf σ 17, slotOf σ 18], B, nx, lv⟩ ∧ m = l.length - i ∧ i ≤ l.length ∧ Hid (idxN l s 0 l.length = idxN l s i (l.length - i))) ?_ (l.length) _ ?_
 rotate_left
 ·exact ⟨0, rfl, rfl, Nat.zero_le _, Lib.hid rfl⟩
 rintro m σ ⟨i, hσ, rfl, hi, hf⟩
 generalize slotOf σ = x at hσ
 subst hσ
 have hn : ∀ j, j < l.length → ((if (l.map dP).isEmpty = true then 0 else 6) = 6) = True := fun j h => eq_true (sl_n (j := j) (by simpa using h))
 refine X_seq ?_
 refine X_rc fun R hR => ?_
 simp only [nat_lt, aops, astep, awant, aeff, aop, abin, aint, ev, St.put, zg1, zg0, zgd, zmo, if_true, zs1, zs0]
 with_reducible refine hR _ ?_
 clear hR R
 show X _ _ _ _
 refine X_seq ?_
 refine X_ite (by simp only [ev, zg1, zg0, zgd]; exact rfl) ?_ ?_
 ·intro b1
  have c1 := b1
  try simp only [decide_eq_true_eq] at c1
  refine X_skip ?_
  show X _ _ _ _
  refine X_seq ?_
  refine X_block ?_
  refine X_seq ?_
  have hlt : i < l.length := by first | assumption | omega
  refine X_rc fun R hR => ?_
  simp only [aops, astep, awant, aeff, aop, ev, St.put, zg1, zg0, zgd, zmo, if_true, zs1, zs0, decide_true, c1]
  with_reducible refine hR _ ?_
  clear hR R
  show X _ _ _ _
  refine X_seq ?_
  have hn1 := hn i hlt
  have e1 : (l.map dP)[i]? = some (dP l[i]) := by simp [hlt]
  have hc := fun fr => clo_cal l[i] s b fr B nx lv hb hfr
  have q1 : (dP l[i]).good = true := rfl
  have q2 : (dP l[i]).isAgg = true := rfl
  have q3 : (dP l[i]).cells.length = 6 := rfl
  refine X_rc fun R hR => ?_
  simp only [EVP, nat_lt, nat_0, nat_to, aops, astep, awant, aeff, aop, ev, St.put, zmc, zmn, zg1, zg0, zgd, zmo, if_true, zs1, zs0, zlm, zca, zna, and_self, zis, ty_api_Proc, und_api_Proc, siz_api_Proc, inf_api_Proc_eq, any60, c1, hn1, e1, hc, q2, q3]
  with_reducible refine hR _ ?_
  clear hR R
  show X _ _ _ _
  refine X_ite (by simp only [ev, zg1, zg0, zgd]; exact rfl) ?_ ?_
  ·intro b2
   have c2 := b2
   try simp only [beq_iff_eq] at c2
   refine X_seq ?_
   refine X_rc fun R hR => ?_
   simp only [aops, astep, awant, aeff, aop, ev, St.put, zg1, zg0, zgd, zmo, if_true, zs1, zs0, beq_self_eq_true, c2]
   with_reducible refine hR _ ?_
   clear hR R
   show X _ _ _ _
   refine X_ret ?_
   show _ ∧ _
   refine ⟨.inr rfl, ?_, by simp, by simp, rfl, rfl⟩
   simp only [resD, resAll, resOne, resTup, Try.results59, EVP, zg1, zg0, D.good, if_true, zmo]
   first | (rw [hf.out, idxN_y hlt (by assumption)]; done) | (rw [hf.out, show l.length - i = 0 from by omega]; rfl; done) | (exfalso; simp_all; done)
  ·intro b3
   have c3 := b3
   try simp only [ne_eq, beq_eq_false_iff_ne] at c3
   refine X_skip ?_
   show X _ _ _ _
   have hbig : i < 9223372036854775807 := by omega
   refine X_rc fun R hR => ?_
   simp only [inr_i64, Int.reduceLE, Int.reduceNeg, aops, astep, awant, aeff, aop, abin, aint, ev, ofValue, St.put, zg1, zg0, zgd, zmo, if_true, zs1, zs0, and_self, b3, nat_succ hbig]
   with_reducible refine hR _ ?_
   clear hR R
   show ∃ m, m < _ ∧ _
   exact ⟨l.length - (i + 1), by omega, i + 1, rfl, rfl, by omega, Lib.hid (hf.out.trans (idxN_n hlt (by first | assumption | simp_all)))⟩
 ·intro b4
  have c4 := b4
  try simp only [decide_eq_false_iff_not] at c4
  refine X_exit ?_
  show X _ _ _ _
  refine X_seq ?_
  refine X_rc fun R hR => ?_
  simp only [inr_i64, Int.reduceLE, Int.reduceNeg, aops, astep, awant, aeff, aop, ev, ofValue, St.put, zgd, zmo, if_true, zs1, zs0, and_self, decide_false, c4]
  with_reducible refine hR _ ?_
  clear hR R
  show X _ _ _ _
  refine X_ret ?_
  show _ ∧ _
  refine ⟨.inr rfl, ?_, by simp, by simp, rfl, rfl⟩
  simp only [resD, resAll, resOne, resTup, Try.results59, EVP, zg1, zg0, D.good, if_true, zmo]
  first | (rw [hf.out, idxN_y hlt (by assumption)]; done) | (rw [hf.out, show l.length - i = 0 from by omega]; rfl; done) | (exfalso; simp_all; done)
set_option maxRecDepth 100000 in
set_option maxHeartbeats 4000000 in
theorem proc_fn (p : Pg) (s : ByteArray) (hl : p.procs.length ≤ 9223372036854775807) : fn EV 48 [dG p, .str s] = some (.int .i64 (idxN p.procs s 0 p.procs.length)) := by
 have hF : Free [[.slice .imm (if (p.vars.map dV).isEmpty = true then 0 else 3) (p.vars.map dV), .slice .imm (if (p.procs.map dP).isEmpty = true then 0 else 6) (p.procs.map dP), .int .u8 p.main.kind, .int .i64 p.main.num, .str p.main.name, .slice .imm (if (p.main.kids.map dN).isEmpty = true then 0 else 4) (p.main.kids.map dN)], [.str s]] := fun cs hc m => by
  rcases List.mem_cons.1 hc with rfl | hc
  ·exact dG_under m p
  ·rcases List.mem_cons.1 hc with rfl | hc
   ·rfl
   ·cases hc
 have hI := fun fr => idx_cal p.procs s 1 fr [[.slice .imm (if (p.vars.map dV).isEmpty = true then 0 else 3) (p.vars.map dV), .slice .imm (if (p.procs.map dP).isEmpty = true then 0 else 6) (p.procs.map dP), .int .u8 p.main.kind, .int .i64 p.main.num, .str p.main.name, .slice .imm (if (p.main.kids.map dN).isEmpty = true then 0 else 4) (p.main.kids.map dN)], [.str s]] 0 [] hl rfl hF
 simp only [sl] at hI
 refine fn_X rfl Try.func48 rfl (by simp only [plain, List.all_cons, List.all_nil, dG_under 0 p, Bool.and_true, Bool.true_and]; rfl) (rfl) (rfl) (rfl) ?_
 simp only [zmc, zmn, D.strip, dG_strip]
 simp only [enterSt, Try.ntmps48, zlc, zln, Nat.reduceAdd, Nat.reduceSub, zr1, zr0, zca, zna]
 refine X_seq ?_
 refine X_rc fun R hR => ?_
 simp only [inr_i64, Int.reduceLE, Int.reduceNeg, aops, astep, awant, aeff, aop, ev, ofValue, St.put, gd_str, cl_str, gd_agg, cl_agg, zg1, zg0, zgd, zmo, if_true, zs1, zs0, zlc, zln, zca, zna, Nat.zero_add, and_self, sl, dG]
 with_reducible refine hR _ ?_
 clear hR R
 show X _ _ _ _
 refine X_seq ?_
 refine X_rc fun R hR => ?_
 simp only [EVP, aops, astep, awant, aeff, aop, mkD, ev, St.put, ia_slice, gd_ptr, ia_ptr, zmc, zmn, zg1, zg0, zgd, zmo, if_true, zs1, zs0, zlc, zln, zd1, zd0, zt1, zt0, zca, zna, Nat.reduceAdd, Nat.reduceLeDiff, Nat.zero_add, Bool.and_true, Bool.not_false, zft, if_false, and_self, reduceCtorEq, List.all_cons, List.all_nil, Array.isEmpty_empty, ty_s_api_Proc, ty_api_Program, any59, hI]
 with_reducible refine hR _ ?_
 clear hR R
 show X _ _ _ _
 refine X_ret ?_
 show resD _ _ _ = some _
 simp only [resD, resAll, resOne, resTup, Try.results48, EVP, zg1, zg0, D.good, if_true, zmo]
mutual
/-- the names that a tree calls, in pre-order -/
def cnT : Tr → List ByteArray
 | .mk k _ s c => (if k = 50 ∨ k = 51 then [s] else []) ++ cnL c
def cnL : List Tr → List ByteArray
 | [] => []
 | t :: r => cnT t ++ cnL r
end
mutual
theorem cnT_len : ∀ t : Tr, (cnT t).length ≤ t.size
 | .mk k n s c => by
  have := cnL_len c
  have h2 : (if k = 50 ∨ k = 51 then [s] else []).length ≤ 1 := by split <;> simp
  simp only [cnT, zla, Tr.size]; omega
theorem cnL_len : ∀ c : List Tr, (cnL c).length ≤ Tr.sizes c
 | [] => Nat.le_refl _
 | t :: r => by
  have h1 := cnT_len t
  have h2 := cnL_len r
  simp only [cnL, zla, Tr.sizes]; omega
end
theorem cnT_eq (t : Tr) : cnT t = (if t.kind = 50 ∨ t.kind = 51 then [t.name] else []) ++ cnL t.kids := by cases t; rw [cnT]; rfl
theorem cnL_step {c : List Tr} {i : Nat} (h : i < c.length) : cnL (c.drop i) = cnT c[i] ++ cnL (c.drop (i + 1)) := by
 rw [List.drop_eq_getElem_cons h]; simp only [cnL]
theorem sizes_kids (t : Tr) : t.size = 1 + Tr.sizes t.kids := by cases t; simp only [Tr.size, Tr.kids]; omega
set_option maxRecDepth 100000 in
set_option maxHeartbeats 4000000 in
theorem rnames_step (t : Tr) (_hsz : t.size ≤ 1000000) (hl : Tr.sizes t.kids + 1 ≤ 1000000) (hll : t.kids.length ≤ 1000000) (hg : ∀ x ∈ t.kids, fn EV 51 [dN x] = some (sl 1 ((cnT x).map dS))) : fn EV 51 [dN t] = some (sl 1 ((cnT t).map dS)) := by
 refine fn_Xs rfl Try.func51 rfl (by simp only [plain, List.all_cons, List.all_nil, dN_under, dN_good, Bool.and_true]) (rfl) ?_
 simp only [zmc, zmn, dN_strip]
 simp only [enterSt, Try.ntmps51, zlc, zln, Nat.reduceAdd, Nat.reduceSub, zr1, zr0, zca, zna]
 refine X_seq ?_
 refine X_rg fun R hR => ?_
 simp only [aops, astep, awant, aeff, aop, ev, ofValue, St.put, zg0, zgd, zmo, if_true, zs1, zs0, zln, zna, dN_cells, dN_good, sl]
 with_reducible refine hR _ ?_
 clear hR R
 show X _ _ _ _
 refine X_seq ?_
 refine X_rg fun R hR => ?_
 simp only [aops, astep, awant, aeff, aop, ev, ofValue, St.put, zgd, zmo, if_true, zs1, zs0]
 with_reducible refine hR _ ?_
 clear hR R
 show X _ _ _ _
 refine X_seq ?_
 refine X_seq ?_
 refine X_y ?_
 refine Y_k 4 fun R hR => ?_
 simp only [EVP, inr_u8, Int.reduceLE, aops, astep, awant, aeff, aop, abin, aint, mkD, ev, ofValue, St.put, ia_int, zg1, zg0, zgd, zmo, if_true, zs1, zs0, zlc, zln, zd0, zt1, zt0, Nat.reduceAdd, Nat.reduceLeDiff, Nat.zero_add, Nat.add_zero, zft, if_false, and_self, reduceCtorEq, ty_uint8, ty_api_Node]
 with_reducible refine hR _ ?_
 clear hR R
 simp only [zd1, zd0]
 refine Y_if 8 (by simp only [ev, zg1, zg0, zgd]; exact rfl) ?_ ?_
 ·intro b1
  have c1 := b1
  try simp only [beq_iff_eq] at c1
  refine Y_end fun R hR => ?_
  simp only [EVP, inr_u8, Int.reduceLE, aops, astep, awant, aeff, aop, abin, ev, ofValue, St.put, zg1, zg0, zgd, zmo, Option.map_none, zbs, if_true, zs1, zs0, Nat.add_zero, zft, if_false, and_self, reduceCtorEq, bq_tf, ty_uint8, ty_api_Node, b1]
  with_reducible refine hR _ ?_
  clear hR R
  show X _ _ _ _
  refine X_true (by simp only [ev, zg1, zg0, zgd]) ?_
  have hap := fun fr bx => ((Acc.nil 9 1 []).more 0).app (P := Try.prog) (σ := ⟨fr, bx, 1, [0]⟩) (t := 28) (o2 := .own 0 9) (l2 := [.str t.name]) und_string inf_string_eq inf_string_size (by omega) (by rw [inf_string_bytes]; omega) inf_string_zc (by simp) (by simp)
  refine X_rg fun R hR => ?_
  simp only [EVP, aops, astep, awant, aeff, aop, mkD, abuild, ev, ofValue, St.put, gd_str, ia_str, cl_str, zmc, zmn, zg1, zg0, zgd, zmo, if_true, zs1, zs0, zlc, zln, zd1, zd0, zt1, zt0, zna, Nat.reduceAdd, Nat.reduceLeDiff, Nat.reduceLT, Nat.zero_add, Bool.and_true, zft, if_false, and_self, reduceCtorEq, List.all_cons, List.all_nil, beq_self_eq_true, Nat.reduceMul, rng_1, ty_string, ty_api_Node, und_string, inf_string_eq, inf_string_size, inf_string_zero, hap]
  with_reducible refine hR _ ?_
  clear hR R
  show X _ _ _ _
  refine X_seq ?_
  refine X_seq ?_
  refine X_rg fun R hR => ?_
  simp only [inr_i64, Int.reduceLE, Int.reduceNeg, aops, astep, awant, aeff, aop, ev, ofValue, St.put, zgd, zmo, if_true, zs1, zs0, and_self]
  with_reducible refine hR _ ?_
  clear hR R
  show X _ _ _ _
  refine X_block ?_
  refine X_loop (fun m σ => ∃ (i : Nat) (A : List ByteArray) (o : Own) (n : Nat) (nx : Nat) (lv : List Nat) (r : List (List D)), σ = ⟨[slotOf σ 0, .ptr 0 0, slotOf σ 2, .slice o n (A.map dS), .int .i64 i, slotOf σ 5, slotOf σ 6, slotOf σ 7, slotOf σ 8, slotOf σ 9, slotOf σ 10, slotOf σ 11, slotOf σ 12, slotOf σ 13, slotOf σ 14, slotOf σ 15, slotOf σ 16, slotOf σ 17, slotOf σ 18, slotOf σ 19, slotOf σ 20, slotOf σ 21, slotOf σ 22, slotOf σ 23, slotOf σ 24, slotOf σ 25, slotOf σ 26, slotOf σ 27, slotOf σ 28, slotOf σ 29, slotOf σ 30, slotOf σ 31, slotOf σ 32, slotOf σ 33], [.int .u8 t.kind, .int .i64 t.num, .str t.name, .slice .imm (if (t.kids.map dN).isEmpty = true then 0 else 4) (t.kids.map dN)] :: r, nx, lv⟩ ∧ m = t.kids.length - i ∧ i ≤ t.kids.length ∧ Hid (Acc 9 1 o n (A.map dS) lv) ∧ A.length ≤ 1 + Tr.sizes (t.kids.take i) ∧ Hid (cnT t = A ++ cnL (t.kids.drop i))) ?_ (t.kids.length) _ ?_
  rotate_left
  ·have hu : (t.kind = 50 ∨ t.kind = 51) = True := by first | (simp []; done) | (simp_all; done)
   exact ⟨0, [t.name], _, _, _, _, [], rfl, rfl, Nat.zero_le _, Lib.hid (.own (by simp)), by simp, Lib.hid (by rw [cnT_eq, if_pos (of_eq_true hu)]; rfl)⟩
  rintro m σ ⟨i, A, o, n, nx, lv, r, hσ, rfl, hi, ha, hA, hf⟩
  generalize slotOf σ = x at hσ
  subst hσ
  refine X_seq ?_
  refine X_seq ?_
  refine X_rg fun R hR => ?_
  simp only [EVP, nat_lt, aops, astep, awant, aeff, aop, abin, aint, mkD, ev, St.put, ia_slice, zg1, zg0, zgd, zmo, if_true, zs1, zs0, zlm, zlc, zln, zd1, zd0, zt1, zt0, Nat.reduceAdd, Nat.reduceLeDiff, Nat.zero_add, zft, if_false, reduceCtorEq, ty_s_api_Node, ty_api_Node, und_api_Node]
  with_reducible refine hR _ ?_
  clear hR R
  show X _ _ _ _
  refine X_ite (by simp only [ev, zg1, zg0, zgd]; exact rfl) ?_ ?_
  ·intro b2
   have c2 := b2
   try simp only [decide_eq_true_eq] at c2
   refine X_skip ?_
   show X _ _ _ _
   refine X_seq ?_
   refine X_block ?_
   have hlt : i < t.kids.length := by first | assumption | omega | simp_all
   have hn1 := idx_n (f := dN) (n := 4) hlt
   have e1 : (t.kids.map dN)[i]? = some (dN t.kids[i]) := by simp [hlt]
   have hg1 := hg t.kids[i] (List.getElem_mem hlt)
   simp only [sl] at hg1
   have hls := cnT_len t.kids[i]
   have hts := Tr.sizes_take t.kids i hlt
   have htl := Tr.sizes_take_le t.kids (i + 1)
   obtain ⟨o1, n1, nx1, lv1, ha1, hap1⟩ := ha.out.appN (P := Try.prog) (t := 28) und_string inf_string_eq inf_string_size (by omega) (by rw [inf_string_bytes]; omega) inf_string_zc nx (if ((cnT t.kids[i]).map dS).isEmpty = true then 0 else 1) ((cnT t.kids[i]).map dS) (by simp; omega) (fun h => sl_n (j := 0) (List.length_pos_iff.2 h))
   refine X_rg fun R hR => ?_
   simp only [EVP, nat_lt, nat_0, nat_to, aops, astep, awant, aeff, aop, mkD, ev, St.put, pcall, ia_slice, zmc, zmn, zg1, zg0, zgd, zmo, if_true, zs1, zs0, zlm, zlc, zln, zd1, zd0, zt1, zt0, zca, zna, Nat.reduceAdd, Nat.reduceLeDiff, Nat.zero_add, zft, if_false, and_self, reduceCtorEq, decide_true, zis, ty_s_api_Node, ty_api_Node, und_api_Node, siz_api_Node, inf_api_Node_eq, any51, dN_cells, dN_isAgg, sl, hlt, hn1, e1, hg1, hap1]
   with_reducible refine hR _ ?_
   clear hR R
   show X _ _ _ _
   have hbig : i < 9223372036854775807 := by omega
   refine X_rg fun R hR => ?_
   simp only [inr_i64, Int.reduceLE, Int.reduceNeg, aops, astep, awant, aeff, aop, abin, aint, ev, ofValue, St.put, zg1, zg0, zgd, zmo, if_true, zs1, zs0, and_self, nat_succ hbig]
   with_reducible refine hR _ ?_
   clear hR R
   show ∃ m, m < _ ∧ _
   exact ⟨t.kids.length - (i + 1), by omega, i + 1, A ++ cnT t.kids[i], o1, n1, nx1, lv1, _, by rw [List.map_append]; rfl, rfl, by omega, Lib.hid (by rw [List.map_append]; exact ha1), by rw [zla]; omega, Lib.hid (by rw [hf.out, cnL_step hlt, zaa])⟩
  ·intro b3
   have c3 := b3
   try simp only [decide_eq_false_iff_not] at c3
   refine X_exit ?_
   show X _ _ _ _
   refine X_seq ?_
   refine X_rg fun R hR => ?_
   simp only [aops, astep, awant, aeff, aop, ev, St.put, zg1, zg0, zgd, zmo, if_true, zs1, zs0, b3]
   with_reducible refine hR _ ?_
   clear hR R
   show X _ _ _ _
   refine X_ret ?_
   show ∃ d, resD _ _ _ = some d ∧ _ ∧ _
   have hU : cnT t = A := by rw [hf.out, List.drop_of_length_le (by omega)]; simp only [cnL, List.append_nil]
   refine ⟨_, by simp only [resD, resAll, resOne, resTup, Try.results51, EVP, zg1, zg0, D.good, if_true, zmo] <;> exact rfl, ?_, ?_⟩
   ·simp only [D.under, D.unders_all, List.all_eq_true]; intro d hd; obtain ⟨x, _, rfl⟩ := List.mem_map.1 hd; rfl
   ·rw [hU, ha.out.strip, List.map_map, show (D.strip ∘ dS) = dS from rfl]; rfl
 ·intro b4
  have c4 := b4
  try simp only [ne_eq, beq_eq_false_iff_ne] at c4
  refine Y_end fun R hR => ?_
  simp only [EVP, inr_u8, Int.reduceLE, aops, astep, awant, aeff, aop, abin, aint, mkD, ev, ofValue, St.put, ia_int, zg1, zg0, zgd, zmo, zbs, if_true, zs1, zs0, zlc, zln, zd0, zt1, zt0, Nat.reduceAdd, Nat.reduceLeDiff, Nat.zero_add, Nat.add_zero, zft, if_false, and_self, reduceCtorEq, beq_self_eq_true, ty_uint8, ty_api_Node, b4]
  with_reducible refine hR _ ?_
  clear hR R
  show X _ _ _ _
  refine X_ite (by simp only [ev, zg1, zg0, zgd]; exact rfl) ?_ ?_
  ·intro b5
   have c5 := b5
   try simp only [beq_iff_eq] at c5
   have hap := fun fr bx => ((Acc.nil 9 1 []).more 0).app (P := Try.prog) (σ := ⟨fr, bx, 1, [0]⟩) (t := 28) (o2 := .own 0 9) (l2 := [.str t.name]) und_string inf_string_eq inf_string_size (by omega) (by rw [inf_string_bytes]; omega) inf_string_zc (by simp) (by simp)
   refine X_rg fun R hR => ?_
   simp only [EVP, aops, astep, awant, aeff, aop, mkD, abuild, ev, ofValue, St.put, gd_str, ia_str, cl_str, zmc, zmn, zg1, zg0, zgd, zmo, if_true, zs1, zs0, zlc, zln, zd1, zd0, zt1, zt0, zna, Nat.reduceAdd, Nat.reduceLeDiff, Nat.reduceLT, Nat.zero_add, Bool.and_true, zft, if_false, and_self, reduceCtorEq, List.all_cons, List.all_nil, beq_self_eq_true, Nat.reduceMul, rng_1, ty_string, ty_api_Node, und_string, inf_string_eq, inf_string_size, inf_string_zero, b5, hap]
   with_reducible refine hR _ ?_
   clear hR R
   show X _ _ _ _
   refine X_seq ?_
   refine X_seq ?_
   refine X_rg fun R hR => ?_
   simp only [inr_i64, Int.reduceLE, Int.reduceNeg, aops, astep, awant, aeff, aop, ev, ofValue, St.put, zgd, zmo, if_true, zs1, zs0, and_self]
   with_reducible refine hR _ ?_
   clear hR R
   show X _ _ _ _
   refine X_block ?_
   refine X_loop (fun m σ => ∃ (i : Nat) (A : List ByteArray) (o : Own) (n : Nat) (nx : Nat) (lv : List Nat) (r : List (List D)), σ = ⟨[slotOf σ 0, .ptr 0 0, slotOf σ 2, .slice o n (A.map dS), .int .i64 i, slotOf σ 5, slotOf σ 6, slotOf σ 7, slotOf σ 8, slotOf σ 9, slotOf σ 10, slotOf σ 11, slotOf σ 12, slotOf σ 13, slotOf σ 14, slotOf σ 15, slotOf σ 16, slotOf σ 17, slotOf σ 18, slotOf σ 19, slotOf σ 20, slotOf σ 21, slotOf σ 22, slotOf σ 23, slotOf σ 24, slotOf σ 25, slotOf σ 26, slotOf σ 27, slotOf σ 28, slotOf σ 29, slotOf σ 30, slotOf σ 31, slotOf σ 32, slotOf σ 33], [.int .u8 t.kind, .int .i64 t.num, .str t.name, .slice .imm (if (t.kids.map dN).isEmpty = true then 0 else 4) (t.kids.map dN)] :: r, nx, lv⟩ ∧ m = t.kids.length - i ∧ i ≤ t.kids.length ∧ Hid (Acc 9 1 o n (A.map dS) lv) ∧ A.length ≤ 1 + Tr.sizes (t.kids.take i) ∧ Hid (cnT t = A ++ cnL (t.kids.drop i))) ?_ (t.kids.length) _ ?_
   rotate_left
   ·have hu : (t.kind = 50 ∨ t.kind = 51) = True := by first | (simp []; done) | (simp_all; done)
    exact ⟨0, [t.name], _, _, _, _, [], rfl, rfl, Nat.zero_le _, Lib.hid (.own (by simp)), by simp, Lib.hid (by rw [cnT_eq, if_pos (of_eq_true hu)]; rfl)⟩
   rintro m σ ⟨i, A, o, n, nx, lv, r, hσ, rfl, hi, ha, hA, hf⟩
   generalize slotOf σ = x at hσ
   subst hσ
   refine X_seq ?_
   refine X_seq ?_
   refine X_rg fun R hR => ?_
   simp only [EVP, nat_lt, aops, astep, awant, aeff, aop, abin, aint, mkD, ev, St.put, ia_slice, zg1, zg0, zgd, zmo, if_true, zs1, zs0, zlm, zlc, zln, zd1, zd0, zt1, zt0, Nat.reduceAdd, Nat.reduceLeDiff, Nat.zero_add, zft, if_false, reduceCtorEq, ty_s_api_Node, ty_api_Node, und_api_Node]
   with_reducible refine hR _ ?_
   clear hR R
   show X _ _ _ _
   refine X_ite (by simp only [ev, zg1, zg0, zgd]; exact rfl) ?_ ?_
   ·intro b6
    have c6 := b6
    try simp only [decide_eq_true_eq] at c6
    refine X_skip ?_
    show X _ _ _ _
    refine X_seq ?_
    refine X_block ?_
    have hlt : i < t.kids.length := by first | assumption | omega | simp_all
    have hn1 := idx_n (f := dN) (n := 4) hlt
    have e1 : (t.kids.map dN)[i]? = some (dN t.kids[i]) := by simp [hlt]
    have hg1 := hg t.kids[i] (List.getElem_mem hlt)
    simp only [sl] at hg1
    have hls := cnT_len t.kids[i]
    have hts := Tr.sizes_take t.kids i hlt
    have htl := Tr.sizes_take_le t.kids (i + 1)
    obtain ⟨o1, n1, nx1, lv1, ha1, hap1⟩ := ha.out.appN (P := Try.prog) (t := 28) und_string inf_string_eq inf_string_size (by omega) (by rw [inf_string_bytes]; omega) inf_string_zc nx (if ((cnT t.kids[i]).map dS).isEmpty = true then 0 else 1) ((cnT t.kids[i]).map dS) (by simp; omega) (fun h => sl_n (j := 0) (List.length_pos_iff.2 h))
    refine X_rg fun R hR => ?_
    simp only [EVP, nat_lt, nat_0, nat_to, aops, astep, awant, aeff, aop, mkD, ev, St.put, pcall, ia_slice, zmc, zmn, zg1, zg0, zgd, zmo, if_true, zs1, zs0, zlm, zlc, zln, zd1, zd0, zt1, zt0, zca, zna, Nat.reduceAdd, Nat.reduceLeDiff, Nat.zero_add, zft, if_false, and_self, reduceCtorEq, decide_true, zis, ty_s_api_Node, ty_api_Node, und_api_Node, siz_api_Node, inf_api_Node_eq, any51, dN_cells, dN_isAgg, sl, hlt, hn1, e1, hg1, hap1]
    with_reducible refine hR _ ?_
    clear hR R
    show X _ _ _ _
    have hbig : i < 9223372036854775807 := by omega
    refine X_rg fun R hR => ?_
    simp only [inr_i64, Int.reduceLE, Int.reduceNeg, aops, astep, awant, aeff, aop, abin, aint, ev, ofValue, St.put, zg1, zg0, zgd, zmo, if_true, zs1, zs0, and_self, nat_succ hbig]
    with_reducible refine hR _ ?_
    clear hR R
    show ∃ m, m < _ ∧ _
    exact ⟨t.kids.length - (i + 1), by omega, i + 1, A ++ cnT t.kids[i], o1, n1, nx1, lv1, _, by rw [List.map_append]; rfl, rfl, by omega, Lib.hid (by rw [List.map_append]; exact ha1), by rw [zla]; omega, Lib.hid (by rw [hf.out, cnL_step hlt, zaa])⟩
   ·intro b7
    have c7 := b7
    try simp only [decide_eq_false_iff_not] at c7
    refine X_exit ?_
    show X _ _ _ _
    refine X_seq ?_
    refine X_rg fun R hR => ?_
    simp only [aops, astep, awant, aeff, aop, ev, St.put, zg1, zg0, zgd, zmo, if_true, zs1, zs0, b7]
    with_reducible refine hR _ ?_
    clear hR R
    show X _ _ _ _
    refine X_ret ?_
    show ∃ d, resD _ _ _ = some d ∧ _ ∧ _
    have hU : cnT t = A := by rw [hf.out, List.drop_of_length_le (by omega)]; simp only [cnL, List.append_nil]
    refine ⟨_, by simp only [resD, resAll, resOne, resTup, Try.results51, EVP, zg1, zg0, D.good, if_true, zmo] <;> exact rfl, ?_, ?_⟩
    ·simp only [D.under, D.unders_all, List.all_eq_true]; intro d hd; obtain ⟨x, _, rfl⟩ := List.mem_map.1 hd; rfl
    ·rw [hU, ha.out.strip, List.map_map, show (D.strip ∘ dS) = dS from rfl]; rfl
  ·intro b8
   have c8 := b8
   try simp only [ne_eq, beq_eq_false_iff_ne] at c8
   refine X_skip ?_
   show X _ _ _ _
   refine X_seq ?_
   refine X_seq ?_
   refine X_rg fun R hR => ?_
   simp only [inr_i64, Int.reduceLE, Int.reduceNeg, aops, astep, awant, aeff, aop, ev, ofValue, St.put, zgd, zmo, if_true, zs1, zs0, and_self, b8]
   with_reducible refine hR _ ?_
   clear hR R
   show X _ _ _ _
   refine X_block ?_
   refine X_loop (fun m σ => ∃ (i : Nat) (A : List ByteArray) (o : Own) (n : Nat) (nx : Nat) (lv : List Nat) (r : List (List D)), σ = ⟨[slotOf σ 0, .ptr 0 0, slotOf σ 2, .slice o n (A.map dS), .int .i64 i, slotOf σ 5, slotOf σ 6, slotOf σ 7, slotOf σ 8, slotOf σ 9, slotOf σ 10, slotOf σ 11, slotOf σ 12, slotOf σ 13, slotOf σ 14, slotOf σ 15, slotOf σ 16, slotOf σ 17, slotOf σ 18, slotOf σ 19, slotOf σ 20, slotOf σ 21, slotOf σ 22, slotOf σ 23, slotOf σ 24, slotOf σ 25, slotOf σ 26, slotOf σ 27, slotOf σ 28, slotOf σ 29, slotOf σ 30, slotOf σ 31, slotOf σ 32, slotOf σ 33], [.int .u8 t.kind, .int .i64 t.num, .str t.name, .slice .imm (if (t.kids.map dN).isEmpty = true then 0 else 4) (t.kids.map dN)] :: r, nx, lv⟩ ∧ m = t.kids.length - i ∧ i ≤ t.kids.length ∧ Hid (Acc 9 1 o n (A.map dS) lv) ∧ A.length ≤ 1 + Tr.sizes (t.kids.take i) ∧ Hid (cnT t = A ++ cnL (t.kids.drop i))) ?_ (t.kids.length) _ ?_
   rotate_left
   ·have hu : (t.kind = 50 ∨ t.kind = 51) = False := by first | (simp []; done) | (simp_all; done)
    exact ⟨0, [], _, _, _, _, [], rfl, rfl, Nat.zero_le _, Lib.hid (.nil _ _ _), by simp, Lib.hid (by rw [cnT_eq, if_neg (of_eq_false hu)]; rfl)⟩
   rintro m σ ⟨i, A, o, n, nx, lv, r, hσ, rfl, hi, ha, hA, hf⟩
   generalize slotOf σ = x at hσ
   subst hσ
   refine X_seq ?_
   refine X_seq ?_
   refine X_rg fun R hR => ?_
   simp only [EVP, nat_lt, aops, astep, awant, aeff, aop, abin, aint, mkD, ev, St.put, ia_slice, zg1, zg0, zgd, zmo, if_true, zs1, zs0, zlm, zlc, zln, zd1, zd0, zt1, zt0, Nat.reduceAdd, Nat.reduceLeDiff, Nat.zero_add, zft, if_false, reduceCtorEq, ty_s_api_Node, ty_api_Node, und_api_Node]
   with_reducible refine hR _ ?_
   clear hR R
   show X _ _ _ _
   refine X_ite (by simp only [ev, zg1, zg0, zgd]; exact rfl) ?_ ?_
   ·intro b9
    have c9 := b9
    try simp only [decide_eq_true_eq] at c9
    refine X_skip ?_
    show X _ _ _ _
    refine X_seq ?_
    refine X_block ?_
    have hlt : i < t.kids.length := by first | assumption | omega | simp_all
    have hn1 := idx_n (f := dN) (n := 4) hlt
    have e1 : (t.kids.map dN)[i]? = some (dN t.kids[i]) := by simp [hlt]
    have hg1 := hg t.kids[i] (List.getElem_mem hlt)
    simp only [sl] at hg1
    have hls := cnT_len t.kids[i]
    have hts := Tr.sizes_take t.kids i hlt
    have htl := Tr.sizes_take_le t.kids (i + 1)
    obtain ⟨o1, n1, nx1, lv1, ha1, hap1⟩ := ha.out.appN (P := Try.prog) (t := 28) und_string inf_string_eq inf_string_size (by omega) (by rw [inf_string_bytes]; omega) inf_string_zc nx (if ((cnT t.kids[i]).map dS).isEmpty = true then 0 else 1) ((cnT t.kids[i]).map dS) (by simp; omega) (fun h => sl_n (j := 0) (List.length_pos_iff.2 h))
    refine X_rg fun R hR => ?_
    simp only [EVP, nat_lt, nat_0, nat_to, aops, astep, awant, aeff, aop, mkD, ev, St.put, pcall, ia_slice, zmc, zmn, zg1, zg0, zgd, zmo, if_true, zs1, zs0, zlm, zlc, zln, zd1, zd0, zt1, zt0, zca, zna, Nat.reduceAdd, Nat.reduceLeDiff, Nat.zero_add, zft, if_false, and_self, reduceCtorEq, decide_true, zis, ty_s_api_Node, ty_api_Node, und_api_Node, siz_api_Node, inf_api_Node_eq, any51, dN_cells, dN_isAgg, sl, hlt, hn1, e1, hg1, hap1]
    with_reducible refine hR _ ?_
    clear hR R
    show X _ _ _ _
    have hbig : i < 9223372036854775807 := by omega
    refine X_rg fun R hR => ?_
    simp only [inr_i64, Int.reduceLE, Int.reduceNeg, aops, astep, awant, aeff, aop, abin, aint, ev, ofValue, St.put, zg1, zg0, zgd, zmo, if_true, zs1, zs0, and_self, nat_succ hbig]
    with_reducible refine hR _ ?_
    clear hR R
    show ∃ m, m < _ ∧ _
    exact ⟨t.kids.length - (i + 1), by omega, i + 1, A ++ cnT t.kids[i], o1, n1, nx1, lv1, _, by rw [List.map_append]; rfl, rfl, by omega, Lib.hid (by rw [List.map_append]; exact ha1), by rw [zla]; omega, Lib.hid (by rw [hf.out, cnL_step hlt, zaa])⟩
   ·intro b10
    have c10 := b10
    try simp only [decide_eq_false_iff_not] at c10
    refine X_exit ?_
    show X _ _ _ _
    refine X_seq ?_
    refine X_rg fun R hR => ?_
    simp only [aops, astep, awant, aeff, aop, ev, St.put, zg1, zg0, zgd, zmo, if_true, zs1, zs0, b10]
    with_reducible refine hR _ ?_
    clear hR R
    show X _ _ _ _
    refine X_ret ?_
    show ∃ d, resD _ _ _ = some d ∧ _ ∧ _
    have hU : cnT t = A := by rw [hf.out, List.drop_of_length_le (by omega)]; simp only [cnL, List.append_nil]
    refine ⟨_, by simp only [resD, resAll, resOne, resTup, Try.results51, EVP, zg1, zg0, D.good, if_true, zmo] <;> exact rfl, ?_, ?_⟩
    ·simp only [D.under, D.unders_all, List.all_eq_true]; intro d hd; obtain ⟨x, _, rfl⟩ := List.mem_map.1 hd; rfl
    ·rw [hU, ha.out.strip, List.map_map, show (D.strip ∘ dS) = dS from rfl]; rfl
theorem rnames_fn (t : Tr) : t.size ≤ 1000000 → fn EV 51 [dN t] = some (sl 1 ((cnT t).map dS)) := by
 induction t using Tr.ind with
 | h k n s c ih =>
  intro hs
  have h1 := Tr.length_le_sizes c
  have h0 := hs
  simp only [Tr.size] at hs
  exact rnames_step (.mk k n s c) h0 (by simp only [Tr.kids]; omega) (by simp only [Tr.kids]; omega) (fun x hx => ih x hx (by simp only [Tr.kids] at hx; have := Tr.size_le_of_mem hx; omega))
/-- the first procedure with its name -/
def firstB (p : Pg) (s : ByteArray) (i : Nat) : Bool := (p.procs.take i).all fun q => !(q.name.toList == s.toList)
def calledB (l : List ByteArray) (s : ByteArray) (i : Nat) : Bool := (l.take i).any fun x => x.toList == s.toList
def pickB (p : Pg) (l : List ByteArray) (i : Nat) : Bool := match p.procs[i]? with
 | some q => firstB p q.name i && calledB l q.name l.length
 | none => false
def pickI (p : Pg) (l : List ByteArray) (i : Nat) : List Int := ((List.range i).filter (pickB p l)).map fun (j : Nat) => (j : Int)
theorem pickI_len (p : Pg) (l : List ByteArray) (i : Nat) : (pickI p l i).length ≤ i := by
 unfold pickI
 rw [zlm]
 have := List.length_filter_le (pickB p l) (List.range i)
 simpa using this
theorem firstB_step {p : Pg} {s : ByteArray} {i : Nat} (h : i < p.procs.length) : firstB p s (i + 1) = (firstB p s i && !(p.procs[i].name.toList == s.toList)) := by
 unfold firstB
 rw [List.take_succ_eq_append_getElem h, List.all_append]; simp
theorem calledB_step {l : List ByteArray} {s : ByteArray} {i : Nat} (h : i < l.length) : calledB l s (i + 1) = (calledB l s i || (l[i].toList == s.toList)) := by
 unfold calledB
 rw [List.take_succ_eq_append_getElem h, List.any_append]; simp
theorem pickI_step {p : Pg} {l : List ByteArray} {i : Nat} (h : i < p.procs.length) : pickI p l (i + 1) = if (firstB p p.procs[i].name i && calledB l p.procs[i].name l.length) = true then pickI p l i ++ [(i : Int)] else pickI p l i := by
 unfold pickI
 rw [List.range_succ, List.filter_append, List.map_append]
 have : pickB p l i = (firstB p p.procs[i].name i && calledB l p.procs[i].name l.length) := by unfold pickB; rw [List.getElem?_eq_getElem h]
 split
 ·rename_i hq; simp [this, hq]
 ·rename_i hq; simp [this, hq]
/-- the body of a procedure, or of main -/
def bodyAt (p : Pg) (proc : Int) : Option Tr := if proc = -1 then some p.main else if proc < 0 then none else (p.procs[proc.toNat]?).map (·.body)
def rclF (p : Pg) (proc : Int) : List Int := match bodyAt p proc with
 | some t => pickI p (cnT t) p.procs.length
 | none => []
theorem bodyAt_main (p : Pg) : bodyAt p (-1) = some p.main := rfl
theorem bodyAt_proc (p : Pg) (k : Nat) (h : k < p.procs.length) : bodyAt p (k : Int) = some p.procs[k].body := by
 unfold bodyAt
 rw [if_neg (by omega), if_neg (by omega), Int.toNat_natCast, List.getElem?_eq_getElem h]; rfl
theorem bodyAt_bad (p : Pg) (proc : Int) (h : proc < -1 ∨ (p.procs.length : Int) ≤ proc) : bodyAt p proc = none := by
 unfold bodyAt
 rw [if_neg (by omega)]
 split
 ·rfl
 ·rw [List.getElem?_eq_none (by omega)]; rfl
/-- within the bounds of the contracts -/
structure Sml (p : Pg) : Prop where
 n : p.procs.length ≤ 1000
 m : p.main.size ≤ 1000
 b : ∀ f ∈ p.procs, f.body.size ≤ 1000
theorem Sml.at {p : Pg} (h : Sml p) {proc : Int} {t : Tr} (ht : bodyAt p proc = some t) : t.size ≤ 1000 := by
 unfold bodyAt at ht
 split at ht
 ·cases ht; exact h.m
 ·split at ht
  ·cases ht
  ·rw [Option.map_eq_some_iff] at ht
   obtain ⟨f, h1, rfl⟩ := ht
   exact h.b f (List.mem_of_getElem? h1)
set_option maxRecDepth 100000 in
set_option maxHeartbeats 4000000 in
theorem rcalls_b1 (p : Pg) (_hs : Sml p) (q : Int) (hq : q < -1) : fn EV 26 [dG p, .int .i64 q] = some (sl 1 []) := by
 refine fn_Xs rfl Try.func26 rfl (by simp only [plain, List.all_cons, List.all_nil, dG_pl, int_pl, Bool.and_true]) (rfl) ?_
 simp only [zmc, zmn, D.strip, dG_strip]
 simp only [enterSt, Try.ntmps26, zlc, zln, Nat.reduceAdd, Nat.reduceSub, zr1, zr0, zca, zna]
 refine X_seq ?_
 refine X_rg fun R hR => ?_
 simp only [aops, astep, awant, aeff, aop, ev, ofValue, St.put, zg0, zgd, zmo, if_true, zs1, zs0, zln, zna, dG_cells, dG_good]
 with_reducible refine hR _ ?_
 clear hR R
 show X _ _ _ _
 refine X_seq ?_
 refine X_seq ?_
 have h1 : (decide (q < -1)) = true := by simpa using hq
 refine X_rg fun R hR => ?_
 simp only [EVP, inr_i64, Int.reduceLE, Int.reduceNeg, aops, astep, awant, aeff, aop, abin, aint, ev, ofValue, St.put, zg1, zg0, zgd, zmo, Option.map_none, zbs, if_true, zs1, zs0, Nat.zero_add, zft, if_false, and_self, reduceCtorEq, bq_tf, ty_s_api_Proc, ty_api_Program, und_api_Proc, h1]
 with_reducible refine hR _ ?_
 clear hR R
 show X _ _ _ _
 refine X_true (by simp only [ev, zg1, zg0, zgd]) ?_
 refine X_seq ?_
 refine X_rg fun R hR => ?_
 simp only [aops, astep, awant, aeff, aop, ev, ofValue, St.put, zgd, zmo, if_true, zs1, zs0]
 with_reducible refine hR _ ?_
 clear hR R
 show X _ _ _ _
 refine X_ret ?_
 show ∃ d, resD _ _ _ = some d ∧ _ ∧ _
 refine ⟨_, by simp only [resD, resAll, resOne, resTup, Try.results26, EVP, zg1, zg0, D.good, if_true, zmo] <;> exact rfl, rfl, rfl⟩
set_option maxRecDepth 100000 in
set_option maxHeartbeats 4000000 in
theorem rcalls_b2 (p : Pg) (_hs : Sml p) (q : Int) (hq0 : ¬ q < -1) (hq : (p.procs.length : Int) ≤ q) : fn EV 26 [dG p, .int .i64 q] = some (sl 1 []) := by
 refine fn_Xs rfl Try.func26 rfl (by simp only [plain, List.all_cons, List.all_nil, dG_pl, int_pl, Bool.and_true]) (rfl) ?_
 simp only [zmc, zmn, D.strip, dG_strip]
 simp only [enterSt, Try.ntmps26, zlc, zln, Nat.reduceAdd, Nat.reduceSub, zr1, zr0, zca, zna]
 refine X_seq ?_
 refine X_rg fun R hR => ?_
 simp only [aops, astep, awant, aeff, aop, ev, ofValue, St.put, zg0, zgd, zmo, if_true, zs1, zs0, zln, zna, dG_cells, dG_good]
 with_reducible refine hR _ ?_
 clear hR R
 show X _ _ _ _
 refine X_seq ?_
 refine X_seq ?_
 have h1 : (decide (q < -1)) = false := by simpa using hq0
 have h2 : (decide (q ≥ (p.procs.length : Int))) = true := by simpa using hq
 refine X_rg fun R hR => ?_
 simp only [EVP, inr_i64, Int.reduceLE, Int.reduceNeg, aops, astep, awant, aeff, aop, abin, aint, mkD, ev, ofValue, St.put, ia_slice, zg1, zg0, zgd, zmo, zbs, if_true, zs1, zs0, zlm, zlc, zln, zd1, zd0, zt1, zt0, Nat.reduceAdd, Nat.reduceLeDiff, Nat.zero_add, zft, if_false, and_self, reduceCtorEq, beq_self_eq_true, ty_s_api_Proc, ty_api_Program, und_api_Proc, h1, h2]
 with_reducible refine hR _ ?_
 clear hR R
 show X _ _ _ _
 refine X_true (by simp only [ev, zg1, zg0, zgd]) ?_
 refine X_seq ?_
 refine X_rg fun R hR => ?_
 simp only [aops, astep, awant, aeff, aop, ev, ofValue, St.put, zgd, zmo, if_true, zs1, zs0]
 with_reducible refine hR _ ?_
 clear hR R
 show X _ _ _ _
 refine X_ret ?_
 show ∃ d, resD _ _ _ = some d ∧ _ ∧ _
 refine ⟨_, by simp only [resD, resAll, resOne, resTup, Try.results26, EVP, zg1, zg0, D.good, if_true, zmo] <;> exact rfl, rfl, rfl⟩
set_option maxRecDepth 100000 in
set_option maxHeartbeats 4000000 in
theorem rcalls_m (p : Pg) (hs : Sml p)  : fn EV 26 [dG p, .int .i64 (-1)] = some (sl 1 ((pickI p (cnT p.main) p.procs.length).map dI)) := by
 refine fn_Xs rfl Try.func26 rfl (by simp only [plain, List.all_cons, List.all_nil, dG_pl, int_pl, Bool.and_true]) (rfl) ?_
 simp only [zmc, zmn, D.strip, dG_strip]
 simp only [enterSt, Try.ntmps26, zlc, zln, Nat.reduceAdd, Nat.reduceSub, zr1, zr0, zca, zna]
 refine X_seq ?_
 refine X_rg fun R hR => ?_
 simp only [Int.reduceNeg, aops, astep, awant, aeff, aop, ev, ofValue, St.put, zg0, zgd, zmo, if_true, zs1, zs0, zln, zna, dG_cells, dG_good]
 with_reducible refine hR _ ?_
 clear hR R
 show X _ _ _ _
 refine X_seq ?_
 refine X_seq ?_
 have h1 : (decide ((-1 : Int) < -1)) = false := rfl
 have h2 : (decide ((-1) ≥ (p.procs.length : Int))) = false := by first | (simp; done) | (simp; omega)
 refine X_rg fun R hR => ?_
 simp only [EVP, inr_i64, Int.reduceLE, Int.reduceNeg, aops, astep, awant, aeff, aop, abin, aint, mkD, ev, ofValue, St.put, ia_slice, zg1, zg0, zgd, zmo, zbs, if_true, zs1, zs0, zlm, zlc, zln, zd1, zd0, zt1, zt0, Nat.reduceAdd, Nat.reduceLeDiff, Nat.zero_add, zft, if_false, and_self, reduceCtorEq, decide_false, beq_self_eq_true, Int.reduceLT, ty_s_api_Proc, ty_api_Program, und_api_Proc, h2]
 with_reducible refine hR _ ?_
 clear hR R
 show X _ _ _ _
 refine X_false (by simp only [ev, zg1, zg0, zgd]) ?_
 refine X_skip ?_
 show X _ _ _ _
 refine X_seq ?_
 refine X_rg fun R hR => ?_
 simp only [EVP, Int.reduceNeg, aops, astep, awant, aeff, aop, mkD, astore, ev, St.put, zg1, zg0, zgd, zmo, zbs, if_true, zs1, zs0, zlc, zln, zd1, zd0, zt1, zt0, zca, zna, Nat.reduceAdd, Nat.reduceLeDiff, Nat.zero_add, if_false, and_self, reduceCtorEq, ty_api_Node, ty_api_Program, dN_agg, dN_cells, dN_good, sl]
 with_reducible refine hR _ ?_
 clear hR R
 show X _ _ _ _
 refine X_seq ?_
 refine X_seq ?_
 have h3 : (decide ((-1) ≥ (0 : Int))) = false := by simp
 refine X_rg fun R hR => ?_
 simp only [inr_i64, Int.reduceLE, Int.reduceNeg, aops, astep, awant, aeff, aop, abin, aint, ev, ofValue, St.put, zg1, zg0, zgd, zmo, if_true, zs1, zs0, and_self, decide_false, Int.reduceGE]
 with_reducible refine hR _ ?_
 clear hR R
 show X _ _ _ _
 refine X_false (by simp only [ev, zg1, zg0, zgd]) ?_
 refine X_skip ?_
 show X _ _ _ _
 refine X_seq ?_
 have hN := rnames_fn p.main (by have := hs.at (bodyAt_main p); omega)
 have hcl := cnT_len p.main
 have hbz := hs.at (bodyAt_main p)
 simp only [sl] at hN
 have hpn := hs.n
 refine X_rg fun R hR => ?_
 simp only [EVP, Int.reduceNeg, aops, astep, awant, aeff, aop, mkD, ev, St.put, pcall, zmc, zmn, zg1, zg0, zgd, zmo, if_true, zs1, zs0, zlc, zln, zd0, zt1, zt0, zca, zna, Nat.reduceAdd, Nat.reduceLeDiff, Nat.zero_add, ty_api_Node, any51, dN_agg, hN]
 with_reducible refine hR _ ?_
 clear hR R
 show X _ _ _ _
 refine X_seq ?_
 refine X_rg fun R hR => ?_
 simp only [Int.reduceNeg, aops, astep, awant, aeff, aop, ev, ofValue, St.put, zgd, zmo, if_true, zs1, zs0]
 with_reducible refine hR _ ?_
 clear hR R
 show X _ _ _ _
 refine X_seq ?_
 refine X_seq ?_
 refine X_rg fun R hR => ?_
 simp only [inr_i64, Int.reduceLE, Int.reduceNeg, aops, astep, awant, aeff, aop, ev, ofValue, St.put, zgd, zmo, if_true, zs1, zs0, and_self]
 with_reducible refine hR _ ?_
 clear hR R
 show X _ _ _ _
 refine X_block ?_
 refine X_loop (fun m σ => ∃ (i : Nat) (o : Own) (n : Nat) (nx : Nat) (lv : List Nat) (r : List (List D)), σ = ⟨[slotOf σ 0, .int .i64 (-1), .ptr 0 0, slotOf σ 3, slotOf σ 4, .ptr 1 0, .slice .imm (if ((cnT p.main).map dS).isEmpty = true then 0 else 1) ((cnT p.main).map dS), .slice o n ((pickI p (cnT p.main) i).map dI), .int .i64 i, slotOf σ 9, slotOf σ 10, slotOf σ 11, slotOf σ 12, slotOf σ 13, slotOf σ 14, slotOf σ 15, slotOf σ 16, slotOf σ 17, slotOf σ 18, slotOf σ 19, slotOf σ 20, slotOf σ 21, slotOf σ 22, slotOf σ 23, slotOf σ 24, slotOf σ 25, slotOf σ 26, slotOf σ 27, slotOf σ 28, slotOf σ 29, slotOf σ 30, slotOf σ 31, slotOf σ 32, slotOf σ 33, slotOf σ 34, slotOf σ 35, slotOf σ 36, slotOf σ 37, slotOf σ 38, slotOf σ 39, slotOf σ 40, slotOf σ 41, slotOf σ 42, slotOf σ 43, slotOf σ 44, slotOf σ 45, slotOf σ 46, slotOf σ 47, slotOf σ 48, slotOf σ 49, slotOf σ 50, slotOf σ 51, slotOf σ 52, slotOf σ 53, slotOf σ 54, slotOf σ 55, slotOf σ 56, slotOf σ 57, slotOf σ 58, slotOf σ 59, slotOf σ 60, slotOf σ 61, slotOf σ 62, slotOf σ 63, slotOf σ 64, slotOf σ 65, slotOf σ 66, slotOf σ 67, slotOf σ 68, slotOf σ 69, slotOf σ 70, slotOf σ 71, slotOf σ 72, slotOf σ 73, slotOf σ 74, slotOf σ 75, slotOf σ 76, slotOf σ 77, slotOf σ 78, slotOf σ 79, slotOf σ 80, slotOf σ 81, slotOf σ 82, slotOf σ 83, slotOf σ 84, slotOf σ 85, slotOf σ 86, slotOf σ 87, slotOf σ 88, slotOf σ 89, slotOf σ 90], [.slice .imm (if (p.vars.map dV).isEmpty = true then 0 else 3) (p.vars.map dV), .slice .imm (if (p.procs.map dP).isEmpty = true then 0 else 6) (p.procs.map dP), .int .u8 p.main.kind, .int .i64 p.main.num, .str p.main.name, .slice .imm (if (p.main.kids.map dN).isEmpty = true then 0 else 4) (p.main.kids.map dN)] :: [.int .u8 p.main.kind, .int .i64 p.main.num, .str p.main.name, .slice .imm (if (p.main.kids.map dN).isEmpty = true then 0 else 4) (p.main.kids.map dN)] :: r, nx, lv⟩ ∧ m = p.procs.length - i ∧ i ≤ p.procs.length ∧ Hid (Acc 3 1 o n ((pickI p (cnT p.main) i).map dI) lv)) ?_ (p.procs.length) _ ?_
 rotate_left
 ·exact ⟨0, _, _, _, _, [], rfl, rfl, Nat.zero_le _, Lib.hid (.nil _ _ _)⟩
 rintro m σ ⟨i, o, n, nx, lv, r, hσ, rfl, hi, ha⟩
 generalize slotOf σ = x at hσ
 subst hσ
 refine X_seq ?_
 refine X_seq ?_
 refine X_rg fun R hR => ?_
 simp only [EVP, Int.reduceNeg, nat_lt, aops, astep, awant, aeff, aop, abin, aint, mkD, ev, St.put, ia_slice, zg1, zg0, zgd, zmo, if_true, zs1, zs0, zlm, zlc, zln, zd1, zd0, zt1, zt0, Nat.reduceAdd, Nat.reduceLeDiff, Nat.zero_add, zft, if_false, reduceCtorEq, ty_s_api_Proc, ty_api_Program, und_api_Proc]
 with_reducible refine hR _ ?_
 clear hR R
 show X _ _ _ _
 refine X_ite (by simp only [ev, zg1, zg0, zgd]; exact rfl) ?_ ?_
 ·intro b1
  have c1 := b1
  try simp only [decide_eq_true_eq] at c1
  refine X_skip ?_
  show X _ _ _ _
  refine X_seq ?_
  refine X_block ?_
  refine X_seq ?_
  refine X_rg fun R hR => ?_
  simp only [Int.reduceNeg, aops, astep, awant, aeff, aop, ev, ofValue, St.put, zgd, zmo, if_true, zs1, zs0, b1]
  with_reducible refine hR _ ?_
  clear hR R
  show X _ _ _ _
  refine X_seq ?_
  refine X_seq ?_
  refine X_rg fun R hR => ?_
  simp only [inr_i64, Int.reduceLE, Int.reduceNeg, aops, astep, awant, aeff, aop, ev, ofValue, St.put, zgd, zmo, if_true, zs1, zs0, and_self]
  with_reducible refine hR _ ?_
  clear hR R
  show X _ _ _ _
  refine X_block ?_
  have hlt : i < p.procs.length := by first | assumption | omega | simp_all
  refine X_loop (fun m σ => ∃ (j : Nat) (r2 : List (List D)), σ = ⟨[slotOf σ 0, .int .i64 (-1), .ptr 0 0, slotOf σ 3, slotOf σ 4, .ptr 1 0, .slice .imm (if ((cnT p.main).map dS).isEmpty = true then 0 else 1) ((cnT p.main).map dS), .slice o n ((pickI p (cnT p.main) i).map dI), .int .i64 i, .bool (firstB p p.procs[i].name j), .bool false, .int .i64 j, slotOf σ 12, slotOf σ 13, slotOf σ 14, slotOf σ 15, slotOf σ 16, slotOf σ 17, slotOf σ 18, slotOf σ 19, slotOf σ 20, slotOf σ 21, slotOf σ 22, slotOf σ 23, slotOf σ 24, slotOf σ 25, slotOf σ 26, slotOf σ 27, slotOf σ 28, slotOf σ 29, slotOf σ 30, slotOf σ 31, slotOf σ 32, slotOf σ 33, slotOf σ 34, slotOf σ 35, slotOf σ 36, slotOf σ 37, slotOf σ 38, slotOf σ 39, slotOf σ 40, slotOf σ 41, slotOf σ 42, slotOf σ 43, slotOf σ 44, slotOf σ 45, slotOf σ 46, slotOf σ 47, slotOf σ 48, slotOf σ 49, slotOf σ 50, slotOf σ 51, slotOf σ 52, slotOf σ 53, slotOf σ 54, slotOf σ 55, slotOf σ 56, slotOf σ 57, slotOf σ 58, slotOf σ 59, slotOf σ 60, slotOf σ 61, slotOf σ 62, slotOf σ 63, slotOf σ 64, slotOf σ 65, slotOf σ 66, slotOf σ 67, slotOf σ 68, slotOf σ 69, slotOf σ 70, slotOf σ 71, slotOf σ 72, slotOf σ 73, slotOf σ 74, slotOf σ 75, slotOf σ 76, slotOf σ 77, slotOf σ 78, slotOf σ 79, slotOf σ 80, slotOf σ 81, slotOf σ 82, slotOf σ 83, slotOf σ 84, slotOf σ 85, slotOf σ 86, slotOf σ 87, slotOf σ 88, slotOf σ 89, slotOf σ 90], [.slice .imm (if (p.vars.map dV).isEmpty = true then 0 else 3) (p.vars.map dV), .slice .imm (if (p.procs.map dP).isEmpty = true then 0 else 6) (p.procs.map dP), .int .u8 p.main.kind, .int .i64 p.main.num, .str p.main.name, .slice .imm (if (p.main.kids.map dN).isEmpty = true then 0 else 4) (p.main.kids.map dN)] :: [.int .u8 p.main.kind, .int .i64 p.main.num, .str p.main.name, .slice .imm (if (p.main.kids.map dN).isEmpty = true then 0 else 4) (p.main.kids.map dN)] :: r2, nx, lv⟩ ∧ m = i - j ∧ j ≤ i) ?_ (i) _ ?_
  rotate_left
  ·exact ⟨0, _, rfl, rfl, Nat.zero_le _⟩
  rintro m σ ⟨j, r2, hσ, rfl, hj⟩
  generalize slotOf σ = x at hσ
  subst hσ
  refine X_seq ?_
  refine X_seq ?_
  refine X_rg fun R hR => ?_
  simp only [Int.reduceNeg, nat_lt, aops, astep, awant, aeff, aop, abin, aint, ev, St.put, zg1, zg0, zgd, zmo, if_true, zs1, zs0]
  with_reducible refine hR _ ?_
  clear hR R
  show X _ _ _ _
  refine X_ite (by simp only [ev, zg1, zg0, zgd]; exact rfl) ?_ ?_
  ·intro b2
   have c2 := b2
   try simp only [decide_eq_true_eq] at c2
   refine X_skip ?_
   show X _ _ _ _
   refine X_seq ?_
   refine X_block ?_
   have hjl : j < p.procs.length := by first | omega | (simp_all; omega)
   have hn_hlt := idx_n (f := dP) (n := 6) hlt
   have e_hlt : (p.procs.map dP)[i]? = some (.agg [.str p.procs[i].name, .slice .imm (if (p.procs[i].params.map dV).isEmpty = true then 0 else 3) (p.procs[i].params.map dV), .int .u8 p.procs[i].body.kind, .int .i64 p.procs[i].body.num, .str p.procs[i].body.name, .slice .imm (if (p.procs[i].body.kids.map dN).isEmpty = true then 0 else 4) (p.procs[i].body.kids.map dN)]) := by rw [List.getElem?_map, List.getElem?_eq_getElem hlt]; rfl
   have hn_hjl := idx_n (f := dP) (n := 6) hjl
   have e_hjl : (p.procs.map dP)[j]? = some (.agg [.str p.procs[j].name, .slice .imm (if (p.procs[j].params.map dV).isEmpty = true then 0 else 3) (p.procs[j].params.map dV), .int .u8 p.procs[j].body.kind, .int .i64 p.procs[j].body.num, .str p.procs[j].body.name, .slice .imm (if (p.procs[j].body.kids.map dN).isEmpty = true then 0 else 4) (p.procs[j].body.kids.map dN)]) := by rw [List.getElem?_map, List.getElem?_eq_getElem hjl]; rfl
   refine X_y ?_
   refine Y_k 2 fun R hR => ?_
   simp only [EVP, Int.reduceNeg, aops, astep, awant, aeff, aop, ev, St.put, zg1, zg0, zgd, zmo, if_true, zs1, zs0, zt1, zt0, b2]
   with_reducible refine hR _ ?_
   clear hR R
   simp only [zd1, zd0]
   refine Y_if 47 (by simp only [ev, zg1, zg0, zgd]; exact rfl) ?_ ?_
   ·intro b3
    have c3 := b3
    try simp only [znt, znf, decide_eq_true_eq, decide_eq_false_iff_not, beq_iff_eq, Int.not_lt, Int.not_le, ge_iff_le, gt_iff_lt, bne_iff_ne, ne_eq, bne_eq_false_iff_eq, beq_eq_false_iff_ne, zat, zof] at c3
    refine Y_end fun R hR => ?_
    simp only [EVP, Int.reduceNeg, nat_lt, nat_0, nat_to, aops, astep, awant, aeff, aop, abin, astr, mkD, ev, ofValue, St.put, ia_str, cl_str, ia_slice, zg1, zg0, zgd, zmo, zbs, if_true, zs1, zs0, zlm, zlc, zln, zd1, zd0, zt1, zt0, Nat.reduceAdd, Nat.reduceLeDiff, Nat.zero_add, zft, if_false, and_self, reduceCtorEq, beq_self_eq_true, zis, ty_string, ty_s_api_Proc, ty_api_Proc, ty_api_Program, und_api_Proc, siz_api_Proc, inf_api_Proc_eq, b3, hjl, hlt, hn_hlt, e_hlt, e_hjl]
    with_reducible refine hR _ ?_
    clear hR R
    show X _ _ _ _
    have hbig : j < 9223372036854775807 := by omega
    refine X_rg fun R hR => ?_
    simp only [inr_i64, Int.reduceLE, Int.reduceNeg, aops, astep, awant, aeff, aop, abin, aint, ev, ofValue, St.put, zg1, zg0, zgd, zmo, if_true, zs1, zs0, and_self, nat_succ hbig]
    with_reducible refine hR _ ?_
    clear hR R
    show ∃ m, m < _ ∧ _
    have hst := firstB_step (p := p) (s := p.procs[i].name) hjl
    rw [b3] at hst
    simp only [Bool.true_and] at hst
    exact ⟨i - (j + 1), by omega, j + 1, _, by rw [hst]; rfl, rfl, by omega⟩
   ·intro b4
    have c4 := b4
    try simp only [znt, znf, decide_eq_true_eq, decide_eq_false_iff_not, beq_iff_eq, Int.not_lt, Int.not_le, ge_iff_le, gt_iff_lt, bne_iff_ne, ne_eq, bne_eq_false_iff_eq, beq_eq_false_iff_ne, zat, zof] at c4
    refine Y_end fun R hR => ?_
    simp only [EVP, Int.reduceNeg, aops, astep, awant, aeff, aop, abin, ev, ofValue, St.put, zg1, zg0, zgd, zmo, Option.map_none, zbs, if_true, zs1, zs0, Nat.zero_add, zft, if_false, reduceCtorEq, bq_ft, ty_string, ty_s_api_Proc, ty_api_Proc, ty_api_Program, und_api_Proc, b4]
    with_reducible refine hR _ ?_
    clear hR R
    show X _ _ _ _
    have hbig : j < 9223372036854775807 := by omega
    refine X_rg fun R hR => ?_
    simp only [inr_i64, Int.reduceLE, Int.reduceNeg, aops, astep, awant, aeff, aop, abin, aint, ev, ofValue, St.put, zg1, zg0, zgd, zmo, if_true, zs1, zs0, and_self, nat_succ hbig]
    with_reducible refine hR _ ?_
    clear hR R
    show ∃ m, m < _ ∧ _
    have hst := firstB_step (p := p) (s := p.procs[i].name) hjl
    rw [b4] at hst
    simp only [Bool.false_and] at hst
    exact ⟨i - (j + 1), by omega, j + 1, _, by rw [hst]; rfl, rfl, by omega⟩
  ·intro b5
   have c5 := b5
   try simp only [decide_eq_false_iff_not] at c5
   refine X_exit ?_
   show X _ _ _ _
   refine X_seq ?_
   refine X_seq ?_
   refine X_rg fun R hR => ?_
   simp only [inr_i64, Int.reduceLE, Int.reduceNeg, aops, astep, awant, aeff, aop, ev, ofValue, St.put, zgd, zmo, if_true, zs1, zs0, and_self, b5]
   with_reducible refine hR _ ?_
   clear hR R
   show X _ _ _ _
   refine X_block ?_
   have hji : i = j := by first | omega | (simp_all; omega)
   subst hji
   refine X_loop (fun m σ => ∃ (j2 : Nat) (r3 : List (List D)), σ = ⟨[slotOf σ 0, .int .i64 (-1), .ptr 0 0, slotOf σ 3, slotOf σ 4, .ptr 1 0, .slice .imm (if ((cnT p.main).map dS).isEmpty = true then 0 else 1) ((cnT p.main).map dS), .slice o n ((pickI p (cnT p.main) i).map dI), .int .i64 i, .bool (firstB p p.procs[i].name i), .bool (calledB (cnT p.main) p.procs[i].name j2), slotOf σ 11, .int .i64 j2, slotOf σ 13, slotOf σ 14, slotOf σ 15, slotOf σ 16, slotOf σ 17, slotOf σ 18, slotOf σ 19, slotOf σ 20, slotOf σ 21, slotOf σ 22, slotOf σ 23, slotOf σ 24, slotOf σ 25, slotOf σ 26, slotOf σ 27, slotOf σ 28, slotOf σ 29, slotOf σ 30, slotOf σ 31, slotOf σ 32, slotOf σ 33, slotOf σ 34, slotOf σ 35, slotOf σ 36, slotOf σ 37, slotOf σ 38, slotOf σ 39, slotOf σ 40, slotOf σ 41, slotOf σ 42, slotOf σ 43, slotOf σ 44, slotOf σ 45, slotOf σ 46, slotOf σ 47, slotOf σ 48, slotOf σ 49, slotOf σ 50, slotOf σ 51, slotOf σ 52, slotOf σ 53, slotOf σ 54, slotOf σ 55, slotOf σ 56, slotOf σ 57, slotOf σ 58, slotOf σ 59, slotOf σ 60, slotOf σ 61, slotOf σ 62, slotOf σ 63, slotOf σ 64, slotOf σ 65, slotOf σ 66, slotOf σ 67, slotOf σ 68, slotOf σ 69, slotOf σ 70, slotOf σ 71, slotOf σ 72, slotOf σ 73, slotOf σ 74, slotOf σ 75, slotOf σ 76, slotOf σ 77, slotOf σ 78, slotOf σ 79, slotOf σ 80, slotOf σ 81, slotOf σ 82, slotOf σ 83, slotOf σ 84, slotOf σ 85, slotOf σ 86, slotOf σ 87, slotOf σ 88, slotOf σ 89, slotOf σ 90], [.slice .imm (if (p.vars.map dV).isEmpty = true then 0 else 3) (p.vars.map dV), .slice .imm (if (p.procs.map dP).isEmpty = true then 0 else 6) (p.procs.map dP), .int .u8 p.main.kind, .int .i64 p.main.num, .str p.main.name, .slice .imm (if (p.main.kids.map dN).isEmpty = true then 0 else 4) (p.main.kids.map dN)] :: [.int .u8 p.main.kind, .int .i64 p.main.num, .str p.main.name, .slice .imm (if (p.main.kids.map dN).isEmpty = true then 0 else 4) (p.main.kids.map dN)] :: r3, nx, lv⟩ ∧ m = (cnT p.main).length - j2 ∧ j2 ≤ (cnT p.main).length) ?_ ((cnT p.main).length) _ ?_
   rotate_left
   ·exact ⟨0, _, rfl, rfl, Nat.zero_le _⟩
   rintro m σ ⟨j2, r3, hσ, rfl, hj2⟩
   generalize slotOf σ = x at hσ
   subst hσ
   refine X_seq ?_
   refine X_seq ?_
   refine X_rg fun R hR => ?_
   simp only [EVP, Int.reduceNeg, nat_lt, aops, astep, awant, aeff, aop, abin, aint, ev, St.put, zg1, zg0, zgd, zmo, if_true, zs1, zs0, zlm, und_string]
   with_reducible refine hR _ ?_
   clear hR R
   show X _ _ _ _
   refine X_ite (by simp only [ev, zg1, zg0, zgd]; exact rfl) ?_ ?_
   ·intro b6
    have c6 := b6
    try simp only [decide_eq_true_eq] at c6
    refine X_skip ?_
    show X _ _ _ _
    refine X_seq ?_
    refine X_block ?_
    have hn_hlt := idx_n (f := dP) (n := 6) hlt
    have e_hlt : (p.procs.map dP)[i]? = some (.agg [.str p.procs[i].name, .slice .imm (if (p.procs[i].params.map dV).isEmpty = true then 0 else 3) (p.procs[i].params.map dV), .int .u8 p.procs[i].body.kind, .int .i64 p.procs[i].body.num, .str p.procs[i].body.name, .slice .imm (if (p.procs[i].body.kids.map dN).isEmpty = true then 0 else 4) (p.procs[i].body.kids.map dN)]) := by rw [List.getElem?_map, List.getElem?_eq_getElem hlt]; rfl
    have hjm : j2 < (cnT p.main).length := by first | assumption | omega | simp_all
    have hn_m := idx_n (f := dS) (n := 1) hjm
    have e_m : ((cnT p.main).map dS)[j2]? = some (.str (cnT p.main)[j2]) := by rw [List.getElem?_map, List.getElem?_eq_getElem hjm]; rfl
    refine X_y ?_
    refine Y_k 2 fun R hR => ?_
    simp only [EVP, Int.reduceNeg, aops, astep, awant, aeff, aop, ev, St.put, zg1, zg0, zgd, zmo, if_true, zs1, zs0, zt1, zt0, decide_true, hjm]
    with_reducible refine hR _ ?_
    clear hR R
    simp only [zd1, zd0]
    refine Y_if 69 (by simp only [ev, zg1, zg0, zgd]; exact rfl) ?_ ?_
    ·intro b7
     have c7 := b7
     try simp only [znt, znf, decide_eq_true_eq, decide_eq_false_iff_not, beq_iff_eq, Int.not_lt, Int.not_le, ge_iff_le, gt_iff_lt, bne_iff_ne, ne_eq, bne_eq_false_iff_eq, beq_eq_false_iff_ne, zat, zof] at c7
     refine Y_end fun R hR => ?_
     simp only [EVP, Int.reduceNeg, aops, astep, awant, aeff, aop, abin, ev, ofValue, St.put, zg1, zg0, zgd, zmo, Option.map_none, zbs, if_true, zs1, zs0, Nat.zero_add, zft, if_false, reduceCtorEq, bq_tf, ty_string, ty_s_api_Proc, ty_api_Proc, ty_api_Program, und_api_Proc, und_string, b7]
     with_reducible refine hR _ ?_
     clear hR R
     show X _ _ _ _
     have hbig2 : j2 < 9223372036854775807 := by omega
     refine X_rg fun R hR => ?_
     simp only [inr_i64, Int.reduceLE, Int.reduceNeg, aops, astep, awant, aeff, aop, abin, aint, ev, ofValue, St.put, zg1, zg0, zgd, zmo, if_true, zs1, zs0, and_self, nat_succ hbig2]
     with_reducible refine hR _ ?_
     clear hR R
     show ∃ m, m < _ ∧ _
     have hst := calledB_step (s := p.procs[i].name) hjm
     rw [b7] at hst
     simp only [Bool.true_or] at hst
     exact ⟨(cnT p.main).length - (j2 + 1), by omega, j2 + 1, _, by rw [hst]; rfl, rfl, by omega⟩
    ·intro b8
     have c8 := b8
     try simp only [znt, znf, decide_eq_true_eq, decide_eq_false_iff_not, beq_iff_eq, Int.not_lt, Int.not_le, ge_iff_le, gt_iff_lt, bne_iff_ne, ne_eq, bne_eq_false_iff_eq, beq_eq_false_iff_ne, zat, zof] at c8
     refine Y_end fun R hR => ?_
     simp only [EVP, Int.reduceNeg, nat_lt, nat_0, nat_to, aops, astep, awant, aeff, aop, abin, astr, mkD, ev, ofValue, St.put, ia_str, cl_str, ia_slice, zg1, zg0, zgd, zmo, zbs, if_true, zs1, zs0, zlm, zlc, zln, zd1, zd0, zt1, zt0, Nat.reduceAdd, Nat.reduceLeDiff, Nat.zero_add, zft, if_false, and_self, reduceCtorEq, beq_self_eq_true, zis, ty_string, ty_s_api_Proc, ty_api_Proc, ty_api_Program, und_api_Proc, siz_api_Proc, inf_api_Proc_eq, und_string, siz_string, inf_string_eq, b8, hlt, hn_hlt, e_hlt, hjm, hn_m, e_m]
     with_reducible refine hR _ ?_
     clear hR R
     show X _ _ _ _
     have hbig2 : j2 < 9223372036854775807 := by omega
     refine X_rg fun R hR => ?_
     simp only [inr_i64, Int.reduceLE, Int.reduceNeg, aops, astep, awant, aeff, aop, abin, aint, ev, ofValue, St.put, zg1, zg0, zgd, zmo, if_true, zs1, zs0, and_self, nat_succ hbig2]
     with_reducible refine hR _ ?_
     clear hR R
     show ∃ m, m < _ ∧ _
     have hst := calledB_step (s := p.procs[i].name) hjm
     rw [b8] at hst
     simp only [Bool.false_or] at hst
     exact ⟨(cnT p.main).length - (j2 + 1), by omega, j2 + 1, _, by rw [hst]; rfl, rfl, by omega⟩
   ·intro b9
    have c9 := b9
    try simp only [decide_eq_false_iff_not] at c9
    refine X_exit ?_
    show X _ _ _ _
    refine X_seq ?_
    have hjz : j2 = (cnT p.main).length := by first | omega | (simp_all; omega)
    subst hjz
    refine X_y ?_
    refine Y_k 2 fun R hR => ?_
    simp only [EVP, Int.reduceNeg, aops, astep, awant, aeff, aop, ev, St.put, zg1, zg0, zgd, zmo, if_true, zs1, zs0, zt1, zt0, b9]
    with_reducible refine hR _ ?_
    clear hR R
    simp only [zd1, zd0]
    refine Y_if 83 (by simp only [ev, zg1, zg0, zgd]; exact rfl) ?_ ?_
    ·intro b10
     have c10 := b10
     try simp only [znt, znf, decide_eq_true_eq, decide_eq_false_iff_not, beq_iff_eq, Int.not_lt, Int.not_le, ge_iff_le, gt_iff_lt, bne_iff_ne, ne_eq, bne_eq_false_iff_eq, beq_eq_false_iff_ne, zat, zof] at c10
     refine Y_end fun R hR => ?_
     simp only [Int.reduceNeg, aops, astep, awant, aeff, aop, ev, ofValue, St.put, zg1, zg0, zgd, zmo, zbs, if_true, zs1, zs0, beq_self_eq_true, b10]
     with_reducible refine hR _ ?_
     clear hR R
     show X _ _ _ _
     refine X_ite (by simp only [ev, zg1, zg0, zgd]; exact rfl) ?_ ?_
     ·intro b11
      have c11 := b11
      try simp only [znt, znf, decide_eq_true_eq, decide_eq_false_iff_not, beq_iff_eq, Int.not_lt, Int.not_le, ge_iff_le, gt_iff_lt, bne_iff_ne, ne_eq, bne_eq_false_iff_eq, beq_eq_false_iff_ne, zat, zof] at c11
      have hpl := pickI_len p (cnT p.main) i
      have hap := fun fr bx => (ha.out.more nx).app (P := Try.prog) (σ := ⟨fr, bx, nx + 1, nx :: lv⟩) (t := 39) (o2 := .own nx 3) (l2 := [.int .i64 i]) und_int inf_int_eq inf_int_size (by omega) (by rw [inf_int_bytes]; omega) inf_int_zc (by simp; omega) (by simp)
      refine X_rg fun R hR => ?_
      simp only [EVP, Int.reduceNeg, aops, astep, awant, aeff, aop, abuild, ev, ofValue, St.put, gd_int, cl_int, zmc, zmn, zg1, zg0, zgd, zmo, if_true, zs1, zs0, zlc, zln, Nat.reduceLeDiff, Nat.reduceLT, Nat.zero_add, Bool.and_true, and_self, List.all_cons, List.all_nil, beq_self_eq_true, Nat.reduceMul, rng_1, und_int, inf_int_eq, inf_int_size, inf_int_zero, b11, hap]
      with_reducible refine hR _ ?_
      clear hR R
      show X _ _ _ _
      have hbig3 : i < 9223372036854775807 := by omega
      refine X_rg fun R hR => ?_
      simp only [inr_i64, Int.reduceLE, Int.reduceNeg, aops, astep, awant, aeff, aop, abin, aint, ev, ofValue, St.put, zg1, zg0, zgd, zmo, if_true, zs1, zs0, and_self, nat_succ hbig3]
      with_reducible refine hR _ ?_
      clear hR R
      show ∃ m, m < _ ∧ _
      have hst := pickI_step (l := (cnT p.main)) hlt
      rw [if_pos (by simp_all; done)] at hst
      have hst2 : (pickI p (cnT p.main) (i + 1)).map dI = (pickI p (cnT p.main) i).map dI ++ [.int .i64 (i : Int)] := by rw [hst, List.map_append]; rfl
      exact ⟨p.procs.length - (i + 1), by omega, i + 1, _, _, _, _, _, by rw [hst2]; rfl, rfl, by omega, Lib.hid (by rw [hst2]; exact .own (by simp))⟩
     ·intro b12
      have c12 := b12
      try simp only [znt, znf, decide_eq_true_eq, decide_eq_false_iff_not, beq_iff_eq, Int.not_lt, Int.not_le, ge_iff_le, gt_iff_lt, bne_iff_ne, ne_eq, bne_eq_false_iff_eq, beq_eq_false_iff_ne, zat, zof] at c12
      refine X_skip ?_
      show X _ _ _ _
      have hbig3 : i < 9223372036854775807 := by omega
      refine X_rg fun R hR => ?_
      simp only [inr_i64, Int.reduceLE, Int.reduceNeg, aops, astep, awant, aeff, aop, abin, aint, ev, ofValue, St.put, zg1, zg0, zgd, zmo, if_true, zs1, zs0, and_self, b12, nat_succ hbig3]
      with_reducible refine hR _ ?_
      clear hR R
      show ∃ m, m < _ ∧ _
      have hst := pickI_step (l := (cnT p.main)) hlt
      rw [if_neg (by simp_all; done)] at hst
      exact ⟨p.procs.length - (i + 1), by omega, i + 1, _, _, _, _, _, by rw [hst]; rfl, rfl, by omega, Lib.hid (by rw [hst]; exact ha.out)⟩
    ·intro b13
     have c13 := b13
     try simp only [znt, znf, decide_eq_true_eq, decide_eq_false_iff_not, beq_iff_eq, Int.not_lt, Int.not_le, ge_iff_le, gt_iff_lt, bne_iff_ne, ne_eq, bne_eq_false_iff_eq, beq_eq_false_iff_ne, zat, zof] at c13
     refine Y_end fun R hR => ?_
     simp only [Int.reduceNeg, aops, astep, awant, aeff, aop, ev, ofValue, St.put, zg1, zg0, zgd, zmo, zbs, if_true, zs1, zs0, zft, if_false, bq_ft, b13]
     with_reducible refine hR _ ?_
     clear hR R
     show X _ _ _ _
     refine X_false (by simp only [ev, zg1, zg0, zgd]) ?_
     refine X_skip ?_
     show X _ _ _ _
     have hbig3 : i < 9223372036854775807 := by omega
     refine X_rg fun R hR => ?_
     simp only [inr_i64, Int.reduceLE, Int.reduceNeg, aops, astep, awant, aeff, aop, abin, aint, ev, ofValue, St.put, zg1, zg0, zgd, zmo, if_true, zs1, zs0, and_self, nat_succ hbig3]
     with_reducible refine hR _ ?_
     clear hR R
     show ∃ m, m < _ ∧ _
     have hst := pickI_step (l := (cnT p.main)) hlt
     rw [if_neg (by simp_all; done)] at hst
     exact ⟨p.procs.length - (i + 1), by omega, i + 1, _, _, _, _, _, by rw [hst]; rfl, rfl, by omega, Lib.hid (by rw [hst]; exact ha.out)⟩
 ·intro b14
  have c14 := b14
  try simp only [decide_eq_false_iff_not] at c14
  refine X_exit ?_
  show X _ _ _ _
  refine X_seq ?_
  refine X_rg fun R hR => ?_
  simp only [Int.reduceNeg, aops, astep, awant, aeff, aop, ev, St.put, zg1, zg0, zgd, zmo, if_true, zs1, zs0, b14]
  with_reducible refine hR _ ?_
  clear hR R
  show X _ _ _ _
  refine X_ret ?_
  show ∃ d, resD _ _ _ = some d ∧ _ ∧ _
  have hiz : i = p.procs.length := by first | omega | (simp_all; omega)
  subst hiz
  refine ⟨_, by simp only [resD, resAll, resOne, resTup, Try.results26, EVP, zg1, zg0, D.good, if_true, zmo] <;> exact rfl, ?_, ?_⟩
  ·simp only [D.under, D.unders_all, List.all_eq_true]; intro d hd; obtain ⟨x, _, rfl⟩ := List.mem_map.1 hd; rfl
  ·rw [ha.out.strip, List.map_map, show (D.strip ∘ dI) = dI from rfl]; rfl
set_option maxRecDepth 100000 in
set_option maxHeartbeats 4000000 in
theorem rcalls_k (p : Pg) (hs : Sml p) (k : Nat) (hk : k < p.procs.length) : fn EV 26 [dG p, .int .i64 (k : Int)] = some (sl 1 ((pickI p (cnT p.procs[k].body) p.procs.length).map dI)) := by
 refine fn_Xs rfl Try.func26 rfl (by simp only [plain, List.all_cons, List.all_nil, dG_pl, int_pl, Bool.and_true]) (rfl) ?_
 simp only [zmc, zmn, D.strip, dG_strip]
 simp only [enterSt, Try.ntmps26, zlc, zln, Nat.reduceAdd, Nat.reduceSub, zr1, zr0, zca, zna]
 refine X_seq ?_
 refine X_rg fun R hR => ?_
 simp only [aops, astep, awant, aeff, aop, ev, ofValue, St.put, zg0, zgd, zmo, if_true, zs1, zs0, zln, zna, dG_cells, dG_good]
 with_reducible refine hR _ ?_
 clear hR R
 show X _ _ _ _
 refine X_seq ?_
 refine X_seq ?_
 have h1 : (decide ((k : Int) < (-1 : Int))) = false := by first | (simp; done) | (simp; omega)
 have h2 : (decide ((k : Int) ≥ (p.procs.length : Int))) = false := by first | (simp; done) | (simp; omega)
 refine X_rg fun R hR => ?_
 simp only [EVP, inr_i64, Int.reduceLE, Int.reduceNeg, aops, astep, awant, aeff, aop, abin, aint, mkD, ev, ofValue, St.put, ia_slice, zg1, zg0, zgd, zmo, zbs, if_true, zs1, zs0, zlm, zlc, zln, zd1, zd0, zt1, zt0, Nat.reduceAdd, Nat.reduceLeDiff, Nat.zero_add, zft, if_false, and_self, reduceCtorEq, beq_self_eq_true, ty_s_api_Proc, ty_api_Program, und_api_Proc, h1, h2]
 with_reducible refine hR _ ?_
 clear hR R
 show X _ _ _ _
 refine X_false (by simp only [ev, zg1, zg0, zgd]) ?_
 refine X_skip ?_
 show X _ _ _ _
 refine X_seq ?_
 refine X_rg fun R hR => ?_
 simp only [EVP, aops, astep, awant, aeff, aop, mkD, astore, ev, St.put, zg1, zg0, zgd, zmo, zbs, if_true, zs1, zs0, zlc, zln, zd1, zd0, zt1, zt0, zca, zna, Nat.reduceAdd, Nat.reduceLeDiff, Nat.zero_add, if_false, and_self, reduceCtorEq, ty_api_Node, ty_api_Program, dN_agg, dN_cells, dN_good, sl]
 with_reducible refine hR _ ?_
 clear hR R
 show X _ _ _ _
 refine X_seq ?_
 refine X_seq ?_
 have h3 : (decide ((k : Int) ≥ (0 : Int))) = true := by simp
 refine X_rg fun R hR => ?_
 simp only [inr_i64, Int.reduceLE, Int.reduceNeg, nat_0, aops, astep, awant, aeff, aop, abin, aint, ev, ofValue, St.put, zg1, zg0, zgd, zmo, if_true, zs1, zs0, and_self, decide_true]
 with_reducible refine hR _ ?_
 clear hR R
 show X _ _ _ _
 refine X_true (by simp only [ev, zg1, zg0, zgd]) ?_
 have hn0 := idx_n (f := dP) (n := 6) hk
 have e0 : (p.procs.map dP)[k]? = some (.agg [.str p.procs[k].name, .slice .imm (if (p.procs[k].params.map dV).isEmpty = true then 0 else 3) (p.procs[k].params.map dV), .int .u8 p.procs[k].body.kind, .int .i64 p.procs[k].body.num, .str p.procs[k].body.name, .slice .imm (if (p.procs[k].body.kids.map dN).isEmpty = true then 0 else 4) (p.procs[k].body.kids.map dN)]) := by rw [List.getElem?_map, List.getElem?_eq_getElem hk]; rfl
 refine X_rg fun R hR => ?_
 simp only [EVP, nat_lt, nat_0, nat_to, aops, astep, awant, aeff, aop, mkD, astore, ev, St.put, ia_slice, zg1, zg0, zgd, zmo, if_true, zs1, zs0, zlm, zlc, zln, zd1, zd0, zt1, zt0, zca, zna, Nat.reduceAdd, Nat.reduceLeDiff, Nat.zero_add, zft, if_false, and_self, reduceCtorEq, zis, ty_s_api_Proc, ty_api_Node, ty_api_Proc, ty_api_Program, und_api_Proc, siz_api_Proc, inf_api_Proc_eq, dN_agg, dN_cells, dN_isAgg, dN_good, sl, hk, hn0, e0]
 with_reducible refine hR _ ?_
 clear hR R
 show X _ _ _ _
 refine X_seq ?_
 have hN := rnames_fn p.procs[k].body (by have := hs.at (bodyAt_proc p k hk); omega)
 have hcl := cnT_len p.procs[k].body
 have hbz := hs.at (bodyAt_proc p k hk)
 simp only [sl] at hN
 have hpn := hs.n
 refine X_rg fun R hR => ?_
 simp only [EVP, aops, astep, awant, aeff, aop, mkD, ev, St.put, pcall, zmc, zmn, zg1, zg0, zgd, zmo, if_true, zs1, zs0, zlc, zln, zd0, zt1, zt0, zca, zna, Nat.reduceAdd, Nat.reduceLeDiff, Nat.zero_add, ty_api_Node, any51, dN_agg, hN]
 with_reducible refine hR _ ?_
 clear hR R
 show X _ _ _ _
 refine X_seq ?_
 refine X_rg fun R hR => ?_
 simp only [aops, astep, awant, aeff, aop, ev, ofValue, St.put, zgd, zmo, if_true, zs1, zs0]
 with_reducible refine hR _ ?_
 clear hR R
 show X _ _ _ _
 refine X_seq ?_
 refine X_seq ?_
 refine X_rg fun R hR => ?_
 simp only [inr_i64, Int.reduceLE, Int.reduceNeg, aops, astep, awant, aeff, aop, ev, ofValue, St.put, zgd, zmo, if_true, zs1, zs0, and_self]
 with_reducible refine hR _ ?_
 clear hR R
 show X _ _ _ _
 refine X_block ?_
 refine X_loop (fun m σ => ∃ (i : Nat) (o : Own) (n : Nat) (nx : Nat) (lv : List Nat) (r : List (List D)), σ = ⟨[slotOf σ 0, .int .i64 (k : Int), .ptr 0 0, slotOf σ 3, slotOf σ 4, .ptr 1 0, .slice .imm (if ((cnT p.procs[k].body).map dS).isEmpty = true then 0 else 1) ((cnT p.procs[k].body).map dS), .slice o n ((pickI p (cnT p.procs[k].body) i).map dI), .int .i64 i, slotOf σ 9, slotOf σ 10, slotOf σ 11, slotOf σ 12, slotOf σ 13, slotOf σ 14, slotOf σ 15, slotOf σ 16, slotOf σ 17, slotOf σ 18, slotOf σ 19, slotOf σ 20, slotOf σ 21, slotOf σ 22, slotOf σ 23, slotOf σ 24, slotOf σ 25, slotOf σ 26, slotOf σ 27, slotOf σ 28, slotOf σ 29, slotOf σ 30, slotOf σ 31, slotOf σ 32, slotOf σ 33, slotOf σ 34, slotOf σ 35, slotOf σ 36, slotOf σ 37, slotOf σ 38, slotOf σ 39, slotOf σ 40, slotOf σ 41, slotOf σ 42, slotOf σ 43, slotOf σ 44, slotOf σ 45, slotOf σ 46, slotOf σ 47, slotOf σ 48, slotOf σ 49, slotOf σ 50, slotOf σ 51, slotOf σ 52, slotOf σ 53, slotOf σ 54, slotOf σ 55, slotOf σ 56, slotOf σ 57, slotOf σ 58, slotOf σ 59, slotOf σ 60, slotOf σ 61, slotOf σ 62, slotOf σ 63, slotOf σ 64, slotOf σ 65, slotOf σ 66, slotOf σ 67, slotOf σ 68, slotOf σ 69, slotOf σ 70, slotOf σ 71, slotOf σ 72, slotOf σ 73, slotOf σ 74, slotOf σ 75, slotOf σ 76, slotOf σ 77, slotOf σ 78, slotOf σ 79, slotOf σ 80, slotOf σ 81, slotOf σ 82, slotOf σ 83, slotOf σ 84, slotOf σ 85, slotOf σ 86, slotOf σ 87, slotOf σ 88, slotOf σ 89, slotOf σ 90], [.slice .imm (if (p.vars.map dV).isEmpty = true then 0 else 3) (p.vars.map dV), .slice .imm (if (p.procs.map dP).isEmpty = true then 0 else 6) (p.procs.map dP), .int .u8 p.main.kind, .int .i64 p.main.num, .str p.main.name, .slice .imm (if (p.main.kids.map dN).isEmpty = true then 0 else 4) (p.main.kids.map dN)] :: [.int .u8 p.procs[k].body.kind, .int .i64 p.procs[k].body.num, .str p.procs[k].body.name, .slice .imm (if (p.procs[k].body.kids.map dN).isEmpty = true then 0 else 4) (p.procs[k].body.kids.map dN)] :: r, nx, lv⟩ ∧ m = p.procs.length - i ∧ i ≤ p.procs.length ∧ Hid (Acc 3 1 o n ((pickI p (cnT p.procs[k].body) i).map dI) lv)) ?_ (p.procs.length) _ ?_
 rotate_left
 ·exact ⟨0, _, _, _, _, [], rfl, rfl, Nat.zero_le _, Lib.hid (.nil _ _ _)⟩
 rintro m σ ⟨i, o, n, nx, lv, r, hσ, rfl, hi, ha⟩
 generalize slotOf σ = x at hσ
 subst hσ
 refine X_seq ?_
 refine X_seq ?_
 refine X_rg fun R hR => ?_
 simp only [EVP, nat_lt, aops, astep, awant, aeff, aop, abin, aint, mkD, ev, St.put, ia_slice, zg1, zg0, zgd, zmo, if_true, zs1, zs0, zlm, zlc, zln, zd1, zd0, zt1, zt0, Nat.reduceAdd, Nat.reduceLeDiff, Nat.zero_add, zft, if_false, reduceCtorEq, ty_s_api_Proc, ty_api_Program, und_api_Proc]
 with_reducible refine hR _ ?_
 clear hR R
 show X _ _ _ _
 refine X_ite (by simp only [ev, zg1, zg0, zgd]; exact rfl) ?_ ?_
 ·intro b1
  have c1 := b1
  try simp only [decide_eq_true_eq] at c1
  refine X_skip ?_
  show X _ _ _ _
  refine X_seq ?_
  refine X_block ?_
  refine X_seq ?_
  refine X_rg fun R hR => ?_
  simp only [aops, astep, awant, aeff, aop, ev, ofValue, St.put, zgd, zmo, if_true, zs1, zs0, b1]
  with_reducible refine hR _ ?_
  clear hR R
  show X _ _ _ _
  refine X_seq ?_
  refine X_seq ?_
  refine X_rg fun R hR => ?_
  simp only [inr_i64, Int.reduceLE, Int.reduceNeg, aops, astep, awant, aeff, aop, ev, ofValue, St.put, zgd, zmo, if_true, zs1, zs0, and_self]
  with_reducible refine hR _ ?_
  clear hR R
  show X _ _ _ _
  refine X_block ?_
  have hlt : i < p.procs.length := by first | assumption | omega | simp_all
  refine X_loop (fun m σ => ∃ (j : Nat) (r2 : List (List D)), σ = ⟨[slotOf σ 0, .int .i64 (k : Int), .ptr 0 0, slotOf σ 3, slotOf σ 4, .ptr 1 0, .slice .imm (if ((cnT p.procs[k].body).map dS).isEmpty = true then 0 else 1) ((cnT p.procs[k].body).map dS), .slice o n ((pickI p (cnT p.procs[k].body) i).map dI), .int .i64 i, .bool (firstB p p.procs[i].name j), .bool false, .int .i64 j, slotOf σ 12, slotOf σ 13, slotOf σ 14, slotOf σ 15, slotOf σ 16, slotOf σ 17, slotOf σ 18, slotOf σ 19, slotOf σ 20, slotOf σ 21, slotOf σ 22, slotOf σ 23, slotOf σ 24, slotOf σ 25, slotOf σ 26, slotOf σ 27, slotOf σ 28, slotOf σ 29, slotOf σ 30, slotOf σ 31, slotOf σ 32, slotOf σ 33, slotOf σ 34, slotOf σ 35, slotOf σ 36, slotOf σ 37, slotOf σ 38, slotOf σ 39, slotOf σ 40, slotOf σ 41, slotOf σ 42, slotOf σ 43, slotOf σ 44, slotOf σ 45, slotOf σ 46, slotOf σ 47, slotOf σ 48, slotOf σ 49, slotOf σ 50, slotOf σ 51, slotOf σ 52, slotOf σ 53, slotOf σ 54, slotOf σ 55, slotOf σ 56, slotOf σ 57, slotOf σ 58, slotOf σ 59, slotOf σ 60, slotOf σ 61, slotOf σ 62, slotOf σ 63, slotOf σ 64, slotOf σ 65, slotOf σ 66, slotOf σ 67, slotOf σ 68, slotOf σ 69, slotOf σ 70, slotOf σ 71, slotOf σ 72, slotOf σ 73, slotOf σ 74, slotOf σ 75, slotOf σ 76, slotOf σ 77, slotOf σ 78, slotOf σ 79, slotOf σ 80, slotOf σ 81, slotOf σ 82, slotOf σ 83, slotOf σ 84, slotOf σ 85, slotOf σ 86, slotOf σ 87, slotOf σ 88, slotOf σ 89, slotOf σ 90], [.slice .imm (if (p.vars.map dV).isEmpty = true then 0 else 3) (p.vars.map dV), .slice .imm (if (p.procs.map dP).isEmpty = true then 0 else 6) (p.procs.map dP), .int .u8 p.main.kind, .int .i64 p.main.num, .str p.main.name, .slice .imm (if (p.main.kids.map dN).isEmpty = true then 0 else 4) (p.main.kids.map dN)] :: [.int .u8 p.procs[k].body.kind, .int .i64 p.procs[k].body.num, .str p.procs[k].body.name, .slice .imm (if (p.procs[k].body.kids.map dN).isEmpty = true then 0 else 4) (p.procs[k].body.kids.map dN)] :: r2, nx, lv⟩ ∧ m = i - j ∧ j ≤ i) ?_ (i) _ ?_
  rotate_left
  ·exact ⟨0, _, rfl, rfl, Nat.zero_le _⟩
  rintro m σ ⟨j, r2, hσ, rfl, hj⟩
  generalize slotOf σ = x at hσ
  subst hσ
  refine X_seq ?_
  refine X_seq ?_
  refine X_rg fun R hR => ?_
  simp only [nat_lt, aops, astep, awant, aeff, aop, abin, aint, ev, St.put, zg1, zg0, zgd, zmo, if_true, zs1, zs0]
  with_reducible refine hR _ ?_
  clear hR R
  show X _ _ _ _
  refine X_ite (by simp only [ev, zg1, zg0, zgd]; exact rfl) ?_ ?_
  ·intro b2
   have c2 := b2
   try simp only [decide_eq_true_eq] at c2
   refine X_skip ?_
   show X _ _ _ _
   refine X_seq ?_
   refine X_block ?_
   have hjl : j < p.procs.length := by first | omega | (simp_all; omega)
   have hn_hlt := idx_n (f := dP) (n := 6) hlt
   have e_hlt : (p.procs.map dP)[i]? = some (.agg [.str p.procs[i].name, .slice .imm (if (p.procs[i].params.map dV).isEmpty = true then 0 else 3) (p.procs[i].params.map dV), .int .u8 p.procs[i].body.kind, .int .i64 p.procs[i].body.num, .str p.procs[i].body.name, .slice .imm (if (p.procs[i].body.kids.map dN).isEmpty = true then 0 else 4) (p.procs[i].body.kids.map dN)]) := by rw [List.getElem?_map, List.getElem?_eq_getElem hlt]; rfl
   have hn_hjl := idx_n (f := dP) (n := 6) hjl
   have e_hjl : (p.procs.map dP)[j]? = some (.agg [.str p.procs[j].name, .slice .imm (if (p.procs[j].params.map dV).isEmpty = true then 0 else 3) (p.procs[j].params.map dV), .int .u8 p.procs[j].body.kind, .int .i64 p.procs[j].body.num, .str p.procs[j].body.name, .slice .imm (if (p.procs[j].body.kids.map dN).isEmpty = true then 0 else 4) (p.procs[j].body.kids.map dN)]) := by rw [List.getElem?_map, List.getElem?_eq_getElem hjl]; rfl
   refine X_y ?_
   refine Y_k 2 fun R hR => ?_
   simp only [EVP, aops, astep, awant, aeff, aop, ev, St.put, zg1, zg0, zgd, zmo, if_true, zs1, zs0, zt1, zt0, b2]
   with_reducible refine hR _ ?_
   clear hR R
   simp only [zd1, zd0]
   refine Y_if 47 (by simp only [ev, zg1, zg0, zgd]; exact rfl) ?_ ?_
   ·intro b3
    have c3 := b3
    try simp only [znt, znf, decide_eq_true_eq, decide_eq_false_iff_not, beq_iff_eq, Int.not_lt, Int.not_le, ge_iff_le, gt_iff_lt, bne_iff_ne, ne_eq, bne_eq_false_iff_eq, beq_eq_false_iff_ne, zat, zof] at c3
    refine Y_end fun R hR => ?_
    simp only [EVP, nat_lt, nat_0, nat_to, aops, astep, awant, aeff, aop, abin, astr, mkD, ev, ofValue, St.put, ia_str, cl_str, ia_slice, zg1, zg0, zgd, zmo, zbs, if_true, zs1, zs0, zlm, zlc, zln, zd1, zd0, zt1, zt0, Nat.reduceAdd, Nat.reduceLeDiff, Nat.zero_add, zft, if_false, and_self, reduceCtorEq, beq_self_eq_true, zis, ty_string, ty_s_api_Proc, ty_api_Proc, ty_api_Program, und_api_Proc, siz_api_Proc, inf_api_Proc_eq, b3, hjl, hlt, hn_hlt, e_hlt, e_hjl]
    with_reducible refine hR _ ?_
    clear hR R
    show X _ _ _ _
    have hbig : j < 9223372036854775807 := by omega
    refine X_rg fun R hR => ?_
    simp only [inr_i64, Int.reduceLE, Int.reduceNeg, aops, astep, awant, aeff, aop, abin, aint, ev, ofValue, St.put, zg1, zg0, zgd, zmo, if_true, zs1, zs0, and_self, nat_succ hbig]
    with_reducible refine hR _ ?_
    clear hR R
    show ∃ m, m < _ ∧ _
    have hst := firstB_step (p := p) (s := p.procs[i].name) hjl
    rw [b3] at hst
    simp only [Bool.true_and] at hst
    exact ⟨i - (j + 1), by omega, j + 1, _, by rw [hst]; rfl, rfl, by omega⟩
   ·intro b4
    have c4 := b4
    try simp only [znt, znf, decide_eq_true_eq, decide_eq_false_iff_not, beq_iff_eq, Int.not_lt, Int.not_le, ge_iff_le, gt_iff_lt, bne_iff_ne, ne_eq, bne_eq_false_iff_eq, beq_eq_false_iff_ne, zat, zof] at c4
    refine Y_end fun R hR => ?_
    simp only [EVP, aops, astep, awant, aeff, aop, abin, ev, ofValue, St.put, zg1, zg0, zgd, zmo, Option.map_none, zbs, if_true, zs1, zs0, Nat.zero_add, zft, if_false, reduceCtorEq, bq_ft, ty_string, ty_s_api_Proc, ty_api_Proc, ty_api_Program, und_api_Proc, b4]
    with_reducible refine hR _ ?_
    clear hR R
    show X _ _ _ _
    have hbig : j < 9223372036854775807 := by omega
    refine X_rg fun R hR => ?_
    simp only [inr_i64, Int.reduceLE, Int.reduceNeg, aops, astep, awant, aeff, aop, abin, aint, ev, ofValue, St.put, zg1, zg0, zgd, zmo, if_true, zs1, zs0, and_self, nat_succ hbig]
    with_reducible refine hR _ ?_
    clear hR R
    show ∃ m, m < _ ∧ _
    have hst := firstB_step (p := p) (s := p.procs[i].name) hjl
    rw [b4] at hst
    simp only [Bool.false_and] at hst
    exact ⟨i - (j + 1), by omega, j + 1, _, by rw [hst]; rfl, rfl, by omega⟩
  ·intro b5
   have c5 := b5
   try simp only [decide_eq_false_iff_not] at c5
   refine X_exit ?_
   show X _ _ _ _
   refine X_seq ?_
   refine X_seq ?_
   refine X_rg fun R hR => ?_
   simp only [inr_i64, Int.reduceLE, Int.reduceNeg, aops, astep, awant, aeff, aop, ev, ofValue, St.put, zgd, zmo, if_true, zs1, zs0, and_self, b5]
   with_reducible refine hR _ ?_
   clear hR R
   show X _ _ _ _
   refine X_block ?_
   have hji : i = j := by first | omega | (simp_all; omega)
   subst hji
   refine X_loop (fun m σ => ∃ (j2 : Nat) (r3 : List (List D)), σ = ⟨[slotOf σ 0, .int .i64 (k : Int), .ptr 0 0, slotOf σ 3, slotOf σ 4, .ptr 1 0, .slice .imm (if ((cnT p.procs[k].body).map dS).isEmpty = true then 0 else 1) ((cnT p.procs[k].body).map dS), .slice o n ((pickI p (cnT p.procs[k].body) i).map dI), .int .i64 i, .bool (firstB p p.procs[i].name i), .bool (calledB (cnT p.procs[k].body) p.procs[i].name j2), slotOf σ 11, .int .i64 j2, slotOf σ 13, slotOf σ 14, slotOf σ 15, slotOf σ 16, slotOf σ 17, slotOf σ 18, slotOf σ 19, slotOf σ 20, slotOf σ 21, slotOf σ 22, slotOf σ 23, slotOf σ 24, slotOf σ 25, slotOf σ 26, slotOf σ 27, slotOf σ 28, slotOf σ 29, slotOf σ 30, slotOf σ 31, slotOf σ 32, slotOf σ 33, slotOf σ 34, slotOf σ 35, slotOf σ 36, slotOf σ 37, slotOf σ 38, slotOf σ 39, slotOf σ 40, slotOf σ 41, slotOf σ 42, slotOf σ 43, slotOf σ 44, slotOf σ 45, slotOf σ 46, slotOf σ 47, slotOf σ 48, slotOf σ 49, slotOf σ 50, slotOf σ 51, slotOf σ 52, slotOf σ 53, slotOf σ 54, slotOf σ 55, slotOf σ 56, slotOf σ 57, slotOf σ 58, slotOf σ 59, slotOf σ 60, slotOf σ 61, slotOf σ 62, slotOf σ 63, slotOf σ 64, slotOf σ 65, slotOf σ 66, slotOf σ 67, slotOf σ 68, slotOf σ 69, slotOf σ 70, slotOf σ 71, slotOf σ 72, slotOf σ 73, slotOf σ 74, slotOf σ 75, slotOf σ 76, slotOf σ 77, slotOf σ 78, slotOf σ 79, slotOf σ 80, slotOf σ 81, slotOf σ 82, slotOf σ 83, slotOf σ 84, slotOf σ 85, slotOf σ 86, slotOf σ 87, slotOf σ 88, slotOf σ 89, slotOf σ 90], [.slice .imm (if (p.vars.map dV).isEmpty = true then 0 else 3) (p.vars.map dV), .slice .imm (if (p.procs.map dP).isEmpty = true then 0 else 6) (p.procs.map dP), .int .u8 p.main.kind, .int .i64 p.main.num, .str p.main.name, .slice .imm (if (p.main.kids.map dN).isEmpty = true then 0 else 4) (p.main.kids.map dN)] :: [.int .u8 p.procs[k].body.kind, .int .i64 p.procs[k].body.num, .str p.procs[k].body.name, .slice .imm (if (p.procs[k].body.kids.map dN).isEmpty = true then 0 else 4) (p.procs[k].body.kids.map dN)] :: r3, nx, lv⟩ ∧ m = (cnT p.procs[k].body).length - j2 ∧ j2 ≤ (cnT p.procs[k].body).length) ?_ ((cnT p.procs[k].body).length) _ ?_
   rotate_left
   ·exact ⟨0, _, rfl, rfl, Nat.zero_le _⟩
   rintro m σ ⟨j2, r3, hσ, rfl, hj2⟩
   generalize slotOf σ = x at hσ
   subst hσ
   refine X_seq ?_
   refine X_seq ?_
   refine X_rg fun R hR => ?_
   simp only [EVP, nat_lt, aops, astep, awant, aeff, aop, abin, aint, ev, St.put, zg1, zg0, zgd, zmo, if_true, zs1, zs0, zlm, und_string]
   with_reducible refine hR _ ?_
   clear hR R
   show X _ _ _ _
   refine X_ite (by simp only [ev, zg1, zg0, zgd]; exact rfl) ?_ ?_
   ·intro b6
    have c6 := b6
    try simp only [decide_eq_true_eq] at c6
    refine X_skip ?_
    show X _ _ _ _
    refine X_seq ?_
    refine X_block ?_
    have hn_hlt := idx_n (f := dP) (n := 6) hlt
    have e_hlt : (p.procs.map dP)[i]? = some (.agg [.str p.procs[i].name, .slice .imm (if (p.procs[i].params.map dV).isEmpty = true then 0 else 3) (p.procs[i].params.map dV), .int .u8 p.procs[i].body.kind, .int .i64 p.procs[i].body.num, .str p.procs[i].body.name, .slice .imm (if (p.procs[i].body.kids.map dN).isEmpty = true then 0 else 4) (p.procs[i].body.kids.map dN)]) := by rw [List.getElem?_map, List.getElem?_eq_getElem hlt]; rfl
    have hjm : j2 < (cnT p.procs[k].body).length := by first | assumption | omega | simp_all
    have hn_m := idx_n (f := dS) (n := 1) hjm
    have e_m : ((cnT p.procs[k].body).map dS)[j2]? = some (.str (cnT p.procs[k].body)[j2]) := by rw [List.getElem?_map, List.getElem?_eq_getElem hjm]; rfl
    refine X_y ?_
    refine Y_k 2 fun R hR => ?_
    simp only [EVP, aops, astep, awant, aeff, aop, ev, St.put, zg1, zg0, zgd, zmo, if_true, zs1, zs0, zt1, zt0, decide_true, hjm]
    with_reducible refine hR _ ?_
    clear hR R
    simp only [zd1, zd0]
    refine Y_if 69 (by simp only [ev, zg1, zg0, zgd]; exact rfl) ?_ ?_
    ·intro b7
     have c7 := b7
     try simp only [znt, znf, decide_eq_true_eq, decide_eq_false_iff_not, beq_iff_eq, Int.not_lt, Int.not_le, ge_iff_le, gt_iff_lt, bne_iff_ne, ne_eq, bne_eq_false_iff_eq, beq_eq_false_iff_ne, zat, zof] at c7
     refine Y_end fun R hR => ?_
     simp only [EVP, aops, astep, awant, aeff, aop, abin, ev, ofValue, St.put, zg1, zg0, zgd, zmo, Option.map_none, zbs, if_true, zs1, zs0, Nat.zero_add, zft, if_false, reduceCtorEq, bq_tf, ty_string, ty_s_api_Proc, ty_api_Proc, ty_api_Program, und_api_Proc, und_string, b7]
     with_reducible refine hR _ ?_
     clear hR R
     show X _ _ _ _
     have hbig2 : j2 < 9223372036854775807 := by omega
     refine X_rg fun R hR => ?_
     simp only [inr_i64, Int.reduceLE, Int.reduceNeg, aops, astep, awant, aeff, aop, abin, aint, ev, ofValue, St.put, zg1, zg0, zgd, zmo, if_true, zs1, zs0, and_self, nat_succ hbig2]
     with_reducible refine hR _ ?_
     clear hR R
     show ∃ m, m < _ ∧ _
     have hst := calledB_step (s := p.procs[i].name) hjm
     rw [b7] at hst
     simp only [Bool.true_or] at hst
     exact ⟨(cnT p.procs[k].body).length - (j2 + 1), by omega, j2 + 1, _, by rw [hst]; rfl, rfl, by omega⟩
    ·intro b8
     have c8 := b8
     try simp only [znt, znf, decide_eq_true_eq, decide_eq_false_iff_not, beq_iff_eq, Int.not_lt, Int.not_le, ge_iff_le, gt_iff_lt, bne_iff_ne, ne_eq, bne_eq_false_iff_eq, beq_eq_false_iff_ne, zat, zof] at c8
     refine Y_end fun R hR => ?_
     simp only [EVP, nat_lt, nat_0, nat_to, aops, astep, awant, aeff, aop, abin, astr, mkD, ev, ofValue, St.put, ia_str, cl_str, ia_slice, zg1, zg0, zgd, zmo, zbs, if_true, zs1, zs0, zlm, zlc, zln, zd1, zd0, zt1, zt0, Nat.reduceAdd, Nat.reduceLeDiff, Nat.zero_add, zft, if_false, and_self, reduceCtorEq, beq_self_eq_true, zis, ty_string, ty_s_api_Proc, ty_api_Proc, ty_api_Program, und_api_Proc, siz_api_Proc, inf_api_Proc_eq, und_string, siz_string, inf_string_eq, b8, hlt, hn_hlt, e_hlt, hjm, hn_m, e_m]
     with_reducible refine hR _ ?_
     clear hR R
     show X _ _ _ _
     have hbig2 : j2 < 9223372036854775807 := by omega
     refine X_rg fun R hR => ?_
     simp only [inr_i64, Int.reduceLE, Int.reduceNeg, aops, astep, awant, aeff, aop, abin, aint, ev, ofValue, St.put, zg1, zg0, zgd, zmo, if_true, zs1, zs0, and_self, nat_succ hbig2]
     with_reducible refine hR _ ?_
     clear hR R
     show ∃ m, m < _ ∧ _
     have hst := calledB_step (s := p.procs[i].name) hjm
     rw [b8] at hst
     simp only [Bool.false_or] at hst
     exact ⟨(cnT p.procs[k].body).length - (j2 + 1), by omega, j2 + 1, _, by rw [hst]; rfl, rfl, by omega⟩
   ·intro b9
    have c9 := b9
    try simp only [decide_eq_false_iff_not] at c9
    refine X_exit ?_
    show X _ _ _ _
    refine X_seq ?_
    have hjz : j2 = (cnT p.procs[k].body).length := by first | omega | (simp_all; omega)
    subst hjz
    refine X_y ?_
    refine Y_k 2 fun R hR => ?_
    simp only [EVP, aops, astep, awant, aeff, aop, ev, St.put, zg1, zg0, zgd, zmo, if_true, zs1, zs0, zt1, zt0, b9]
    with_reducible refine hR _ ?_
    clear hR R
    simp only [zd1, zd0]
    refine Y_if 83 (by simp only [ev, zg1, zg0, zgd]; exact rfl) ?_ ?_
    ·intro b10
     have c10 := b10
     try simp only [znt, znf, decide_eq_true_eq, decide_eq_false_iff_not, beq_iff_eq, Int.not_lt, Int.not_le, ge_iff_le, gt_iff_lt, bne_iff_ne, ne_eq, bne_eq_false_iff_eq, beq_eq_false_iff_ne, zat, zof] at c10
     refine Y_end fun R hR => ?_
     simp only [aops, astep, awant, aeff, aop, ev, ofValue, St.put, zg1, zg0, zgd, zmo, zbs, if_true, zs1, zs0, beq_self_eq_true, b10]
     with_reducible refine hR _ ?_
     clear hR R
     show X _ _ _ _
     refine X_ite (by simp only [ev, zg1, zg0, zgd]; exact rfl) ?_ ?_
     ·intro b11
      have c11 := b11
      try simp only [znt, znf, decide_eq_true_eq, decide_eq_false_iff_not, beq_iff_eq, Int.not_lt, Int.not_le, ge_iff_le, gt_iff_lt, bne_iff_ne, ne_eq, bne_eq_false_iff_eq, beq_eq_false_iff_ne, zat, zof] at c11
      have hpl := pickI_len p (cnT p.procs[k].body) i
      have hap := fun fr bx => (ha.out.more nx).app (P := Try.prog) (σ := ⟨fr, bx, nx + 1, nx :: lv⟩) (t := 39) (o2 := .own nx 3) (l2 := [.int .i64 i]) und_int inf_int_eq inf_int_size (by omega) (by rw [inf_int_bytes]; omega) inf_int_zc (by simp; omega) (by simp)
      refine X_rg fun R hR => ?_
      simp only [EVP, aops, astep, awant, aeff, aop, abuild, ev, ofValue, St.put, gd_int, cl_int, zmc, zmn, zg1, zg0, zgd, zmo, if_true, zs1, zs0, zlc, zln, Nat.reduceLeDiff, Nat.reduceLT, Nat.zero_add, Bool.and_true, and_self, List.all_cons, List.all_nil, beq_self_eq_true, Nat.reduceMul, rng_1, und_int, inf_int_eq, inf_int_size, inf_int_zero, b11, hap]
      with_reducible refine hR _ ?_
      clear hR R
      show X _ _ _ _
      have hbig3 : i < 9223372036854775807 := by omega
      refine X_rg fun R hR => ?_
      simp only [inr_i64, Int.reduceLE, Int.reduceNeg, aops, astep, awant, aeff, aop, abin, aint, ev, ofValue, St.put, zg1, zg0, zgd, zmo, if_true, zs1, zs0, and_self, nat_succ hbig3]
      with_reducible refine hR _ ?_
      clear hR R
      show ∃ m, m < _ ∧ _
      have hst := pickI_step (l := (cnT p.procs[k].body)) hlt
      rw [if_pos (by simp_all; done)] at hst
      have hst2 : (pickI p (cnT p.procs[k].body) (i + 1)).map dI = (pickI p (cnT p.procs[k].body) i).map dI ++ [.int .i64 (i : Int)] := by rw [hst, List.map_append]; rfl
      exact ⟨p.procs.length - (i + 1), by omega, i + 1, _, _, _, _, _, by rw [hst2]; rfl, rfl, by omega, Lib.hid (by rw [hst2]; exact .own (by simp))⟩
     ·intro b12
      have c12 := b12
      try simp only [znt, znf, decide_eq_true_eq, decide_eq_false_iff_not, beq_iff_eq, Int.not_lt, Int.not_le, ge_iff_le, gt_iff_lt, bne_iff_ne, ne_eq, bne_eq_false_iff_eq, beq_eq_false_iff_ne, zat, zof] at c12
      refine X_skip ?_
      show X _ _ _ _
      have hbig3 : i < 9223372036854775807 := by omega
      refine X_rg fun R hR => ?_
      simp only [inr_i64, Int.reduceLE, Int.reduceNeg, aops, astep, awant, aeff, aop, abin, aint, ev, ofValue, St.put, zg1, zg0, zgd, zmo, if_true, zs1, zs0, and_self, b12, nat_succ hbig3]
      with_reducible refine hR _ ?_
      clear hR R
      show ∃ m, m < _ ∧ _
      have hst := pickI_step (l := (cnT p.procs[k].body)) hlt
      rw [if_neg (by simp_all; done)] at hst
      exact ⟨p.procs.length - (i + 1), by omega, i + 1, _, _, _, _, _, by rw [hst]; rfl, rfl, by omega, Lib.hid (by rw [hst]; exact ha.out)⟩
    ·intro b13
     have c13 := b13
     try simp only [znt, znf, decide_eq_true_eq, decide_eq_false_iff_not, beq_iff_eq, Int.not_lt, Int.not_le, ge_iff_le, gt_iff_lt, bne_iff_ne, ne_eq, bne_eq_false_iff_eq, beq_eq_false_iff_ne, zat, zof] at c13
     refine Y_end fun R hR => ?_
     simp only [aops, astep, awant, aeff, aop, ev, ofValue, St.put, zg1, zg0, zgd, zmo, zbs, if_true, zs1, zs0, zft, if_false, bq_ft, b13]
     with_reducible refine hR _ ?_
     clear hR R
     show X _ _ _ _
     refine X_false (by simp only [ev, zg1, zg0, zgd]) ?_
     refine X_skip ?_
     show X _ _ _ _
     have hbig3 : i < 9223372036854775807 := by omega
     refine X_rg fun R hR => ?_
     simp only [inr_i64, Int.reduceLE, Int.reduceNeg, aops, astep, awant, aeff, aop, abin, aint, ev, ofValue, St.put, zg1, zg0, zgd, zmo, if_true, zs1, zs0, and_self, nat_succ hbig3]
     with_reducible refine hR _ ?_
     clear hR R
     show ∃ m, m < _ ∧ _
     have hst := pickI_step (l := (cnT p.procs[k].body)) hlt
     rw [if_neg (by simp_all; done)] at hst
     exact ⟨p.procs.length - (i + 1), by omega, i + 1, _, _, _, _, _, by rw [hst]; rfl, rfl, by omega, Lib.hid (by rw [hst]; exact ha.out)⟩
 ·intro b14
  have c14 := b14
  try simp only [decide_eq_false_iff_not] at c14
  refine X_exit ?_
  show X _ _ _ _
  refine X_seq ?_
  refine X_rg fun R hR => ?_
  simp only [aops, astep, awant, aeff, aop, ev, St.put, zg1, zg0, zgd, zmo, if_true, zs1, zs0, b14]
  with_reducible refine hR _ ?_
  clear hR R
  show X _ _ _ _
  refine X_ret ?_
  show ∃ d, resD _ _ _ = some d ∧ _ ∧ _
  have hiz : i = p.procs.length := by first | omega | (simp_all; omega)
  subst hiz
  refine ⟨_, by simp only [resD, resAll, resOne, resTup, Try.results26, EVP, zg1, zg0, D.good, if_true, zmo] <;> exact rfl, ?_, ?_⟩
  ·simp only [D.under, D.unders_all, List.all_eq_true]; intro d hd; obtain ⟨x, _, rfl⟩ := List.mem_map.1 hd; rfl
  ·rw [ha.out.strip, List.map_map, show (D.strip ∘ dI) = dI from rfl]; rfl
theorem rcalls_fn (p : Pg) (hs : Sml p) (q : Int) : fn EV 26 [dG p, .int .i64 q] = some (sl 1 ((rclF p q).map dI)) := by
 unfold rclF
 by_cases h1 : q < -1
 ·rw [bodyAt_bad p q (.inl h1)]; exact rcalls_b1 p hs q h1
 by_cases h2 : (p.procs.length : Int) ≤ q
 ·rw [bodyAt_bad p q (.inr h2)]; exact rcalls_b2 p hs q h1 h2
 by_cases h3 : q = -1
 ·subst h3; exact rcalls_m p hs
 ·obtain ⟨k, rfl⟩ : ∃ k : Nat, q = (k : Int) := ⟨q.toNat, by omega⟩
  have hk : k < p.procs.length := by omega
  rw [bodyAt_proc p k hk]
  exact rcalls_k p hs k hk

end Go.Proofs.Ytkkhjpkkjpcbmaa
