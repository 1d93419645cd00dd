import Derived.Test.YtmglacjcefajlaaEnv
import Derived.Test.YtmglacjcefajlaaBK
/- Find, Proc. -/
namespace Go.Proofs.Ytmglacjcefajlaa
open Go.RowKit
theorem und_string : Try.prog.underlying 89 = some (.slice 9) := by kernel_rfl
theorem siz_string : Try.prog.cellsOf 9 = 1 := by kernel_rfl
noncomputable def inf_string : TypeInfo := (Try.prog.info? 9).getD default
theorem inf_string_eq : Try.prog.info? 9 = some inf_string := by kernel_rfl
theorem inf_string_size : inf_string.size = 1 := by kernel_rfl
theorem inf_string_zero : inf_string.zero.isSome = true := by kernel_rfl
def noV : Vd := ⟨⟨#[]⟩, 0, 0⟩
def findN (l : List Vd) (s : ByteArray) : Nat → Vd × Bool
 | 0 => (noV, false)
 | i + 1 => match l[i]? with
  | some v => if v.name.toList == s.toList then (v, true) else findN l s i
  | none => findN l s i
theorem findN_y {l : List Vd} {s : ByteArray} {i : Nat} (h : i < l.length) (h' : (l[i].name.toList == s.toList) = true) : findN l s (i + 1) = (l[i], true) := by
 simp only [findN, List.getElem?_eq_getElem h, h', if_true]
theorem findN_n {l : List Vd} {s : ByteArray} {i : Nat} (h : i < l.length) (h' : (l[i].name.toList == s.toList) = false) : findN l s (i + 1) = findN l s i := by
 simp only [findN, List.getElem?_eq_getElem h, h', zft, if_false]
theorem sub1 {i : Nat} (h : i ≤ 9223372036854775807) : IntKind.i64.wrap ((i : Int) - 1) = (i : Int) - 1 := by
 simp only [IntKind.wrap, IntKind.bits, IntKind.signed]; simp; omega
set_option maxRecDepth 100000 in
set_option maxHeartbeats 4000000 in
theorem find_fn (l : List Vd) (s : ByteArray) (hl : l.length ≤ 9223372036854775807) : fn EV 55 [sl 3 (l.map dV), .str s] = some (.tup [dV (findN l s l.length).1, .bool (findN l s l.length).2]) := by
 refine fn_X rfl Try.func55 rfl (by simp only [plain, List.all_cons, List.all_nil, sl_under (map_under (f := dV) (fun _ => rfl) l), Bool.and_true, Bool.true_and]; rfl) (rfl) (rfl) (rfl) ?_
 simp only [zmc, zmn, D.strip, sl_strip (map_strip (f := dV) (fun _ => rfl) l)]
 simp only [enterSt, Try.ntmps55, zlc, zln, Nat.reduceAdd, Nat.reduceSub, zr1, zr0, zca, zna]
 refine X_seq ?_
 refine X_rg fun R hR => ?_
 simp only [EVP, aops, astep, awant, aeff, aop, ev, ofValue, St.put, zgd, zmo, zbs, if_true, zs1, zs0, zln, zna, ty_api_VarDecl, sl]
 with_reducible refine hR _ ?_
 clear hR R
 show X _ _ _ _
 refine X_seq ?_
 refine X_seq ?_
 have hs1 := sub1 hl
 refine X_rg fun R hR => ?_
 simp only [EVP, inr_i64, Int.reduceLE, Int.reduceNeg, aops, astep, awant, aeff, aop, abin, aint, ev, ofValue, St.put, zg1, zg0, zgd, zmo, if_true, zs1, zs0, zlm, and_self, und_api_VarDecl, hs1]
 with_reducible refine hR _ ?_
 clear hR R
 show X _ _ _ _
 refine X_block ?_
 refine X_loop (fun m σ => ∃ (i : Nat) (r : List (List D)), σ = ⟨[.slice .imm (if (l.map dV).isEmpty = true then 0 else 3) (l.map dV), .str s, slotOf σ 2, slotOf σ 3, .ptr 0 0, slotOf σ 5, .int .i64 ((i : Int) - 1), slotOf σ 7, slotOf σ 8, slotOf σ 9, slotOf σ 10, slotOf σ 11, slotOf σ 12, slotOf σ 13, slotOf σ 14, slotOf σ 15, slotOf σ 16, slotOf σ 17, slotOf σ 18, slotOf σ 19, slotOf σ 20, slotOf σ 21, slotOf σ 22, slotOf σ 23, slotOf σ 24, slotOf σ 25], [.str ⟨#[]⟩, .int .u8 0, .int .i64 0] :: r, 0, []⟩ ∧ m = i ∧ i ≤ l.length ∧ Hid (findN l s l.length = findN l s i)) ?_ (l.length) _ ?_
 rotate_left
 ·exact ⟨l.length, [], rfl, rfl, Nat.le_refl _, Lib.hid rfl⟩
 rintro m σ ⟨i, r, hσ, rfl, hi, hf⟩
 generalize slotOf σ = x at hσ
 subst hσ
 have hn : ∀ j, j < l.length → ((if (l.map dV).isEmpty = true then 0 else 3) = 3) = True := fun j h => eq_true (sl_n (j := j) (by simpa using h))
 refine X_seq ?_
 refine X_seq ?_
 refine X_rg fun R hR => ?_
 simp only [inr_i64, Int.reduceLE, Int.reduceNeg, aops, astep, awant, aeff, aop, abin, aint, ev, ofValue, St.put, zg1, zg0, zgd, zmo, if_true, zs1, zs0, and_self]
 with_reducible refine hR _ ?_
 clear hR R
 show X _ _ _ _
 refine X_ite (by simp only [ev, zg1, zg0, zgd]; exact rfl) ?_ ?_
 ·intro b1
  have c1 := b1
  try simp only [decide_eq_true_eq, ge_iff_le] at c1
  refine X_skip ?_
  show X _ _ _ _
  refine X_seq ?_
  refine X_block ?_
  refine X_seq ?_
  obtain ⟨j, rfl⟩ : ∃ j, m = j + 1 := ⟨m - 1, by omega⟩
  have hlt : j < l.length := by omega
  have hn1 := hn j hlt
  have e1 : (l.map dV)[j]? = some (dV l[j]) := by simp [hlt]
  have ei : ((j + 1 : Nat) : Int) - 1 = (j : Int) := by omega
  refine X_rg fun R hR => ?_
  simp only [EVP, nat_lt, nat_0, nat_to, aops, astep, awant, aeff, aop, abin, astr, ev, St.put, ia_str, cl_str, zg1, zg0, zgd, zmo, if_true, zs1, zs0, zlm, zlc, zln, zd0, zt1, zt0, Nat.reduceAdd, Nat.reduceLeDiff, Nat.zero_add, zft, if_false, and_self, reduceCtorEq, decide_true, zis, ty_string, ty_api_VarDecl, und_api_VarDecl, siz_api_VarDecl, inf_api_VarDecl_eq, dV, ei, hlt, hn1, e1]
  with_reducible refine hR _ ?_
  clear hR R
  show X _ _ _ _
  refine X_ite (by simp only [ev, zg1, zg0, zgd]; exact rfl) ?_ ?_
  ·intro b2
   have c2 := b2
   try simp only [beq_iff_eq] at c2
   refine X_seq ?_
   refine X_rg fun R hR => ?_
   simp only [EVP, nat_lt, nat_0, nat_to, aops, astep, awant, aeff, aop, astore, ev, ofValue, St.put, gd_agg, ia_agg, cl_agg, zg1, zg0, zgd, zmo, if_true, zs1, zs0, zlm, zlc, zln, zd1, zd0, zt0, zca, zna, Nat.reduceAdd, Nat.reduceLeDiff, Nat.zero_add, and_self, beq_self_eq_true, zis, ty_api_VarDecl, und_api_VarDecl, siz_api_VarDecl, inf_api_VarDecl_eq, dV, c2, hlt, hn1, e1]
   with_reducible refine hR _ ?_
   clear hR R
   show X _ _ _ _
   refine X_ret ?_
   show resD _ _ _ = some _
   simp only [resD, resAll, resOne, resTup, Try.results55, EVP, mkD, ty_api_VarDecl, zg1, zg0, zd0, zt1, zt0, zlc, zln, Nat.reduceAdd, Nat.reduceLeDiff, Nat.zero_add, D.good, if_true, zmo]
   first | (rw [hf.out, findN_y hlt (by assumption)]; rfl; done) | (rw [hf.out, show m = 0 from by omega]; rfl; done) | (exfalso; simp_all; done)
  ·intro b3
   have c3 := b3
   try simp only [ne_eq, beq_eq_false_iff_ne] at c3
   refine X_skip ?_
   show X _ _ _ _
   have hs2 := sub1 (i := j) (by omega)
   refine X_rg fun R hR => ?_
   simp only [inr_i64, Int.reduceLE, Int.reduceNeg, aops, astep, awant, aeff, aop, abin, aint, ev, ofValue, St.put, zg1, zg0, zgd, zmo, if_true, zs1, zs0, and_self, b3, hs2]
   with_reducible refine hR _ ?_
   clear hR R
   show ∃ m, m < _ ∧ _
   exact ⟨j, by omega, j, _, rfl, rfl, by omega, Lib.hid (hf.out.trans (findN_n hlt (by first | assumption | simp_all)))⟩
 ·intro b4
  have c4 := b4
  try simp only [decide_eq_false_iff_not, Int.not_le, ge_iff_le] at c4
  refine X_exit ?_
  show X _ _ _ _
  refine X_seq ?_
  refine X_rg fun R hR => ?_
  simp only [EVP, aops, astep, awant, aeff, aop, afill, astore, ev, ofValue, St.put, gd_agg, cl_agg, zmn, zg1, zg0, zgd, zmo, if_true, zs1, zs0, zlc, zln, zd1, zd0, zt0, zca, zna, Nat.reduceAdd, Nat.reduceLeDiff, Nat.zero_add, and_self, ty_api_VarDecl, st_api_VarDecl, sta_api_VarDecl, b4]
  with_reducible refine hR _ ?_
  clear hR R
  show X _ _ _ _
  refine X_ret ?_
  show resD _ _ _ = some _
  simp only [resD, resAll, resOne, resTup, Try.results55, EVP, mkD, ty_api_VarDecl, zg1, zg0, zd0, zt1, zt0, zlc, zln, Nat.reduceAdd, Nat.reduceLeDiff, Nat.zero_add, D.good, if_true, zmo]
  first | (rw [hf.out, findN_y hlt (by assumption)]; rfl; done) | (rw [hf.out, show m = 0 from by omega]; rfl; done) | (exfalso; simp_all; done)
def idxN (l : List Pr) (s : ByteArray) : Nat → Nat → Int
 | _, 0 => -1
 | i, k + 1 => match l[i]? with
  | some q => if q.name.toList == s.toList then (i : Int) else idxN l s (i + 1) k
  | none => -1
theorem idxN_y {l : List Pr} {s : ByteArray} {i : Nat} (h : i < l.length) (h' : (l[i].name.toList == s.toList) = true) : idxN l s i (l.length - i) = i := by
 obtain ⟨k, hk⟩ : ∃ k, l.length - i = k + 1 := ⟨l.length - i - 1, by omega⟩
 rw [hk]; simp only [idxN, List.getElem?_eq_getElem h, h', if_true]
theorem idxN_n {l : List Pr} {s : ByteArray} {i : Nat} (h : i < l.length) (h' : (l[i].name.toList == s.toList) = false) : idxN l s i (l.length - i) = idxN l s (i + 1) (l.length - (i + 1)) := by
 obtain ⟨k, hk⟩ : ∃ k, l.length - i = k + 1 := ⟨l.length - i - 1, by omega⟩
 rw [hk, show l.length - (i + 1) = k from by omega]; simp only [idxN, List.getElem?_eq_getElem h, h', zft, if_false]
set_option maxRecDepth 100000 in
set_option maxHeartbeats 4000000 in
theorem clo_cal (q : Pr) (s : ByteArray) (b : Nat) (fr : List D) (B : List (List D)) (nx : Nat) (lv : List Nat) (hb : B[b]? = some [.str s]) (hfr : Free B) : cal EV 57 [dP q, .ptr b 0] ⟨fr, B, nx, lv⟩ = some (.bool (q.name.toList == s.toList), ⟨fr, B, nx, lv⟩) := by
 have hb2 : ∀ c, (B ++ [c])[b]? = some [.str s] := fun c => by rw [List.getElem?_append_left (List.getElem?_eq_some_iff.1 hb).1]; exact hb
 refine cal_X (σ := ⟨fr, B, nx, lv⟩) rfl Try.func57 rfl (by simp [plain, D.under, dP_under]) rfl (hfr.all _) ?_
 simp only [enterSt, Try.ntmps57, zlc, zln, Nat.reduceAdd, Nat.reduceSub, zr1, zr0, zca, zna]
 refine X_seq ?_
 refine X_rc fun R hR => ?_
 simp only [aops, astep, awant, aeff, aop, ev, ofValue, St.put, gd_agg, cl_agg, zg0, zgd, zmo, if_true, zs1, zs0, sl, dP]
 with_reducible refine hR _ ?_
 clear hR R
 show X _ _ _ _
 refine X_seq ?_
 refine X_rc fun R hR => ?_
 simp only [EVP, app_get0, aops, astep, awant, aeff, aop, abin, astr, mkD, ev, St.put, ia_str, zg1, zg0, zgd, zmo, if_true, zs1, zs0, zlc, zln, zd0, zt1, zt0, Nat.reduceAdd, Nat.reduceLeDiff, Nat.zero_add, Nat.add_zero, zft, if_false, reduceCtorEq, ty_string, ty_api_Proc, hb2]
 with_reducible refine hR _ ?_
 clear hR R
 show X _ _ _ _
 refine X_ret ?_
 show _ ∧ _
 refine ⟨.inr rfl, ?_, by simp, by simp, rfl, rfl⟩
 simp only [resD, resAll, resOne, resTup, Try.results57, EVP, zg1, zg0, D.good, if_true, zmo] <;> rfl
set_option maxRecDepth 100000 in
set_option maxHeartbeats 4000000 in
theorem idx_cal (l : List Pr) (s : ByteArray) (b : Nat) (fr : List D) (B : List (List D)) (nx : Nat) (lv : List Nat) (hll : l.length ≤ 9223372036854775807) (hb : B[b]? = some [.str s]) (hfr : Free B) : cal EV 56 [sl 6 (l.map dP), .fn 57 [.ptr b 0]] ⟨fr, B, nx, lv⟩ = some (.int .i64 (idxN l s 0 l.length), ⟨fr, B, nx, lv⟩) := by
 refine cal_X (σ := ⟨fr, B, nx, lv⟩) rfl Try.func56 rfl (by simp [plain, D.under, D.unders, sl_under (map_under (f := dP) (dP_under 0) _)]) rfl (hfr.all _) ?_
 simp only [enterSt, Try.ntmps56, zlc, zln, Nat.reduceAdd, Nat.reduceSub, zr1, zr0, zca, zna]
 refine X_seq ?_
 refine X_rc fun R hR => ?_
 simp only [inr_i64, Int.reduceLE, Int.reduceNeg, aops, astep, awant, aeff, aop, ev, ofValue, St.put, zgd, zmo, if_true, zs1, zs0, and_self, sl]
 with_reducible refine hR _ ?_
 clear hR R
 show X _ _ _ _
 refine X_seq ?_
 refine X_seq ?_
 refine X_rc fun R hR => ?_
 simp only [EVP, inr_i64, Int.reduceLE, Int.reduceNeg, aops, astep, awant, aeff, aop, ev, ofValue, St.put, zg1, zg0, zgd, zmo, if_true, zs1, zs0, zlm, and_self, und_api_Proc]
 with_reducible refine hR _ ?_
 clear hR R
 show X _ _ _ _
 refine X_block ?_
 refine X_loop (fun m σ => ∃ (i : Nat), σ = ⟨[.slice .imm (if (l.map dP).isEmpty = true then 0 else 6) (l.map dP), .fn 57 [.ptr b 0], slotOf σ 2, slotOf σ 3, slotOf σ 4, slotOf σ 5, .slice .imm (if (l.map dP).isEmpty = true then 0 else 6) (l.map dP), .int .i64 l.length, .int .i64 i, slotOf σ 9, slotOf σ 10, slotOf σ 11, slotOf σ 12, slotOf σ 13, slotOf σ 14, slotOf σ 15, slotOf σ 16, slotOf σ 17, slotOf σ 18], B, nx, lv⟩ ∧ m = l.length - i ∧ i ≤ l.length ∧ Hid (idxN l s 0 l.length = idxN l s i (l.length - i))) ?_ (l.length) _ ?_
 rotate_left
 ·exact ⟨0, rfl, rfl, Nat.zero_le _, Lib.hid rfl⟩
 rintro m σ ⟨i, hσ, rfl, hi, hf⟩
 generalize slotOf σ = x at hσ
 subst hσ
 have hn : ∀ j, j < l.length → ((if (l.map dP).isEmpty = true then 0 else 6) = 6) = True := fun j h => eq_true (sl_n (j := j) (by simpa using h))
 refine X_seq ?_
 refine X_rc fun R hR => ?_
 simp only [nat_lt, aops, astep, awant, aeff, aop, abin, aint, ev, St.put, zg1, zg0, zgd, zmo, if_true, zs1, zs0]
 with_reducible refine hR _ ?_
 clear hR R
 show X _ _ _ _
 refine X_seq ?_
 refine X_ite (by simp only [ev, zg1, zg0, zgd]; exact rfl) ?_ ?_
 ·intro b1
  have c1 := b1
  try simp only [decide_eq_true_eq] at c1
  refine X_skip ?_
  show X _ _ _ _
  refine X_seq ?_
  refine X_block ?_
  refine X_seq ?_
  have hlt : i < l.length := by first | assumption | omega
  refine X_rc fun R hR => ?_
  simp only [aops, astep, awant, aeff, aop, ev, St.put, zg1, zg0, zgd, zmo, if_true, zs1, zs0, decide_true, c1]
  with_reducible refine hR _ ?_
  clear hR R
  show X _ _ _ _
  refine X_seq ?_
  have hn1 := hn i hlt
  have e1 : (l.map dP)[i]? = some (dP l[i]) := by simp [hlt]
  have hc := fun fr => clo_cal l[i] s b fr B nx lv hb hfr
  have q1 : (dP l[i]).good = true := rfl
  have q2 : (dP l[i]).isAgg = true := rfl
  have q3 : (dP l[i]).cells.length = 6 := rfl
  refine X_rc fun R hR => ?_
  simp only [EVP, nat_lt, nat_0, nat_to, aops, astep, awant, aeff, aop, ev, St.put, zmc, zmn, zg1, zg0, zgd, zmo, if_true, zs1, zs0, zlm, zca, zna, and_self, zis, ty_api_Proc, und_api_Proc, siz_api_Proc, inf_api_Proc_eq, any57, c1, hn1, e1, hc, q2, q3]
  with_reducible refine hR _ ?_
  clear hR R
  show X _ _ _ _
  refine X_ite (by simp only [ev, zg1, zg0, zgd]; exact rfl) ?_ ?_
  ·intro b2
   have c2 := b2
   try simp only [beq_iff_eq] at c2
   refine X_seq ?_
   refine X_rc fun R hR => ?_
   simp only [aops, astep, awant, aeff, aop, ev, St.put, zg1, zg0, zgd, zmo, if_true, zs1, zs0, beq_self_eq_true, c2]
   with_reducible refine hR _ ?_
   clear hR R
   show X _ _ _ _
   refine X_ret ?_
   show _ ∧ _
   refine ⟨.inr rfl, ?_, by simp, by simp, rfl, rfl⟩
   simp only [resD, resAll, resOne, resTup, Try.results56, EVP, zg1, zg0, D.good, if_true, zmo]
   first | (rw [hf.out, idxN_y hlt (by assumption)]; done) | (rw [hf.out, show l.length - i = 0 from by omega]; rfl; done) | (exfalso; simp_all; done)
  ·intro b3
   have c3 := b3
   try simp only [ne_eq, beq_eq_false_iff_ne] at c3
   refine X_skip ?_
   show X _ _ _ _
   have hbig : i < 9223372036854775807 := by omega
   refine X_rc fun R hR => ?_
   simp only [inr_i64, Int.reduceLE, Int.reduceNeg, aops, astep, awant, aeff, aop, abin, aint, ev, ofValue, St.put, zg1, zg0, zgd, zmo, if_true, zs1, zs0, and_self, b3, nat_succ hbig]
   with_reducible refine hR _ ?_
   clear hR R
   show ∃ m, m < _ ∧ _
   exact ⟨l.length - (i + 1), by omega, i + 1, rfl, rfl, by omega, Lib.hid (hf.out.trans (idxN_n hlt (by first | assumption | simp_all)))⟩
 ·intro b4
  have c4 := b4
  try simp only [decide_eq_false_iff_not] at c4
  refine X_exit ?_
  show X _ _ _ _
  refine X_seq ?_
  refine X_rc fun R hR => ?_
  simp only [inr_i64, Int.reduceLE, Int.reduceNeg, aops, astep, awant, aeff, aop, ev, ofValue, St.put, zgd, zmo, if_true, zs1, zs0, and_self, decide_false, c4]
  with_reducible refine hR _ ?_
  clear hR R
  show X _ _ _ _
  refine X_ret ?_
  show _ ∧ _
  refine ⟨.inr rfl, ?_, by simp, by simp, rfl, rfl⟩
  simp only [resD, resAll, resOne, resTup, Try.results56, EVP, zg1, zg0, D.good, if_true, zmo]
  first | (rw [hf.out, idxN_y hlt (by assumption)]; done) | (rw [hf.out, show l.length - i = 0 from by omega]; rfl; done) | (exfalso; simp_all; done)
set_option maxRecDepth 100000 in
set_option maxHeartbeats 4000000 in
theorem proc_fn (p : Pg) (s : ByteArray) (hl : p.procs.length ≤ 9223372036854775807) : fn EV 36 [dG p, .str s] = some (.int .i64 (idxN p.procs s 0 p.procs.length)) := by
 have hF : Free [[.slice .imm (if (p.vars.map dV).isEmpty = true then 0 else 3) (p.vars.map dV), .slice .imm (if (p.procs.map dP).isEmpty = true then 0 else 6) (p.procs.map dP), .int .u8 p.main.kind, .int .i64 p.main.num, .str p.main.name, .slice .imm (if (p.main.kids.map dN).isEmpty = true then 0 else 4) (p.main.kids.map dN)], [.str s]] := fun cs hc m => by
  rcases List.mem_cons.1 hc with rfl | hc
  ·exact dG_under m p
  ·rcases List.mem_cons.1 hc with rfl | hc
   ·rfl
   ·cases hc
 have hI := fun fr => idx_cal p.procs s 1 fr [[.slice .imm (if (p.vars.map dV).isEmpty = true then 0 else 3) (p.vars.map dV), .slice .imm (if (p.procs.map dP).isEmpty = true then 0 else 6) (p.procs.map dP), .int .u8 p.main.kind, .int .i64 p.main.num, .str p.main.name, .slice .imm (if (p.main.kids.map dN).isEmpty = true then 0 else 4) (p.main.kids.map dN)], [.str s]] 0 [] hl rfl hF
 simp only [sl] at hI
 refine fn_X rfl Try.func36 rfl (by simp only [plain, List.all_cons, List.all_nil, dG_under 0 p, Bool.and_true, Bool.true_and]; rfl) (rfl) (rfl) (rfl) ?_
 simp only [zmc, zmn, D.strip, dG_strip]
 simp only [enterSt, Try.ntmps36, zlc, zln, Nat.reduceAdd, Nat.reduceSub, zr1, zr0, zca, zna]
 refine X_seq ?_
 refine X_rc fun R hR => ?_
 simp only [inr_i64, Int.reduceLE, Int.reduceNeg, aops, astep, awant, aeff, aop, ev, ofValue, St.put, gd_str, cl_str, gd_agg, cl_agg, zg1, zg0, zgd, zmo, if_true, zs1, zs0, zlc, zln, zca, zna, Nat.zero_add, and_self, sl, dG]
 with_reducible refine hR _ ?_
 clear hR R
 show X _ _ _ _
 refine X_seq ?_
 refine X_rc fun R hR => ?_
 simp only [EVP, aops, astep, awant, aeff, aop, mkD, ev, St.put, ia_slice, gd_ptr, ia_ptr, zmc, zmn, zg1, zg0, zgd, zmo, if_true, zs1, zs0, zlc, zln, zd1, zd0, zt1, zt0, zca, zna, Nat.reduceAdd, Nat.reduceLeDiff, Nat.zero_add, Bool.and_true, Bool.not_false, zft, if_false, and_self, reduceCtorEq, List.all_cons, List.all_nil, Array.isEmpty_empty, ty_s_api_Proc, ty_api_Program, any56, hI]
 with_reducible refine hR _ ?_
 clear hR R
 show X _ _ _ _
 refine X_ret ?_
 show resD _ _ _ = some _
 simp only [resD, resAll, resOne, resTup, Try.results36, EVP, zg1, zg0, D.good, if_true, zmo]

end Go.Proofs.Ytmglacjcefajlaa
