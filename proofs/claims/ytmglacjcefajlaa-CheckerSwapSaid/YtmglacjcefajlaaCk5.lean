/- The comparison of rejections; the examples. -/
import Derived.Test.YtmglacjcefajlaaAw9
namespace Go.Proofs.Ytmglacjcefajlaa
open Go.RowKit

theorem bool_pl (b : Bool) : ((D.bool b).under 0 && (D.bool b).good) = true := rfl
theorem dFt_pl : ∀ m x, (dFt x).under m = true := dFt_under
set_option maxRecDepth 100000 in
set_option maxHeartbeats 4000000 in
theorem same_t (l w : List Ft) (hlen : l.length = w.length) (hs : ∀ (i : Nat) (h1 : i < l.length) (h2 : i < w.length), SameF true l[i] w[i]) (hl : l.length ≤ 1000000) (hb : ∀ (i : Nat) (h : i < l.length), l[i].path.length ≤ 1000000) : fn EV 17 [sl 4 (l.map dFt), sl 4 (w.map dFt), .bool true] = some (.bool true) := by
 refine fn_X rfl Try.func17 rfl (by simp only [plain, List.all_cons, List.all_nil, sl_pl (f := dFt) dFt_pl, bool_pl, Bool.and_true]) (rfl) (rfl) (rfl) ?_
 simp only [zmc, zmn, D.strip, sl_strip (map_strip (f := dFt) dFt_strip _)]
 simp only [enterSt, Try.ntmps17, zlc, zln, Nat.reduceAdd, Nat.reduceSub, zr1, zr0, zca, zna]
 refine X_seq ?_
 refine X_rg fun R hR => ?_
 simp only [aops, astep, awant, aeff, aop, ev, ofValue, St.put, zgd, zmo, if_true, zs1, zs0, sl]
 with_reducible refine hR _ ?_
 clear hR R
 show X _ _ _ _
 refine X_seq ?_
 refine X_seq ?_
 have hne : ((l.length : Int) != (w.length : Int)) = false := by rw [hlen]; simp
 refine X_rg fun R hR => ?_
 simp only [EVP, aops, astep, awant, aeff, aop, abin, aint, ev, St.put, zg1, zg0, zgd, zmo, if_true, zs1, zs0, zlm, und_checker_Rejection, zlm, hne]
 with_reducible refine hR _ ?_
 clear hR R
 show X _ _ _ _
 refine X_false (by simp only [ev, zg1, zg0, zgd]) ?_
 refine X_skip ?_
 show X _ _ _ _
 refine X_seq ?_
 refine X_seq ?_
 refine X_rg fun R hR => ?_
 simp only [EVP, inr_i64, Int.reduceLE, Int.reduceNeg, aops, astep, awant, aeff, aop, ev, ofValue, St.put, zg1, zg0, zgd, zmo, if_true, zs1, zs0, zlm, and_self, und_checker_Rejection, zlm]
 with_reducible refine hR _ ?_
 clear hR R
 show X _ _ _ _
 refine X_block ?_
 refine X_loop (fun m σ => ∃ (i : Nat), σ = ⟨[.slice .imm (if (l.map dFt).isEmpty = true then 0 else 4) (l.map dFt), .slice .imm (if (w.map dFt).isEmpty = true then 0 else 4) (w.map dFt), .bool true, slotOf σ 3, slotOf σ 4, slotOf σ 5, slotOf σ 6, slotOf σ 7, slotOf σ 8, slotOf σ 9, slotOf σ 10, slotOf σ 11, slotOf σ 12, slotOf σ 13, slotOf σ 14, .int .i64 l.length, .int .i64 i, slotOf σ 17, slotOf σ 18, slotOf σ 19, slotOf σ 20, slotOf σ 21, slotOf σ 22, slotOf σ 23, slotOf σ 24, slotOf σ 25, slotOf σ 26, slotOf σ 27, slotOf σ 28, slotOf σ 29, slotOf σ 30, slotOf σ 31, slotOf σ 32, slotOf σ 33, slotOf σ 34, slotOf σ 35, slotOf σ 36, slotOf σ 37, slotOf σ 38, slotOf σ 39, slotOf σ 40, slotOf σ 41, slotOf σ 42, slotOf σ 43, slotOf σ 44, slotOf σ 45, slotOf σ 46, slotOf σ 47, slotOf σ 48, slotOf σ 49, slotOf σ 50, slotOf σ 51, slotOf σ 52, slotOf σ 53, slotOf σ 54, slotOf σ 55, slotOf σ 56, slotOf σ 57, slotOf σ 58, slotOf σ 59, slotOf σ 60, slotOf σ 61, slotOf σ 62, slotOf σ 63, slotOf σ 64, slotOf σ 65, slotOf σ 66, slotOf σ 67, slotOf σ 68, slotOf σ 69, slotOf σ 70, slotOf σ 71, slotOf σ 72, slotOf σ 73, slotOf σ 74, slotOf σ 75, slotOf σ 76, slotOf σ 77, slotOf σ 78, slotOf σ 79, slotOf σ 80, slotOf σ 81, slotOf σ 82, slotOf σ 83, slotOf σ 84, slotOf σ 85, slotOf σ 86, slotOf σ 87, slotOf σ 88, slotOf σ 89, slotOf σ 90, slotOf σ 91, slotOf σ 92, slotOf σ 93, slotOf σ 94, slotOf σ 95, slotOf σ 96, slotOf σ 97, slotOf σ 98, slotOf σ 99, slotOf σ 100, slotOf σ 101], [], 0, []⟩ ∧ m = l.length - i ∧ i ≤ l.length) ?_ (l.length) _ ?_
 rotate_left
 ·exact ⟨0, rfl, rfl, Nat.zero_le _⟩
 rintro m σ ⟨i, hσ, rfl, hi⟩
 generalize slotOf σ = x at hσ
 subst hσ
 refine X_seq ?_
 refine X_rg fun R hR => ?_
 simp only [nat_lt, aops, astep, awant, aeff, aop, abin, aint, ev, St.put, zg1, zg0, zgd, zmo, if_true, zs1, zs0]
 with_reducible refine hR _ ?_
 clear hR R
 show X _ _ _ _
 refine X_seq ?_
 refine X_ite (by simp only [ev, zg1, zg0, zgd]; exact rfl) ?_ ?_
 ·intro b1
  have c1 := b1
  try simp only [decide_eq_true_eq] at c1
  refine X_skip ?_
  show X _ _ _ _
  refine X_seq ?_
  refine X_block ?_
  refine X_seq ?_
  refine X_rg fun R hR => ?_
  simp only [aops, astep, awant, aeff, aop, ev, St.put, zg1, zg0, zgd, zmo, if_true, zs1, zs0, decide_true, c1]
  with_reducible refine hR _ ?_
  clear hR R
  show X _ _ _ _
  refine X_seq ?_
  refine X_seq ?_
  have hlt : i < l.length := by first | assumption | omega
  have hlw : i < w.length := by omega
  have hn1 : ((if (l.map dFt).isEmpty = true then 0 else 4) = 4) = True := eq_true (sl_n (j := i) (by simpa using hlt))
  have hn2 : ((if (w.map dFt).isEmpty = true then 0 else 4) = 4) = True := eq_true (sl_n (j := i) (by simpa using hlw))
  have e1 : (l.map dFt)[i]? = some (.agg [.int .i64 l[i].proc, .slice .imm (if (l[i].path.map dI).isEmpty = true then 0 else 1) (l[i].path.map dI), .int .i64 l[i].err, .str l[i].name]) := by rw [List.getElem?_map, List.getElem?_eq_getElem hlt]; rfl
  have e2 : (w.map dFt)[i]? = some (.agg [.int .i64 w[i].proc, .slice .imm (if (w[i].path.map dI).isEmpty = true then 0 else 1) (w[i].path.map dI), .int .i64 w[i].err, .str w[i].name]) := by rw [List.getElem?_map, List.getElem?_eq_getElem hlw]; rfl
  obtain ⟨q1, q2, q3, q4⟩ := hs i hlt hlw
  have hE : (l[i].err != w[i].err) = false := by rw [q1]; simp
  have hN : (l[i].name.toList == w[i].name.toList) = true := by rw [q2]; simp
  have hP : ((l[i].path.length : Int) != (w[i].path.length : Int)) = false := by rw [q3]; simp
  have hQ : (l[i].proc != w[i].proc) = false := by rw [q4 rfl]; simp
  refine X_rg fun R hR => ?_
  simp only [EVP, nat_lt, nat_0, nat_to, aops, astep, awant, aeff, aop, abin, aint, astr, ev, ofValue, St.put, ia_int, cl_int, ia_str, cl_str, ia_slice, cl_slice, zg1, zg0, zgd, zmo, zbs, if_true, zs1, zs0, zlm, zlc, zln, zd1, zd0, zt1, zt0, Nat.reduceAdd, Nat.reduceLeDiff, Nat.zero_add, Bool.not_true, zft, if_false, and_self, reduceCtorEq, beq_self_eq_true, zis, ty_int, ty_string, ty_s_int, und_int, ty_checker_Rejection, und_checker_Rejection, siz_checker_Rejection, inf_checker_Rejection_eq, ty_api_Errno, zlm, c1, hlw, hn1, hn2, e1, e2, hE, hN, hP, hQ]
  with_reducible refine hR _ ?_
  clear hR R
  show X _ _ _ _
  refine X_false (by simp only [ev, zg1, zg0, zgd]) ?_
  refine X_skip ?_
  show X _ _ _ _
  refine X_seq ?_
  have hpl := hb i hlt
  refine X_rg fun R hR => ?_
  simp only [EVP, inr_i64, Int.reduceLE, Int.reduceNeg, nat_lt, nat_0, nat_to, aops, astep, awant, aeff, aop, ev, ofValue, St.put, ia_slice, cl_slice, zg1, zg0, zgd, zmo, if_true, zs1, zs0, zlm, zlc, zln, zd1, zd0, zt1, zt0, Nat.reduceAdd, Nat.reduceLeDiff, Nat.zero_add, zft, if_false, and_self, reduceCtorEq, zis, ty_s_int, und_int, ty_checker_Rejection, und_checker_Rejection, siz_checker_Rejection, inf_checker_Rejection_eq, zlm, c1, hn1, e1]
  with_reducible refine hR _ ?_
  clear hR R
  show X _ _ _ _
  refine X_block ?_
  refine X_loop (fun m σ => ∃ (k : Nat), σ = ⟨[.slice .imm (if (l.map dFt).isEmpty = true then 0 else 4) (l.map dFt), .slice .imm (if (w.map dFt).isEmpty = true then 0 else 4) (w.map dFt), .bool true, slotOf σ 3, slotOf σ 4, slotOf σ 5, slotOf σ 6, .int .i64 i, slotOf σ 8, slotOf σ 9, slotOf σ 10, slotOf σ 11, slotOf σ 12, slotOf σ 13, slotOf σ 14, .int .i64 l.length, .int .i64 i, slotOf σ 17, slotOf σ 18, slotOf σ 19, slotOf σ 20, slotOf σ 21, slotOf σ 22, slotOf σ 23, slotOf σ 24, slotOf σ 25, slotOf σ 26, slotOf σ 27, slotOf σ 28, slotOf σ 29, slotOf σ 30, slotOf σ 31, slotOf σ 32, slotOf σ 33, slotOf σ 34, slotOf σ 35, slotOf σ 36, slotOf σ 37, slotOf σ 38, slotOf σ 39, slotOf σ 40, slotOf σ 41, slotOf σ 42, slotOf σ 43, slotOf σ 44, slotOf σ 45, slotOf σ 46, slotOf σ 47, slotOf σ 48, slotOf σ 49, slotOf σ 50, slotOf σ 51, slotOf σ 52, slotOf σ 53, slotOf σ 54, slotOf σ 55, slotOf σ 56, slotOf σ 57, slotOf σ 58, slotOf σ 59, slotOf σ 60, slotOf σ 61, slotOf σ 62, slotOf σ 63, slotOf σ 64, slotOf σ 65, slotOf σ 66, slotOf σ 67, slotOf σ 68, slotOf σ 69, slotOf σ 70, slotOf σ 71, slotOf σ 72, slotOf σ 73, slotOf σ 74, slotOf σ 75, slotOf σ 76, slotOf σ 77, slotOf σ 78, .int .i64 l[i].path.length, .int .i64 k, slotOf σ 81, slotOf σ 82, slotOf σ 83, slotOf σ 84, slotOf σ 85, slotOf σ 86, slotOf σ 87, slotOf σ 88, slotOf σ 89, slotOf σ 90, slotOf σ 91, slotOf σ 92, slotOf σ 93, slotOf σ 94, slotOf σ 95, slotOf σ 96, slotOf σ 97, slotOf σ 98, slotOf σ 99, slotOf σ 100, slotOf σ 101], [], 0, []⟩ ∧ m = l[i].path.length - k ∧ k ≤ l[i].path.length) ?_ (l[i].path.length) _ ?_
  rotate_left
  ·exact ⟨0, rfl, rfl, Nat.zero_le _⟩
  rintro m σ ⟨k, hσ, rfl, hk⟩
  generalize slotOf σ = x at hσ
  subst hσ
  refine X_seq ?_
  refine X_rg fun R hR => ?_
  simp only [nat_lt, aops, astep, awant, aeff, aop, abin, aint, ev, St.put, zg1, zg0, zgd, zmo, if_true, zs1, zs0]
  with_reducible refine hR _ ?_
  clear hR R
  show X _ _ _ _
  refine X_seq ?_
  refine X_ite (by simp only [ev, zg1, zg0, zgd]; exact rfl) ?_ ?_
  ·intro b2
   have c2 := b2
   try simp only [decide_eq_true_eq] at c2
   refine X_skip ?_
   show X _ _ _ _
   refine X_seq ?_
   refine X_block ?_
   refine X_seq ?_
   refine X_rg fun R hR => ?_
   simp only [aops, astep, awant, aeff, aop, ev, St.put, zg1, zg0, zgd, zmo, if_true, zs1, zs0, decide_true, c2]
   with_reducible refine hR _ ?_
   clear hR R
   show X _ _ _ _
   refine X_seq ?_
   have hlk : k < l[i].path.length := by first | assumption | omega
   have hlk2 : k < w[i].path.length := by rw [← q3]; exact hlk
   have hn3 : ((if (l[i].path.map dI).isEmpty = true then 0 else 1) = 1) = True := eq_true (sl_n (j := k) (by simpa using hlk))
   have hn4 : ((if (w[i].path.map dI).isEmpty = true then 0 else 1) = 1) = True := eq_true (sl_n (j := k) (by simpa using hlk2))
   have e3 : (l[i].path.map dI)[k]? = some (.int .i64 l[i].path[k]) := by simp [hlk, dI]
   have e4 : (w[i].path.map dI)[k]? = some (.int .i64 l[i].path[k]) := by simp only [q3]; simp [hlk2, dI]
   have hself : (l[i].path[k] != l[i].path[k]) = false := by simp
   refine X_rg fun R hR => ?_
   simp only [EVP, nat_lt, nat_0, nat_to, aops, astep, awant, aeff, aop, abin, aint, ev, St.put, ia_int, cl_int, ia_slice, cl_slice, zg1, zg0, zgd, zmo, if_true, zs1, zs0, zlm, zlc, zln, zd1, zd0, zt1, zt0, Nat.reduceAdd, Nat.reduceLeDiff, Nat.zero_add, zft, if_false, and_self, reduceCtorEq, bne_self_eq_false, zis, ty_int, ty_s_int, und_int, siz_int, inf_int_eq, ty_checker_Rejection, und_checker_Rejection, siz_checker_Rejection, inf_checker_Rejection_eq, zlm, c2, hlt, hlw, hn1, hn2, e1, e2, hlk2, hn3, hn4, e3, e4]
   with_reducible refine hR _ ?_
   clear hR R
   show X _ _ _ _
   refine X_false (by simp only [ev, zg1, zg0, zgd]) ?_
   refine X_skip ?_
   show X _ _ _ _
   have hbk : k < 9223372036854775807 := by omega
   refine X_rg fun R hR => ?_
   simp only [inr_i64, Int.reduceLE, Int.reduceNeg, aops, astep, awant, aeff, aop, abin, aint, ev, ofValue, St.put, zg1, zg0, zgd, zmo, if_true, zs1, zs0, and_self, nat_succ hbk]
   with_reducible refine hR _ ?_
   clear hR R
   show ∃ m, m < _ ∧ _
   exact ⟨l[i].path.length - (k + 1), by omega, k + 1, rfl, rfl, by omega⟩
  ·intro b3
   have c3 := b3
   try simp only [decide_eq_false_iff_not] at c3
   refine X_exit ?_
   show X _ _ _ _
   have hbig : i < 9223372036854775807 := by omega
   refine X_rg fun R hR => ?_
   simp only [inr_i64, Int.reduceLE, Int.reduceNeg, aops, astep, awant, aeff, aop, abin, aint, ev, ofValue, St.put, zg1, zg0, zgd, zmo, if_true, zs1, zs0, and_self, decide_false, c3, nat_succ hbig]
   with_reducible refine hR _ ?_
   clear hR R
   show ∃ m, m < _ ∧ _
   exact ⟨l.length - (i + 1), by omega, i + 1, rfl, rfl, by omega⟩
 ·intro b4
  have c4 := b4
  try simp only [decide_eq_false_iff_not] at c4
  refine X_exit ?_
  show X _ _ _ _
  refine X_seq ?_
  refine X_rg fun R hR => ?_
  simp only [aops, astep, awant, aeff, aop, ev, ofValue, St.put, zgd, zmo, if_true, zs1, zs0, decide_false, c4]
  with_reducible refine hR _ ?_
  clear hR R
  show X _ _ _ _
  refine X_ret ?_
  show resD _ _ _ = some _
  simp only [resD, resAll, resOne, resTup, Try.results17, EVP, zg1, zg0, D.good, if_true, zmo] <;> (first | (rfl; done) | (exfalso; simp_all; done))
set_option maxRecDepth 100000 in
set_option maxHeartbeats 4000000 in
theorem same_f (l w : List Ft) (hlen : l.length = w.length) (hs : ∀ (i : Nat) (h1 : i < l.length) (h2 : i < w.length), SameF false l[i] w[i]) (hl : l.length ≤ 1000000) (hb : ∀ (i : Nat) (h : i < l.length), l[i].path.length ≤ 1000000) : fn EV 17 [sl 4 (l.map dFt), sl 4 (w.map dFt), .bool false] = some (.bool true) := by
 refine fn_X rfl Try.func17 rfl (by simp only [plain, List.all_cons, List.all_nil, sl_pl (f := dFt) dFt_pl, bool_pl, Bool.and_true]) (rfl) (rfl) (rfl) ?_
 simp only [zmc, zmn, D.strip, sl_strip (map_strip (f := dFt) dFt_strip _)]
 simp only [enterSt, Try.ntmps17, zlc, zln, Nat.reduceAdd, Nat.reduceSub, zr1, zr0, zca, zna]
 refine X_seq ?_
 refine X_rg fun R hR => ?_
 simp only [aops, astep, awant, aeff, aop, ev, ofValue, St.put, zgd, zmo, if_true, zs1, zs0, sl]
 with_reducible refine hR _ ?_
 clear hR R
 show X _ _ _ _
 refine X_seq ?_
 refine X_seq ?_
 have hne : ((l.length : Int) != (w.length : Int)) = false := by rw [hlen]; simp
 refine X_rg fun R hR => ?_
 simp only [EVP, aops, astep, awant, aeff, aop, abin, aint, ev, St.put, zg1, zg0, zgd, zmo, if_true, zs1, zs0, zlm, und_checker_Rejection, zlm, hne]
 with_reducible refine hR _ ?_
 clear hR R
 show X _ _ _ _
 refine X_false (by simp only [ev, zg1, zg0, zgd]) ?_
 refine X_skip ?_
 show X _ _ _ _
 refine X_seq ?_
 refine X_seq ?_
 refine X_rg fun R hR => ?_
 simp only [EVP, inr_i64, Int.reduceLE, Int.reduceNeg, aops, astep, awant, aeff, aop, ev, ofValue, St.put, zg1, zg0, zgd, zmo, if_true, zs1, zs0, zlm, and_self, und_checker_Rejection, zlm]
 with_reducible refine hR _ ?_
 clear hR R
 show X _ _ _ _
 refine X_block ?_
 refine X_loop (fun m σ => ∃ (i : Nat), σ = ⟨[.slice .imm (if (l.map dFt).isEmpty = true then 0 else 4) (l.map dFt), .slice .imm (if (w.map dFt).isEmpty = true then 0 else 4) (w.map dFt), .bool false, slotOf σ 3, slotOf σ 4, slotOf σ 5, slotOf σ 6, slotOf σ 7, slotOf σ 8, slotOf σ 9, slotOf σ 10, slotOf σ 11, slotOf σ 12, slotOf σ 13, slotOf σ 14, .int .i64 l.length, .int .i64 i, slotOf σ 17, slotOf σ 18, slotOf σ 19, slotOf σ 20, slotOf σ 21, slotOf σ 22, slotOf σ 23, slotOf σ 24, slotOf σ 25, slotOf σ 26, slotOf σ 27, slotOf σ 28, slotOf σ 29, slotOf σ 30, slotOf σ 31, slotOf σ 32, slotOf σ 33, slotOf σ 34, slotOf σ 35, slotOf σ 36, slotOf σ 37, slotOf σ 38, slotOf σ 39, slotOf σ 40, slotOf σ 41, slotOf σ 42, slotOf σ 43, slotOf σ 44, slotOf σ 45, slotOf σ 46, slotOf σ 47, slotOf σ 48, slotOf σ 49, slotOf σ 50, slotOf σ 51, slotOf σ 52, slotOf σ 53, slotOf σ 54, slotOf σ 55, slotOf σ 56, slotOf σ 57, slotOf σ 58, slotOf σ 59, slotOf σ 60, slotOf σ 61, slotOf σ 62, slotOf σ 63, slotOf σ 64, slotOf σ 65, slotOf σ 66, slotOf σ 67, slotOf σ 68, slotOf σ 69, slotOf σ 70, slotOf σ 71, slotOf σ 72, slotOf σ 73, slotOf σ 74, slotOf σ 75, slotOf σ 76, slotOf σ 77, slotOf σ 78, slotOf σ 79, slotOf σ 80, slotOf σ 81, slotOf σ 82, slotOf σ 83, slotOf σ 84, slotOf σ 85, slotOf σ 86, slotOf σ 87, slotOf σ 88, slotOf σ 89, slotOf σ 90, slotOf σ 91, slotOf σ 92, slotOf σ 93, slotOf σ 94, slotOf σ 95, slotOf σ 96, slotOf σ 97, slotOf σ 98, slotOf σ 99, slotOf σ 100, slotOf σ 101], [], 0, []⟩ ∧ m = l.length - i ∧ i ≤ l.length) ?_ (l.length) _ ?_
 rotate_left
 ·exact ⟨0, rfl, rfl, Nat.zero_le _⟩
 rintro m σ ⟨i, hσ, rfl, hi⟩
 generalize slotOf σ = x at hσ
 subst hσ
 refine X_seq ?_
 refine X_rg fun R hR => ?_
 simp only [nat_lt, aops, astep, awant, aeff, aop, abin, aint, ev, St.put, zg1, zg0, zgd, zmo, if_true, zs1, zs0]
 with_reducible refine hR _ ?_
 clear hR R
 show X _ _ _ _
 refine X_seq ?_
 refine X_ite (by simp only [ev, zg1, zg0, zgd]; exact rfl) ?_ ?_
 ·intro b1
  have c1 := b1
  try simp only [decide_eq_true_eq] at c1
  refine X_skip ?_
  show X _ _ _ _
  refine X_seq ?_
  refine X_block ?_
  refine X_seq ?_
  refine X_rg fun R hR => ?_
  simp only [aops, astep, awant, aeff, aop, ev, St.put, zg1, zg0, zgd, zmo, if_true, zs1, zs0, decide_true, c1]
  with_reducible refine hR _ ?_
  clear hR R
  show X _ _ _ _
  refine X_seq ?_
  refine X_seq ?_
  have hlt : i < l.length := by first | assumption | omega
  have hlw : i < w.length := by omega
  have hn1 : ((if (l.map dFt).isEmpty = true then 0 else 4) = 4) = True := eq_true (sl_n (j := i) (by simpa using hlt))
  have hn2 : ((if (w.map dFt).isEmpty = true then 0 else 4) = 4) = True := eq_true (sl_n (j := i) (by simpa using hlw))
  have e1 : (l.map dFt)[i]? = some (.agg [.int .i64 l[i].proc, .slice .imm (if (l[i].path.map dI).isEmpty = true then 0 else 1) (l[i].path.map dI), .int .i64 l[i].err, .str l[i].name]) := by rw [List.getElem?_map, List.getElem?_eq_getElem hlt]; rfl
  have e2 : (w.map dFt)[i]? = some (.agg [.int .i64 w[i].proc, .slice .imm (if (w[i].path.map dI).isEmpty = true then 0 else 1) (w[i].path.map dI), .int .i64 w[i].err, .str w[i].name]) := by rw [List.getElem?_map, List.getElem?_eq_getElem hlw]; rfl
  obtain ⟨q1, q2, q3, q4⟩ := hs i hlt hlw
  have hE : (l[i].err != w[i].err) = false := by rw [q1]; simp
  have hN : (l[i].name.toList == w[i].name.toList) = true := by rw [q2]; simp
  have hP : ((l[i].path.length : Int) != (w[i].path.length : Int)) = false := by rw [q3]; simp
  have hQ : True := trivial
  refine X_rg fun R hR => ?_
  simp only [EVP, nat_lt, nat_0, nat_to, aops, astep, awant, aeff, aop, abin, aint, astr, ev, ofValue, St.put, ia_int, cl_int, ia_str, cl_str, ia_slice, cl_slice, zg1, zg0, zgd, zmo, Option.map_none, zbs, if_true, zs1, zs0, zlm, zlc, zln, zd1, zd0, zt1, zt0, Nat.reduceAdd, Nat.reduceLeDiff, Nat.zero_add, Bool.not_true, zft, if_false, and_self, reduceCtorEq, beq_self_eq_true, zis, bq_ft, ty_int, ty_string, ty_s_int, und_int, ty_checker_Rejection, und_checker_Rejection, siz_checker_Rejection, inf_checker_Rejection_eq, ty_api_Errno, zlm, c1, hlw, hn1, hn2, e1, e2, hE, hN, hP]
  with_reducible refine hR _ ?_
  clear hR R
  show X _ _ _ _
  refine X_false (by simp only [ev, zg1, zg0, zgd]) ?_
  refine X_skip ?_
  show X _ _ _ _
  refine X_seq ?_
  have hpl := hb i hlt
  refine X_rg fun R hR => ?_
  simp only [EVP, inr_i64, Int.reduceLE, Int.reduceNeg, nat_lt, nat_0, nat_to, aops, astep, awant, aeff, aop, ev, ofValue, St.put, ia_slice, cl_slice, zg1, zg0, zgd, zmo, if_true, zs1, zs0, zlm, zlc, zln, zd1, zd0, zt1, zt0, Nat.reduceAdd, Nat.reduceLeDiff, Nat.zero_add, zft, if_false, and_self, reduceCtorEq, zis, ty_s_int, und_int, ty_checker_Rejection, und_checker_Rejection, siz_checker_Rejection, inf_checker_Rejection_eq, zlm, c1, hn1, e1]
  with_reducible refine hR _ ?_
  clear hR R
  show X _ _ _ _
  refine X_block ?_
  refine X_loop (fun m σ => ∃ (k : Nat), σ = ⟨[.slice .imm (if (l.map dFt).isEmpty = true then 0 else 4) (l.map dFt), .slice .imm (if (w.map dFt).isEmpty = true then 0 else 4) (w.map dFt), .bool false, slotOf σ 3, slotOf σ 4, slotOf σ 5, slotOf σ 6, .int .i64 i, slotOf σ 8, slotOf σ 9, slotOf σ 10, slotOf σ 11, slotOf σ 12, slotOf σ 13, slotOf σ 14, .int .i64 l.length, .int .i64 i, slotOf σ 17, slotOf σ 18, slotOf σ 19, slotOf σ 20, slotOf σ 21, slotOf σ 22, slotOf σ 23, slotOf σ 24, slotOf σ 25, slotOf σ 26, slotOf σ 27, slotOf σ 28, slotOf σ 29, slotOf σ 30, slotOf σ 31, slotOf σ 32, slotOf σ 33, slotOf σ 34, slotOf σ 35, slotOf σ 36, slotOf σ 37, slotOf σ 38, slotOf σ 39, slotOf σ 40, slotOf σ 41, slotOf σ 42, slotOf σ 43, slotOf σ 44, slotOf σ 45, slotOf σ 46, slotOf σ 47, slotOf σ 48, slotOf σ 49, slotOf σ 50, slotOf σ 51, slotOf σ 52, slotOf σ 53, slotOf σ 54, slotOf σ 55, slotOf σ 56, slotOf σ 57, slotOf σ 58, slotOf σ 59, slotOf σ 60, slotOf σ 61, slotOf σ 62, slotOf σ 63, slotOf σ 64, slotOf σ 65, slotOf σ 66, slotOf σ 67, slotOf σ 68, slotOf σ 69, slotOf σ 70, slotOf σ 71, slotOf σ 72, slotOf σ 73, slotOf σ 74, slotOf σ 75, slotOf σ 76, slotOf σ 77, slotOf σ 78, .int .i64 l[i].path.length, .int .i64 k, slotOf σ 81, slotOf σ 82, slotOf σ 83, slotOf σ 84, slotOf σ 85, slotOf σ 86, slotOf σ 87, slotOf σ 88, slotOf σ 89, slotOf σ 90, slotOf σ 91, slotOf σ 92, slotOf σ 93, slotOf σ 94, slotOf σ 95, slotOf σ 96, slotOf σ 97, slotOf σ 98, slotOf σ 99, slotOf σ 100, slotOf σ 101], [], 0, []⟩ ∧ m = l[i].path.length - k ∧ k ≤ l[i].path.length) ?_ (l[i].path.length) _ ?_
  rotate_left
  ·exact ⟨0, rfl, rfl, Nat.zero_le _⟩
  rintro m σ ⟨k, hσ, rfl, hk⟩
  generalize slotOf σ = x at hσ
  subst hσ
  refine X_seq ?_
  refine X_rg fun R hR => ?_
  simp only [nat_lt, aops, astep, awant, aeff, aop, abin, aint, ev, St.put, zg1, zg0, zgd, zmo, if_true, zs1, zs0]
  with_reducible refine hR _ ?_
  clear hR R
  show X _ _ _ _
  refine X_seq ?_
  refine X_ite (by simp only [ev, zg1, zg0, zgd]; exact rfl) ?_ ?_
  ·intro b2
   have c2 := b2
   try simp only [decide_eq_true_eq] at c2
   refine X_skip ?_
   show X _ _ _ _
   refine X_seq ?_
   refine X_block ?_
   refine X_seq ?_
   refine X_rg fun R hR => ?_
   simp only [aops, astep, awant, aeff, aop, ev, St.put, zg1, zg0, zgd, zmo, if_true, zs1, zs0, decide_true, c2]
   with_reducible refine hR _ ?_
   clear hR R
   show X _ _ _ _
   refine X_seq ?_
   have hlk : k < l[i].path.length := by first | assumption | omega
   have hlk2 : k < w[i].path.length := by rw [← q3]; exact hlk
   have hn3 : ((if (l[i].path.map dI).isEmpty = true then 0 else 1) = 1) = True := eq_true (sl_n (j := k) (by simpa using hlk))
   have hn4 : ((if (w[i].path.map dI).isEmpty = true then 0 else 1) = 1) = True := eq_true (sl_n (j := k) (by simpa using hlk2))
   have e3 : (l[i].path.map dI)[k]? = some (.int .i64 l[i].path[k]) := by simp [hlk, dI]
   have e4 : (w[i].path.map dI)[k]? = some (.int .i64 l[i].path[k]) := by simp only [q3]; simp [hlk2, dI]
   have hself : (l[i].path[k] != l[i].path[k]) = false := by simp
   refine X_rg fun R hR => ?_
   simp only [EVP, nat_lt, nat_0, nat_to, aops, astep, awant, aeff, aop, abin, aint, ev, St.put, ia_int, cl_int, ia_slice, cl_slice, zg1, zg0, zgd, zmo, if_true, zs1, zs0, zlm, zlc, zln, zd1, zd0, zt1, zt0, Nat.reduceAdd, Nat.reduceLeDiff, Nat.zero_add, zft, if_false, and_self, reduceCtorEq, bne_self_eq_false, zis, ty_int, ty_s_int, und_int, siz_int, inf_int_eq, ty_checker_Rejection, und_checker_Rejection, siz_checker_Rejection, inf_checker_Rejection_eq, zlm, c2, hlt, hlw, hn1, hn2, e1, e2, hlk2, hn3, hn4, e3, e4]
   with_reducible refine hR _ ?_
   clear hR R
   show X _ _ _ _
   refine X_false (by simp only [ev, zg1, zg0, zgd]) ?_
   refine X_skip ?_
   show X _ _ _ _
   have hbk : k < 9223372036854775807 := by omega
   refine X_rg fun R hR => ?_
   simp only [inr_i64, Int.reduceLE, Int.reduceNeg, aops, astep, awant, aeff, aop, abin, aint, ev, ofValue, St.put, zg1, zg0, zgd, zmo, if_true, zs1, zs0, and_self, nat_succ hbk]
   with_reducible refine hR _ ?_
   clear hR R
   show ∃ m, m < _ ∧ _
   exact ⟨l[i].path.length - (k + 1), by omega, k + 1, rfl, rfl, by omega⟩
  ·intro b3
   have c3 := b3
   try simp only [decide_eq_false_iff_not] at c3
   refine X_exit ?_
   show X _ _ _ _
   have hbig : i < 9223372036854775807 := by omega
   refine X_rg fun R hR => ?_
   simp only [inr_i64, Int.reduceLE, Int.reduceNeg, aops, astep, awant, aeff, aop, abin, aint, ev, ofValue, St.put, zg1, zg0, zgd, zmo, if_true, zs1, zs0, and_self, decide_false, c3, nat_succ hbig]
   with_reducible refine hR _ ?_
   clear hR R
   show ∃ m, m < _ ∧ _
   exact ⟨l.length - (i + 1), by omega, i + 1, rfl, rfl, by omega⟩
 ·intro b4
  have c4 := b4
  try simp only [decide_eq_false_iff_not] at c4
  refine X_exit ?_
  show X _ _ _ _
  refine X_seq ?_
  refine X_rg fun R hR => ?_
  simp only [aops, astep, awant, aeff, aop, ev, ofValue, St.put, zgd, zmo, if_true, zs1, zs0, decide_false, c4]
  with_reducible refine hR _ ?_
  clear hR R
  show X _ _ _ _
  refine X_ret ?_
  show resD _ _ _ = some _
  simp only [resD, resAll, resOne, resTup, Try.results17, EVP, zg1, zg0, D.good, if_true, zmo] <;> (first | (rfl; done) | (exfalso; simp_all; done))

end Go.Proofs.Ytmglacjcefajlaa
