/- The reference's Union and Reads over data. -/
import Derived.Test.YtkkhjpkkjpcbmaaE2
import Derived.Test.YtkkhjpkkjpcbmaaEf7
namespace Go.Proofs.Ytkkhjpkkjpcbmaa
open Go.RowKit

theorem fn_strip {E : Env} {k : Nat} {args args' : List D} (h : plain args = true) (h' : plain args' = true) (e : args.map D.strip = args'.map D.strip) : fn E k args = fn E k args' := by
 unfold fn pureWith
 unfold plain at h h'
 rw [if_pos h, if_pos h', e]
/-- a slice of names, however it came about -/
structure IsL (d : D) (A : List ByteArray) : Prop where
 s : d.strip = sl 1 (A.map dS)
 u : ∀ m, d.under m = true
 g : d.good = true
 a : d.isAgg = false
 c : d.cells = [d]
theorem IsL.sl (A : List ByteArray) : IsL (Go.Proofs.Ytkkhjpkkjpcbmaa.sl 1 (A.map dS)) A := ⟨sl_strip (map_strip dS_strip A), fun m => sl_under (map_under (dS_under m) A), rfl, rfl, rfl⟩
theorem IsL.sl' (A : List ByteArray) : IsL (.slice .imm (if (A.map dS).isEmpty = true then 0 else 1) (A.map dS)) A := IsL.sl A
theorem IsL.nil : IsL (.slice .nil 0 []) [] := ⟨rfl, fun _ => rfl, rfl, rfl, rfl⟩
theorem put_call {d : D} {A : List ByteArray} (h : IsL d A) (s : ByteArray) (hl : A.length ≤ 1000000) : fn EV 35 [d, .str s] = some (sl 1 ((putN A s).map dS)) := by
 rw [← put_fn A s hl]
 refine fn_strip ?_ ?_ ?_
 ·simp only [plain, List.all_cons, List.all_nil, h.u, h.g, D.under, gd_str, Bool.and_self]
 ·simp only [plain, List.all_cons, List.all_nil, (IsL.sl A).u, (IsL.sl A).g, D.under, gd_str, Bool.and_self]
 ·simp only [zmc, zmn, h.s, (IsL.sl A).s]
theorem putN_len (l : List ByteArray) (s : ByteArray) : (putN l s).length ≤ l.length + 1 := by
 unfold putN
 split
 ·split
  ·omega
  ·simp; omega
 ·simp; omega
def unionN (ex : ByteArray) (b : Bool) : List ByteArray → List ByteArray → List ByteArray
 | l, [] => l
 | l, x :: r => unionN ex b (if !b || !(x.toList == ex.toList) then putN l x else l) r
theorem unionN_len (ex : ByteArray) (b : Bool) : ∀ (r l : List ByteArray), (unionN ex b l r).length ≤ l.length + r.length
 | [], l => by simp [unionN]
 | x :: r, l => by
  have h1 := unionN_len ex b r (if !b || !(x.toList == ex.toList) then putN l x else l)
  have h2 := putN_len l x
  unfold unionN
  simp only [zlc]
  split at h1
  ·rename_i hc; rw [if_pos hc]; omega
  ·rename_i hc; rw [if_neg hc]; omega
theorem unionN_step {ex : ByteArray} {b : Bool} {A more : List ByteArray} {i : Nat} (h : i < more.length) : unionN ex b A (more.drop i) = unionN ex b (if !b || !(more[i].toList == ex.toList) then putN A more[i] else A) (more.drop (i + 1)) := by
 rw [List.drop_eq_getElem_cons h]; rfl
set_option maxRecDepth 100000 in
set_option maxHeartbeats 4000000 in
theorem union_fn (l more : List ByteArray) (ex : ByteArray) (b : Bool) (hl : l.length + more.length ≤ 1000000) : fn EV 36 [sl 1 (l.map dS), sl 1 (more.map dS), .str ex, .bool b] = some (sl 1 ((unionN ex b l more).map dS)) := by
 refine fn_Xs rfl Try.func36 rfl (by simp only [plain, List.all_cons, List.all_nil, sl_under (map_under (dS_under 0) l), sl_under (map_under (dS_under 0) more), sl_gd, D.under, gd_str, gd_bool, Bool.and_self]) (rfl) ?_
 simp only [zmc, zmn, D.strip, sl_strip (map_strip dS_strip l), sl_strip (map_strip dS_strip more)]
 simp only [enterSt, Try.ntmps36, zlc, zln, Nat.reduceAdd, Nat.reduceSub, zr1, zr0, zca, zna]
 refine X_seq ?_
 refine X_rg fun R hR => ?_
 simp only [aops, astep, awant, aeff, aop, ev, ofValue, St.put, zgd, zmo, if_true, zs1, zs0, sl]
 with_reducible refine hR _ ?_
 clear hR R
 show X _ _ _ _
 refine X_seq ?_
 refine X_seq ?_
 refine X_rg fun R hR => ?_
 simp only [inr_i64, Int.reduceLE, Int.reduceNeg, aops, astep, awant, aeff, aop, ev, ofValue, St.put, zgd, zmo, if_true, zs1, zs0, and_self]
 with_reducible refine hR _ ?_
 clear hR R
 show X _ _ _ _
 refine X_block ?_
 refine X_loop (fun m σ => ∃ (i : Nat) (A : List ByteArray) (o : Own) (n : Nat), σ = ⟨[.slice o n (A.map dS), .slice .imm (if (more.map dS).isEmpty = true then 0 else 1) (more.map dS), .str ex, .bool b, slotOf σ 4, slotOf σ 5, slotOf σ 6, slotOf σ 7, slotOf σ 8, .int .i64 i, slotOf σ 10, slotOf σ 11, slotOf σ 12, slotOf σ 13, slotOf σ 14, slotOf σ 15, slotOf σ 16, slotOf σ 17, slotOf σ 18, slotOf σ 19, slotOf σ 20, slotOf σ 21, slotOf σ 22, slotOf σ 23, slotOf σ 24, slotOf σ 25, slotOf σ 26, slotOf σ 27, slotOf σ 28, slotOf σ 29, slotOf σ 30, slotOf σ 31, slotOf σ 32], [], 0, []⟩ ∧ m = more.length - i ∧ i ≤ more.length ∧ IsL (.slice o n (A.map dS)) A ∧ A.length ≤ l.length + i ∧ Hid (unionN ex b l more = unionN ex b A (more.drop i))) ?_ (more.length) _ ?_
 rotate_left
 ·exact ⟨0, l, _, _, rfl, rfl, Nat.zero_le _, IsL.sl' l, by omega, Lib.hid rfl⟩
 rintro m σ ⟨i, A, o, n, hσ, rfl, hi, hd, hA, hf⟩
 generalize slotOf σ = x at hσ
 subst hσ
 refine X_seq ?_
 refine X_seq ?_
 refine X_rg fun R hR => ?_
 simp only [EVP, nat_lt, aops, astep, awant, aeff, aop, abin, aint, ev, St.put, zg1, zg0, zgd, zmo, if_true, zs1, zs0, zlm, und_string]
 with_reducible refine hR _ ?_
 clear hR R
 show X _ _ _ _
 refine X_ite (by simp only [ev, zg1, zg0, zgd]; exact rfl) ?_ ?_
 ·intro b1
  have c1 := b1
  try simp only [decide_eq_true_eq] at c1
  refine X_skip ?_
  show X _ _ _ _
  refine X_seq ?_
  refine X_block ?_
  refine X_seq ?_
  have hlt : i < more.length := by first | assumption | omega | simp_all
  have hn1 := idx_n (f := dS) (n := 1) hlt
  have e1 : (more.map dS)[i]? = some (.str more[i]) := by rw [List.getElem?_map, List.getElem?_eq_getElem hlt]; rfl
  refine X_y ?_
  refine Y_k 3 fun R hR => ?_
  simp only [EVP, aops, astep, awant, aeff, aop, ev, St.put, zg1, zg0, zgd, zmo, if_true, zs1, zs0, zt1, zt0, decide_true, c1]
  with_reducible refine hR _ ?_
  clear hR R
  simp only [zd1, zd0]
  refine Y_if 18 (by simp only [ev, zg1, zg0, zgd]; exact rfl) ?_ ?_
  ·intro b2
   have c2 := b2
   try simp only [znt] at c2
   refine Y_end fun R hR => ?_
   simp only [EVP, aops, astep, awant, aeff, aop, abin, ev, ofValue, St.put, zg1, zg0, zgd, zmo, Option.map_none, zbs, if_true, zs1, zs0, Bool.not_false, zft, if_false, bq_tf, ty_string, und_string, c2]
   with_reducible refine hR _ ?_
   clear hR R
   show X _ _ _ _
   refine X_true (by simp only [ev, zg1, zg0, zgd]) ?_
   have hlt : i < more.length := by first | assumption | omega | simp_all
   have hn1 := idx_n (f := dS) (n := 1) hlt
   have e1 : (more.map dS)[i]? = some (.str more[i]) := by rw [List.getElem?_map, List.getElem?_eq_getElem hlt]; rfl
   have hp := put_call hd more[i] (by omega)
   refine X_rg fun R hR => ?_
   simp only [EVP, nat_lt, nat_0, nat_to, aops, astep, awant, aeff, aop, ev, St.put, pcall, ia_str, cl_str, zmc, zmn, zg1, zg0, zgd, zmo, if_true, zs1, zs0, zlm, zlc, zln, zca, zna, Nat.zero_add, and_self, zis, ty_string, und_string, siz_string, inf_string_eq, any35, sl, c1, hn1, e1, hp]
   with_reducible refine hR _ ?_
   clear hR R
   show X _ _ _ _
   have hbig : i < 9223372036854775807 := by omega
   refine X_rg fun R hR => ?_
   simp only [inr_i64, Int.reduceLE, Int.reduceNeg, aops, astep, awant, aeff, aop, abin, aint, ev, ofValue, St.put, zg1, zg0, zgd, zmo, if_true, zs1, zs0, and_self, nat_succ hbig]
   with_reducible refine hR _ ?_
   clear hR R
   show ∃ m, m < _ ∧ _
   have hlt : i < more.length := by first | assumption | omega
   have hc : (!b || !(more[i].toList == ex.toList)) = true := by first | assumption | (simp_all; done)
   have hpl := putN_len A more[i]
   have hst := hf.out.trans ((unionN_step hlt).trans (by rw [if_pos hc]))
   cases b
   all_goals first | exact ⟨more.length - (i + 1), by omega, i + 1, putN A more[i], _, _, rfl, rfl, by omega, IsL.sl' _, by omega, Lib.hid hst⟩ | (exfalso; simp_all; done)
  ·intro b3
   have c3 := b3
   try simp only [znf] at c3
   refine Y_end fun R hR => ?_
   simp only [EVP, nat_lt, nat_0, nat_to, aops, astep, awant, aeff, aop, abin, astr, ev, ofValue, St.put, ia_str, cl_str, zg1, zg0, zgd, zmo, zbs, if_true, zs1, zs0, zlm, zlc, zln, Nat.zero_add, Bool.not_true, zft, if_false, and_self, beq_self_eq_true, zis, ty_string, und_string, siz_string, inf_string_eq, c1, c3, hn1, e1]
   with_reducible refine hR _ ?_
   clear hR R
   show X _ _ _ _
   refine X_ite (by simp only [ev, zg1, zg0, zgd]; exact rfl) ?_ ?_
   ·intro b4
    have c4 := b4
    try simp only [znt, ne_eq, beq_eq_false_iff_ne] at c4
    have hlt : i < more.length := by first | assumption | omega | simp_all
    have hn1 := idx_n (f := dS) (n := 1) hlt
    have e1 : (more.map dS)[i]? = some (.str more[i]) := by rw [List.getElem?_map, List.getElem?_eq_getElem hlt]; rfl
    have hp := put_call hd more[i] (by omega)
    refine X_rg fun R hR => ?_
    simp only [EVP, nat_lt, nat_0, nat_to, aops, astep, awant, aeff, aop, ev, St.put, pcall, ia_str, cl_str, zmc, zmn, zg1, zg0, zgd, zmo, if_true, zs1, zs0, zlm, zlc, zln, zca, zna, Nat.zero_add, and_self, zis, ty_string, und_string, siz_string, inf_string_eq, any35, sl, c1, b4, hn1, e1, hp]
    with_reducible refine hR _ ?_
    clear hR R
    show X _ _ _ _
    have hbig : i < 9223372036854775807 := by omega
    refine X_rg fun R hR => ?_
    simp only [inr_i64, Int.reduceLE, Int.reduceNeg, aops, astep, awant, aeff, aop, abin, aint, ev, ofValue, St.put, zg1, zg0, zgd, zmo, if_true, zs1, zs0, and_self, nat_succ hbig]
    with_reducible refine hR _ ?_
    clear hR R
    show ∃ m, m < _ ∧ _
    have hlt : i < more.length := by first | assumption | omega
    have hc : (!b || !(more[i].toList == ex.toList)) = true := by first | assumption | (simp_all; done)
    have hpl := putN_len A more[i]
    have hst := hf.out.trans ((unionN_step hlt).trans (by rw [if_pos hc]))
    cases b
    all_goals first | exact ⟨more.length - (i + 1), by omega, i + 1, putN A more[i], _, _, rfl, rfl, by omega, IsL.sl' _, by omega, Lib.hid hst⟩ | (exfalso; simp_all; done)
   ·intro b5
    have c5 := b5
    try simp only [znf, beq_iff_eq] at c5
    refine X_skip ?_
    show X _ _ _ _
    have hbig : i < 9223372036854775807 := by omega
    refine X_rg fun R hR => ?_
    simp only [inr_i64, Int.reduceLE, Int.reduceNeg, aops, astep, awant, aeff, aop, abin, aint, ev, ofValue, St.put, zg1, zg0, zgd, zmo, if_true, zs1, zs0, Bool.not_true, and_self, beq_self_eq_true, c5, nat_succ hbig]
    with_reducible refine hR _ ?_
    clear hR R
    show ∃ m, m < _ ∧ _
    have hlt : i < more.length := by first | assumption | omega
    have hc : (!b || !(more[i].toList == ex.toList)) = false := by first | assumption | (simp_all; done)
    have hst := hf.out.trans ((unionN_step hlt).trans (by rw [if_neg (by rw [hc]; simp)]))
    cases b
    all_goals first | exact ⟨more.length - (i + 1), by omega, i + 1, A, _, _, rfl, rfl, by omega, hd, by omega, Lib.hid hst⟩ | (exfalso; simp_all; done)
 ·intro b6
  have c6 := b6
  try simp only [decide_eq_false_iff_not] at c6
  refine X_exit ?_
  show X _ _ _ _
  refine X_seq ?_
  refine X_rg fun R hR => ?_
  simp only [aops, astep, awant, aeff, aop, ev, St.put, zg1, zg0, zgd, zmo, if_true, zs1, zs0, decide_false, c6]
  with_reducible refine hR _ ?_
  clear hR R
  show X _ _ _ _
  refine X_ret ?_
  show ∃ d, resD _ _ _ = some d ∧ _ ∧ _
  have hU : unionN ex b l more = A := by rw [hf.out, List.drop_of_length_le (by omega)]; rfl
  refine ⟨_, by simp only [resD, resAll, resOne, resTup, Try.results36, EVP, zg1, zg0, D.good, if_true, zmo] <;> exact rfl, hd.u 0, by rw [hU]; exact hd.s⟩
theorem union_call {d e : D} {A M : List ByteArray} (h : IsL d A) (h' : IsL e M) (ex : ByteArray) (b : Bool) (hl : A.length + M.length ≤ 1000000) : fn EV 36 [d, e, .str ex, .bool b] = some (sl 1 ((unionN ex b A M).map dS)) := by
 rw [← union_fn A M ex b hl]
 refine fn_strip ?_ ?_ ?_
 ·simp only [plain, List.all_cons, List.all_nil, h.u, h.g, h'.u, h'.g, D.under, gd_str, gd_bool, Bool.and_self]
 ·simp only [plain, List.all_cons, List.all_nil, (IsL.sl A).u, (IsL.sl A).g, (IsL.sl M).u, (IsL.sl M).g, D.under, gd_str, gd_bool, Bool.and_self]
 ·simp only [zmc, zmn, h.s, h'.s, (IsL.sl A).s, (IsL.sl M).s]
def innerN (k : Int) : Int := if k = 54 then 1 else if k = 55 then 0 else -1
theorem inner_eq (k : Int) (i : Nat) : ((i : Int) == innerN k) = hidesN k i := by
 rw [Bool.eq_iff_iff]
 unfold innerN hidesN
 by_cases h1 : k = 54
 ·subst h1; simp; omega
 ·by_cases h2 : k = 55
  ·subst h2; simp
  ·simp [h1, h2]
set_option maxRecDepth 100000 in
set_option maxHeartbeats 4000000 in
theorem inner_fn (t : Tr) : fn EV 37 [dN t] = some (.int .i64 (innerN t.kind)) := by
 refine fn_X rfl Try.func37 rfl (by simp only [plain, List.all_cons, List.all_nil, dN_under, dN_good, Bool.and_true]) (rfl) (rfl) (rfl) ?_
 simp only [zmc, zmn, dN_strip]
 simp only [enterSt, Try.ntmps37, zlc, zln, Nat.reduceAdd, Nat.reduceSub, zr1, zr0, zca, zna]
 refine X_seq ?_
 refine X_rg fun R hR => ?_
 simp only [inr_i64, Int.reduceLE, Int.reduceNeg, aops, astep, awant, aeff, aop, ev, ofValue, St.put, zg0, zgd, zmo, if_true, zs1, zs0, zln, zna, and_self, dN_cells, dN_good, sl]
 with_reducible refine hR _ ?_
 clear hR R
 show X _ _ _ _
 refine X_seq ?_
 refine X_seq ?_
 refine X_rg fun R hR => ?_
 simp only [EVP, inr_u8, Int.reduceLE, aops, astep, awant, aeff, aop, abin, aint, mkD, ev, ofValue, St.put, ia_int, zg1, zg0, zgd, zmo, if_true, zs1, zs0, zlc, zln, zd0, zt1, zt0, Nat.reduceAdd, Nat.reduceLeDiff, Nat.zero_add, Nat.add_zero, zft, if_false, and_self, reduceCtorEq, ty_uint8, ty_api_Node]
 with_reducible refine hR _ ?_
 clear hR R
 show X _ _ _ _
 refine X_ite (by simp only [ev, zg1, zg0, zgd]; exact rfl) ?_ ?_
 ·intro b1
  have c1 := b1
  try simp only [beq_iff_eq] at c1
  refine X_seq ?_
  refine X_rg fun R hR => ?_
  simp only [inr_i64, Int.reduceLE, Int.reduceNeg, aops, astep, awant, aeff, aop, ev, ofValue, St.put, zgd, zmo, if_true, zs1, zs0, and_self, beq_self_eq_true, c1]
  with_reducible refine hR _ ?_
  clear hR R
  show X _ _ _ _
  refine X_ret ?_
  show resD _ _ _ = some _
  simp only [resD, resAll, resOne, resTup, Try.results37, EVP, zg1, zg0, D.good, if_true, zmo]
  first | (simp [innerN, c1]; done) | (simp_all [innerN]; done) | (exfalso; simp_all; done)
 ·intro b2
  have c2 := b2
  try simp only [ne_eq, beq_eq_false_iff_ne] at c2
  refine X_skip ?_
  show X _ _ _ _
  refine X_seq ?_
  refine X_seq ?_
  refine X_rg fun R hR => ?_
  simp only [EVP, inr_u8, Int.reduceLE, aops, astep, awant, aeff, aop, abin, aint, mkD, ev, ofValue, St.put, ia_int, zg1, zg0, zgd, zmo, if_true, zs1, zs0, zlc, zln, zd0, zt1, zt0, Nat.reduceAdd, Nat.reduceLeDiff, Nat.zero_add, Nat.add_zero, zft, if_false, and_self, reduceCtorEq, ty_uint8, ty_api_Node, b2]
  with_reducible refine hR _ ?_
  clear hR R
  show X _ _ _ _
  refine X_ite (by simp only [ev, zg1, zg0, zgd]; exact rfl) ?_ ?_
  ·intro b3
   have c3 := b3
   try simp only [beq_iff_eq] at c3
   refine X_seq ?_
   refine X_rg fun R hR => ?_
   simp only [inr_i64, Int.reduceLE, Int.reduceNeg, aops, astep, awant, aeff, aop, ev, ofValue, St.put, zgd, zmo, if_true, zs1, zs0, and_self, beq_self_eq_true, c3]
   with_reducible refine hR _ ?_
   clear hR R
   show X _ _ _ _
   refine X_ret ?_
   show resD _ _ _ = some _
   simp only [resD, resAll, resOne, resTup, Try.results37, EVP, zg1, zg0, D.good, if_true, zmo]
   first | (simp [innerN, c3]; done) | (simp_all [innerN]; done) | (exfalso; simp_all; done)
  ·intro b4
   have c4 := b4
   try simp only [ne_eq, beq_eq_false_iff_ne] at c4
   refine X_skip ?_
   show X _ _ _ _
   refine X_seq ?_
   refine X_rg fun R hR => ?_
   simp only [inr_i64, Int.reduceLE, Int.reduceNeg, aops, astep, awant, aeff, aop, ev, ofValue, St.put, zgd, zmo, if_true, zs1, zs0, and_self, b4]
   with_reducible refine hR _ ?_
   clear hR R
   show X _ _ _ _
   refine X_ret ?_
   show resD _ _ _ = some _
   simp only [resD, resAll, resOne, resTup, Try.results37, EVP, zg1, zg0, D.good, if_true, zmo]
   first | (simp [innerN, c2, c4]; done) | (simp_all [innerN]; done) | (exfalso; simp_all; done)
mutual
def rrT : Tr → List ByteArray
 | .mk k _ s c => rrK k s 0 c (if usesN k then [s] else [])
def rrK (k : Int) (s : ByteArray) : Nat → List Tr → List ByteArray → List ByteArray
 | _, [], A => A
 | i, t :: r, A => rrK k s (i + 1) r (unionN s (hidesN k i) A (rrT t))
end
mutual
theorem rrT_len : ∀ t : Tr, (rrT t).length ≤ t.size
 | .mk k _ s c => by
  have := rrK_len k s c 0 (if usesN k then [s] else [])
  have h2 : (if usesN k = true then [s] else []).length ≤ 1 := by split <;> simp
  simp only [rrT, Tr.size]; omega
theorem rrK_len (k : Int) (s : ByteArray) : ∀ (c : List Tr) (i : Nat) (A : List ByteArray), (rrK k s i c A).length ≤ A.length + Tr.sizes c
 | [], i, A => by simp [rrK]
 | t :: r, i, A => by
  have h1 := rrK_len k s r (i + 1) (unionN s (hidesN k i) A (rrT t))
  have h2 := unionN_len s (hidesN k i) (rrT t) A
  have h3 := rrT_len t
  simp only [rrK, Tr.sizes]; omega
end
theorem rrT_eq (t : Tr) : rrT t = rrK t.kind t.name 0 t.kids (if usesN t.kind then [t.name] else []) := by cases t; rw [rrT]; rfl
theorem rrK_step {k : Int} {s : ByteArray} {c : List Tr} {A : List ByteArray} {i : Nat} (h : i < c.length) : rrK k s i (c.drop i) A = rrK k s (i + 1) (c.drop (i + 1)) (unionN s (hidesN k i) A (rrT c[i])) := by
 rw [List.drop_eq_getElem_cons h]; simp only [rrK]
theorem putN_nil (s : ByteArray) : putN [] s = [s] := rfl
set_option maxRecDepth 100000 in
set_option maxHeartbeats 4000000 in
theorem rreads_step (t : Tr) (_hsz : t.size ≤ 1000000) (hl : Tr.sizes t.kids + 1 ≤ 1000000) (hll : t.kids.length ≤ 1000000) (hg : ∀ x ∈ t.kids, fn EV 15 [dN x] = some (sl 1 ((rrT x).map dS))) : fn EV 15 [dN t] = some (sl 1 ((rrT t).map dS)) := by
 refine fn_Xs rfl Try.func15 rfl (by simp only [plain, List.all_cons, List.all_nil, dN_under, dN_good, Bool.and_true]) (rfl) ?_
 simp only [zmc, zmn, dN_strip]
 simp only [enterSt, Try.ntmps15, zlc, zln, Nat.reduceAdd, Nat.reduceSub, zr1, zr0, zca, zna]
 refine X_seq ?_
 refine X_rg fun R hR => ?_
 simp only [aops, astep, awant, aeff, aop, ev, ofValue, St.put, zg0, zgd, zmo, if_true, zs1, zs0, zln, zna, dN_cells, dN_good, sl]
 with_reducible refine hR _ ?_
 clear hR R
 show X _ _ _ _
 refine X_seq ?_
 refine X_rg fun R hR => ?_
 simp only [aops, astep, awant, aeff, aop, ev, ofValue, St.put, zgd, zmo, if_true, zs1, zs0]
 with_reducible refine hR _ ?_
 clear hR R
 show X _ _ _ _
 refine X_seq ?_
 refine X_seq ?_
 refine X_y ?_
 refine Y_k 4 fun R hR => ?_
 simp only [EVP, inr_u8, Int.reduceLE, aops, astep, awant, aeff, aop, abin, aint, mkD, ev, ofValue, St.put, ia_int, zg1, zg0, zgd, zmo, if_true, zs1, zs0, zlc, zln, zd0, zt1, zt0, Nat.reduceAdd, Nat.reduceLeDiff, Nat.zero_add, Nat.add_zero, zft, if_false, and_self, reduceCtorEq, ty_uint8, ty_api_Node]
 with_reducible refine hR _ ?_
 clear hR R
 simp only [zd1, zd0]
 refine Y_if 8 (by simp only [ev, zg1, zg0, zgd]; exact rfl) ?_ ?_
 ·intro b1
  have c1 := b1
  try simp only [beq_iff_eq] at c1
  refine Y_end fun R hR => ?_
  simp only [EVP, inr_u8, Int.reduceLE, aops, astep, awant, aeff, aop, abin, ev, ofValue, St.put, zg1, zg0, zgd, zmo, Option.map_none, zbs, if_true, zs1, zs0, Nat.add_zero, zft, if_false, and_self, reduceCtorEq, bq_tf, ty_uint8, ty_api_Node, b1]
  with_reducible refine hR _ ?_
  clear hR R
  show X _ _ _ _
  refine X_true (by simp only [ev, zg1, zg0, zgd]) ?_
  have hp := put_call IsL.nil t.name (by simp)
  rw [putN_nil] at hp
  refine X_rg fun R hR => ?_
  simp only [EVP, aops, astep, awant, aeff, aop, mkD, ev, St.put, pcall, ia_str, zmc, zmn, zg1, zg0, zgd, zmo, if_true, zs1, zs0, zlc, zln, zd1, zd0, zt1, zt0, zca, zna, Nat.reduceAdd, Nat.reduceLeDiff, Nat.zero_add, zft, if_false, reduceCtorEq, ty_string, ty_api_Node, any35, sl, hp]
  with_reducible refine hR _ ?_
  clear hR R
  show X _ _ _ _
  refine X_seq ?_
  refine X_seq ?_
  refine X_rg fun R hR => ?_
  simp only [inr_i64, Int.reduceLE, Int.reduceNeg, aops, astep, awant, aeff, aop, ev, ofValue, St.put, zgd, zmo, if_true, zs1, zs0, and_self]
  with_reducible refine hR _ ?_
  clear hR R
  show X _ _ _ _
  refine X_block ?_
  refine X_loop (fun m σ => ∃ (i : Nat) (A : List ByteArray) (o : Own) (n : Nat) (r : List (List D)), σ = ⟨[slotOf σ 0, .ptr 0 0, slotOf σ 2, .slice o n (A.map dS), .int .i64 i, slotOf σ 5, slotOf σ 6, slotOf σ 7, slotOf σ 8, slotOf σ 9, slotOf σ 10, slotOf σ 11, slotOf σ 12, slotOf σ 13, slotOf σ 14, slotOf σ 15, slotOf σ 16, slotOf σ 17, slotOf σ 18, slotOf σ 19, slotOf σ 20, slotOf σ 21, slotOf σ 22, slotOf σ 23, slotOf σ 24, slotOf σ 25, slotOf σ 26, slotOf σ 27, slotOf σ 28, slotOf σ 29, slotOf σ 30, slotOf σ 31, slotOf σ 32, slotOf σ 33, slotOf σ 34, slotOf σ 35, slotOf σ 36, slotOf σ 37, slotOf σ 38, slotOf σ 39, slotOf σ 40, slotOf σ 41, slotOf σ 42, slotOf σ 43, slotOf σ 44, slotOf σ 45, slotOf σ 46, slotOf σ 47, slotOf σ 48, slotOf σ 49, slotOf σ 50, slotOf σ 51, slotOf σ 52, slotOf σ 53, slotOf σ 54, slotOf σ 55, slotOf σ 56, slotOf σ 57, slotOf σ 58], [.int .u8 t.kind, .int .i64 t.num, .str t.name, .slice .imm (if (t.kids.map dN).isEmpty = true then 0 else 4) (t.kids.map dN)] :: r, 0, []⟩ ∧ m = t.kids.length - i ∧ i ≤ t.kids.length ∧ IsL (.slice o n (A.map dS)) A ∧ A.length ≤ 1 + Tr.sizes (t.kids.take i) ∧ Hid (rrT t = rrK t.kind t.name i (t.kids.drop i) A)) ?_ (t.kids.length) _ ?_
  rotate_left
  ·have hu : usesN t.kind = true := by first | (simp [usesN, b1]; done) | (simp_all [usesN]; done)
   exact ⟨0, [t.name], _, _, [], rfl, rfl, Nat.zero_le _, IsL.sl' [t.name], by simp, Lib.hid (by rw [rrT_eq, hu]; rfl)⟩
  rintro m σ ⟨i, A, o, n, r, hσ, rfl, hi, hd, hA, hf⟩
  generalize slotOf σ = x at hσ
  subst hσ
  refine X_seq ?_
  refine X_seq ?_
  refine X_rg fun R hR => ?_
  simp only [EVP, nat_lt, aops, astep, awant, aeff, aop, abin, aint, mkD, ev, St.put, ia_slice, zg1, zg0, zgd, zmo, if_true, zs1, zs0, zlm, zlc, zln, zd1, zd0, zt1, zt0, Nat.reduceAdd, Nat.reduceLeDiff, Nat.zero_add, zft, if_false, reduceCtorEq, ty_s_api_Node, ty_api_Node, und_api_Node]
  with_reducible refine hR _ ?_
  clear hR R
  show X _ _ _ _
  refine X_ite (by simp only [ev, zg1, zg0, zgd]; exact rfl) ?_ ?_
  ·intro b2
   have c2 := b2
   try simp only [decide_eq_true_eq] at c2
   refine X_skip ?_
   show X _ _ _ _
   refine X_seq ?_
   refine X_block ?_
   have hlt : i < t.kids.length := by first | assumption | omega | simp_all
   have hn1 := idx_n (f := dN) (n := 4) hlt
   have e1 : (t.kids.map dN)[i]? = some (dN t.kids[i]) := by simp [hlt]
   have hg1 := hg t.kids[i] (List.getElem_mem hlt)
   have hi1 := inner_fn t
   have hls := rrT_len t.kids[i]
   have hts := Tr.sizes_take t.kids i hlt
   have htl := Tr.sizes_take_le t.kids (i + 1)
   have hU := union_call hd (IsL.sl' (rrT t.kids[i])) t.name (hidesN t.kind i) (by omega)
   refine X_rg fun R hR => ?_
   simp only [EVP, nat_lt, nat_0, nat_to, aops, astep, awant, aeff, aop, abin, aint, mkD, ev, St.put, pcall, ia_str, ia_slice, zmc, zmn, zg1, zg0, zgd, zmo, if_true, zs1, zs0, zlm, zlc, zln, zd1, zd0, zt1, zt0, zca, zna, Nat.reduceAdd, Nat.reduceLeDiff, Nat.zero_add, zft, if_false, and_self, reduceCtorEq, decide_true, zis, ty_string, ty_s_api_Node, ty_api_Node, und_api_Node, siz_api_Node, inf_api_Node_eq, any15, any36, any37, dN_agg, dN_cells, dN_isAgg, sl, hlt, hn1, e1, hg1, hi1, inner_eq, hU]
   with_reducible refine hR _ ?_
   clear hR R
   show X _ _ _ _
   have hbig : i < 9223372036854775807 := by omega
   refine X_rg fun R hR => ?_
   simp only [inr_i64, Int.reduceLE, Int.reduceNeg, aops, astep, awant, aeff, aop, abin, aint, ev, ofValue, St.put, zg1, zg0, zgd, zmo, if_true, zs1, zs0, and_self, nat_succ hbig]
   with_reducible refine hR _ ?_
   clear hR R
   show ∃ m, m < _ ∧ _
   have hul := unionN_len t.name (hidesN t.kind i) (rrT t.kids[i]) A
   exact ⟨t.kids.length - (i + 1), by omega, i + 1, _, _, _, _, rfl, rfl, by omega, IsL.sl' _, by omega, Lib.hid (hf.out.trans (rrK_step hlt))⟩
  ·intro b3
   have c3 := b3
   try simp only [decide_eq_false_iff_not] at c3
   refine X_exit ?_
   show X _ _ _ _
   refine X_seq ?_
   refine X_rg fun R hR => ?_
   simp only [aops, astep, awant, aeff, aop, ev, St.put, zg1, zg0, zgd, zmo, if_true, zs1, zs0, b3]
   with_reducible refine hR _ ?_
   clear hR R
   show X _ _ _ _
   refine X_ret ?_
   show ∃ d, resD _ _ _ = some d ∧ _ ∧ _
   have hU : rrT t = A := by rw [hf.out, List.drop_of_length_le (by omega)]; simp only [rrK]
   refine ⟨_, by simp only [resD, resAll, resOne, resTup, Try.results15, EVP, zg1, zg0, D.good, if_true, zmo] <;> exact rfl, hd.u 0, by rw [hU]; exact hd.s⟩
 ·intro b4
  have c4 := b4
  try simp only [ne_eq, beq_eq_false_iff_ne] at c4
  refine Y_k 5 fun R hR => ?_
  simp only [EVP, inr_u8, Int.reduceLE, aops, astep, awant, aeff, aop, abin, aint, mkD, ev, ofValue, St.put, ia_int, zg1, zg0, zgd, zmo, zbs, if_true, zs1, zs0, zlc, zln, zd0, zt1, zt0, Nat.reduceAdd, Nat.reduceLeDiff, Nat.zero_add, Nat.add_zero, zft, if_false, and_self, reduceCtorEq, beq_self_eq_true, ty_uint8, ty_api_Node, b4]
  with_reducible refine hR _ ?_
  clear hR R
  simp only [zd1, zd0]
  refine Y_if 13 (by simp only [ev, zg1, zg0, zgd]; exact rfl) ?_ ?_
  ·intro b5
   have c5 := b5
   try simp only [beq_iff_eq] at c5
   refine Y_end fun R hR => ?_
   simp only [EVP, inr_u8, Int.reduceLE, aops, astep, awant, aeff, aop, abin, ev, ofValue, St.put, zg1, zg0, zgd, zmo, Option.map_none, zbs, if_true, zs1, zs0, Nat.add_zero, zft, if_false, and_self, reduceCtorEq, bq_tf, ty_uint8, ty_api_Node, b5]
   with_reducible refine hR _ ?_
   clear hR R
   show X _ _ _ _
   refine X_true (by simp only [ev, zg1, zg0, zgd]) ?_
   have hp := put_call IsL.nil t.name (by simp)
   rw [putN_nil] at hp
   refine X_rg fun R hR => ?_
   simp only [EVP, aops, astep, awant, aeff, aop, mkD, ev, St.put, pcall, ia_str, zmc, zmn, zg1, zg0, zgd, zmo, if_true, zs1, zs0, zlc, zln, zd1, zd0, zt1, zt0, zca, zna, Nat.reduceAdd, Nat.reduceLeDiff, Nat.zero_add, zft, if_false, reduceCtorEq, ty_string, ty_api_Node, any35, sl, hp]
   with_reducible refine hR _ ?_
   clear hR R
   show X _ _ _ _
   refine X_seq ?_
   refine X_seq ?_
   refine X_rg fun R hR => ?_
   simp only [inr_i64, Int.reduceLE, Int.reduceNeg, aops, astep, awant, aeff, aop, ev, ofValue, St.put, zgd, zmo, if_true, zs1, zs0, and_self]
   with_reducible refine hR _ ?_
   clear hR R
   show X _ _ _ _
   refine X_block ?_
   refine X_loop (fun m σ => ∃ (i : Nat) (A : List ByteArray) (o : Own) (n : Nat) (r : List (List D)), σ = ⟨[slotOf σ 0, .ptr 0 0, slotOf σ 2, .slice o n (A.map dS), .int .i64 i, slotOf σ 5, slotOf σ 6, slotOf σ 7, slotOf σ 8, slotOf σ 9, slotOf σ 10, slotOf σ 11, slotOf σ 12, slotOf σ 13, slotOf σ 14, slotOf σ 15, slotOf σ 16, slotOf σ 17, slotOf σ 18, slotOf σ 19, slotOf σ 20, slotOf σ 21, slotOf σ 22, slotOf σ 23, slotOf σ 24, slotOf σ 25, slotOf σ 26, slotOf σ 27, slotOf σ 28, slotOf σ 29, slotOf σ 30, slotOf σ 31, slotOf σ 32, slotOf σ 33, slotOf σ 34, slotOf σ 35, slotOf σ 36, slotOf σ 37, slotOf σ 38, slotOf σ 39, slotOf σ 40, slotOf σ 41, slotOf σ 42, slotOf σ 43, slotOf σ 44, slotOf σ 45, slotOf σ 46, slotOf σ 47, slotOf σ 48, slotOf σ 49, slotOf σ 50, slotOf σ 51, slotOf σ 52, slotOf σ 53, slotOf σ 54, slotOf σ 55, slotOf σ 56, slotOf σ 57, slotOf σ 58], [.int .u8 t.kind, .int .i64 t.num, .str t.name, .slice .imm (if (t.kids.map dN).isEmpty = true then 0 else 4) (t.kids.map dN)] :: r, 0, []⟩ ∧ m = t.kids.length - i ∧ i ≤ t.kids.length ∧ IsL (.slice o n (A.map dS)) A ∧ A.length ≤ 1 + Tr.sizes (t.kids.take i) ∧ Hid (rrT t = rrK t.kind t.name i (t.kids.drop i) A)) ?_ (t.kids.length) _ ?_
   rotate_left
   ·have hu : usesN t.kind = true := by first | (simp [usesN, b4, b5]; done) | (simp_all [usesN]; done)
    exact ⟨0, [t.name], _, _, [], rfl, rfl, Nat.zero_le _, IsL.sl' [t.name], by simp, Lib.hid (by rw [rrT_eq, hu]; rfl)⟩
   rintro m σ ⟨i, A, o, n, r, hσ, rfl, hi, hd, hA, hf⟩
   generalize slotOf σ = x at hσ
   subst hσ
   refine X_seq ?_
   refine X_seq ?_
   refine X_rg fun R hR => ?_
   simp only [EVP, nat_lt, aops, astep, awant, aeff, aop, abin, aint, mkD, ev, St.put, ia_slice, zg1, zg0, zgd, zmo, if_true, zs1, zs0, zlm, zlc, zln, zd1, zd0, zt1, zt0, Nat.reduceAdd, Nat.reduceLeDiff, Nat.zero_add, zft, if_false, reduceCtorEq, ty_s_api_Node, ty_api_Node, und_api_Node]
   with_reducible refine hR _ ?_
   clear hR R
   show X _ _ _ _
   refine X_ite (by simp only [ev, zg1, zg0, zgd]; exact rfl) ?_ ?_
   ·intro b6
    have c6 := b6
    try simp only [decide_eq_true_eq] at c6
    refine X_skip ?_
    show X _ _ _ _
    refine X_seq ?_
    refine X_block ?_
    have hlt : i < t.kids.length := by first | assumption | omega | simp_all
    have hn1 := idx_n (f := dN) (n := 4) hlt
    have e1 : (t.kids.map dN)[i]? = some (dN t.kids[i]) := by simp [hlt]
    have hg1 := hg t.kids[i] (List.getElem_mem hlt)
    have hi1 := inner_fn t
    have hls := rrT_len t.kids[i]
    have hts := Tr.sizes_take t.kids i hlt
    have htl := Tr.sizes_take_le t.kids (i + 1)
    have hU := union_call hd (IsL.sl' (rrT t.kids[i])) t.name (hidesN t.kind i) (by omega)
    refine X_rg fun R hR => ?_
    simp only [EVP, nat_lt, nat_0, nat_to, aops, astep, awant, aeff, aop, abin, aint, mkD, ev, St.put, pcall, ia_str, ia_slice, zmc, zmn, zg1, zg0, zgd, zmo, if_true, zs1, zs0, zlm, zlc, zln, zd1, zd0, zt1, zt0, zca, zna, Nat.reduceAdd, Nat.reduceLeDiff, Nat.zero_add, zft, if_false, and_self, reduceCtorEq, decide_true, zis, ty_string, ty_s_api_Node, ty_api_Node, und_api_Node, siz_api_Node, inf_api_Node_eq, any15, any36, any37, dN_agg, dN_cells, dN_isAgg, sl, hlt, hn1, e1, hg1, hi1, inner_eq, hU]
    with_reducible refine hR _ ?_
    clear hR R
    show X _ _ _ _
    have hbig : i < 9223372036854775807 := by omega
    refine X_rg fun R hR => ?_
    simp only [inr_i64, Int.reduceLE, Int.reduceNeg, aops, astep, awant, aeff, aop, abin, aint, ev, ofValue, St.put, zg1, zg0, zgd, zmo, if_true, zs1, zs0, and_self, nat_succ hbig]
    with_reducible refine hR _ ?_
    clear hR R
    show ∃ m, m < _ ∧ _
    have hul := unionN_len t.name (hidesN t.kind i) (rrT t.kids[i]) A
    exact ⟨t.kids.length - (i + 1), by omega, i + 1, _, _, _, _, rfl, rfl, by omega, IsL.sl' _, by omega, Lib.hid (hf.out.trans (rrK_step hlt))⟩
   ·intro b7
    have c7 := b7
    try simp only [decide_eq_false_iff_not] at c7
    refine X_exit ?_
    show X _ _ _ _
    refine X_seq ?_
    refine X_rg fun R hR => ?_
    simp only [aops, astep, awant, aeff, aop, ev, St.put, zg1, zg0, zgd, zmo, if_true, zs1, zs0, b7]
    with_reducible refine hR _ ?_
    clear hR R
    show X _ _ _ _
    refine X_ret ?_
    show ∃ d, resD _ _ _ = some d ∧ _ ∧ _
    have hU : rrT t = A := by rw [hf.out, List.drop_of_length_le (by omega)]; simp only [rrK]
    refine ⟨_, by simp only [resD, resAll, resOne, resTup, Try.results15, EVP, zg1, zg0, D.good, if_true, zmo] <;> exact rfl, hd.u 0, by rw [hU]; exact hd.s⟩
  ·intro b8
   have c8 := b8
   try simp only [ne_eq, beq_eq_false_iff_ne] at c8
   refine Y_k 5 fun R hR => ?_
   simp only [EVP, inr_u8, Int.reduceLE, aops, astep, awant, aeff, aop, abin, aint, mkD, ev, ofValue, St.put, ia_int, zg1, zg0, zgd, zmo, zbs, if_true, zs1, zs0, zlc, zln, zd0, zt1, zt0, Nat.reduceAdd, Nat.reduceLeDiff, Nat.zero_add, Nat.add_zero, zft, if_false, and_self, reduceCtorEq, beq_self_eq_true, ty_uint8, ty_api_Node, b8]
   with_reducible refine hR _ ?_
   clear hR R
   simp only [zd1, zd0]
   refine Y_if 18 (by simp only [ev, zg1, zg0, zgd]; exact rfl) ?_ ?_
   ·intro b9
    have c9 := b9
    try simp only [beq_iff_eq] at c9
    refine Y_end fun R hR => ?_
    simp only [EVP, inr_u8, Int.reduceLE, aops, astep, awant, aeff, aop, abin, ev, ofValue, St.put, zg1, zg0, zgd, zmo, Option.map_none, zbs, if_true, zs1, zs0, Nat.add_zero, zft, if_false, and_self, reduceCtorEq, bq_tf, ty_uint8, ty_api_Node, b9]
    with_reducible refine hR _ ?_
    clear hR R
    show X _ _ _ _
    refine X_true (by simp only [ev, zg1, zg0, zgd]) ?_
    have hp := put_call IsL.nil t.name (by simp)
    rw [putN_nil] at hp
    refine X_rg fun R hR => ?_
    simp only [EVP, aops, astep, awant, aeff, aop, mkD, ev, St.put, pcall, ia_str, zmc, zmn, zg1, zg0, zgd, zmo, if_true, zs1, zs0, zlc, zln, zd1, zd0, zt1, zt0, zca, zna, Nat.reduceAdd, Nat.reduceLeDiff, Nat.zero_add, zft, if_false, reduceCtorEq, ty_string, ty_api_Node, any35, sl, hp]
    with_reducible refine hR _ ?_
    clear hR R
    show X _ _ _ _
    refine X_seq ?_
    refine X_seq ?_
    refine X_rg fun R hR => ?_
    simp only [inr_i64, Int.reduceLE, Int.reduceNeg, aops, astep, awant, aeff, aop, ev, ofValue, St.put, zgd, zmo, if_true, zs1, zs0, and_self]
    with_reducible refine hR _ ?_
    clear hR R
    show X _ _ _ _
    refine X_block ?_
    refine X_loop (fun m σ => ∃ (i : Nat) (A : List ByteArray) (o : Own) (n : Nat) (r : List (List D)), σ = ⟨[slotOf σ 0, .ptr 0 0, slotOf σ 2, .slice o n (A.map dS), .int .i64 i, slotOf σ 5, slotOf σ 6, slotOf σ 7, slotOf σ 8, slotOf σ 9, slotOf σ 10, slotOf σ 11, slotOf σ 12, slotOf σ 13, slotOf σ 14, slotOf σ 15, slotOf σ 16, slotOf σ 17, slotOf σ 18, slotOf σ 19, slotOf σ 20, slotOf σ 21, slotOf σ 22, slotOf σ 23, slotOf σ 24, slotOf σ 25, slotOf σ 26, slotOf σ 27, slotOf σ 28, slotOf σ 29, slotOf σ 30, slotOf σ 31, slotOf σ 32, slotOf σ 33, slotOf σ 34, slotOf σ 35, slotOf σ 36, slotOf σ 37, slotOf σ 38, slotOf σ 39, slotOf σ 40, slotOf σ 41, slotOf σ 42, slotOf σ 43, slotOf σ 44, slotOf σ 45, slotOf σ 46, slotOf σ 47, slotOf σ 48, slotOf σ 49, slotOf σ 50, slotOf σ 51, slotOf σ 52, slotOf σ 53, slotOf σ 54, slotOf σ 55, slotOf σ 56, slotOf σ 57, slotOf σ 58], [.int .u8 t.kind, .int .i64 t.num, .str t.name, .slice .imm (if (t.kids.map dN).isEmpty = true then 0 else 4) (t.kids.map dN)] :: r, 0, []⟩ ∧ m = t.kids.length - i ∧ i ≤ t.kids.length ∧ IsL (.slice o n (A.map dS)) A ∧ A.length ≤ 1 + Tr.sizes (t.kids.take i) ∧ Hid (rrT t = rrK t.kind t.name i (t.kids.drop i) A)) ?_ (t.kids.length) _ ?_
    rotate_left
    ·have hu : usesN t.kind = true := by first | (simp [usesN, b4, b8, b9]; done) | (simp_all [usesN]; done)
     exact ⟨0, [t.name], _, _, [], rfl, rfl, Nat.zero_le _, IsL.sl' [t.name], by simp, Lib.hid (by rw [rrT_eq, hu]; rfl)⟩
    rintro m σ ⟨i, A, o, n, r, hσ, rfl, hi, hd, hA, hf⟩
    generalize slotOf σ = x at hσ
    subst hσ
    refine X_seq ?_
    refine X_seq ?_
    refine X_rg fun R hR => ?_
    simp only [EVP, nat_lt, aops, astep, awant, aeff, aop, abin, aint, mkD, ev, St.put, ia_slice, zg1, zg0, zgd, zmo, if_true, zs1, zs0, zlm, zlc, zln, zd1, zd0, zt1, zt0, Nat.reduceAdd, Nat.reduceLeDiff, Nat.zero_add, zft, if_false, reduceCtorEq, ty_s_api_Node, ty_api_Node, und_api_Node]
    with_reducible refine hR _ ?_
    clear hR R
    show X _ _ _ _
    refine X_ite (by simp only [ev, zg1, zg0, zgd]; exact rfl) ?_ ?_
    ·intro b10
     have c10 := b10
     try simp only [decide_eq_true_eq] at c10
     refine X_skip ?_
     show X _ _ _ _
     refine X_seq ?_
     refine X_block ?_
     have hlt : i < t.kids.length := by first | assumption | omega | simp_all
     have hn1 := idx_n (f := dN) (n := 4) hlt
     have e1 : (t.kids.map dN)[i]? = some (dN t.kids[i]) := by simp [hlt]
     have hg1 := hg t.kids[i] (List.getElem_mem hlt)
     have hi1 := inner_fn t
     have hls := rrT_len t.kids[i]
     have hts := Tr.sizes_take t.kids i hlt
     have htl := Tr.sizes_take_le t.kids (i + 1)
     have hU := union_call hd (IsL.sl' (rrT t.kids[i])) t.name (hidesN t.kind i) (by omega)
     refine X_rg fun R hR => ?_
     simp only [EVP, nat_lt, nat_0, nat_to, aops, astep, awant, aeff, aop, abin, aint, mkD, ev, St.put, pcall, ia_str, ia_slice, zmc, zmn, zg1, zg0, zgd, zmo, if_true, zs1, zs0, zlm, zlc, zln, zd1, zd0, zt1, zt0, zca, zna, Nat.reduceAdd, Nat.reduceLeDiff, Nat.zero_add, zft, if_false, and_self, reduceCtorEq, decide_true, zis, ty_string, ty_s_api_Node, ty_api_Node, und_api_Node, siz_api_Node, inf_api_Node_eq, any15, any36, any37, dN_agg, dN_cells, dN_isAgg, sl, hlt, hn1, e1, hg1, hi1, inner_eq, hU]
     with_reducible refine hR _ ?_
     clear hR R
     show X _ _ _ _
     have hbig : i < 9223372036854775807 := by omega
     refine X_rg fun R hR => ?_
     simp only [inr_i64, Int.reduceLE, Int.reduceNeg, aops, astep, awant, aeff, aop, abin, aint, ev, ofValue, St.put, zg1, zg0, zgd, zmo, if_true, zs1, zs0, and_self, nat_succ hbig]
     with_reducible refine hR _ ?_
     clear hR R
     show ∃ m, m < _ ∧ _
     have hul := unionN_len t.name (hidesN t.kind i) (rrT t.kids[i]) A
     exact ⟨t.kids.length - (i + 1), by omega, i + 1, _, _, _, _, rfl, rfl, by omega, IsL.sl' _, by omega, Lib.hid (hf.out.trans (rrK_step hlt))⟩
    ·intro b11
     have c11 := b11
     try simp only [decide_eq_false_iff_not] at c11
     refine X_exit ?_
     show X _ _ _ _
     refine X_seq ?_
     refine X_rg fun R hR => ?_
     simp only [aops, astep, awant, aeff, aop, ev, St.put, zg1, zg0, zgd, zmo, if_true, zs1, zs0, b11]
     with_reducible refine hR _ ?_
     clear hR R
     show X _ _ _ _
     refine X_ret ?_
     show ∃ d, resD _ _ _ = some d ∧ _ ∧ _
     have hU : rrT t = A := by rw [hf.out, List.drop_of_length_le (by omega)]; simp only [rrK]
     refine ⟨_, by simp only [resD, resAll, resOne, resTup, Try.results15, EVP, zg1, zg0, D.good, if_true, zmo] <;> exact rfl, hd.u 0, by rw [hU]; exact hd.s⟩
   ·intro b12
    have c12 := b12
    try simp only [ne_eq, beq_eq_false_iff_ne] at c12
    refine Y_k 5 fun R hR => ?_
    simp only [EVP, inr_u8, Int.reduceLE, aops, astep, awant, aeff, aop, abin, aint, mkD, ev, ofValue, St.put, ia_int, zg1, zg0, zgd, zmo, zbs, if_true, zs1, zs0, zlc, zln, zd0, zt1, zt0, Nat.reduceAdd, Nat.reduceLeDiff, Nat.zero_add, Nat.add_zero, zft, if_false, and_self, reduceCtorEq, beq_self_eq_true, ty_uint8, ty_api_Node, b12]
    with_reducible refine hR _ ?_
    clear hR R
    simp only [zd1, zd0]
    refine Y_if 23 (by simp only [ev, zg1, zg0, zgd]; exact rfl) ?_ ?_
    ·intro b13
     have c13 := b13
     try simp only [beq_iff_eq] at c13
     refine Y_end fun R hR => ?_
     simp only [EVP, inr_u8, Int.reduceLE, aops, astep, awant, aeff, aop, abin, ev, ofValue, St.put, zg1, zg0, zgd, zmo, Option.map_none, zbs, if_true, zs1, zs0, Nat.add_zero, zft, if_false, and_self, reduceCtorEq, bq_tf, ty_uint8, ty_api_Node, b13]
     with_reducible refine hR _ ?_
     clear hR R
     show X _ _ _ _
     refine X_true (by simp only [ev, zg1, zg0, zgd]) ?_
     have hp := put_call IsL.nil t.name (by simp)
     rw [putN_nil] at hp
     refine X_rg fun R hR => ?_
     simp only [EVP, aops, astep, awant, aeff, aop, mkD, ev, St.put, pcall, ia_str, zmc, zmn, zg1, zg0, zgd, zmo, if_true, zs1, zs0, zlc, zln, zd1, zd0, zt1, zt0, zca, zna, Nat.reduceAdd, Nat.reduceLeDiff, Nat.zero_add, zft, if_false, reduceCtorEq, ty_string, ty_api_Node, any35, sl, hp]
     with_reducible refine hR _ ?_
     clear hR R
     show X _ _ _ _
     refine X_seq ?_
     refine X_seq ?_
     refine X_rg fun R hR => ?_
     simp only [inr_i64, Int.reduceLE, Int.reduceNeg, aops, astep, awant, aeff, aop, ev, ofValue, St.put, zgd, zmo, if_true, zs1, zs0, and_self]
     with_reducible refine hR _ ?_
     clear hR R
     show X _ _ _ _
     refine X_block ?_
     refine X_loop (fun m σ => ∃ (i : Nat) (A : List ByteArray) (o : Own) (n : Nat) (r : List (List D)), σ = ⟨[slotOf σ 0, .ptr 0 0, slotOf σ 2, .slice o n (A.map dS), .int .i64 i, slotOf σ 5, slotOf σ 6, slotOf σ 7, slotOf σ 8, slotOf σ 9, slotOf σ 10, slotOf σ 11, slotOf σ 12, slotOf σ 13, slotOf σ 14, slotOf σ 15, slotOf σ 16, slotOf σ 17, slotOf σ 18, slotOf σ 19, slotOf σ 20, slotOf σ 21, slotOf σ 22, slotOf σ 23, slotOf σ 24, slotOf σ 25, slotOf σ 26, slotOf σ 27, slotOf σ 28, slotOf σ 29, slotOf σ 30, slotOf σ 31, slotOf σ 32, slotOf σ 33, slotOf σ 34, slotOf σ 35, slotOf σ 36, slotOf σ 37, slotOf σ 38, slotOf σ 39, slotOf σ 40, slotOf σ 41, slotOf σ 42, slotOf σ 43, slotOf σ 44, slotOf σ 45, slotOf σ 46, slotOf σ 47, slotOf σ 48, slotOf σ 49, slotOf σ 50, slotOf σ 51, slotOf σ 52, slotOf σ 53, slotOf σ 54, slotOf σ 55, slotOf σ 56, slotOf σ 57, slotOf σ 58], [.int .u8 t.kind, .int .i64 t.num, .str t.name, .slice .imm (if (t.kids.map dN).isEmpty = true then 0 else 4) (t.kids.map dN)] :: r, 0, []⟩ ∧ m = t.kids.length - i ∧ i ≤ t.kids.length ∧ IsL (.slice o n (A.map dS)) A ∧ A.length ≤ 1 + Tr.sizes (t.kids.take i) ∧ Hid (rrT t = rrK t.kind t.name i (t.kids.drop i) A)) ?_ (t.kids.length) _ ?_
     rotate_left
     ·have hu : usesN t.kind = true := by first | (simp [usesN, b4, b8, b12, b13]; done) | (simp_all [usesN]; done)
      exact ⟨0, [t.name], _, _, [], rfl, rfl, Nat.zero_le _, IsL.sl' [t.name], by simp, Lib.hid (by rw [rrT_eq, hu]; rfl)⟩
     rintro m σ ⟨i, A, o, n, r, hσ, rfl, hi, hd, hA, hf⟩
     generalize slotOf σ = x at hσ
     subst hσ
     refine X_seq ?_
     refine X_seq ?_
     refine X_rg fun R hR => ?_
     simp only [EVP, nat_lt, aops, astep, awant, aeff, aop, abin, aint, mkD, ev, St.put, ia_slice, zg1, zg0, zgd, zmo, if_true, zs1, zs0, zlm, zlc, zln, zd1, zd0, zt1, zt0, Nat.reduceAdd, Nat.reduceLeDiff, Nat.zero_add, zft, if_false, reduceCtorEq, ty_s_api_Node, ty_api_Node, und_api_Node]
     with_reducible refine hR _ ?_
     clear hR R
     show X _ _ _ _
     refine X_ite (by simp only [ev, zg1, zg0, zgd]; exact rfl) ?_ ?_
     ·intro b14
      have c14 := b14
      try simp only [decide_eq_true_eq] at c14
      refine X_skip ?_
      show X _ _ _ _
      refine X_seq ?_
      refine X_block ?_
      have hlt : i < t.kids.length := by first | assumption | omega | simp_all
      have hn1 := idx_n (f := dN) (n := 4) hlt
      have e1 : (t.kids.map dN)[i]? = some (dN t.kids[i]) := by simp [hlt]
      have hg1 := hg t.kids[i] (List.getElem_mem hlt)
      have hi1 := inner_fn t
      have hls := rrT_len t.kids[i]
      have hts := Tr.sizes_take t.kids i hlt
      have htl := Tr.sizes_take_le t.kids (i + 1)
      have hU := union_call hd (IsL.sl' (rrT t.kids[i])) t.name (hidesN t.kind i) (by omega)
      refine X_rg fun R hR => ?_
      simp only [EVP, nat_lt, nat_0, nat_to, aops, astep, awant, aeff, aop, abin, aint, mkD, ev, St.put, pcall, ia_str, ia_slice, zmc, zmn, zg1, zg0, zgd, zmo, if_true, zs1, zs0, zlm, zlc, zln, zd1, zd0, zt1, zt0, zca, zna, Nat.reduceAdd, Nat.reduceLeDiff, Nat.zero_add, zft, if_false, and_self, reduceCtorEq, decide_true, zis, ty_string, ty_s_api_Node, ty_api_Node, und_api_Node, siz_api_Node, inf_api_Node_eq, any15, any36, any37, dN_agg, dN_cells, dN_isAgg, sl, hlt, hn1, e1, hg1, hi1, inner_eq, hU]
      with_reducible refine hR _ ?_
      clear hR R
      show X _ _ _ _
      have hbig : i < 9223372036854775807 := by omega
      refine X_rg fun R hR => ?_
      simp only [inr_i64, Int.reduceLE, Int.reduceNeg, aops, astep, awant, aeff, aop, abin, aint, ev, ofValue, St.put, zg1, zg0, zgd, zmo, if_true, zs1, zs0, and_self, nat_succ hbig]
      with_reducible refine hR _ ?_
      clear hR R
      show ∃ m, m < _ ∧ _
      have hul := unionN_len t.name (hidesN t.kind i) (rrT t.kids[i]) A
      exact ⟨t.kids.length - (i + 1), by omega, i + 1, _, _, _, _, rfl, rfl, by omega, IsL.sl' _, by omega, Lib.hid (hf.out.trans (rrK_step hlt))⟩
     ·intro b15
      have c15 := b15
      try simp only [decide_eq_false_iff_not] at c15
      refine X_exit ?_
      show X _ _ _ _
      refine X_seq ?_
      refine X_rg fun R hR => ?_
      simp only [aops, astep, awant, aeff, aop, ev, St.put, zg1, zg0, zgd, zmo, if_true, zs1, zs0, b15]
      with_reducible refine hR _ ?_
      clear hR R
      show X _ _ _ _
      refine X_ret ?_
      show ∃ d, resD _ _ _ = some d ∧ _ ∧ _
      have hU : rrT t = A := by rw [hf.out, List.drop_of_length_le (by omega)]; simp only [rrK]
      refine ⟨_, by simp only [resD, resAll, resOne, resTup, Try.results15, EVP, zg1, zg0, D.good, if_true, zmo] <;> exact rfl, hd.u 0, by rw [hU]; exact hd.s⟩
    ·intro b16
     have c16 := b16
     try simp only [ne_eq, beq_eq_false_iff_ne] at c16
     refine Y_k 5 fun R hR => ?_
     simp only [EVP, inr_u8, Int.reduceLE, aops, astep, awant, aeff, aop, abin, aint, mkD, ev, ofValue, St.put, ia_int, zg1, zg0, zgd, zmo, zbs, if_true, zs1, zs0, zlc, zln, zd0, zt1, zt0, Nat.reduceAdd, Nat.reduceLeDiff, Nat.zero_add, Nat.add_zero, zft, if_false, and_self, reduceCtorEq, beq_self_eq_true, ty_uint8, ty_api_Node, b16]
     with_reducible refine hR _ ?_
     clear hR R
     simp only [zd1, zd0]
     refine Y_if 28 (by simp only [ev, zg1, zg0, zgd]; exact rfl) ?_ ?_
     ·intro b17
      have c17 := b17
      try simp only [beq_iff_eq] at c17
      refine Y_end fun R hR => ?_
      simp only [EVP, inr_u8, Int.reduceLE, aops, astep, awant, aeff, aop, abin, ev, ofValue, St.put, zg1, zg0, zgd, zmo, Option.map_none, zbs, if_true, zs1, zs0, Nat.add_zero, zft, if_false, and_self, reduceCtorEq, bq_tf, ty_uint8, ty_api_Node, b17]
      with_reducible refine hR _ ?_
      clear hR R
      show X _ _ _ _
      refine X_true (by simp only [ev, zg1, zg0, zgd]) ?_
      have hp := put_call IsL.nil t.name (by simp)
      rw [putN_nil] at hp
      refine X_rg fun R hR => ?_
      simp only [EVP, aops, astep, awant, aeff, aop, mkD, ev, St.put, pcall, ia_str, zmc, zmn, zg1, zg0, zgd, zmo, if_true, zs1, zs0, zlc, zln, zd1, zd0, zt1, zt0, zca, zna, Nat.reduceAdd, Nat.reduceLeDiff, Nat.zero_add, zft, if_false, reduceCtorEq, ty_string, ty_api_Node, any35, sl, hp]
      with_reducible refine hR _ ?_
      clear hR R
      show X _ _ _ _
      refine X_seq ?_
      refine X_seq ?_
      refine X_rg fun R hR => ?_
      simp only [inr_i64, Int.reduceLE, Int.reduceNeg, aops, astep, awant, aeff, aop, ev, ofValue, St.put, zgd, zmo, if_true, zs1, zs0, and_self]
      with_reducible refine hR _ ?_
      clear hR R
      show X _ _ _ _
      refine X_block ?_
      refine X_loop (fun m σ => ∃ (i : Nat) (A : List ByteArray) (o : Own) (n : Nat) (r : List (List D)), σ = ⟨[slotOf σ 0, .ptr 0 0, slotOf σ 2, .slice o n (A.map dS), .int .i64 i, slotOf σ 5, slotOf σ 6, slotOf σ 7, slotOf σ 8, slotOf σ 9, slotOf σ 10, slotOf σ 11, slotOf σ 12, slotOf σ 13, slotOf σ 14, slotOf σ 15, slotOf σ 16, slotOf σ 17, slotOf σ 18, slotOf σ 19, slotOf σ 20, slotOf σ 21, slotOf σ 22, slotOf σ 23, slotOf σ 24, slotOf σ 25, slotOf σ 26, slotOf σ 27, slotOf σ 28, slotOf σ 29, slotOf σ 30, slotOf σ 31, slotOf σ 32, slotOf σ 33, slotOf σ 34, slotOf σ 35, slotOf σ 36, slotOf σ 37, slotOf σ 38, slotOf σ 39, slotOf σ 40, slotOf σ 41, slotOf σ 42, slotOf σ 43, slotOf σ 44, slotOf σ 45, slotOf σ 46, slotOf σ 47, slotOf σ 48, slotOf σ 49, slotOf σ 50, slotOf σ 51, slotOf σ 52, slotOf σ 53, slotOf σ 54, slotOf σ 55, slotOf σ 56, slotOf σ 57, slotOf σ 58], [.int .u8 t.kind, .int .i64 t.num, .str t.name, .slice .imm (if (t.kids.map dN).isEmpty = true then 0 else 4) (t.kids.map dN)] :: r, 0, []⟩ ∧ m = t.kids.length - i ∧ i ≤ t.kids.length ∧ IsL (.slice o n (A.map dS)) A ∧ A.length ≤ 1 + Tr.sizes (t.kids.take i) ∧ Hid (rrT t = rrK t.kind t.name i (t.kids.drop i) A)) ?_ (t.kids.length) _ ?_
      rotate_left
      ·have hu : usesN t.kind = true := by first | (simp [usesN, b4, b8, b12, b16, b17]; done) | (simp_all [usesN]; done)
       exact ⟨0, [t.name], _, _, [], rfl, rfl, Nat.zero_le _, IsL.sl' [t.name], by simp, Lib.hid (by rw [rrT_eq, hu]; rfl)⟩
      rintro m σ ⟨i, A, o, n, r, hσ, rfl, hi, hd, hA, hf⟩
      generalize slotOf σ = x at hσ
      subst hσ
      refine X_seq ?_
      refine X_seq ?_
      refine X_rg fun R hR => ?_
      simp only [EVP, nat_lt, aops, astep, awant, aeff, aop, abin, aint, mkD, ev, St.put, ia_slice, zg1, zg0, zgd, zmo, if_true, zs1, zs0, zlm, zlc, zln, zd1, zd0, zt1, zt0, Nat.reduceAdd, Nat.reduceLeDiff, Nat.zero_add, zft, if_false, reduceCtorEq, ty_s_api_Node, ty_api_Node, und_api_Node]
      with_reducible refine hR _ ?_
      clear hR R
      show X _ _ _ _
      refine X_ite (by simp only [ev, zg1, zg0, zgd]; exact rfl) ?_ ?_
      ·intro b18
       have c18 := b18
       try simp only [decide_eq_true_eq] at c18
       refine X_skip ?_
       show X _ _ _ _
       refine X_seq ?_
       refine X_block ?_
       have hlt : i < t.kids.length := by first | assumption | omega | simp_all
       have hn1 := idx_n (f := dN) (n := 4) hlt
       have e1 : (t.kids.map dN)[i]? = some (dN t.kids[i]) := by simp [hlt]
       have hg1 := hg t.kids[i] (List.getElem_mem hlt)
       have hi1 := inner_fn t
       have hls := rrT_len t.kids[i]
       have hts := Tr.sizes_take t.kids i hlt
       have htl := Tr.sizes_take_le t.kids (i + 1)
       have hU := union_call hd (IsL.sl' (rrT t.kids[i])) t.name (hidesN t.kind i) (by omega)
       refine X_rg fun R hR => ?_
       simp only [EVP, nat_lt, nat_0, nat_to, aops, astep, awant, aeff, aop, abin, aint, mkD, ev, St.put, pcall, ia_str, ia_slice, zmc, zmn, zg1, zg0, zgd, zmo, if_true, zs1, zs0, zlm, zlc, zln, zd1, zd0, zt1, zt0, zca, zna, Nat.reduceAdd, Nat.reduceLeDiff, Nat.zero_add, zft, if_false, and_self, reduceCtorEq, decide_true, zis, ty_string, ty_s_api_Node, ty_api_Node, und_api_Node, siz_api_Node, inf_api_Node_eq, any15, any36, any37, dN_agg, dN_cells, dN_isAgg, sl, hlt, hn1, e1, hg1, hi1, inner_eq, hU]
       with_reducible refine hR _ ?_
       clear hR R
       show X _ _ _ _
       have hbig : i < 9223372036854775807 := by omega
       refine X_rg fun R hR => ?_
       simp only [inr_i64, Int.reduceLE, Int.reduceNeg, aops, astep, awant, aeff, aop, abin, aint, ev, ofValue, St.put, zg1, zg0, zgd, zmo, if_true, zs1, zs0, and_self, nat_succ hbig]
       with_reducible refine hR _ ?_
       clear hR R
       show ∃ m, m < _ ∧ _
       have hul := unionN_len t.name (hidesN t.kind i) (rrT t.kids[i]) A
       exact ⟨t.kids.length - (i + 1), by omega, i + 1, _, _, _, _, rfl, rfl, by omega, IsL.sl' _, by omega, Lib.hid (hf.out.trans (rrK_step hlt))⟩
      ·intro b19
       have c19 := b19
       try simp only [decide_eq_false_iff_not] at c19
       refine X_exit ?_
       show X _ _ _ _
       refine X_seq ?_
       refine X_rg fun R hR => ?_
       simp only [aops, astep, awant, aeff, aop, ev, St.put, zg1, zg0, zgd, zmo, if_true, zs1, zs0, b19]
       with_reducible refine hR _ ?_
       clear hR R
       show X _ _ _ _
       refine X_ret ?_
       show ∃ d, resD _ _ _ = some d ∧ _ ∧ _
       have hU : rrT t = A := by rw [hf.out, List.drop_of_length_le (by omega)]; simp only [rrK]
       refine ⟨_, by simp only [resD, resAll, resOne, resTup, Try.results15, EVP, zg1, zg0, D.good, if_true, zmo] <;> exact rfl, hd.u 0, by rw [hU]; exact hd.s⟩
     ·intro b20
      have c20 := b20
      try simp only [ne_eq, beq_eq_false_iff_ne] at c20
      refine Y_end fun R hR => ?_
      simp only [EVP, inr_u8, Int.reduceLE, aops, astep, awant, aeff, aop, abin, aint, mkD, ev, ofValue, St.put, ia_int, zg1, zg0, zgd, zmo, zbs, if_true, zs1, zs0, zlc, zln, zd0, zt1, zt0, Nat.reduceAdd, Nat.reduceLeDiff, Nat.zero_add, Nat.add_zero, zft, if_false, and_self, reduceCtorEq, beq_self_eq_true, ty_uint8, ty_api_Node, b20]
      with_reducible refine hR _ ?_
      clear hR R
      show X _ _ _ _
      refine X_ite (by simp only [ev, zg1, zg0, zgd]; exact rfl) ?_ ?_
      ·intro b21
       have c21 := b21
       try simp only [beq_iff_eq] at c21
       have hp := put_call IsL.nil t.name (by simp)
       rw [putN_nil] at hp
       refine X_rg fun R hR => ?_
       simp only [EVP, aops, astep, awant, aeff, aop, mkD, ev, St.put, pcall, ia_str, zmc, zmn, zg1, zg0, zgd, zmo, if_true, zs1, zs0, zlc, zln, zd1, zd0, zt1, zt0, zca, zna, Nat.reduceAdd, Nat.reduceLeDiff, Nat.zero_add, zft, if_false, reduceCtorEq, ty_string, ty_api_Node, any35, sl, b21, hp]
       with_reducible refine hR _ ?_
       clear hR R
       show X _ _ _ _
       refine X_seq ?_
       refine X_seq ?_
       refine X_rg fun R hR => ?_
       simp only [inr_i64, Int.reduceLE, Int.reduceNeg, aops, astep, awant, aeff, aop, ev, ofValue, St.put, zgd, zmo, if_true, zs1, zs0, and_self]
       with_reducible refine hR _ ?_
       clear hR R
       show X _ _ _ _
       refine X_block ?_
       refine X_loop (fun m σ => ∃ (i : Nat) (A : List ByteArray) (o : Own) (n : Nat) (r : List (List D)), σ = ⟨[slotOf σ 0, .ptr 0 0, slotOf σ 2, .slice o n (A.map dS), .int .i64 i, slotOf σ 5, slotOf σ 6, slotOf σ 7, slotOf σ 8, slotOf σ 9, slotOf σ 10, slotOf σ 11, slotOf σ 12, slotOf σ 13, slotOf σ 14, slotOf σ 15, slotOf σ 16, slotOf σ 17, slotOf σ 18, slotOf σ 19, slotOf σ 20, slotOf σ 21, slotOf σ 22, slotOf σ 23, slotOf σ 24, slotOf σ 25, slotOf σ 26, slotOf σ 27, slotOf σ 28, slotOf σ 29, slotOf σ 30, slotOf σ 31, slotOf σ 32, slotOf σ 33, slotOf σ 34, slotOf σ 35, slotOf σ 36, slotOf σ 37, slotOf σ 38, slotOf σ 39, slotOf σ 40, slotOf σ 41, slotOf σ 42, slotOf σ 43, slotOf σ 44, slotOf σ 45, slotOf σ 46, slotOf σ 47, slotOf σ 48, slotOf σ 49, slotOf σ 50, slotOf σ 51, slotOf σ 52, slotOf σ 53, slotOf σ 54, slotOf σ 55, slotOf σ 56, slotOf σ 57, slotOf σ 58], [.int .u8 t.kind, .int .i64 t.num, .str t.name, .slice .imm (if (t.kids.map dN).isEmpty = true then 0 else 4) (t.kids.map dN)] :: r, 0, []⟩ ∧ m = t.kids.length - i ∧ i ≤ t.kids.length ∧ IsL (.slice o n (A.map dS)) A ∧ A.length ≤ 1 + Tr.sizes (t.kids.take i) ∧ Hid (rrT t = rrK t.kind t.name i (t.kids.drop i) A)) ?_ (t.kids.length) _ ?_
       rotate_left
       ·have hu : usesN t.kind = true := by first | (simp [usesN, b4, b8, b12, b16, b20, b21]; done) | (simp_all [usesN]; done)
        exact ⟨0, [t.name], _, _, [], rfl, rfl, Nat.zero_le _, IsL.sl' [t.name], by simp, Lib.hid (by rw [rrT_eq, hu]; rfl)⟩
       rintro m σ ⟨i, A, o, n, r, hσ, rfl, hi, hd, hA, hf⟩
       generalize slotOf σ = x at hσ
       subst hσ
       refine X_seq ?_
       refine X_seq ?_
       refine X_rg fun R hR => ?_
       simp only [EVP, nat_lt, aops, astep, awant, aeff, aop, abin, aint, mkD, ev, St.put, ia_slice, zg1, zg0, zgd, zmo, if_true, zs1, zs0, zlm, zlc, zln, zd1, zd0, zt1, zt0, Nat.reduceAdd, Nat.reduceLeDiff, Nat.zero_add, zft, if_false, reduceCtorEq, ty_s_api_Node, ty_api_Node, und_api_Node]
       with_reducible refine hR _ ?_
       clear hR R
       show X _ _ _ _
       refine X_ite (by simp only [ev, zg1, zg0, zgd]; exact rfl) ?_ ?_
       ·intro b22
        have c22 := b22
        try simp only [decide_eq_true_eq] at c22
        refine X_skip ?_
        show X _ _ _ _
        refine X_seq ?_
        refine X_block ?_
        have hlt : i < t.kids.length := by first | assumption | omega | simp_all
        have hn1 := idx_n (f := dN) (n := 4) hlt
        have e1 : (t.kids.map dN)[i]? = some (dN t.kids[i]) := by simp [hlt]
        have hg1 := hg t.kids[i] (List.getElem_mem hlt)
        have hi1 := inner_fn t
        have hls := rrT_len t.kids[i]
        have hts := Tr.sizes_take t.kids i hlt
        have htl := Tr.sizes_take_le t.kids (i + 1)
        have hU := union_call hd (IsL.sl' (rrT t.kids[i])) t.name (hidesN t.kind i) (by omega)
        refine X_rg fun R hR => ?_
        simp only [EVP, nat_lt, nat_0, nat_to, aops, astep, awant, aeff, aop, abin, aint, mkD, ev, St.put, pcall, ia_str, ia_slice, zmc, zmn, zg1, zg0, zgd, zmo, if_true, zs1, zs0, zlm, zlc, zln, zd1, zd0, zt1, zt0, zca, zna, Nat.reduceAdd, Nat.reduceLeDiff, Nat.zero_add, zft, if_false, and_self, reduceCtorEq, decide_true, zis, ty_string, ty_s_api_Node, ty_api_Node, und_api_Node, siz_api_Node, inf_api_Node_eq, any15, any36, any37, dN_agg, dN_cells, dN_isAgg, sl, hlt, hn1, e1, hg1, hi1, inner_eq, hU]
        with_reducible refine hR _ ?_
        clear hR R
        show X _ _ _ _
        have hbig : i < 9223372036854775807 := by omega
        refine X_rg fun R hR => ?_
        simp only [inr_i64, Int.reduceLE, Int.reduceNeg, aops, astep, awant, aeff, aop, abin, aint, ev, ofValue, St.put, zg1, zg0, zgd, zmo, if_true, zs1, zs0, and_self, nat_succ hbig]
        with_reducible refine hR _ ?_
        clear hR R
        show ∃ m, m < _ ∧ _
        have hul := unionN_len t.name (hidesN t.kind i) (rrT t.kids[i]) A
        exact ⟨t.kids.length - (i + 1), by omega, i + 1, _, _, _, _, rfl, rfl, by omega, IsL.sl' _, by omega, Lib.hid (hf.out.trans (rrK_step hlt))⟩
       ·intro b23
        have c23 := b23
        try simp only [decide_eq_false_iff_not] at c23
        refine X_exit ?_
        show X _ _ _ _
        refine X_seq ?_
        refine X_rg fun R hR => ?_
        simp only [aops, astep, awant, aeff, aop, ev, St.put, zg1, zg0, zgd, zmo, if_true, zs1, zs0, b23]
        with_reducible refine hR _ ?_
        clear hR R
        show X _ _ _ _
        refine X_ret ?_
        show ∃ d, resD _ _ _ = some d ∧ _ ∧ _
        have hU : rrT t = A := by rw [hf.out, List.drop_of_length_le (by omega)]; simp only [rrK]
        refine ⟨_, by simp only [resD, resAll, resOne, resTup, Try.results15, EVP, zg1, zg0, D.good, if_true, zmo] <;> exact rfl, hd.u 0, by rw [hU]; exact hd.s⟩
      ·intro b24
       have c24 := b24
       try simp only [ne_eq, beq_eq_false_iff_ne] at c24
       refine X_skip ?_
       show X _ _ _ _
       refine X_seq ?_
       refine X_seq ?_
       refine X_rg fun R hR => ?_
       simp only [inr_i64, Int.reduceLE, Int.reduceNeg, aops, astep, awant, aeff, aop, ev, ofValue, St.put, zgd, zmo, if_true, zs1, zs0, and_self, b24]
       with_reducible refine hR _ ?_
       clear hR R
       show X _ _ _ _
       refine X_block ?_
       refine X_loop (fun m σ => ∃ (i : Nat) (A : List ByteArray) (o : Own) (n : Nat) (r : List (List D)), σ = ⟨[slotOf σ 0, .ptr 0 0, slotOf σ 2, .slice o n (A.map dS), .int .i64 i, slotOf σ 5, slotOf σ 6, slotOf σ 7, slotOf σ 8, slotOf σ 9, slotOf σ 10, slotOf σ 11, slotOf σ 12, slotOf σ 13, slotOf σ 14, slotOf σ 15, slotOf σ 16, slotOf σ 17, slotOf σ 18, slotOf σ 19, slotOf σ 20, slotOf σ 21, slotOf σ 22, slotOf σ 23, slotOf σ 24, slotOf σ 25, slotOf σ 26, slotOf σ 27, slotOf σ 28, slotOf σ 29, slotOf σ 30, slotOf σ 31, slotOf σ 32, slotOf σ 33, slotOf σ 34, slotOf σ 35, slotOf σ 36, slotOf σ 37, slotOf σ 38, slotOf σ 39, slotOf σ 40, slotOf σ 41, slotOf σ 42, slotOf σ 43, slotOf σ 44, slotOf σ 45, slotOf σ 46, slotOf σ 47, slotOf σ 48, slotOf σ 49, slotOf σ 50, slotOf σ 51, slotOf σ 52, slotOf σ 53, slotOf σ 54, slotOf σ 55, slotOf σ 56, slotOf σ 57, slotOf σ 58], [.int .u8 t.kind, .int .i64 t.num, .str t.name, .slice .imm (if (t.kids.map dN).isEmpty = true then 0 else 4) (t.kids.map dN)] :: r, 0, []⟩ ∧ m = t.kids.length - i ∧ i ≤ t.kids.length ∧ IsL (.slice o n (A.map dS)) A ∧ A.length ≤ 1 + Tr.sizes (t.kids.take i) ∧ Hid (rrT t = rrK t.kind t.name i (t.kids.drop i) A)) ?_ (t.kids.length) _ ?_
       rotate_left
       ·have hu : usesN t.kind = false := by first | (simp [usesN, b4, b8, b12, b16, b20, b24]; done) | (simp_all [usesN]; done)
        exact ⟨0, [], _, _, [], rfl, rfl, Nat.zero_le _, IsL.nil, by simp, Lib.hid (by rw [rrT_eq, hu]; rfl)⟩
       rintro m σ ⟨i, A, o, n, r, hσ, rfl, hi, hd, hA, hf⟩
       generalize slotOf σ = x at hσ
       subst hσ
       refine X_seq ?_
       refine X_seq ?_
       refine X_rg fun R hR => ?_
       simp only [EVP, nat_lt, aops, astep, awant, aeff, aop, abin, aint, mkD, ev, St.put, ia_slice, zg1, zg0, zgd, zmo, if_true, zs1, zs0, zlm, zlc, zln, zd1, zd0, zt1, zt0, Nat.reduceAdd, Nat.reduceLeDiff, Nat.zero_add, zft, if_false, reduceCtorEq, ty_s_api_Node, ty_api_Node, und_api_Node]
       with_reducible refine hR _ ?_
       clear hR R
       show X _ _ _ _
       refine X_ite (by simp only [ev, zg1, zg0, zgd]; exact rfl) ?_ ?_
       ·intro b25
        have c25 := b25
        try simp only [decide_eq_true_eq] at c25
        refine X_skip ?_
        show X _ _ _ _
        refine X_seq ?_
        refine X_block ?_
        have hlt : i < t.kids.length := by first | assumption | omega | simp_all
        have hn1 := idx_n (f := dN) (n := 4) hlt
        have e1 : (t.kids.map dN)[i]? = some (dN t.kids[i]) := by simp [hlt]
        have hg1 := hg t.kids[i] (List.getElem_mem hlt)
        have hi1 := inner_fn t
        have hls := rrT_len t.kids[i]
        have hts := Tr.sizes_take t.kids i hlt
        have htl := Tr.sizes_take_le t.kids (i + 1)
        have hU := union_call hd (IsL.sl' (rrT t.kids[i])) t.name (hidesN t.kind i) (by omega)
        refine X_rg fun R hR => ?_
        simp only [EVP, nat_lt, nat_0, nat_to, aops, astep, awant, aeff, aop, abin, aint, mkD, ev, St.put, pcall, ia_str, ia_slice, zmc, zmn, zg1, zg0, zgd, zmo, if_true, zs1, zs0, zlm, zlc, zln, zd1, zd0, zt1, zt0, zca, zna, Nat.reduceAdd, Nat.reduceLeDiff, Nat.zero_add, zft, if_false, and_self, reduceCtorEq, decide_true, zis, ty_string, ty_s_api_Node, ty_api_Node, und_api_Node, siz_api_Node, inf_api_Node_eq, any15, any36, any37, dN_agg, dN_cells, dN_isAgg, sl, hlt, hn1, e1, hg1, hi1, inner_eq, hU]
        with_reducible refine hR _ ?_
        clear hR R
        show X _ _ _ _
        have hbig : i < 9223372036854775807 := by omega
        refine X_rg fun R hR => ?_
        simp only [inr_i64, Int.reduceLE, Int.reduceNeg, aops, astep, awant, aeff, aop, abin, aint, ev, ofValue, St.put, zg1, zg0, zgd, zmo, if_true, zs1, zs0, and_self, nat_succ hbig]
        with_reducible refine hR _ ?_
        clear hR R
        show ∃ m, m < _ ∧ _
        have hul := unionN_len t.name (hidesN t.kind i) (rrT t.kids[i]) A
        exact ⟨t.kids.length - (i + 1), by omega, i + 1, _, _, _, _, rfl, rfl, by omega, IsL.sl' _, by omega, Lib.hid (hf.out.trans (rrK_step hlt))⟩
       ·intro b26
        have c26 := b26
        try simp only [decide_eq_false_iff_not] at c26
        refine X_exit ?_
        show X _ _ _ _
        refine X_seq ?_
        refine X_rg fun R hR => ?_
        simp only [aops, astep, awant, aeff, aop, ev, St.put, zg1, zg0, zgd, zmo, if_true, zs1, zs0, b26]
        with_reducible refine hR _ ?_
        clear hR R
        show X _ _ _ _
        refine X_ret ?_
        show ∃ d, resD _ _ _ = some d ∧ _ ∧ _
        have hU : rrT t = A := by rw [hf.out, List.drop_of_length_le (by omega)]; simp only [rrK]
        refine ⟨_, by simp only [resD, resAll, resOne, resTup, Try.results15, EVP, zg1, zg0, D.good, if_true, zmo] <;> exact rfl, hd.u 0, by rw [hU]; exact hd.s⟩

theorem rreads_fn (t : Tr) : t.size ≤ 1000000 → fn EV 15 [dN t] = some (sl 1 ((rrT t).map dS)) := by
 induction t using Tr.ind with
 | h k n s c ih =>
  intro hs
  have h1 := Tr.length_le_sizes c
  have h0 := hs
  simp only [Tr.size] at hs
  exact rreads_step (.mk k n s c) h0 (by simp only [Tr.kids]; omega) (by simp only [Tr.kids]; omega) (fun x hx => ih x hx (by simp only [Tr.kids] at hx; have := Tr.size_le_of_mem hx; omega))

end Go.Proofs.Ytkkhjpkkjpcbmaa
