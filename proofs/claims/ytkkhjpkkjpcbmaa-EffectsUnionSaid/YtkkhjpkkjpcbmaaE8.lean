/- few, names over data. -/
import Derived.Test.YtkkhjpkkjpcbmaaE7
namespace Go.Proofs.Ytkkhjpkkjpcbmaa
open Go.RowKit


theorem take_eq {l m : List ByteArray} {i : Nat} (h : l.take i = m.take i) (h1 : i < l.length) (h2 : i < m.length) (e : l[i] = m[i]) : l.take (i + 1) = m.take (i + 1) := by
 rw [List.take_succ_eq_append_getElem h1, List.take_succ_eq_append_getElem h2, h, e]
theorem get_ne {l m : List ByteArray} {i : Nat} (h1 : i < l.length) (h2 : i < m.length) (e : ¬ l[i] = m[i]) : ¬ l = m := fun q => by subst q; exact e rfl
theorem neq_of {a b : ByteArray} (h : (!(a.toList == b.toList)) = true) : ¬ a = b := fun e => by subst e; simp at h
theorem eq_of {a b : ByteArray} (h : (!(a.toList == b.toList)) = false) : a = b := ba_inj (beq_iff.1 (by simpa using h))
set_option maxRecDepth 100000 in
set_option maxHeartbeats 4000000 in
theorem names_fn (l w : List ByteArray) (hl : l.length ≤ 1000000) : fn EV 13 [sl 1 (l.map dS), sl 1 (w.map dS)] = some (.bool (decide (l = w))) := by
 refine fn_X rfl Try.func13 rfl (by simp only [plain, List.all_cons, List.all_nil, sl_under (map_under (dS_under 0) l), sl_under (map_under (dS_under 0) w), sl_gd, Bool.and_self]) (rfl) (rfl) (rfl) ?_
 simp only [zmc, zmn, sl_strip (map_strip dS_strip l), sl_strip (map_strip dS_strip w)]
 simp only [enterSt, Try.ntmps13, zlc, zln, Nat.reduceAdd, Nat.reduceSub, zr1, zr0, zca, zna]
 refine X_seq ?_
 refine X_rg fun R hR => ?_
 simp only [aops, astep, awant, aeff, aop, ev, ofValue, St.put, zgd, zmo, if_true, zs1, zs0, sl]
 with_reducible refine hR _ ?_
 clear hR R
 show X _ _ _ _
 refine X_seq ?_
 refine X_seq ?_
 refine X_rg fun R hR => ?_
 simp only [EVP, aops, astep, awant, aeff, aop, abin, aint, ev, St.put, zg1, zg0, zgd, zmo, if_true, zs1, zs0, zlm, und_string]
 with_reducible refine hR _ ?_
 clear hR R
 show X _ _ _ _
 refine X_ite (by simp only [ev, zg1, zg0, zgd]; exact rfl) ?_ ?_
 ·intro b1
  have c1 := b1
  try simp only [bne_iff_ne, ne_eq] at c1
  refine X_seq ?_
  refine X_rg fun R hR => ?_
  simp only [aops, astep, awant, aeff, aop, ev, ofValue, St.put, zgd, zmo, if_true, zs1, zs0, b1]
  with_reducible refine hR _ ?_
  clear hR R
  show X _ _ _ _
  refine X_ret ?_
  show resD _ _ _ = some _
  simp only [resD, resAll, resOne, resTup, Try.results13, EVP, zg1, zg0, D.good, if_true, zmo]
  have hne : ¬ l = w := fun q => by subst q; simp at *
  simp only [decide_eq_false hne]
 ·intro b2
  have c2 := b2
  try simp only [bne_eq_false_iff_eq] at c2
  refine X_skip ?_
  show X _ _ _ _
  refine X_seq ?_
  refine X_seq ?_
  refine X_rg fun R hR => ?_
  simp only [EVP, inr_i64, Int.reduceLE, Int.reduceNeg, aops, astep, awant, aeff, aop, ev, ofValue, St.put, zg1, zg0, zgd, zmo, if_true, zs1, zs0, zlm, and_self, und_string, b2]
  with_reducible refine hR _ ?_
  clear hR R
  show X _ _ _ _
  refine X_block ?_
  refine X_loop (fun m σ => ∃ (i : Nat), σ = ⟨[.slice .imm (if (l.map dS).isEmpty = true then 0 else 1) (l.map dS), .slice .imm (if (w.map dS).isEmpty = true then 0 else 1) (w.map dS), slotOf σ 2, slotOf σ 3, slotOf σ 4, slotOf σ 5, slotOf σ 6, slotOf σ 7, slotOf σ 8, slotOf σ 9, slotOf σ 10, slotOf σ 11, .int .i64 l.length, .int .i64 i, slotOf σ 14, slotOf σ 15, slotOf σ 16, slotOf σ 17, slotOf σ 18, slotOf σ 19, slotOf σ 20, slotOf σ 21, slotOf σ 22, slotOf σ 23, slotOf σ 24, slotOf σ 25], [], 0, []⟩ ∧ m = l.length - i ∧ i ≤ l.length ∧ l.length = w.length ∧ Hid (l.take i = w.take i)) ?_ (l.length) _ ?_
  rotate_left
  ·exact ⟨0, rfl, rfl, Nat.zero_le _, by first | assumption | omega | simp_all, Lib.hid rfl⟩
  rintro m σ ⟨i, hσ, rfl, hi, hlen, hf⟩
  generalize slotOf σ = x at hσ
  subst hσ
  refine X_seq ?_
  refine X_rg fun R hR => ?_
  simp only [nat_lt, aops, astep, awant, aeff, aop, abin, aint, ev, St.put, zg1, zg0, zgd, zmo, if_true, zs1, zs0]
  with_reducible refine hR _ ?_
  clear hR R
  show X _ _ _ _
  refine X_seq ?_
  refine X_ite (by simp only [ev, zg1, zg0, zgd]; exact rfl) ?_ ?_
  ·intro b3
   have c3 := b3
   try simp only [decide_eq_true_eq] at c3
   refine X_skip ?_
   show X _ _ _ _
   refine X_seq ?_
   refine X_block ?_
   refine X_seq ?_
   refine X_rg fun R hR => ?_
   simp only [aops, astep, awant, aeff, aop, ev, St.put, zg1, zg0, zgd, zmo, if_true, zs1, zs0, b3]
   with_reducible refine hR _ ?_
   clear hR R
   show X _ _ _ _
   refine X_seq ?_
   have hlt : i < l.length := by first | assumption | omega | simp_all
   have hlm : i < w.length := by omega
   have hn1 := idx_n (f := dS) (n := 1) hlt
   have hn2 := idx_n (f := dS) (n := 1) hlm
   have e1 : (l.map dS)[i]? = some (.str l[i]) := by rw [List.getElem?_map, List.getElem?_eq_getElem hlt]; rfl
   have e2 : (w.map dS)[i]? = some (.str w[i]) := by rw [List.getElem?_map, List.getElem?_eq_getElem hlm]; rfl
   refine X_rg fun R hR => ?_
   simp only [EVP, nat_lt, nat_0, nat_to, aops, astep, awant, aeff, aop, abin, astr, ev, St.put, ia_str, cl_str, zg1, zg0, zgd, zmo, if_true, zs1, zs0, zlm, zlc, zln, Nat.zero_add, and_self, zis, ty_string, und_string, siz_string, inf_string_eq, hlt, hlm, hn1, hn2, e1, e2]
   with_reducible refine hR _ ?_
   clear hR R
   show X _ _ _ _
   refine X_ite (by simp only [ev, zg1, zg0, zgd]; exact rfl) ?_ ?_
   ·intro b4
    have c4 := b4
    try simp only [znt, ne_eq, beq_eq_false_iff_ne] at c4
    refine X_seq ?_
    refine X_rg fun R hR => ?_
    simp only [aops, astep, awant, aeff, aop, ev, ofValue, St.put, zgd, zmo, if_true, zs1, zs0, b4]
    with_reducible refine hR _ ?_
    clear hR R
    show X _ _ _ _
    refine X_ret ?_
    show resD _ _ _ = some _
    simp only [resD, resAll, resOne, resTup, Try.results13, EVP, zg1, zg0, D.good, if_true, zmo]
    have hne : ¬ l = w := get_ne hlt hlm (neq_of (by first | assumption | simp_all))
    simp only [decide_eq_false hne]
   ·intro b5
    have c5 := b5
    try simp only [znf, beq_iff_eq] at c5
    refine X_skip ?_
    show X _ _ _ _
    have hbig : i < 9223372036854775807 := by omega
    refine X_rg fun R hR => ?_
    simp only [inr_i64, Int.reduceLE, Int.reduceNeg, aops, astep, awant, aeff, aop, abin, aint, ev, ofValue, St.put, zg1, zg0, zgd, zmo, if_true, zs1, zs0, and_self, b5, nat_succ hbig]
    with_reducible refine hR _ ?_
    clear hR R
    show ∃ m, m < _ ∧ _
    have he : l[i] = w[i] := eq_of (by first | assumption | simp_all)
    exact ⟨l.length - (i + 1), by omega, i + 1, rfl, rfl, by omega, hlen, Lib.hid (take_eq hf.out hlt hlm he)⟩
  ·intro b6
   have c6 := b6
   try simp only [decide_eq_false_iff_not] at c6
   refine X_exit ?_
   show X _ _ _ _
   refine X_seq ?_
   refine X_rg fun R hR => ?_
   simp only [aops, astep, awant, aeff, aop, ev, ofValue, St.put, zgd, zmo, if_true, zs1, zs0, b6]
   with_reducible refine hR _ ?_
   clear hR R
   show X _ _ _ _
   refine X_ret ?_
   show resD _ _ _ = some _
   simp only [resD, resAll, resOne, resTup, Try.results13, EVP, zg1, zg0, D.good, if_true, zmo]
   have he : l = w := by
    have h := hf.out
    rw [List.take_of_length_le (by first | omega | simp_all), List.take_of_length_le (by first | omega | (simp_all; omega))] at h
    exact h
   simp only [decide_eq_true he]
theorem size_fn (t : Tr) : ∀ l : Int, 0 ≤ l → l ≤ 1000000 → fn EV 31 [dN t, .int .i64 l] = some (.int .i64 (szT t l)) := by
 induction t using Tr.ind with
 | h k n s c ih =>
  intro l h0 h1
  exact size_step (.mk k n s c) l h0 h1 (fun x hx l h0 h1 => ih x hx l h0 h1)
set_option maxRecDepth 100000 in
set_option maxHeartbeats 4000000 in
theorem few_fn (t : Tr) : fn EV 12 [dN t] = some (.bool (fewB t)) := by
 refine fn_X rfl Try.func12 rfl (by simp only [plain, List.all_cons, List.all_nil, dN_under, dN_good, Bool.and_true]) (rfl) (rfl) (rfl) ?_
 simp only [zmc, zmn, dN_strip]
 simp only [enterSt, Try.ntmps12, zlc, zln, Nat.reduceAdd, Nat.reduceSub, zr1, zr0, zca, zna]
 refine X_seq ?_
 refine X_rg fun R hR => ?_
 simp only [aops, astep, awant, aeff, aop, ev, ofValue, St.put, zg0, zgd, zmo, if_true, zs1, zs0, zln, zna, dN_cells, dN_good, sl]
 with_reducible refine hR _ ?_
 clear hR R
 show X _ _ _ _
 refine X_seq ?_
 have hz := size_fn t 300 (by omega) (by omega)
 refine X_rg fun R hR => ?_
 simp only [EVP, inr_i64, Int.reduceLE, Int.reduceNeg, aops, astep, awant, aeff, aop, abin, aint, mkD, ev, ofValue, St.put, pcall, zmc, zmn, zg1, zg0, zgd, zmo, if_true, zs1, zs0, zlc, zln, zd0, zt1, zt0, zca, zna, Nat.reduceAdd, Nat.reduceLeDiff, Nat.zero_add, and_self, ty_api_Node, any31, dN_agg, hz]
 with_reducible refine hR _ ?_
 clear hR R
 show X _ _ _ _
 refine X_ret ?_
 show resD _ _ _ = some _
 simp only [resD, resAll, resOne, resTup, Try.results12, EVP, zg1, zg0, D.good, if_true, zmo]
 rw [← few_eq]

end Go.Proofs.Ytkkhjpkkjpcbmaa
