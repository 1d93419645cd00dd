/- The reference's lists of names over data. -/
import Derived.Test.YtkkhjpkkjpcbmaaE1
namespace Go.Proofs.Ytkkhjpkkjpcbmaa
open Go.RowKit

theorem Acc.appN {P : Program} {t e : TypeId} {i : TypeInfo} {sz : Nat} {o : Own} {n : Nat} {L : List D} {lv : List Nat} (h : Acc e sz o n L lv) (hu : P.underlying t = some (.slice e)) (hi : P.info? e = some i) (hs : i.size = sz) (hp : 0 < sz) (hb : i.bytes ≤ 4096) (hz : (i.zero.map fun z => z.cells.size) = some sz) (nx : Nat) (n2 : Nat) (l2 : List D)
  (hl : L.length + l2.length ≤ 16777216) (hn2 : l2 ≠ [] → n2 = sz) : ∃ o' n' nx' lv', Acc e sz o' n' (L ++ l2) lv' ∧ ∀ fr bx, aappend P ⟨fr, bx, nx, lv⟩ t (.slice o n L) (.slice .imm n2 l2) = some (.slice o' n' (L ++ l2), ⟨fr, bx, nx', lv'⟩) := by
 cases l2 with
 | nil => exact ⟨o, n, nx, lv, by rw [List.append_nil]; exact h, fun fr bx => by rw [List.append_nil]; exact Acc.app0 hu hi⟩
 | cons a r =>
  obtain rfl := hn2 (by simp)
  refine ⟨.own nx e, n2, nx + 1, nx :: o.cut lv, .own (List.mem_cons_self), fun fr bx => ?_⟩
  exact Acc.app (σ := ⟨fr, bx, nx, lv⟩) (o2 := .imm) h hu hi hs hp hb hz hl (by simp)

def ltB (a b : ByteArray) : Bool := Op.bytesLess a.toList b.toList
/-- a name is put into a sorted list -/
def posN : List ByteArray → ByteArray → Nat
 | [], _ => 0
 | x :: r, s => if ltB x s then posN r s + 1 else 0
def putN (l : List ByteArray) (s : ByteArray) : List ByteArray := match l[posN l s]? with
 | some x => if x.toList == s.toList then l else l.take (posN l s) ++ [s] ++ l.drop (posN l s)
 | none => l.take (posN l s) ++ [s] ++ l.drop (posN l s)
theorem posN_lt {l : List ByteArray} {s : ByteArray} {i : Nat} (h : i < l.length) (h' : Op.bytesLess l[i].toList s.toList = true) (hf : posN l s = i + posN (l.drop i) s) : posN l s = i + 1 + posN (l.drop (i + 1)) s := by
 rw [hf, List.drop_eq_getElem_cons h]
 simp only [posN, ltB, h', if_true]
 omega
theorem posN_end {l : List ByteArray} {s : ByteArray} {i : Nat} (_hi : i ≤ l.length) (h' : ∀ h : i < l.length, Op.bytesLess l[i].toList s.toList = false) (hf : posN l s = i + posN (l.drop i) s) : posN l s = i := by
 rw [hf]
 rcases Nat.lt_or_ge i l.length with h | h
 ·rw [List.drop_eq_getElem_cons h]
  simp only [posN, ltB, h' h, zft, if_false]
  rfl
 ·rw [List.drop_of_length_le h]; rfl
theorem putN_y {l : List ByteArray} {s : ByteArray} {i : Nat} (h : i < l.length) (hp : posN l s = i) (he : (l[i].toList == s.toList) = true) : putN l s = l := by
 unfold putN
 rw [hp, List.getElem?_eq_getElem h]
 simp only [he, if_true]
theorem putN_n {l : List ByteArray} {s : ByteArray} {i : Nat} (hp : posN l s = i) (he : ∀ h : i < l.length, (l[i].toList == s.toList) = false) : putN l s = l.take i ++ [s] ++ l.drop i := by
 unfold putN
 rw [hp]
 rcases Nat.lt_or_ge i l.length with h | h
 ·rw [List.getElem?_eq_getElem h]
  simp only [he h, zft, if_false]
 ·rw [List.getElem?_eq_none h]
set_option maxRecDepth 100000 in
set_option maxHeartbeats 4000000 in
theorem put_fn (l : List ByteArray) (s : ByteArray) (hl : l.length ≤ 1000000) : fn EV 35 [sl 1 (l.map dS), .str s] = some (sl 1 ((putN l s).map dS)) := by
 refine fn_Xs rfl Try.func35 rfl (by simp only [plain, List.all_cons, List.all_nil, sl_under (map_under (dS_under 0) l), sl_gd, D.under, gd_str, Bool.and_self]) (rfl) ?_
 simp only [zmc, zmn, D.strip, sl_strip (map_strip dS_strip l)]
 simp only [enterSt, Try.ntmps35, zlc, zln, Nat.reduceAdd, Nat.reduceSub, zr1, zr0, zca, zna]
 refine X_seq ?_
 refine X_rg fun R hR => ?_
 simp only [aops, astep, awant, aeff, aop, ev, ofValue, St.put, zgd, zmo, if_true, zs1, zs0, sl]
 with_reducible refine hR _ ?_
 clear hR R
 show X _ _ _ _
 refine X_seq ?_
 refine X_rg fun R hR => ?_
 simp only [inr_i64, Int.reduceLE, Int.reduceNeg, aops, astep, awant, aeff, aop, ev, ofValue, St.put, zgd, zmo, if_true, zs1, zs0, and_self]
 with_reducible refine hR _ ?_
 clear hR R
 show X _ _ _ _
 refine X_seq ?_
 refine X_block ?_
 refine X_loop (fun m σ => ∃ (i : Nat), σ = ⟨[.slice .imm (if (l.map dS).isEmpty = true then 0 else 1) (l.map dS), .str s, slotOf σ 2, slotOf σ 3, slotOf σ 4, .int .i64 i, slotOf σ 6, slotOf σ 7, slotOf σ 8, slotOf σ 9, slotOf σ 10, slotOf σ 11, slotOf σ 12, slotOf σ 13, slotOf σ 14, slotOf σ 15, slotOf σ 16, slotOf σ 17, slotOf σ 18, slotOf σ 19, slotOf σ 20, slotOf σ 21, slotOf σ 22, slotOf σ 23, slotOf σ 24, slotOf σ 25, slotOf σ 26, slotOf σ 27, slotOf σ 28, slotOf σ 29, slotOf σ 30, slotOf σ 31, slotOf σ 32, slotOf σ 33, slotOf σ 34, slotOf σ 35, slotOf σ 36, slotOf σ 37, slotOf σ 38, slotOf σ 39, slotOf σ 40, slotOf σ 41, slotOf σ 42, slotOf σ 43, slotOf σ 44, slotOf σ 45, slotOf σ 46], [], 0, []⟩ ∧ m = l.length - i ∧ i ≤ l.length ∧ Hid (posN l s = i + posN (l.drop i) s)) ?_ (l.length) _ ?_
 rotate_left
 ·exact ⟨0, rfl, rfl, Nat.zero_le _, Lib.hid (by simp)⟩
 rintro m σ ⟨i, hσ, rfl, hi, hf⟩
 generalize slotOf σ = x at hσ
 subst hσ
 refine X_seq ?_
 refine X_seq ?_
 refine X_y ?_
 refine Y_k 5 fun R hR => ?_
 simp only [EVP, nat_lt, aops, astep, awant, aeff, aop, abin, aint, ev, St.put, zg1, zg0, zgd, zmo, if_true, zs1, zs0, zlm, zt1, zt0, und_string]
 with_reducible refine hR _ ?_
 clear hR R
 simp only [zd1, zd0]
 refine Y_if 11 (by simp only [ev, zg1, zg0, zgd]; exact rfl) ?_ ?_
 ·intro b1
  have c1 := b1
  try simp only [decide_eq_true_eq] at c1
  have hlt : i < l.length := by first | assumption | omega | simp_all
  have hn1 := idx_n (f := dS) (n := 1) hlt
  have e1 : (l.map dS)[i]? = some (.str l[i]) := by rw [List.getElem?_map, List.getElem?_eq_getElem hlt]; rfl
  refine Y_end fun R hR => ?_
  simp only [EVP, nat_lt, nat_0, nat_to, aops, astep, awant, aeff, aop, abin, astr, ev, ofValue, St.put, ia_str, cl_str, zg1, zg0, zgd, zmo, zbs, if_true, zs1, zs0, zlm, zlc, zln, Nat.zero_add, and_self, decide_true, beq_self_eq_true, zis, ty_string, und_string, siz_string, inf_string_eq, c1, hn1, e1]
  with_reducible refine hR _ ?_
  clear hR R
  show X _ _ _ _
  refine X_ite (by simp only [ev, zg1, zg0, zgd]; exact rfl) ?_ ?_
  ·intro b2
   have c2 := b2
   try simp only [znt, znf, decide_eq_true_eq, decide_eq_false_iff_not, beq_iff_eq, Int.not_lt, Int.not_le, ge_iff_le, gt_iff_lt, bne_iff_ne, ne_eq, bne_eq_false_iff_eq, beq_eq_false_iff_ne, zat, zof] at c2
   refine X_skip ?_
   show X _ _ _ _
   refine X_block ?_
   have hbig : i < 9223372036854775807 := by omega
   refine X_rg fun R hR => ?_
   simp only [inr_i64, Int.reduceLE, Int.reduceNeg, aops, astep, awant, aeff, aop, abin, aint, ev, ofValue, St.put, zg1, zg0, zgd, zmo, if_true, zs1, zs0, and_self, b2, nat_succ hbig]
   with_reducible refine hR _ ?_
   clear hR R
   show ∃ m, m < _ ∧ _
   exact ⟨l.length - (i + 1), by omega, i + 1, rfl, rfl, by omega, Lib.hid (posN_lt hlt (by first | assumption | simp_all) hf.out)⟩
  ·intro b3
   have c3 := b3
   try simp only [znt, znf, decide_eq_true_eq, decide_eq_false_iff_not, beq_iff_eq, Int.not_lt, Int.not_le, ge_iff_le, gt_iff_lt, bne_iff_ne, ne_eq, bne_eq_false_iff_eq, beq_eq_false_iff_ne, zat, zof] at c3
   refine X_exit ?_
   show X _ _ _ _
   refine X_seq ?_
   refine X_seq ?_
   refine X_y ?_
   refine Y_k 5 fun R hR => ?_
   simp only [EVP, nat_lt, aops, astep, awant, aeff, aop, abin, aint, ev, St.put, zg1, zg0, zgd, zmo, if_true, zs1, zs0, zlm, zt1, zt0, decide_true, und_string, c1, b3]
   with_reducible refine hR _ ?_
   clear hR R
   simp only [zd1, zd0]
   refine Y_if 25 (by simp only [ev, zg1, zg0, zgd]; exact rfl) ?_ ?_
   ·intro b4
    have c4 := b4
    try simp only [] at c4
    have hlt : i < l.length := by first | assumption | omega | simp_all
    have hn1 := idx_n (f := dS) (n := 1) hlt
    have e1 : (l.map dS)[i]? = some (.str l[i]) := by rw [List.getElem?_map, List.getElem?_eq_getElem hlt]; rfl
    refine Y_end fun R hR => ?_
    simp only [EVP, nat_lt, nat_0, nat_to, aops, astep, awant, aeff, aop, abin, astr, ev, ofValue, St.put, ia_str, cl_str, zg1, zg0, zgd, zmo, zbs, if_true, zs1, zs0, zlm, zlc, zln, Nat.zero_add, and_self, beq_self_eq_true, zis, ty_string, und_string, siz_string, inf_string_eq, c1, hn1, e1]
    with_reducible refine hR _ ?_
    clear hR R
    show X _ _ _ _
    refine X_ite (by simp only [ev, zg1, zg0, zgd]; exact rfl) ?_ ?_
    ·intro b5
     have c5 := b5
     try simp only [beq_iff_eq] at c5
     refine X_seq ?_
     refine X_rg fun R hR => ?_
     simp only [aops, astep, awant, aeff, aop, ev, St.put, zg1, zg0, zgd, zmo, if_true, zs1, zs0, beq_self_eq_true, c5]
     with_reducible refine hR _ ?_
     clear hR R
     show X _ _ _ _
     refine X_ret ?_
     show ∃ d, resD _ _ _ = some d ∧ _ ∧ _
     have hpe := posN_end hi (fun h => by first | assumption | simp_all) hf.out
     refine ⟨_, by simp only [resD, resAll, resOne, resTup, Try.results35, EVP, zg1, zg0, D.good, if_true, zmo]; exact rfl, ?_, ?_⟩
     ·exact sl_under (map_under (dS_under 0) l)
     ·rw [putN_y hlt hpe (by first | assumption | simp_all)]; exact sl_strip (map_strip dS_strip l)
    ·intro b6
     have c6 := b6
     try simp only [ne_eq, beq_eq_false_iff_ne] at c6
     refine X_skip ?_
     show X _ _ _ _
     refine X_seq ?_
     have hz0 : ((0 : Nat) : Int) ≤ (i : Int) := by omega
     have hil : (i : Int) ≤ (l.length : Int) := by omega
     have hor : ((if (l.map dS).isEmpty = true then 0 else 1) = 1 ∨ (l.map dS) = []) = True := eq_true (by cases l with | nil => exact .inr rfl | cons a r => exact .inl rfl)
     have hn2 : (l.map dS).take i ≠ [] → (if (l.map dS).isEmpty = true then 0 else 1) = 1 := fun h => by cases l with | nil => simp at h | cons a r => rfl
     obtain ⟨o1, n1, nx1, lv1, ha1, hap1⟩ := Acc.appN (P := Try.prog) (t := 28) (e := 9) (o := .own 0 9) (n := 1) (L := []) (lv := [0]) (.own (by simp)) und_string inf_string_eq inf_string_size (by omega) (by rw [inf_string_bytes]; omega) inf_string_zc 1 (if (l.map dS).isEmpty = true then 0 else 1) ((l.map dS).take i) (by simp; omega) hn2
     rw [zna] at ha1 hap1
     refine X_rg fun R hR => ?_
     simp only [EVP, nat_to, aops, astep, awant, aeff, aop, idx, aslice, abuild, ev, ofValue, St.put, zmn, zg1, zg0, zgd, zmo, Option.map_none, if_true, zs1, zs0, zlm, zd0, Nat.reduceLeDiff, Nat.reduceLT, Nat.zero_add, and_self, List.all_nil, zis, Nat.reduceMul, rng_0, und_string, siz_string, inf_string_eq, inf_string_size, inf_string_zero, hn1, b6, hz0, hil, and_self, if_true, Nat.sub_zero, true_or, hap1]
     with_reducible refine hR _ ?_
     clear hR R
     show X _ _ _ _
     refine X_seq ?_
     have htk : ((l.map dS).drop i).take (l.length - i) = (l.map dS).drop i := List.take_of_length_le (by simp)
     have hn3 : (l.map dS).drop i ≠ [] → (if (l.map dS).isEmpty = true then 0 else 1) = 1 := fun h => by cases l with | nil => simp at h | cons a r => rfl
     have hap2 := fun fr bx => (ha1.more nx1).app (P := Try.prog) (σ := ⟨fr, bx, nx1 + 1, nx1 :: lv1⟩) (t := 28) (o2 := .own nx1 9) (l2 := [.str s]) und_string inf_string_eq inf_string_size (by omega) (by rw [inf_string_bytes]; omega) inf_string_zc (by simp; omega) (by simp)
     obtain ⟨o3, n3, nx3, lv3, ha3, hap3⟩ := Acc.appN (P := Try.prog) (t := 28) (e := 9) (o := .own (nx1 + 1) 9) (n := 1) (L := (l.map dS).take i ++ [.str s]) (lv := (nx1 + 1) :: o1.cut (nx1 :: lv1)) (.own (by simp)) und_string inf_string_eq inf_string_size (by omega) (by rw [inf_string_bytes]; omega) inf_string_zc (nx1 + 1 + 1) (if (l.map dS).isEmpty = true then 0 else 1) ((l.map dS).drop i) (by simp; omega) hn3
     refine X_rg fun R hR => ?_
     simp only [EVP, nat_to, aops, astep, awant, aeff, aop, idx, aslice, abuild, ev, ofValue, St.put, gd_str, cl_str, zmc, zmn, zg1, zg0, zgd, zmo, Option.map_none, if_true, zs1, zs0, zlm, zlc, zln, zca, zna, zaa, Nat.reduceLeDiff, Nat.reduceLT, Nat.zero_add, Bool.and_true, and_self, List.all_cons, List.all_nil, beq_self_eq_true, zis, Nat.reduceMul, rng_1, und_string, siz_string, inf_string_eq, inf_string_size, inf_string_zero, hn1, hz0, hil, and_self, if_true, true_or, htk, hap2, hap3]
     with_reducible refine hR _ ?_
     clear hR R
     show X _ _ _ _
     refine X_ret ?_
     show ∃ d, resD _ _ _ = some d ∧ _ ∧ _
     have hpe := posN_end hi (fun h => by first | assumption | (exfalso; omega) | simp_all) hf.out
     have hpn := putN_n hpe (fun h => by first | assumption | (exfalso; omega) | simp_all)
     have hm : (l.map dS).take i ++ D.str s :: (l.map dS).drop i = (putN l s).map dS := by rw [hpn]; simp [List.map_take, List.map_drop, dS]
     have ha4 := ha3
     rw [zaa, List.singleton_append, hm] at ha4
     refine ⟨_, by simp only [resD, resAll, resOne, resTup, Try.results35, EVP, zg1, zg0, D.good, if_true, zmo]; exact rfl, ?_, ?_⟩
     ·rw [hm]; simp only [D.under, D.unders_all, List.all_eq_true]; intro d hd; obtain ⟨x, _, rfl⟩ := List.mem_map.1 hd; rfl
     ·rw [hm, ha4.strip, List.map_map, show (D.strip ∘ dS) = dS from rfl]; rfl
   ·intro b7
    have c7 := b7
    try simp only [znt, znf, decide_eq_true_eq, decide_eq_false_iff_not, beq_iff_eq, Int.not_lt, Int.not_le, ge_iff_le, gt_iff_lt, bne_iff_ne, ne_eq, bne_eq_false_iff_eq, beq_eq_false_iff_ne, zat, zof] at c7
    cases b7
 ·intro b8
  have c8 := b8
  try simp only [decide_eq_false_iff_not] at c8
  refine Y_end fun R hR => ?_
  simp only [EVP, aops, astep, awant, aeff, aop, abin, ev, ofValue, St.put, zg1, zg0, zgd, zmo, Option.map_none, zbs, if_true, zs1, zs0, zft, if_false, decide_false, bq_ft, ty_string, und_string, c8]
  with_reducible refine hR _ ?_
  clear hR R
  show X _ _ _ _
  refine X_false (by simp only [ev, zg1, zg0, zgd]) ?_
  refine X_exit ?_
  show X _ _ _ _
  refine X_seq ?_
  refine X_seq ?_
  refine X_y ?_
  refine Y_k 5 fun R hR => ?_
  simp only [EVP, nat_lt, aops, astep, awant, aeff, aop, abin, aint, ev, St.put, zg1, zg0, zgd, zmo, if_true, zs1, zs0, zlm, zt1, zt0, decide_false, und_string, c8]
  with_reducible refine hR _ ?_
  clear hR R
  simp only [zd1, zd0]
  refine Y_if 25 (by simp only [ev, zg1, zg0, zgd]; exact rfl) ?_ ?_
  ·intro b9
   have c9 := b9
   try simp only [znt, znf, decide_eq_true_eq, decide_eq_false_iff_not, beq_iff_eq, Int.not_lt, Int.not_le, ge_iff_le, gt_iff_lt, bne_iff_ne, ne_eq, bne_eq_false_iff_eq, beq_eq_false_iff_ne, zat, zof] at c9
   have hlt : i < l.length := by first | assumption | omega | simp_all
   have hn1 := idx_n (f := dS) (n := 1) hlt
   have e1 : (l.map dS)[i]? = some (.str l[i]) := by rw [List.getElem?_map, List.getElem?_eq_getElem hlt]; rfl
   cases b9
  ·intro b10
   have c10 := b10
   try simp only [] at c10
   refine Y_end fun R hR => ?_
   simp only [EVP, aops, astep, awant, aeff, aop, abin, ev, ofValue, St.put, zg1, zg0, zgd, zmo, Option.map_none, zbs, if_true, zs1, zs0, zft, if_false, bq_ft, ty_string, und_string]
   with_reducible refine hR _ ?_
   clear hR R
   show X _ _ _ _
   refine X_false (by simp only [ev, zg1, zg0, zgd]) ?_
   refine X_skip ?_
   show X _ _ _ _
   refine X_seq ?_
   have hz0 : ((0 : Nat) : Int) ≤ (i : Int) := by omega
   have hil : (i : Int) ≤ (l.length : Int) := by omega
   have hor : ((if (l.map dS).isEmpty = true then 0 else 1) = 1 ∨ (l.map dS) = []) = True := eq_true (by cases l with | nil => exact .inr rfl | cons a r => exact .inl rfl)
   have hn2 : (l.map dS).take i ≠ [] → (if (l.map dS).isEmpty = true then 0 else 1) = 1 := fun h => by cases l with | nil => simp at h | cons a r => rfl
   obtain ⟨o1, n1, nx1, lv1, ha1, hap1⟩ := Acc.appN (P := Try.prog) (t := 28) (e := 9) (o := .own 0 9) (n := 1) (L := []) (lv := [0]) (.own (by simp)) und_string inf_string_eq inf_string_size (by omega) (by rw [inf_string_bytes]; omega) inf_string_zc 1 (if (l.map dS).isEmpty = true then 0 else 1) ((l.map dS).take i) (by simp; omega) hn2
   rw [zna] at ha1 hap1
   refine X_rg fun R hR => ?_
   simp only [EVP, nat_to, aops, astep, awant, aeff, aop, idx, aslice, abuild, ev, ofValue, St.put, zmn, zg1, zg0, zgd, zmo, Option.map_none, if_true, zs1, zs0, zlm, zd0, Nat.reduceLeDiff, Nat.reduceLT, Nat.zero_add, and_self, List.all_nil, zis, Nat.reduceMul, rng_0, und_string, siz_string, inf_string_eq, inf_string_size, inf_string_zero, hz0, hil, hor, and_self, if_true, Nat.sub_zero, hap1]
   with_reducible refine hR _ ?_
   clear hR R
   show X _ _ _ _
   refine X_seq ?_
   have htk : ((l.map dS).drop i).take (l.length - i) = (l.map dS).drop i := List.take_of_length_le (by simp)
   have hn3 : (l.map dS).drop i ≠ [] → (if (l.map dS).isEmpty = true then 0 else 1) = 1 := fun h => by cases l with | nil => simp at h | cons a r => rfl
   have hap2 := fun fr bx => (ha1.more nx1).app (P := Try.prog) (σ := ⟨fr, bx, nx1 + 1, nx1 :: lv1⟩) (t := 28) (o2 := .own nx1 9) (l2 := [.str s]) und_string inf_string_eq inf_string_size (by omega) (by rw [inf_string_bytes]; omega) inf_string_zc (by simp; omega) (by simp)
   obtain ⟨o3, n3, nx3, lv3, ha3, hap3⟩ := Acc.appN (P := Try.prog) (t := 28) (e := 9) (o := .own (nx1 + 1) 9) (n := 1) (L := (l.map dS).take i ++ [.str s]) (lv := (nx1 + 1) :: o1.cut (nx1 :: lv1)) (.own (by simp)) und_string inf_string_eq inf_string_size (by omega) (by rw [inf_string_bytes]; omega) inf_string_zc (nx1 + 1 + 1) (if (l.map dS).isEmpty = true then 0 else 1) ((l.map dS).drop i) (by simp; omega) hn3
   refine X_rg fun R hR => ?_
   simp only [EVP, nat_to, aops, astep, awant, aeff, aop, idx, aslice, abuild, ev, ofValue, St.put, gd_str, cl_str, zmc, zmn, zg1, zg0, zgd, zmo, Option.map_none, if_true, zs1, zs0, zlm, zlc, zln, zca, zna, zaa, Nat.reduceLeDiff, Nat.reduceLT, Nat.zero_add, Bool.and_true, and_self, List.all_cons, List.all_nil, beq_self_eq_true, zis, Nat.reduceMul, rng_1, und_string, siz_string, inf_string_eq, inf_string_size, inf_string_zero, hz0, hil, hor, and_self, if_true, htk, hap2, hap3]
   with_reducible refine hR _ ?_
   clear hR R
   show X _ _ _ _
   refine X_ret ?_
   show ∃ d, resD _ _ _ = some d ∧ _ ∧ _
   have hpe := posN_end hi (fun h => by first | assumption | (exfalso; omega) | simp_all) hf.out
   have hpn := putN_n hpe (fun h => by first | assumption | (exfalso; omega) | simp_all)
   have hm : (l.map dS).take i ++ D.str s :: (l.map dS).drop i = (putN l s).map dS := by rw [hpn]; simp [List.map_take, List.map_drop, dS]
   have ha4 := ha3
   rw [zaa, List.singleton_append, hm] at ha4
   refine ⟨_, by simp only [resD, resAll, resOne, resTup, Try.results35, EVP, zg1, zg0, D.good, if_true, zmo]; exact rfl, ?_, ?_⟩
   ·rw [hm]; simp only [D.under, D.unders_all, List.all_eq_true]; intro d hd; obtain ⟨x, _, rfl⟩ := List.mem_map.1 hd; rfl
   ·rw [hm, ha4.strip, List.map_map, show (D.strip ∘ dS) = dS from rfl]; rfl

end Go.Proofs.Ytkkhjpkkjpcbmaa
