/- The reference's place over data. -/
import Derived.Test.YtkkhjpkkjpcbmaaE3
namespace Go.Proofs.Ytkkhjpkkjpcbmaa
open Go.RowKit


theorem isPl_eq (t : Tr) : isPl t = (t.kind == 2 || t.kind == 3) := rfl
def pl1 (x : Tr) (A : List ByteArray) : List ByteArray := if isPl x then putN A x.name else A
def placeN (t : Tr) (i : Nat) (A : List ByteArray) : List ByteArray := match t.kids[i]? with
 | some x => pl1 x A
 | none => A
theorem pl1_len (x : Tr) (A : List ByteArray) : (pl1 x A).length ≤ A.length + 1 := by
 have := putN_len A x.name
 unfold pl1; split <;> omega
theorem placeN_len (t : Tr) (i : Nat) (A : List ByteArray) : (placeN t i A).length ≤ A.length + 1 := by
 unfold placeN; split
 ·exact pl1_len _ _
 ·omega
theorem placeN_y {t : Tr} {i : Nat} {A : List ByteArray} (h : i < t.kids.length) (h' : isPl t.kids[i] = true) : placeN t i A = putN A t.kids[i].name := by
 unfold placeN pl1; rw [List.getElem?_eq_getElem h]; simp only [h', if_true]
theorem placeN_n {t : Tr} {i : Nat} {A : List ByteArray} (h' : ∀ h : i < t.kids.length, isPl t.kids[i] = false) : placeN t i A = A := by
 unfold placeN
 rcases Nat.lt_or_ge i t.kids.length with h | h
 ·rw [List.getElem?_eq_getElem h]; simp only [pl1, h' h, zft, if_false]
 ·rw [List.getElem?_eq_none h]
set_option maxRecDepth 100000 in
set_option maxHeartbeats 4000000 in
theorem place_fn (A : List ByteArray) (t : Tr) (i : Nat) (hA : A.length ≤ 1000000) (_hi : i ≤ 1000000) : fn EV 39 [sl 1 (A.map dS), dN t, .int .i64 i] = some (sl 1 ((placeN t i A).map dS)) := by
 refine fn_Xs rfl Try.func39 rfl (by simp only [plain, List.all_cons, List.all_nil, sl_under (map_under (dS_under 0) A), sl_gd, dN_under, dN_good, D.under, gd_int, Bool.and_self]) (rfl) ?_
 simp only [zmc, zmn, D.strip, sl_strip (map_strip dS_strip A), dN_strip]
 simp only [enterSt, Try.ntmps39, zlc, zln, Nat.reduceAdd, Nat.reduceSub, zr1, zr0, zca, zna]
 refine X_seq ?_
 refine X_rg fun R hR => ?_
 simp only [aops, astep, awant, aeff, aop, ev, ofValue, St.put, zg1, zg0, zgd, zmo, if_true, zs1, zs0, zln, zna, dN_cells, dN_good, sl]
 with_reducible refine hR _ ?_
 clear hR R
 show X _ _ _ _
 refine X_seq ?_
 refine X_seq ?_
 refine X_y ?_
 refine Y_k 6 fun R hR => ?_
 simp only [EVP, nat_lt, aops, astep, awant, aeff, aop, abin, aint, mkD, ev, St.put, ia_slice, zg1, zg0, zgd, zmo, if_true, zs1, zs0, zlm, zlc, zln, zd1, zd0, zt1, zt0, Nat.reduceAdd, Nat.reduceLeDiff, Nat.zero_add, zft, if_false, reduceCtorEq, ty_s_api_Node, ty_api_Node, und_api_Node]
 with_reducible refine hR _ ?_
 clear hR R
 simp only [zd1, zd0]
 refine Y_if 12 (by simp only [ev, zg1, zg0, zgd]; exact rfl) ?_ ?_
 ·intro b1
  have c1 := b1
  try simp only [decide_eq_true_eq] at c1
  have hlt : i < t.kids.length := by first | assumption | omega | simp_all
  have hn1 := idx_n (f := dN) (n := 4) hlt
  have e1 : (t.kids.map dN)[i]? = some (.agg [.int .u8 t.kids[i].kind, .int .i64 t.kids[i].num, .str t.kids[i].name, .slice .imm (if (t.kids[i].kids.map dN).isEmpty = true then 0 else 4) (t.kids[i].kids.map dN)]) := by rw [List.getElem?_map, List.getElem?_eq_getElem hlt]; exact congrArg some (dN_eq _)
  refine Y_k 8 fun R hR => ?_
  simp only [EVP, inr_u8, Int.reduceLE, nat_lt, nat_0, nat_to, aops, astep, awant, aeff, aop, abin, aint, mkD, ev, ofValue, St.put, ia_int, cl_int, ia_slice, zg1, zg0, zgd, zmo, zbs, if_true, zs1, zs0, zlm, zlc, zln, zd1, zd0, zt1, zt0, Nat.reduceAdd, Nat.reduceLeDiff, Nat.zero_add, zft, if_false, and_self, reduceCtorEq, decide_true, beq_self_eq_true, zis, ty_uint8, ty_s_api_Node, ty_api_Node, und_api_Node, siz_api_Node, inf_api_Node_eq, hlt, hn1, e1]
  with_reducible refine hR _ ?_
  clear hR R
  simp only [zd1, zd0]
  refine Y_if 20 (by simp only [ev, zg1, zg0, zgd]; exact rfl) ?_ ?_
  ·intro b2
   have c2 := b2
   try simp only [beq_iff_eq] at c2
   refine Y_end fun R hR => ?_
   simp only [EVP, inr_u8, Int.reduceLE, aops, astep, awant, aeff, aop, abin, ev, ofValue, St.put, zg1, zg0, zgd, zmo, Option.map_none, zbs, if_true, zs1, zs0, Nat.zero_add, zft, if_false, and_self, reduceCtorEq, beq_self_eq_true, bq_tf, ty_uint8, ty_s_api_Node, ty_api_Node, und_api_Node, b2]
   with_reducible refine hR _ ?_
   clear hR R
   show X _ _ _ _
   refine X_true (by simp only [ev, zg1, zg0, zgd]) ?_
   refine X_seq ?_
   have hp := put_call (IsL.sl' A) t.kids[i].name hA
   refine X_rg fun R hR => ?_
   simp only [EVP, nat_lt, nat_0, nat_to, aops, astep, awant, aeff, aop, mkD, ev, St.put, pcall, ia_str, cl_str, ia_slice, zmc, zmn, zg1, zg0, zgd, zmo, if_true, zs1, zs0, zlm, zlc, zln, zd1, zd0, zt1, zt0, zca, zna, Nat.reduceAdd, Nat.reduceLeDiff, Nat.zero_add, zft, if_false, and_self, reduceCtorEq, zis, ty_string, ty_s_api_Node, ty_api_Node, und_api_Node, siz_api_Node, inf_api_Node_eq, any35, sl, hlt, hn1, e1, hp]
   with_reducible refine hR _ ?_
   clear hR R
   show X _ _ _ _
   refine X_ret ?_
   show ∃ d, resD _ _ _ = some d ∧ _ ∧ _
   have hq : isPl t.kids[i] = true := by first | (simp only [isPl_eq]; simp_all; done) | simp_all [isPl_eq]
   refine ⟨_, by simp only [resD, resAll, resOne, resTup, Try.results39, EVP, zg1, zg0, D.good, if_true, zmo] <;> exact rfl, (IsL.sl' _).u 0, by rw [placeN_y hlt hq]; exact (IsL.sl' _).s⟩
  ·intro b3
   have c3 := b3
   try simp only [ne_eq, beq_eq_false_iff_ne] at c3
   refine Y_end fun R hR => ?_
   simp only [EVP, inr_u8, Int.reduceLE, nat_lt, nat_0, nat_to, aops, astep, awant, aeff, aop, abin, aint, mkD, ev, ofValue, St.put, ia_int, cl_int, ia_slice, zg1, zg0, zgd, zmo, zbs, if_true, zs1, zs0, zlm, zlc, zln, zd1, zd0, zt1, zt0, Nat.reduceAdd, Nat.reduceLeDiff, Nat.zero_add, zft, if_false, and_self, reduceCtorEq, beq_self_eq_true, zis, ty_uint8, ty_s_api_Node, ty_api_Node, und_api_Node, siz_api_Node, inf_api_Node_eq, hlt, hn1, e1, b3]
   with_reducible refine hR _ ?_
   clear hR R
   show X _ _ _ _
   refine X_ite (by simp only [ev, zg1, zg0, zgd]; exact rfl) ?_ ?_
   ·intro b4
    have c4 := b4
    try simp only [beq_iff_eq] at c4
    refine X_seq ?_
    have hp := put_call (IsL.sl' A) t.kids[i].name hA
    refine X_rg fun R hR => ?_
    simp only [EVP, nat_lt, nat_0, nat_to, aops, astep, awant, aeff, aop, mkD, ev, St.put, pcall, ia_str, cl_str, ia_slice, zmc, zmn, zg1, zg0, zgd, zmo, if_true, zs1, zs0, zlm, zlc, zln, zd1, zd0, zt1, zt0, zca, zna, Nat.reduceAdd, Nat.reduceLeDiff, Nat.zero_add, zft, if_false, and_self, reduceCtorEq, zis, ty_string, ty_s_api_Node, ty_api_Node, und_api_Node, siz_api_Node, inf_api_Node_eq, any35, sl, hlt, hn1, e1, b4, hp]
    with_reducible refine hR _ ?_
    clear hR R
    show X _ _ _ _
    refine X_ret ?_
    show ∃ d, resD _ _ _ = some d ∧ _ ∧ _
    have hq : isPl t.kids[i] = true := by first | (simp only [isPl_eq]; simp_all; done) | simp_all [isPl_eq]
    refine ⟨_, by simp only [resD, resAll, resOne, resTup, Try.results39, EVP, zg1, zg0, D.good, if_true, zmo] <;> exact rfl, (IsL.sl' _).u 0, by rw [placeN_y hlt hq]; exact (IsL.sl' _).s⟩
   ·intro b5
    have c5 := b5
    try simp only [ne_eq, beq_eq_false_iff_ne] at c5
    refine X_skip ?_
    show X _ _ _ _
    refine X_seq ?_
    refine X_rg fun R hR => ?_
    simp only [aops, astep, awant, aeff, aop, ev, St.put, zg1, zg0, zgd, zmo, if_true, zs1, zs0, b5]
    with_reducible refine hR _ ?_
    clear hR R
    show X _ _ _ _
    refine X_ret ?_
    show ∃ d, resD _ _ _ = some d ∧ _ ∧ _
    have hq : ∀ h : i < t.kids.length, isPl t.kids[i] = false := fun h => by first | (exfalso; simp_all; done) | (simp only [isPl_eq]; simp_all; done)
    refine ⟨_, by simp only [resD, resAll, resOne, resTup, Try.results39, EVP, zg1, zg0, D.good, if_true, zmo] <;> exact rfl, (IsL.sl' _).u 0, by rw [placeN_n hq]; exact (IsL.sl' _).s⟩
 ·intro b6
  have c6 := b6
  try simp only [decide_eq_false_iff_not] at c6
  refine Y_end fun R hR => ?_
  simp only [EVP, inr_u8, Int.reduceLE, aops, astep, awant, aeff, aop, abin, ev, ofValue, St.put, zg1, zg0, zgd, zmo, Option.map_none, zbs, if_true, zs1, zs0, Nat.zero_add, zft, if_false, and_self, reduceCtorEq, bq_ft, ty_uint8, ty_s_api_Node, ty_api_Node, und_api_Node, b6]
  with_reducible refine hR _ ?_
  clear hR R
  show X _ _ _ _
  refine X_false (by simp only [ev, zg1, zg0, zgd]) ?_
  refine X_skip ?_
  show X _ _ _ _
  refine X_seq ?_
  refine X_rg fun R hR => ?_
  simp only [aops, astep, awant, aeff, aop, ev, St.put, zg1, zg0, zgd, zmo, if_true, zs1, zs0]
  with_reducible refine hR _ ?_
  clear hR R
  show X _ _ _ _
  refine X_ret ?_
  show ∃ d, resD _ _ _ = some d ∧ _ ∧ _
  have hq : ∀ h : i < t.kids.length, isPl t.kids[i] = false := fun h => by first | (exfalso; simp_all; done) | (simp only [isPl_eq]; simp_all; done)
  refine ⟨_, by simp only [resD, resAll, resOne, resTup, Try.results39, EVP, zg1, zg0, D.good, if_true, zmo] <;> exact rfl, (IsL.sl' _).u 0, by rw [placeN_n hq]; exact (IsL.sl' _).s⟩
theorem place_call {d : D} {A : List ByteArray} (h : IsL d A) (t : Tr) (i : Nat) (hA : A.length ≤ 1000000) (hi : i ≤ 1000000) : fn EV 39 [d, dN t, .int .i64 i] = some (sl 1 ((placeN t i A).map dS)) := by
 rw [← place_fn A t i hA hi]
 refine fn_strip ?_ ?_ ?_
 ·simp only [plain, List.all_cons, List.all_nil, h.u, h.g, dN_under, dN_good, D.under, gd_int, Bool.and_self]
 ·simp only [plain, List.all_cons, List.all_nil, (IsL.sl A).u, (IsL.sl A).g, dN_under, dN_good, D.under, gd_int, Bool.and_self]
 ·simp only [zmc, zmn, h.s, (IsL.sl A).s]
theorem place_call0 {d : D} {A : List ByteArray} (h : IsL d A) (t : Tr) (hA : A.length ≤ 1000000) : fn EV 39 [d, dN t, .int .i64 0] = some (sl 1 ((placeN t 0 A).map dS)) := place_call h t 0 hA (by omega)
theorem place_call1 {d : D} {A : List ByteArray} (h : IsL d A) (t : Tr) (hA : A.length ≤ 1000000) : fn EV 39 [d, dN t, .int .i64 1] = some (sl 1 ((placeN t 1 A).map dS)) := place_call h t 1 hA (by omega)
def plK : List Tr → List ByteArray → List ByteArray
 | [], A => A
 | x :: r, A => plK r (pl1 x A)
theorem plK_len : ∀ (c : List Tr) (A : List ByteArray), (plK c A).length ≤ A.length + Tr.sizes c
 | [], A => by simp [plK]
 | x :: r, A => by
  have h1 := plK_len r (pl1 x A)
  have h2 := pl1_len x A
  have h3 := Tr.size_pos x
  simp only [plK, Tr.sizes]; omega
theorem plK_step {t : Tr} {A : List ByteArray} {i : Nat} (h : i < t.kids.length) : plK (t.kids.drop i) A = plK (t.kids.drop (i + 1)) (placeN t i A) := by
 rw [List.drop_eq_getElem_cons h]
 simp only [plK, placeN, List.getElem?_eq_getElem h]
mutual
def wrT : Tr → List ByteArray
 | .mk k n s c => if updN k then placeN (.mk k n s c) 0 [] else if k == 43 then placeN (.mk k n s c) 1 (placeN (.mk k n s c) 0 []) else if k == 44 || k == 45 then placeN (.mk k n s c) 0 [s] else if k == 50 || k == 51 then plK c [] else if bodN k then wrK k s 0 c [] else []
def wrK (k : Int) (s : ByteArray) : Nat → List Tr → List ByteArray → List ByteArray
 | _, [], A => A
 | i, t :: r, A => wrK k s (i + 1) r (unionN s (hidesN k i) A (wrT t))
end
theorem wrT_eq (t : Tr) : wrT t = if updN t.kind then placeN t 0 [] else if t.kind == 43 then placeN t 1 (placeN t 0 []) else if t.kind == 44 || t.kind == 45 then placeN t 0 [t.name] else if t.kind == 50 || t.kind == 51 then plK t.kids [] else if bodN t.kind then wrK t.kind t.name 0 t.kids [] else [] := by
 cases t; rw [wrT]; rfl
mutual
theorem wrT_len : ∀ t : Tr, (wrT t).length ≤ 2 * t.size
 | .mk k n s c => by
  have h0 := wrK_len k s c 0 []
  have h1 := plK_len c []
  have h2 := placeN_len (.mk k n s c) 0 []
  have h3 := placeN_len (.mk k n s c) 1 (placeN (.mk k n s c) 0 [])
  have h4 := placeN_len (.mk k n s c) 0 [s]
  simp only [zln, zlc] at h0 h1 h2 h4
  rw [wrT]
  simp only [Tr.size]
  split
  ·omega
  ·split
   ·omega
   ·split
    ·omega
    ·split
     ·omega
     ·split
      ·omega
      ·simp
theorem wrK_len (k : Int) (s : ByteArray) : ∀ (c : List Tr) (i : Nat) (A : List ByteArray), (wrK k s i c A).length ≤ A.length + 2 * Tr.sizes c
 | [], i, A => by simp [wrK]
 | t :: r, i, A => by
  have h1 := wrK_len k s r (i + 1) (unionN s (hidesN k i) A (wrT t))
  have h2 := unionN_len s (hidesN k i) (wrT t) A
  have h3 := wrT_len t
  simp only [wrK, Tr.sizes]; omega
end
theorem wrK_step {k : Int} {s : ByteArray} {c : List Tr} {A : List ByteArray} {i : Nat} (h : i < c.length) : wrK k s i (c.drop i) A = wrK k s (i + 1) (c.drop (i + 1)) (unionN s (hidesN k i) A (wrT c[i])) := by
 rw [List.drop_eq_getElem_cons h]; simp only [wrK]

end Go.Proofs.Ytkkhjpkkjpcbmaa
