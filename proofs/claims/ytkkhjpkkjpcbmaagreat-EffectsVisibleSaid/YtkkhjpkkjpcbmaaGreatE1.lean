/- Tapes, and the number of nodes, over data. -/
import Derived.Test.YtkkhjpkkjpcbmaaGreatSc2
namespace Go.Proofs.YtkkhjpkkjpcbmaaGreat
open Go.RowKit
theorem sl_gd (n : Nat) (l : List D) : (sl n l).good = true := rfl
theorem idx_n {α : Type} {f : α → D} {l : List α} {i n : Nat} (h : i < l.length) : ((if (l.map f).isEmpty = true then 0 else n) = n) = True := eq_true (sl_n (j := i) (by simpa using h))
def ixP (p : Tr → Bool) (l : List Tr) : Nat → Nat → Int
 | _, 0 => -1
 | i, k + 1 => match l[i]? with
  | some t => if p t then (i : Int) else ixP p l (i + 1) k
  | none => -1
theorem ixP_y {p : Tr → Bool} {l : List Tr} {i : Nat} (h : i < l.length) (h' : p l[i] = true) : ixP p l i (l.length - i) = i := by
 obtain ⟨k, hk⟩ : ∃ k, l.length - i = k + 1 := ⟨l.length - i - 1, by omega⟩
 rw [hk]; simp only [ixP, List.getElem?_eq_getElem h, h', if_true]
theorem ixP_n {p : Tr → Bool} {l : List Tr} {i : Nat} (h : i < l.length) (h' : p l[i] = false) : ixP p l i (l.length - i) = ixP p l (i + 1) (l.length - (i + 1)) := by
 obtain ⟨k, hk⟩ : ∃ k, l.length - i = k + 1 := ⟨l.length - i - 1, by omega⟩
 rw [hk, show l.length - (i + 1) = k from by omega]; simp only [ixP, List.getElem?_eq_getElem h, h', zft, if_false]
theorem ixP_any {p : Tr → Bool} {l : List Tr} : ∀ (k i : Nat), i + k = l.length → (-1 ≤ ixP p l i k ∧ ixP p l i k ≤ l.length) ∧ decide (ixP p l i k ≥ 0) = (l.drop i).any p
 | 0, i, h => by rw [List.drop_of_length_le (by omega)]; exact ⟨⟨by simp [ixP], by simp only [ixP]; omega⟩, rfl⟩
 | k + 1, i, h => by
  have hi : i < l.length := by omega
  rw [List.drop_eq_getElem_cons hi, List.any_cons]
  simp only [ixP, List.getElem?_eq_getElem hi]
  cases q : p l[i]
  ·simpa using ixP_any k (i + 1) (by omega)
  ·simp; omega
def tkB (k : Int) : Bool := k == 46 || k == 47 || k == 48 || k == 49 || k == 50 || k == 51
mutual
/-- the tree has an operation on a tape, or a call -/
def tapesB : Tr → Bool
 | .mk k _ _ c => tkB k || tapesL c
def tapesL : List Tr → Bool
 | [] => false
 | t :: r => tapesB t || tapesL r
end
theorem tapesL_any : ∀ c : List Tr, tapesL c = c.any tapesB
 | [] => rfl
 | t :: r => by simp only [tapesL, List.any_cons, tapesL_any r]
theorem tapesB_eq (t : Tr) : tapesB t = (tkB t.kind || t.kids.any tapesB) := by cases t; simp only [tapesB, tapesL_any, Tr.kind, Tr.kids]
set_option maxRecDepth 100000 in
set_option maxHeartbeats 4000000 in
theorem idxN_fn {k : Nat} (any_k : (Tryz.prog.funcs[k]?).any (fun fn => fn.body.isSome && fn.name != "runtime.NumGoroutine") = true) (p : Tr → Bool) (l : List Tr) (hl : l.length ≤ 1000000) (hg : ∀ x ∈ l, fn EV k [dN x] = some (.bool (p x))) : fn EV 74 [sl 4 (l.map dN), .fn k []] = some (.int .i64 (ixP p l 0 l.length)) := by
 refine fn_X rfl Tryz.func74 rfl (by simp only [plain, List.all_cons, List.all_nil, sl_under (map_under (dN_under 0) l), sl_gd, D.under, D.unders, gd_fn, Bool.and_self]) (rfl) (rfl) (rfl) ?_
 simp only [zmc, zmn, D.strip, sl_strip (map_strip dN_strip l), D.strips]
 simp only [enterSt, Tryz.ntmps74, zlc, zln, Nat.reduceAdd, Nat.reduceSub, zr1, zr0, zca, zna]
 refine X_seq ?_
 refine X_rg fun R hR => ?_
 simp only [inr_i64, Int.reduceLE, Int.reduceNeg, aops, astep, awant, aeff, aop, ev, ofValue, St.put, zgd, zmo, if_true, zs1, zs0, and_self, sl]
 with_reducible refine hR _ ?_
 clear hR R
 show X _ _ _ _
 refine X_seq ?_
 refine X_seq ?_
 refine X_rg fun R hR => ?_
 simp only [EVP, inr_i64, Int.reduceLE, Int.reduceNeg, aops, astep, awant, aeff, aop, ev, ofValue, St.put, zg1, zg0, zgd, zmo, if_true, zs1, zs0, zlm, and_self, und_api_Node]
 with_reducible refine hR _ ?_
 clear hR R
 show X _ _ _ _
 refine X_block ?_
 refine X_loop (fun m σ => ∃ (i : Nat), σ = ⟨[.slice .imm (if (l.map dN).isEmpty = true then 0 else 4) (l.map dN), .fn k [], slotOf σ 2, slotOf σ 3, slotOf σ 4, slotOf σ 5, .slice .imm (if (l.map dN).isEmpty = true then 0 else 4) (l.map dN), .int .i64 l.length, .int .i64 i, slotOf σ 9, slotOf σ 10, slotOf σ 11, slotOf σ 12, slotOf σ 13, slotOf σ 14, slotOf σ 15, slotOf σ 16, slotOf σ 17, slotOf σ 18], [], 0, []⟩ ∧ m = l.length - i ∧ i ≤ l.length ∧ Hid (ixP p l 0 l.length = ixP p l i (l.length - i))) ?_ (l.length) _ ?_
 rotate_left
 ·exact ⟨0, rfl, rfl, Nat.zero_le _, Lib.hid rfl⟩
 rintro m σ ⟨i, hσ, rfl, hi, hf⟩
 generalize slotOf σ = x at hσ
 subst hσ
 refine X_seq ?_
 refine X_rg fun R hR => ?_
 simp only [nat_lt, aops, astep, awant, aeff, aop, abin, aint, ev, St.put, zg1, zg0, zgd, zmo, if_true, zs1, zs0]
 with_reducible refine hR _ ?_
 clear hR R
 show X _ _ _ _
 refine X_seq ?_
 refine X_ite (by simp only [ev, zg1, zg0, zgd]; exact rfl) ?_ ?_
 ·intro b1
  have c1 := b1
  try simp only [decide_eq_true_eq] at c1
  refine X_skip ?_
  show X _ _ _ _
  refine X_seq ?_
  refine X_block ?_
  refine X_seq ?_
  have hlt : i < l.length := by first | assumption | omega
  refine X_rg fun R hR => ?_
  simp only [aops, astep, awant, aeff, aop, ev, St.put, zg1, zg0, zgd, zmo, if_true, zs1, zs0, decide_true, c1]
  with_reducible refine hR _ ?_
  clear hR R
  show X _ _ _ _
  refine X_seq ?_
  have hn1 := idx_n (f := dN) (n := 4) hlt
  have e1 : (l.map dN)[i]? = some (dN l[i]) := by simp [hlt]
  have hg1 := hg l[i] (List.getElem_mem hlt)
  refine X_rg fun R hR => ?_
  simp only [EVP, nat_lt, nat_0, nat_to, aops, astep, awant, aeff, aop, ev, St.put, pcall, zmc, zmn, zg1, zg0, zgd, zmo, if_true, zs1, zs0, zlm, zlc, zln, zca, zna, Nat.reduceAdd, Nat.zero_add, and_self, zis, ty_api_Node, und_api_Node, siz_api_Node, inf_api_Node_eq, dN_cells, dN_isAgg, sl, any_k, c1, hn1, e1, hg1]
  with_reducible refine hR _ ?_
  clear hR R
  show X _ _ _ _
  refine X_ite (by simp only [ev, zg1, zg0, zgd]; exact rfl) ?_ ?_
  ·intro b2
   have c2 := b2
   try simp only [znt, znf, decide_eq_true_eq, decide_eq_false_iff_not, beq_iff_eq, Int.not_lt, Int.not_le, ge_iff_le, gt_iff_lt, bne_iff_ne, ne_eq, bne_eq_false_iff_eq, beq_eq_false_iff_ne, zat, zof] at c2
   refine X_seq ?_
   refine X_rg fun R hR => ?_
   simp only [aops, astep, awant, aeff, aop, ev, St.put, zg1, zg0, zgd, zmo, if_true, zs1, zs0, b2]
   with_reducible refine hR _ ?_
   clear hR R
   show X _ _ _ _
   refine X_ret ?_
   show resD _ _ _ = some _
   simp only [resD, resAll, resOne, resTup, Tryz.results74, EVP, zg1, zg0, D.good, if_true, zmo]
   first | (rw [hf.out, ixP_y hlt (by assumption)]; done) | (rw [hf.out, show l.length - i = 0 from by omega]; rfl; done) | (exfalso; simp_all; done)
  ·intro b3
   have c3 := b3
   try simp only [znt, znf, decide_eq_true_eq, decide_eq_false_iff_not, beq_iff_eq, Int.not_lt, Int.not_le, ge_iff_le, gt_iff_lt, bne_iff_ne, ne_eq, bne_eq_false_iff_eq, beq_eq_false_iff_ne, zat, zof] at c3
   refine X_skip ?_
   show X _ _ _ _
   have hbig : i < 9223372036854775807 := by omega
   refine X_rg fun R hR => ?_
   simp only [inr_i64, Int.reduceLE, Int.reduceNeg, aops, astep, awant, aeff, aop, abin, aint, ev, ofValue, St.put, zg1, zg0, zgd, zmo, if_true, zs1, zs0, and_self, b3, nat_succ hbig]
   with_reducible refine hR _ ?_
   clear hR R
   show ∃ m, m < _ ∧ _
   exact ⟨l.length - (i + 1), by omega, i + 1, rfl, rfl, by omega, Lib.hid (hf.out.trans (ixP_n hlt (by first | assumption | simp_all)))⟩
 ·intro b4
  have c4 := b4
  try simp only [decide_eq_false_iff_not] at c4
  refine X_exit ?_
  show X _ _ _ _
  refine X_seq ?_
  refine X_rg fun R hR => ?_
  simp only [inr_i64, Int.reduceLE, Int.reduceNeg, aops, astep, awant, aeff, aop, ev, ofValue, St.put, zgd, zmo, if_true, zs1, zs0, and_self, decide_false, c4]
  with_reducible refine hR _ ?_
  clear hR R
  show X _ _ _ _
  refine X_ret ?_
  show resD _ _ _ = some _
  simp only [resD, resAll, resOne, resTup, Tryz.results74, EVP, zg1, zg0, D.good, if_true, zmo]
  first | (rw [hf.out, ixP_y hlt (by assumption)]; done) | (rw [hf.out, show l.length - i = 0 from by omega]; rfl; done) | (exfalso; simp_all; done)
set_option maxRecDepth 100000 in
set_option maxHeartbeats 4000000 in
theorem contN_fn {k : Nat} (any_k : (Tryz.prog.funcs[k]?).any (fun fn => fn.body.isSome && fn.name != "runtime.NumGoroutine") = true) (p : Tr → Bool) (l : List Tr) (hl : l.length ≤ 1000000) (hg : ∀ x ∈ l, fn EV k [dN x] = some (.bool (p x))) : fn EV 54 [sl 4 (l.map dN), .fn k []] = some (.bool (l.any p)) := by
 refine fn_X rfl Tryz.func54 rfl (by simp only [plain, List.all_cons, List.all_nil, sl_under (map_under (dN_under 0) l), sl_gd, D.under, D.unders, gd_fn, Bool.and_self]) (rfl) (rfl) (rfl) ?_
 simp only [zmc, zmn, D.strip, sl_strip (map_strip dN_strip l), D.strips]
 simp only [enterSt, Tryz.ntmps54, zlc, zln, Nat.reduceAdd, Nat.reduceSub, zr1, zr0, zca, zna]
 refine X_seq ?_
 refine X_rg fun R hR => ?_
 simp only [aops, astep, awant, aeff, aop, ev, ofValue, St.put, zgd, zmo, if_true, zs1, zs0, sl]
 with_reducible refine hR _ ?_
 clear hR R
 show X _ _ _ _
 refine X_seq ?_
 have hI := idxN_fn any_k p l hl hg
 simp only [sl] at hI
 have hX := ixP_any (p := p) (l := l) l.length 0 (by omega)
 rw [zd0] at hX
 refine X_rg fun R hR => ?_
 simp only [EVP, inr_i64, Int.reduceLE, Int.reduceNeg, aops, astep, awant, aeff, aop, abin, aint, ev, ofValue, St.put, pcall, zmc, zmn, zg1, zg0, zgd, zmo, if_true, zs1, zs0, zca, zna, and_self, any74, hI]
 with_reducible refine hR _ ?_
 clear hR R
 show X _ _ _ _
 refine X_ret ?_
 show resD _ _ _ = some _
 simp only [resD, resAll, resOne, resTup, Tryz.results54, EVP, zg1, zg0, D.good, if_true, zmo]
 first | (rw [hX.2]; done) | (exfalso; simp_all; done)
set_option maxRecDepth 100000 in
set_option maxHeartbeats 4000000 in
theorem tapes_step (t : Tr) (hC : fn EV 54 [.slice .imm (if (t.kids.map dN).isEmpty = true then 0 else 4) (t.kids.map dN), .fn 36 []] = some (.bool (t.kids.any tapesB))) : fn EV 36 [dN t] = some (.bool (tapesB t)) := by
 refine fn_X rfl Tryz.func36 rfl (by simp only [plain, List.all_cons, List.all_nil, dN_under, dN_good, Bool.and_true]) (rfl) (rfl) (rfl) ?_
 simp only [zmc, zmn, dN_strip]
 simp only [enterSt, Tryz.ntmps36, zlc, zln, Nat.reduceAdd, Nat.reduceSub, zr1, zr0, zca, zna]
 refine X_seq ?_
 refine X_rg fun R hR => ?_
 simp only [aops, astep, awant, aeff, aop, ev, ofValue, St.put, zg0, zgd, zmo, if_true, zs1, zs0, zln, zna, dN_cells, dN_good, sl]
 with_reducible refine hR _ ?_
 clear hR R
 show X _ _ _ _
 refine X_seq ?_
 refine X_seq ?_
 refine X_rg fun R hR => ?_
 simp only [EVP, aops, astep, awant, aeff, aop, mkD, ev, St.put, ia_int, zg1, zg0, zgd, zmo, if_true, zs1, zs0, zlc, zln, zd0, zt1, zt0, Nat.reduceAdd, Nat.reduceLeDiff, Nat.zero_add, Nat.add_zero, zft, if_false, reduceCtorEq, ty_uint8, ty_api_Node]
 with_reducible refine hR _ ?_
 clear hR R
 show X _ _ _ _
 refine X_block ?_
 refine X_seq ?_
 refine X_seq ?_
 refine X_rg fun R hR => ?_
 simp only [inr_u8, Int.reduceLE, aops, astep, awant, aeff, aop, abin, aint, ev, ofValue, St.put, zg1, zg0, zgd, zmo, if_true, zs1, zs0, and_self]
 with_reducible refine hR _ ?_
 clear hR R
 show X _ _ _ _
 refine X_ite (by simp only [ev, zg1, zg0, zgd]; exact rfl) ?_ ?_
 ·intro b1
  have c1 := b1
  try simp only [beq_iff_eq] at c1
  refine X_skip ?_
  show X _ _ _ _
  refine X_true (by simp only [ev, zg1, zg0, zgd, b1]) ?_
  refine X_seq ?_
  refine X_rg fun R hR => ?_
  simp only [aops, astep, awant, aeff, aop, ev, ofValue, St.put, zgd, zmo, if_true, zs1, zs0, b1]
  with_reducible refine hR _ ?_
  clear hR R
  show X _ _ _ _
  refine X_ret ?_
  show resD _ _ _ = some _
  simp only [resD, resAll, resOne, resTup, Tryz.results36, EVP, zg1, zg0, D.good, if_true, zmo]
  first | (rw [tapesB_eq]; simp [tkB, b1]; done) | (rw [tapesB_eq]; simp_all [tkB]; done) | (exfalso; simp_all; done)
 ·intro b2
  have c2 := b2
  try simp only [ne_eq, beq_eq_false_iff_ne] at c2
  refine X_seq ?_
  refine X_rg fun R hR => ?_
  simp only [inr_u8, Int.reduceLE, aops, astep, awant, aeff, aop, abin, aint, ev, ofValue, St.put, zg1, zg0, zgd, zmo, if_true, zs1, zs0, and_self, b2]
  with_reducible refine hR _ ?_
  clear hR R
  show X _ _ _ _
  refine X_ite (by simp only [ev, zg1, zg0, zgd]; exact rfl) ?_ ?_
  ·intro b3
   have c3 := b3
   try simp only [beq_iff_eq] at c3
   refine X_skip ?_
   show X _ _ _ _
   refine X_true (by simp only [ev, zg1, zg0, zgd, b3]) ?_
   refine X_seq ?_
   refine X_rg fun R hR => ?_
   simp only [aops, astep, awant, aeff, aop, ev, ofValue, St.put, zgd, zmo, if_true, zs1, zs0, b3]
   with_reducible refine hR _ ?_
   clear hR R
   show X _ _ _ _
   refine X_ret ?_
   show resD _ _ _ = some _
   simp only [resD, resAll, resOne, resTup, Tryz.results36, EVP, zg1, zg0, D.good, if_true, zmo]
   first | (rw [tapesB_eq]; simp [tkB, b2, b3]; done) | (rw [tapesB_eq]; simp_all [tkB]; done) | (exfalso; simp_all; done)
  ·intro b4
   have c4 := b4
   try simp only [ne_eq, beq_eq_false_iff_ne] at c4
   refine X_seq ?_
   refine X_rg fun R hR => ?_
   simp only [inr_u8, Int.reduceLE, aops, astep, awant, aeff, aop, abin, aint, ev, ofValue, St.put, zg1, zg0, zgd, zmo, if_true, zs1, zs0, and_self, b4]
   with_reducible refine hR _ ?_
   clear hR R
   show X _ _ _ _
   refine X_ite (by simp only [ev, zg1, zg0, zgd]; exact rfl) ?_ ?_
   ·intro b5
    have c5 := b5
    try simp only [beq_iff_eq] at c5
    refine X_skip ?_
    show X _ _ _ _
    refine X_true (by simp only [ev, zg1, zg0, zgd, b5]) ?_
    refine X_seq ?_
    refine X_rg fun R hR => ?_
    simp only [aops, astep, awant, aeff, aop, ev, ofValue, St.put, zgd, zmo, if_true, zs1, zs0, b5]
    with_reducible refine hR _ ?_
    clear hR R
    show X _ _ _ _
    refine X_ret ?_
    show resD _ _ _ = some _
    simp only [resD, resAll, resOne, resTup, Tryz.results36, EVP, zg1, zg0, D.good, if_true, zmo]
    first | (rw [tapesB_eq]; simp [tkB, b2, b4, b5]; done) | (rw [tapesB_eq]; simp_all [tkB]; done) | (exfalso; simp_all; done)
   ·intro b6
    have c6 := b6
    try simp only [ne_eq, beq_eq_false_iff_ne] at c6
    refine X_seq ?_
    refine X_rg fun R hR => ?_
    simp only [inr_u8, Int.reduceLE, aops, astep, awant, aeff, aop, abin, aint, ev, ofValue, St.put, zg1, zg0, zgd, zmo, if_true, zs1, zs0, and_self, b6]
    with_reducible refine hR _ ?_
    clear hR R
    show X _ _ _ _
    refine X_ite (by simp only [ev, zg1, zg0, zgd]; exact rfl) ?_ ?_
    ·intro b7
     have c7 := b7
     try simp only [beq_iff_eq] at c7
     refine X_skip ?_
     show X _ _ _ _
     refine X_true (by simp only [ev, zg1, zg0, zgd, b7]) ?_
     refine X_seq ?_
     refine X_rg fun R hR => ?_
     simp only [aops, astep, awant, aeff, aop, ev, ofValue, St.put, zgd, zmo, if_true, zs1, zs0, b7]
     with_reducible refine hR _ ?_
     clear hR R
     show X _ _ _ _
     refine X_ret ?_
     show resD _ _ _ = some _
     simp only [resD, resAll, resOne, resTup, Tryz.results36, EVP, zg1, zg0, D.good, if_true, zmo]
     first | (rw [tapesB_eq]; simp [tkB, b2, b4, b6, b7]; done) | (rw [tapesB_eq]; simp_all [tkB]; done) | (exfalso; simp_all; done)
    ·intro b8
     have c8 := b8
     try simp only [ne_eq, beq_eq_false_iff_ne] at c8
     refine X_seq ?_
     refine X_rg fun R hR => ?_
     simp only [inr_u8, Int.reduceLE, aops, astep, awant, aeff, aop, abin, aint, ev, ofValue, St.put, zg1, zg0, zgd, zmo, if_true, zs1, zs0, and_self, b8]
     with_reducible refine hR _ ?_
     clear hR R
     show X _ _ _ _
     refine X_ite (by simp only [ev, zg1, zg0, zgd]; exact rfl) ?_ ?_
     ·intro b9
      have c9 := b9
      try simp only [beq_iff_eq] at c9
      refine X_skip ?_
      show X _ _ _ _
      refine X_true (by simp only [ev, zg1, zg0, zgd, b9]) ?_
      refine X_seq ?_
      refine X_rg fun R hR => ?_
      simp only [aops, astep, awant, aeff, aop, ev, ofValue, St.put, zgd, zmo, if_true, zs1, zs0, b9]
      with_reducible refine hR _ ?_
      clear hR R
      show X _ _ _ _
      refine X_ret ?_
      show resD _ _ _ = some _
      simp only [resD, resAll, resOne, resTup, Tryz.results36, EVP, zg1, zg0, D.good, if_true, zmo]
      first | (rw [tapesB_eq]; simp [tkB, b2, b4, b6, b8, b9]; done) | (rw [tapesB_eq]; simp_all [tkB]; done) | (exfalso; simp_all; done)
     ·intro b10
      have c10 := b10
      try simp only [ne_eq, beq_eq_false_iff_ne] at c10
      refine X_rg fun R hR => ?_
      simp only [inr_u8, Int.reduceLE, aops, astep, awant, aeff, aop, abin, aint, ev, ofValue, St.put, zg1, zg0, zgd, zmo, if_true, zs1, zs0, and_self, b10]
      with_reducible refine hR _ ?_
      clear hR R
      show X _ _ _ _
      refine X_ite (by simp only [ev, zg1, zg0, zgd]; exact rfl) ?_ ?_
      ·intro b11
       have c11 := b11
       try simp only [beq_iff_eq] at c11
       refine X_seq ?_
       refine X_rg fun R hR => ?_
       simp only [aops, astep, awant, aeff, aop, ev, ofValue, St.put, zgd, zmo, if_true, zs1, zs0, b11]
       with_reducible refine hR _ ?_
       clear hR R
       show X _ _ _ _
       refine X_ret ?_
       show resD _ _ _ = some _
       simp only [resD, resAll, resOne, resTup, Tryz.results36, EVP, zg1, zg0, D.good, if_true, zmo]
       first | (rw [tapesB_eq]; simp [tkB, b2, b4, b6, b8, b10, b11]; done) | (rw [tapesB_eq]; simp_all [tkB]; done) | (exfalso; simp_all; done)
      ·intro b12
       have c12 := b12
       try simp only [ne_eq, beq_eq_false_iff_ne] at c12
       refine X_skip ?_
       show X _ _ _ _
       refine X_seq ?_
       refine X_rg fun R hR => ?_
       simp only [EVP, aops, astep, awant, aeff, aop, mkD, ev, St.put, pcall, ia_slice, zmc, zmn, zg1, zg0, zgd, zmo, if_true, zs1, zs0, zlc, zln, zd1, zd0, zt1, zt0, zca, zna, Nat.reduceAdd, Nat.reduceLeDiff, Nat.zero_add, zft, if_false, reduceCtorEq, ty_s_api_Node, ty_api_Node, any54, b12, hC]
       with_reducible refine hR _ ?_
       clear hR R
       show X _ _ _ _
       refine X_ret ?_
       show resD _ _ _ = some _
       simp only [resD, resAll, resOne, resTup, Tryz.results36, EVP, zg1, zg0, D.good, if_true, zmo]
       first | (rw [tapesB_eq]; simp [tkB, b2, b4, b6, b8, b10, b12]; done) | (rw [tapesB_eq]; simp_all [tkB]; done) | (exfalso; simp_all; done)

theorem tapes_fn (t : Tr) : t.size ≤ 1000000 → fn EV 36 [dN t] = some (.bool (tapesB t)) := by
 induction t using Tr.ind with
 | h k n s c ih =>
  intro hs
  refine tapes_step _ ?_
  have h1 := Tr.length_le_sizes c
  simp only [Tr.size] at hs
  have := contN_fn (k := 36) any36 tapesB c (by omega) (fun x hx => ih x hx (by have := Tr.size_le_of_mem hx; omega))
  simp only [sl] at this
  exact this

mutual
/-- what is left of a budget of nodes -/
def szT : Tr → Int → Int
 | .mk _ _ _ c, l => szL c (l - 1)
def szL : List Tr → Int → Int
 | [], l => l
 | t :: r, l => if l < 0 then l else szL r (szT t l)
end
theorem szT_eq (t : Tr) (l : Int) : szT t l = szL t.kids (l - 1) := by cases t; simp only [szT, Tr.kids]
mutual
theorem szT_sp : ∀ (t : Tr) (l : Int), 0 ≤ l → -1 ≤ szT t l ∧ szT t l ≤ l ∧ (0 ≤ szT t l → szT t l = l - t.size) ∧ (t.size ≤ l → szT t l = l - t.size)
 | .mk _ _ _ c, l, h => by
  have := szL_sp c (l - 1) (by omega)
  simp only [szT, Tr.size]
  omega
theorem szL_sp : ∀ (c : List Tr) (l : Int), -1 ≤ l → -1 ≤ szL c l ∧ szL c l ≤ l ∧ (0 ≤ szL c l → szL c l = l - Tr.sizes c) ∧ (Tr.sizes c ≤ l → szL c l = l - Tr.sizes c)
 | [], l, h => by simp [szL, Tr.sizes]; omega
 | t :: r, l, h => by
  unfold szL
  by_cases hl : l < 0
  ·rw [if_pos hl]; simp only [Tr.sizes]; omega
  ·rw [if_neg hl]
   have h1 := szT_sp t l (by omega)
   have h2 := szL_sp r (szT t l) (by omega)
   simp only [Tr.sizes]
   omega
end
theorem szT_lt (t : Tr) (l : Int) (h : 0 ≤ l) : szT t l ≤ l - 1 := by
 have := szL_sp t.kids (l - 1) (by omega)
 rw [szT_eq]
 omega
def fewB (t : Tr) : Bool := decide (t.size ≤ 300)
theorem few_eq (t : Tr) : decide (szT t 300 ≥ 0) = fewB t := by
 have := szT_sp t 300 (by omega)
 unfold fewB
 rw [decide_eq_decide]
 omega
theorem szl_end {c : List Tr} {q : Int} (h : q < 0 ∨ c = []) : szL c q = q := by
 cases c with
 | nil => rfl
 | cons t r => rcases h with h | h <;> simp_all [szL]
set_option maxRecDepth 100000 in
set_option maxHeartbeats 4000000 in
theorem size_step (t : Tr) (l : Int) (hl0 : 0 ≤ l) (hl1 : l ≤ 1000000) (hg : ∀ x ∈ t.kids, ∀ l : Int, 0 ≤ l → l ≤ 1000000 → fn EV 37 [dN x, .int .i64 l] = some (.int .i64 (szT x l))) : fn EV 37 [dN t, .int .i64 l] = some (.int .i64 (szT t l)) := by
 refine fn_X rfl Tryz.func37 rfl (by simp only [plain, List.all_cons, List.all_nil, dN_under, dN_good, D.under, gd_int, Bool.and_true]) (rfl) (rfl) (rfl) ?_
 simp only [zmc, zmn, D.strip, dN_strip]
 simp only [enterSt, Tryz.ntmps37, zlc, zln, Nat.reduceAdd, Nat.reduceSub, zr1, zr0, zca, zna]
 refine X_seq ?_
 refine X_rg fun R hR => ?_
 simp only [inr_i64, Int.reduceLE, Int.reduceNeg, aops, astep, awant, aeff, aop, ev, ofValue, St.put, zg0, zgd, zmo, if_true, zs1, zs0, zln, zna, and_self, dN_cells, dN_good, sl]
 with_reducible refine hR _ ?_
 clear hR R
 show X _ _ _ _
 refine X_seq ?_
 have hw : IntKind.i64.wrap (l - 1) = l - 1 := by simp only [IntKind.wrap, IntKind.bits, IntKind.signed]; simp; omega
 refine X_rg fun R hR => ?_
 simp only [inr_i64, Int.reduceLE, Int.reduceNeg, aops, astep, awant, aeff, aop, abin, aint, ev, ofValue, St.put, zg1, zg0, zgd, zmo, if_true, zs1, zs0, and_self, hw]
 with_reducible refine hR _ ?_
 clear hR R
 show X _ _ _ _
 refine X_seq ?_
 refine X_seq ?_
 refine X_rg fun R hR => ?_
 simp only [inr_i64, Int.reduceLE, Int.reduceNeg, aops, astep, awant, aeff, aop, ev, ofValue, St.put, zgd, zmo, if_true, zs1, zs0, and_self]
 with_reducible refine hR _ ?_
 clear hR R
 show X _ _ _ _
 refine X_block ?_
 refine X_loop (fun m σ => ∃ (i : Nat) (q : Int) (r : List (List D)), σ = ⟨[slotOf σ 0, .int .i64 q, .ptr 0 0, slotOf σ 3, slotOf σ 4, .int .i64 i, slotOf σ 6, slotOf σ 7, slotOf σ 8, slotOf σ 9, slotOf σ 10, slotOf σ 11, slotOf σ 12, slotOf σ 13, slotOf σ 14, slotOf σ 15, slotOf σ 16, slotOf σ 17, slotOf σ 18, slotOf σ 19, slotOf σ 20, slotOf σ 21, slotOf σ 22, slotOf σ 23, slotOf σ 24, slotOf σ 25, slotOf σ 26], [.int .u8 t.kind, .int .i64 t.num, .str t.name, .slice .imm (if (t.kids.map dN).isEmpty = true then 0 else 4) (t.kids.map dN)] :: r, 0, []⟩ ∧ m = t.kids.length - i ∧ i ≤ t.kids.length ∧ -1 ≤ q ∧ q ≤ 1000000 ∧ (i : Int) + q ≤ l - 1 ∧ Hid (szL t.kids (l - 1) = szL (t.kids.drop i) q)) ?_ (t.kids.length) _ ?_
 rotate_left
 ·exact ⟨0, _, [], rfl, rfl, Nat.zero_le _, by omega, by omega, by omega, Lib.hid rfl⟩
 rintro m σ ⟨i, q, r, hσ, rfl, hi, hq1, hq2, hb, hf⟩
 generalize slotOf σ = x at hσ
 subst hσ
 refine X_seq ?_
 refine X_seq ?_
 refine X_y ?_
 refine Y_k 6 fun R hR => ?_
 simp only [EVP, nat_lt, aops, astep, awant, aeff, aop, abin, aint, mkD, ev, St.put, ia_slice, zg1, zg0, zgd, zmo, if_true, zs1, zs0, zlm, zlc, zln, zd1, zd0, zt1, zt0, Nat.reduceAdd, Nat.reduceLeDiff, Nat.zero_add, zft, if_false, reduceCtorEq, ty_s_api_Node, ty_api_Node, und_api_Node]
 with_reducible refine hR _ ?_
 clear hR R
 simp only [zd1, zd0]
 refine Y_if 13 (by simp only [ev, zg1, zg0, zgd]; exact rfl) ?_ ?_
 ·intro b1
  have c1 := b1
  try simp only [decide_eq_true_eq] at c1
  refine Y_end fun R hR => ?_
  simp only [inr_i64, Int.reduceLE, Int.reduceNeg, aops, astep, awant, aeff, aop, abin, aint, ev, ofValue, St.put, zg1, zg0, zgd, zmo, zbs, if_true, zs1, zs0, and_self, beq_self_eq_true, b1]
  with_reducible refine hR _ ?_
  clear hR R
  show X _ _ _ _
  refine X_ite (by simp only [ev, zg1, zg0, zgd]; exact rfl) ?_ ?_
  ·intro b2
   have c2 := b2
   try simp only [decide_eq_true_eq, ge_iff_le] at c2
   refine X_skip ?_
   show X _ _ _ _
   refine X_seq ?_
   refine X_block ?_
   have hlt : i < t.kids.length := by simp_all
   have hq0 : 0 ≤ q := by simp_all
   have hn1 := idx_n (f := dN) (n := 4) hlt
   have e1 : (t.kids.map dN)[i]? = some (dN t.kids[i]) := by simp [hlt]
   have hg1 := hg t.kids[i] (List.getElem_mem hlt) q hq0 hq2
   have hb1 := szT_sp t.kids[i] q hq0
   have hb2 := szT_lt t.kids[i] q hq0
   refine X_rg fun R hR => ?_
   simp only [EVP, nat_lt, nat_0, nat_to, aops, astep, awant, aeff, aop, mkD, ev, St.put, pcall, ia_slice, zmc, zmn, zg1, zg0, zgd, zmo, if_true, zs1, zs0, zlm, zlc, zln, zd1, zd0, zt1, zt0, zca, zna, Nat.reduceAdd, Nat.reduceLeDiff, Nat.zero_add, zft, if_false, and_self, reduceCtorEq, zis, ty_s_api_Node, ty_api_Node, und_api_Node, siz_api_Node, inf_api_Node_eq, any37, dN_cells, dN_isAgg, sl, b2, hlt, hn1, e1, hg1]
   with_reducible refine hR _ ?_
   clear hR R
   show X _ _ _ _
   have hbig : i < 9223372036854775807 := by omega
   refine X_rg fun R hR => ?_
   simp only [inr_i64, Int.reduceLE, Int.reduceNeg, aops, astep, awant, aeff, aop, abin, aint, ev, ofValue, St.put, zg1, zg0, zgd, zmo, if_true, zs1, zs0, and_self, nat_succ hbig]
   with_reducible refine hR _ ?_
   clear hR R
   show ∃ m, m < _ ∧ _
   exact ⟨t.kids.length - (i + 1), by omega, i + 1, _, _, rfl, rfl, by omega, by omega, by omega, by omega, Lib.hid (hf.out.trans (by rw [List.drop_eq_getElem_cons hlt]; simp only [szL]; rw [if_neg (by omega)]))⟩
  ·intro b3
   have c3 := b3
   try simp only [decide_eq_false_iff_not, Int.not_le, ge_iff_le] at c3
   refine X_exit ?_
   show X _ _ _ _
   refine X_seq ?_
   refine X_rg fun R hR => ?_
   simp only [aops, astep, awant, aeff, aop, ev, St.put, zg1, zg0, zgd, zmo, if_true, zs1, zs0, b3]
   with_reducible refine hR _ ?_
   clear hR R
   show X _ _ _ _
   refine X_ret ?_
   show resD _ _ _ = some _
   simp only [resD, resAll, resOne, resTup, Tryz.results37, EVP, zg1, zg0, D.good, if_true, zmo]
   rw [szT_eq, hf.out]
   rw [szl_end (by first | exact .inl (by omega) | exact .inr (List.drop_of_length_le (by omega)))]
 ·intro b4
  have c4 := b4
  try simp only [decide_eq_false_iff_not] at c4
  refine Y_end fun R hR => ?_
  simp only [inr_i64, Int.reduceLE, Int.reduceNeg, aops, astep, awant, aeff, aop, abin, ev, ofValue, St.put, zg1, zg0, zgd, zmo, Option.map_none, zbs, if_true, zs1, zs0, zft, if_false, and_self, bq_ft, b4]
  with_reducible refine hR _ ?_
  clear hR R
  show X _ _ _ _
  refine X_false (by simp only [ev, zg1, zg0, zgd]) ?_
  refine X_exit ?_
  show X _ _ _ _
  refine X_seq ?_
  refine X_rg fun R hR => ?_
  simp only [aops, astep, awant, aeff, aop, ev, St.put, zg1, zg0, zgd, zmo, if_true, zs1, zs0]
  with_reducible refine hR _ ?_
  clear hR R
  show X _ _ _ _
  refine X_ret ?_
  show resD _ _ _ = some _
  simp only [resD, resAll, resOne, resTup, Tryz.results37, EVP, zg1, zg0, D.good, if_true, zmo]
  rw [szT_eq, hf.out]
  rw [szl_end (by first | exact .inl (by omega) | exact .inr (List.drop_of_length_le (by omega)))]

end Go.Proofs.YtkkhjpkkjpcbmaaGreat
