/- Folding: the reference. -/
import Derived.Test.YtlpgapmbajblmaaCf
namespace Go.Proofs.Ytlpgapmbajblmaa
open Go.RowKit


def evN (env : ByteArray → List Int) (k n : Int) (s : ByteArray) (x y : Int) : Int × Int :=
 if k = 1 then (n, 0) else if k = 2 ∨ k = 4 then (if (env s).length = 0 then (0, 6) else (((env s)[(env s).length - 1]?).getD 0, 0)) else if k = 5 then (((env s).length : Int), 0)
 else if k = 3 then (if x < 0 ∨ ((env s).length : Int) ≤ x then (0, 12) else (((env s)[x.toNat]?).getD 0, 0)) else if k = 6 ∨ k = 7 then unD k x else apD k x y
def evC (env : ByteArray → List Int) (k n : Int) (s : ByteArray) (r0 r1 : Int × Int) : Int × Int := if r0.2 ≠ 0 then (0, r0.2) else if r1.2 ≠ 0 then (0, r1.2) else evN env k n s r0.1 r1.1
theorem evC_0 {env : ByteArray → List Int} {k n : Int} {s : ByteArray} {r0 r1 : Int × Int} (h : ¬ r0.2 = 0) : evC env k n s r0 r1 = (0, r0.2) := by unfold evC; rw [if_pos h]
theorem evC_1 {env : ByteArray → List Int} {k n : Int} {s : ByteArray} {r0 r1 : Int × Int} (h0 : r0.2 = 0) (h : ¬ r1.2 = 0) : evC env k n s r0 r1 = (0, r1.2) := by unfold evC; rw [if_neg (by simp [h0]), if_pos h]
theorem evC_2 {env : ByteArray → List Int} {k n : Int} {s : ByteArray} {r0 r1 : Int × Int} (h0 : r0.2 = 0) (h1 : r1.2 = 0) : evC env k n s r0 r1 = evN env k n s r0.1 r1.1 := by unfold evC; rw [if_neg (by simp [h0]), if_neg (by simp [h1])]
mutual
def evalT (env : ByteArray → List Int) : Tr → Int × Int
 | .mk k n s c => evC env k n s (((evalsT env c)[0]?).getD (0, 0)) (((evalsT env c)[1]?).getD (0, 0))
def evalsT (env : ByteArray → List Int) : List Tr → List (Int × Int)
 | [] => []
 | t :: r => evalT env t :: evalsT env r
end
theorem evalsT_map (env : ByteArray → List Int) : ∀ c : List Tr, evalsT env c = c.map (evalT env)
 | [] => rfl
 | t :: r => by simp only [evalsT, zmc, evalsT_map env r]
theorem evalT_eq (env : ByteArray → List Int) (t : Tr) : evalT env t = evC env t.kind t.num t.name (((t.kids.map (evalT env))[0]?).getD (0, 0)) (((t.kids.map (evalT env))[1]?).getD (0, 0)) := by
 cases t; simp only [evalT, evalsT_map, Tr.kind, Tr.num, Tr.name, Tr.kids]
mutual
def closedT : Tr → Bool
 | .mk k _ _ c => !(decide (k = 2) || decide (k = 3) || decide (k = 4) || decide (k = 5)) && closedsT c
def closedsT : List Tr → Bool
 | [] => true
 | t :: r => closedT t && closedsT r
end
theorem closedsT_all : ∀ c : List Tr, closedsT c = c.all closedT
 | [] => rfl
 | t :: r => by simp only [closedsT, List.all_cons, closedsT_all r]
theorem closedT_eq (t : Tr) : closedT t = (!(decide (t.kind = 2) || decide (t.kind = 3) || decide (t.kind = 4) || decide (t.kind = 5)) && t.kids.all closedT) := by
 cases t; simp only [closedT, closedsT_all, Tr.kind, Tr.kids]; rfl
set_option maxRecDepth 100000 in
set_option maxHeartbeats 4000000 in
theorem closed_at (t : Tr) (hs : t.size ≤ 1000000) (ih : ∀ x ∈ t.kids, fn EV 39 [dN x] = some (.bool (closedT x))) : fn EV 39 [dN t] = some (.bool (closedT t)) := by
 have hkl := t.kids_len
 refine fn_X rfl Try.func39 rfl (by simp only [plain, List.all_cons, List.all_nil, dN_under, dN_good, Bool.and_self]) (rfl) (rfl) (rfl) ?_
 simp only [zmc, zmn, dN_strip]
 simp only [enterSt, Try.ntmps39, zlc, zln, Nat.reduceAdd, Nat.reduceSub, zr1, zr0, zca, zna]
 refine X_seq ?_
 refine X_rg fun R hR => ?_
 simp only [aops, astep, awant, aeff, aop, ev, ofValue, St.put, zg0, zgd, zmo, if_true, zs1, zs0, zln, zna, dN_cells, dN_good, sl]
 with_reducible refine hR _ ?_
 clear hR R
 show X _ _ _ _
 refine X_seq ?_
 refine X_seq ?_
 refine X_y ?_
 refine Y_k 4 fun R hR => ?_
 simp only [EVP, inr_u8, Int.reduceLE, aops, astep, awant, aeff, aop, abin, aint, mkD, ev, ofValue, St.put, ia_int, zg1, zg0, zgd, zmo, if_true, zs1, zs0, zlc, zln, zd0, zt1, zt0, Nat.reduceAdd, Nat.reduceLeDiff, Nat.zero_add, Nat.add_zero, zft, if_false, and_self, reduceCtorEq, ty_uint8, ty_api_Node]
 with_reducible refine hR _ ?_
 clear hR R
 simp only [zd1, zd0]
 refine Y_if 7 (by simp only [ev, zg1, zg0, zgd]; exact rfl) ?_ ?_
 ·intro b1
  have c1 := b1
  try simp only [beq_iff_eq] at c1
  refine Y_end fun R hR => ?_
  simp only [EVP, inr_u8, Int.reduceLE, aops, astep, awant, aeff, aop, abin, ev, ofValue, St.put, zg1, zg0, zgd, zmo, Option.map_none, zbs, if_true, zs1, zs0, Nat.add_zero, zft, if_false, and_self, reduceCtorEq, beq_self_eq_true, bq_tf, ty_uint8, ty_api_Node, c1]
  with_reducible refine hR _ ?_
  clear hR R
  show X _ _ _ _
  refine X_true (by simp only [ev, zg1, zg0, zgd]) ?_
  refine X_seq ?_
  refine X_rg fun R hR => ?_
  simp only [aops, astep, awant, aeff, aop, ev, ofValue, St.put, zgd, zmo, if_true, zs1, zs0]
  with_reducible refine hR _ ?_
  clear hR R
  show X _ _ _ _
  refine X_ret ?_
  show resD _ _ _ = some _
  simp only [resD, resAll, resOne, resTup, Try.results39, EVP, zg1, zg0, D.good, if_true, zmo]
  refine congrArg (fun b => some (D.bool b)) ?_
  first | (rw [closedT_eq]; simp [c1]; done) | (rw [closedT_eq, all_false_at (p := closedT) hlt (by simp_all)]; simp; done) | (have hA := hall.out; rw [List.take_of_length_le (by omega)] at hA; rw [closedT_eq, hA]; simp [c1]; done) | (exfalso; simp_all; done)
 ·intro b2
  have c2 := b2
  try simp only [ne_eq, beq_eq_false_iff_ne] at c2
  refine Y_k 5 fun R hR => ?_
  simp only [EVP, inr_u8, Int.reduceLE, aops, astep, awant, aeff, aop, abin, aint, mkD, ev, ofValue, St.put, ia_int, zg1, zg0, zgd, zmo, zbs, if_true, zs1, zs0, zlc, zln, zd0, zt1, zt0, Nat.reduceAdd, Nat.reduceLeDiff, Nat.zero_add, Nat.add_zero, zft, if_false, and_self, reduceCtorEq, beq_self_eq_true, ty_uint8, ty_api_Node, b2]
  with_reducible refine hR _ ?_
  clear hR R
  simp only [zd1, zd0]
  refine Y_if 12 (by simp only [ev, zg1, zg0, zgd]; exact rfl) ?_ ?_
  ·intro b3
   have c3 := b3
   try simp only [beq_iff_eq] at c3
   refine Y_end fun R hR => ?_
   simp only [EVP, inr_u8, Int.reduceLE, aops, astep, awant, aeff, aop, abin, ev, ofValue, St.put, zg1, zg0, zgd, zmo, Option.map_none, zbs, if_true, zs1, zs0, Nat.add_zero, zft, if_false, and_self, reduceCtorEq, beq_self_eq_true, bq_tf, ty_uint8, ty_api_Node, c3]
   with_reducible refine hR _ ?_
   clear hR R
   show X _ _ _ _
   refine X_true (by simp only [ev, zg1, zg0, zgd]) ?_
   refine X_seq ?_
   refine X_rg fun R hR => ?_
   simp only [aops, astep, awant, aeff, aop, ev, ofValue, St.put, zgd, zmo, if_true, zs1, zs0]
   with_reducible refine hR _ ?_
   clear hR R
   show X _ _ _ _
   refine X_ret ?_
   show resD _ _ _ = some _
   simp only [resD, resAll, resOne, resTup, Try.results39, EVP, zg1, zg0, D.good, if_true, zmo]
   refine congrArg (fun b => some (D.bool b)) ?_
   first | (rw [closedT_eq]; simp [c3]; done) | (rw [closedT_eq, all_false_at (p := closedT) hlt (by simp_all)]; simp; done) | (have hA := hall.out; rw [List.take_of_length_le (by omega)] at hA; rw [closedT_eq, hA]; simp [c2, c3]; done) | (exfalso; simp_all; done)
  ·intro b4
   have c4 := b4
   try simp only [ne_eq, beq_eq_false_iff_ne] at c4
   refine Y_k 5 fun R hR => ?_
   simp only [EVP, inr_u8, Int.reduceLE, aops, astep, awant, aeff, aop, abin, aint, mkD, ev, ofValue, St.put, ia_int, zg1, zg0, zgd, zmo, zbs, if_true, zs1, zs0, zlc, zln, zd0, zt1, zt0, Nat.reduceAdd, Nat.reduceLeDiff, Nat.zero_add, Nat.add_zero, zft, if_false, and_self, reduceCtorEq, beq_self_eq_true, ty_uint8, ty_api_Node, b4]
   with_reducible refine hR _ ?_
   clear hR R
   simp only [zd1, zd0]
   refine Y_if 17 (by simp only [ev, zg1, zg0, zgd]; exact rfl) ?_ ?_
   ·intro b5
    have c5 := b5
    try simp only [beq_iff_eq] at c5
    refine Y_end fun R hR => ?_
    simp only [EVP, inr_u8, Int.reduceLE, aops, astep, awant, aeff, aop, abin, ev, ofValue, St.put, zg1, zg0, zgd, zmo, Option.map_none, zbs, if_true, zs1, zs0, Nat.add_zero, zft, if_false, and_self, reduceCtorEq, beq_self_eq_true, bq_tf, ty_uint8, ty_api_Node, c5]
    with_reducible refine hR _ ?_
    clear hR R
    show X _ _ _ _
    refine X_true (by simp only [ev, zg1, zg0, zgd]) ?_
    refine X_seq ?_
    refine X_rg fun R hR => ?_
    simp only [aops, astep, awant, aeff, aop, ev, ofValue, St.put, zgd, zmo, if_true, zs1, zs0]
    with_reducible refine hR _ ?_
    clear hR R
    show X _ _ _ _
    refine X_ret ?_
    show resD _ _ _ = some _
    simp only [resD, resAll, resOne, resTup, Try.results39, EVP, zg1, zg0, D.good, if_true, zmo]
    refine congrArg (fun b => some (D.bool b)) ?_
    first | (rw [closedT_eq]; simp [c5]; done) | (rw [closedT_eq, all_false_at (p := closedT) hlt (by simp_all)]; simp; done) | (have hA := hall.out; rw [List.take_of_length_le (by omega)] at hA; rw [closedT_eq, hA]; simp [c2, c4, c5]; done) | (exfalso; simp_all; done)
   ·intro b6
    have c6 := b6
    try simp only [ne_eq, beq_eq_false_iff_ne] at c6
    refine Y_end fun R hR => ?_
    simp only [EVP, inr_u8, Int.reduceLE, aops, astep, awant, aeff, aop, abin, aint, mkD, ev, ofValue, St.put, ia_int, zg1, zg0, zgd, zmo, zbs, if_true, zs1, zs0, zlc, zln, zd0, zt1, zt0, Nat.reduceAdd, Nat.reduceLeDiff, Nat.zero_add, Nat.add_zero, zft, if_false, and_self, reduceCtorEq, beq_self_eq_true, ty_uint8, ty_api_Node, b6]
    with_reducible refine hR _ ?_
    clear hR R
    show X _ _ _ _
    refine X_ite (by simp only [ev, zg1, zg0, zgd]; exact rfl) ?_ ?_
    ·intro b7
     have c7 := b7
     try simp only [beq_iff_eq] at c7
     refine X_seq ?_
     refine X_rg fun R hR => ?_
     simp only [aops, astep, awant, aeff, aop, ev, ofValue, St.put, zgd, zmo, if_true, zs1, zs0, beq_self_eq_true, c7]
     with_reducible refine hR _ ?_
     clear hR R
     show X _ _ _ _
     refine X_ret ?_
     show resD _ _ _ = some _
     simp only [resD, resAll, resOne, resTup, Try.results39, EVP, zg1, zg0, D.good, if_true, zmo]
     refine congrArg (fun b => some (D.bool b)) ?_
     first | (rw [closedT_eq]; simp [c7]; done) | (rw [closedT_eq, all_false_at (p := closedT) hlt (by simp_all)]; simp; done) | (have hA := hall.out; rw [List.take_of_length_le (by omega)] at hA; rw [closedT_eq, hA]; simp [c2, c4, c6, c7]; done) | (exfalso; simp_all; done)
    ·intro b8
     have c8 := b8
     try simp only [ne_eq, beq_eq_false_iff_ne] at c8
     refine X_skip ?_
     show X _ _ _ _
     refine X_seq ?_
     refine X_seq ?_
     refine X_rg fun R hR => ?_
     simp only [inr_i64, Int.reduceLE, Int.reduceNeg, aops, astep, awant, aeff, aop, ev, ofValue, St.put, zgd, zmo, if_true, zs1, zs0, and_self, b8]
     with_reducible refine hR _ ?_
     clear hR R
     show X _ _ _ _
     refine X_block ?_
     refine X_loop (fun m σ => ∃ (i : Nat), σ = ⟨[slotOf σ 0, .ptr 0 0, slotOf σ 2, .int .i64 i, slotOf σ 4, slotOf σ 5, slotOf σ 6, slotOf σ 7, slotOf σ 8, slotOf σ 9, slotOf σ 10, slotOf σ 11, slotOf σ 12, slotOf σ 13, slotOf σ 14, slotOf σ 15, slotOf σ 16, slotOf σ 17, slotOf σ 18, slotOf σ 19, slotOf σ 20, slotOf σ 21, slotOf σ 22, slotOf σ 23, slotOf σ 24, slotOf σ 25, slotOf σ 26, slotOf σ 27, slotOf σ 28, slotOf σ 29, slotOf σ 30, slotOf σ 31, slotOf σ 32, slotOf σ 33, slotOf σ 34, slotOf σ 35], [[.int .u8 t.kind, .int .i64 t.num, .str t.name, .slice .imm (if (t.kids.map dN).isEmpty = true then 0 else 4) (t.kids.map dN)]], 0, []⟩ ∧ m = t.kids.length - i ∧ i ≤ t.kids.length ∧ Hid ((t.kids.take i).all closedT = true)) ?_ (t.kids.length) _ ?_
     rotate_left
     ·exact ⟨0, rfl, rfl, Nat.zero_le _, Lib.hid rfl⟩
     rintro m σ ⟨i, hσ, rfl, hi, hall⟩
     generalize slotOf σ = x at hσ
     subst hσ
     have hn : i < t.kids.length → ((if (t.kids.map dN).isEmpty = true then 0 else 4) = 4) = True := fun h => eq_true (sl_n (j := i) (by simpa using h))
     refine X_seq ?_
     refine X_seq ?_
     refine X_rg fun R hR => ?_
     simp only [EVP, nat_lt, aops, astep, awant, aeff, aop, abin, aint, mkD, ev, St.put, ia_slice, zg1, zg0, zgd, zmo, if_true, zs1, zs0, zlm, zlc, zln, zd1, zd0, zt1, zt0, Nat.reduceAdd, Nat.reduceLeDiff, Nat.zero_add, zft, if_false, reduceCtorEq, ty_s_api_Node, ty_api_Node, und_api_Node]
     with_reducible refine hR _ ?_
     clear hR R
     show X _ _ _ _
     refine X_ite (by simp only [ev, zg1, zg0, zgd]; exact rfl) ?_ ?_
     ·intro b9
      have c9 := b9
      try simp only [decide_eq_true_eq] at c9
      refine X_skip ?_
      show X _ _ _ _
      refine X_seq ?_
      refine X_block ?_
      refine X_seq ?_
      have hlt : i < t.kids.length := by first | assumption | omega
      have hn1 := hn hlt
      have e1 : (t.kids.map dN)[i]? = some (dN t.kids[i]) := by simp [hlt]
      have hr := ih t.kids[i] (List.getElem_mem hlt)
      refine X_rg fun R hR => ?_
      simp only [EVP, nat_lt, nat_0, nat_to, aops, astep, awant, aeff, aop, mkD, ev, St.put, pcall, ia_slice, zmc, zmn, zg1, zg0, zgd, zmo, if_true, zs1, zs0, zlm, zlc, zln, zd1, zd0, zt1, zt0, zca, zna, Nat.reduceAdd, Nat.reduceLeDiff, Nat.zero_add, zft, if_false, and_self, reduceCtorEq, decide_true, zis, ty_s_api_Node, ty_api_Node, und_api_Node, siz_api_Node, inf_api_Node_eq, any39, dN_cells, dN_isAgg, sl, c9, hn1, e1, hr]
      with_reducible refine hR _ ?_
      clear hR R
      show X _ _ _ _
      refine X_ite (by simp only [ev, zg1, zg0, zgd]; exact rfl) ?_ ?_
      ·intro b10
       have c10 := b10
       try simp only [znt] at c10
       refine X_seq ?_
       refine X_rg fun R hR => ?_
       simp only [aops, astep, awant, aeff, aop, ev, ofValue, St.put, zgd, zmo, if_true, zs1, zs0, Bool.not_false, c10]
       with_reducible refine hR _ ?_
       clear hR R
       show X _ _ _ _
       refine X_ret ?_
       show resD _ _ _ = some _
       simp only [resD, resAll, resOne, resTup, Try.results39, EVP, zg1, zg0, D.good, if_true, zmo]
       refine congrArg (fun b => some (D.bool b)) ?_
       first | (rw [closedT_eq]; simp [c2, c4, c6, c8]; done) | (rw [closedT_eq, all_false_at (p := closedT) hlt (by simp_all)]; simp; done) | (have hA := hall.out; rw [List.take_of_length_le (by omega)] at hA; rw [closedT_eq, hA]; simp [c2, c4, c6, c8, c9, c10]; done) | (exfalso; simp_all; done)
      ·intro b11
       have c11 := b11
       try simp only [znf] at c11
       refine X_skip ?_
       show X _ _ _ _
       have hbig : i < 9223372036854775807 := by omega
       refine X_rg fun R hR => ?_
       simp only [inr_i64, Int.reduceLE, Int.reduceNeg, aops, astep, awant, aeff, aop, abin, aint, ev, ofValue, St.put, zg1, zg0, zgd, zmo, if_true, zs1, zs0, Bool.not_true, and_self, c11, nat_succ hbig]
       with_reducible refine hR _ ?_
       clear hR R
       show ∃ m, m < _ ∧ _
       exact ⟨t.kids.length - (i + 1), by omega, i + 1, rfl, rfl, by omega, Lib.hid (all_take_succ hlt hall.out (by first | assumption | simp_all))⟩
     ·intro b12
      have c12 := b12
      try simp only [decide_eq_false_iff_not] at c12
      refine X_exit ?_
      show X _ _ _ _
      refine X_seq ?_
      refine X_rg fun R hR => ?_
      simp only [aops, astep, awant, aeff, aop, ev, ofValue, St.put, zgd, zmo, if_true, zs1, zs0, decide_false, c12]
      with_reducible refine hR _ ?_
      clear hR R
      show X _ _ _ _
      refine X_ret ?_
      show resD _ _ _ = some _
      simp only [resD, resAll, resOne, resTup, Try.results39, EVP, zg1, zg0, D.good, if_true, zmo]
      refine congrArg (fun b => some (D.bool b)) ?_
      first | (rw [closedT_eq]; simp [c2, c4, c6, c8]; done) | (rw [closedT_eq, all_false_at (p := closedT) hlt (by simp_all)]; simp; done) | (have hA := hall.out; rw [List.take_of_length_le (by omega)] at hA; rw [closedT_eq, hA]; simp [c2, c4, c6, c8]; done) | (exfalso; simp_all; done)
theorem closed_fn (t : Tr) (hs : t.size ≤ 1000000) : fn EV 39 [dN t] = some (.bool (closedT t)) := by
 induction t using Tr.ind with
 | h k n s c ih => exact closed_at _ hs (fun x hx' => ih x hx' (by have := Tr.kid_size hx'; omega))
theorem nat_pre {a : Nat} (h : 0 < a) (h' : a ≤ 9223372036854775807) : IntKind.i64.wrap ((a : Int) - 1) = ((a - 1 : Nat) : Int) := by
 simp only [IntKind.wrap, IntKind.bits, IntKind.signed]; simp; omega
set_option maxRecDepth 100000 in
set_option maxHeartbeats 4000000 in
theorem eval_at (m : D) (env : ByteArray → List Int) (oe : ByteArray → Own) (ne : ByteArray → Nat) (hm : ∀ s bx, alook Try.prog bx 62 m (.str s) false = some (.slice (oe s) (ne s) ((env s).map dI))) (hen : ∀ s, ¬ (env s).length = 0 → ne s = 1) (henl : ∀ s, (env s).length ≤ 9223372036854775807) (hmu : m.under 0 = true) (hmg : m.good = true) (hms : m.strip = m) (t : Tr) (_hs : t.size ≤ 1000000) (ih : ∀ x ∈ t.kids, fn EV 21 [dN x, m] = some (.tup [.int .i64 (evalT env x).1, .int .i64 (evalT env x).2])) : fn EV 21 [dN t, m] = some (.tup [.int .i64 (evalT env t).1, .int .i64 (evalT env t).2]) := by
 have hkl := t.kids_len
 have hpos : (0 : Int) < (t.kids.length : Int) → ∃ a r, t.kids = a :: r := fun h => by cases hk : t.kids with | nil => rw [hk] at h; simp at h | cons a r => exact ⟨a, r, rfl⟩
 have hpos2 : (1 : Int) < (t.kids.length : Int) → ∃ a b r, t.kids = a :: b :: r := fun h => by match hk : t.kids with | [] => rw [hk] at h; simp at h | [_] => rw [hk] at h; simp at h | a :: b :: r => exact ⟨a, b, r, rfl⟩
 have hnil : (t.kids.length : Int) ≤ 0 → t.kids = [] := fun h => List.eq_nil_of_length_eq_zero (by omega)
 have hone : (t.kids.length : Int) ≤ 1 → (t.kids.map (evalT env))[1]? = none := fun h => by rw [List.getElem?_eq_none]; simp; omega
 refine fn_X rfl Try.func21 rfl (by simp only [plain, List.all_cons, List.all_nil, dN_under, dN_good, hmu, hmg, Bool.and_self]) (rfl) (rfl) (rfl) ?_
 simp only [zmc, zmn, dN_strip, hms]
 simp only [enterSt, Try.ntmps21, zlc, zln, Nat.reduceAdd, Nat.reduceSub, zr1, zr0, zca, zna]
 refine X_seq ?_
 refine X_rg fun R hR => ?_
 simp only [inr_i64, Int.reduceLE, Int.reduceNeg, aops, astep, awant, aeff, aop, ev, ofValue, St.put, zg0, zgd, zmo, if_true, zs1, zs0, zln, zna, and_self, dN_cells, dN_good, sl]
 with_reducible refine hR _ ?_
 clear hR R
 show X _ _ _ _
 refine X_seq ?_
 refine X_rg fun R hR => ?_
 simp only [inr_i64, Int.reduceLE, Int.reduceNeg, aops, astep, awant, aeff, aop, ev, ofValue, St.put, zgd, zmo, if_true, zs1, zs0, and_self]
 with_reducible refine hR _ ?_
 clear hR R
 show X _ _ _ _
 refine X_seqJ (fun σ => σ = ⟨[slotOf σ 0, m, .ptr 0 0, slotOf σ 3, .int .i64 0, .int .i64 0, .int .i64 (((t.kids.map (evalT env))[0]?).getD (0, 0)).1, .int .i64 0, slotOf σ 8, slotOf σ 9, slotOf σ 10, slotOf σ 11, slotOf σ 12, slotOf σ 13, slotOf σ 14, slotOf σ 15, slotOf σ 16, slotOf σ 17, slotOf σ 18, slotOf σ 19, slotOf σ 20, slotOf σ 21, slotOf σ 22, slotOf σ 23, slotOf σ 24, slotOf σ 25, slotOf σ 26, slotOf σ 27, slotOf σ 28, slotOf σ 29, slotOf σ 30, slotOf σ 31, slotOf σ 32, slotOf σ 33, slotOf σ 34, slotOf σ 35, slotOf σ 36, slotOf σ 37, slotOf σ 38, slotOf σ 39, slotOf σ 40, slotOf σ 41, slotOf σ 42, slotOf σ 43, slotOf σ 44, slotOf σ 45, slotOf σ 46, slotOf σ 47, slotOf σ 48, slotOf σ 49, slotOf σ 50, slotOf σ 51, slotOf σ 52, slotOf σ 53, slotOf σ 54, slotOf σ 55, slotOf σ 56, slotOf σ 57, slotOf σ 58, slotOf σ 59, slotOf σ 60, slotOf σ 61, slotOf σ 62, slotOf σ 63, slotOf σ 64, slotOf σ 65, slotOf σ 66, slotOf σ 67, slotOf σ 68, slotOf σ 69, slotOf σ 70, slotOf σ 71, slotOf σ 72, slotOf σ 73, slotOf σ 74, slotOf σ 75, slotOf σ 76, slotOf σ 77, slotOf σ 78, slotOf σ 79, slotOf σ 80, slotOf σ 81, slotOf σ 82, slotOf σ 83, slotOf σ 84, slotOf σ 85, slotOf σ 86, slotOf σ 87, slotOf σ 88, slotOf σ 89, slotOf σ 90, slotOf σ 91, slotOf σ 92, slotOf σ 93, slotOf σ 94, slotOf σ 95, slotOf σ 96, slotOf σ 97], [[.int .u8 t.kind, .int .i64 t.num, .str t.name, .slice .imm (if (t.kids.map dN).isEmpty = true then 0 else 4) (t.kids.map dN)]], 0, []⟩ ∧ (((t.kids.map (evalT env))[0]?).getD (0, 0)).2 = 0) ?_ ?_
 ·skip
  refine X_seq ?_
  refine X_rg fun R hR => ?_
  simp only [EVP, inr_i64, Int.reduceLE, Int.reduceNeg, aops, astep, awant, aeff, aop, abin, aint, mkD, ev, ofValue, St.put, ia_slice, zg1, zg0, zgd, zmo, if_true, zs1, zs0, zlm, zlc, zln, zd1, zd0, zt1, zt0, Nat.reduceAdd, Nat.reduceLeDiff, Nat.zero_add, zft, if_false, and_self, reduceCtorEq, ty_s_api_Node, ty_api_Node, und_api_Node]
  with_reducible refine hR _ ?_
  clear hR R
  show X _ _ _ _
  refine X_ite (by simp only [ev, zg1, zg0, zgd]; exact rfl) ?_ ?_
  ·intro b1
   have c1 := b1
   try simp only [decide_eq_true_eq, gt_iff_lt] at c1
   refine X_seq ?_
   obtain ⟨a0, r0, h0⟩ := hpos (by assumption)
   have hn1 : ((if (t.kids.map dN).isEmpty = true then 0 else 4) = 4) = True := eq_true (sl_n (j := 0) (by rw [h0]; simp))
   have e1 : (t.kids.map dN)[0]? = some (dN a0) := by rw [h0]; rfl
   have hl : (0 : Int) < (t.kids.length : Int) := by assumption
   have hr := ih a0 (by rw [h0]; simp)
   refine X_rg fun R hR => ?_
   simp only [EVP, inr_i64, Int.reduceLE, Int.reduceNeg, aops, astep, awant, aeff, aop, mkD, ev, ofValue, St.put, pcall, ia_slice, zmc, zmn, zg1, zg0, zgd, zmo, if_true, zs1, zs0, zlm, zlc, zln, zd1, zd0, zt1, zt0, zca, zna, Nat.reduceAdd, Nat.reduceLeDiff, Nat.zero_add, zft, if_false, and_self, reduceCtorEq, decide_true, zis, ty_s_api_Node, ty_api_Node, und_api_Node, siz_api_Node, inf_api_Node_eq, any21, dN_cells, dN_isAgg, sl, c1, hn1, e1, hr, Int.reduceToNat]
   with_reducible refine hR _ ?_
   clear hR R
   show X _ _ _ _
   refine X_seq ?_
   refine X_rg fun R hR => ?_
   simp only [inr_i64, Int.reduceLE, Int.reduceNeg, aops, astep, awant, aeff, aop, abin, aint, ev, ofValue, St.put, zg1, zg0, zgd, zmo, if_true, zs1, zs0, and_self]
   with_reducible refine hR _ ?_
   clear hR R
   show X _ _ _ _
   refine X_ite (by simp only [ev, zg1, zg0, zgd]; exact rfl) ?_ ?_
   ·intro b2
    have c2 := b2
    try simp only [bne_iff_ne, ne_eq] at c2
    refine X_seq ?_
    refine X_rg fun R hR => ?_
    simp only [inr_i64, Int.reduceLE, Int.reduceNeg, aops, astep, awant, aeff, aop, ev, ofValue, St.put, zg1, zg0, zgd, zmo, if_true, zs1, zs0, and_self, b2]
    with_reducible refine hR _ ?_
    clear hR R
    show X _ _ _ _
    refine X_ret ?_
    show resD _ _ _ = some _
    simp only [resD, resAll, resOne, resTup, Try.results21, EVP, zg1, zg0, D.good, if_true, zmo]
    rw [evalT_eq env t]
    first | (have hR : (((t.kids.map (evalT env))[0]?).getD (0, 0)) = evalT env a0 := by (rw [h0]; rfl)); (rw [hR, evC_0 c2]; done) | (have hR : (((t.kids.map (evalT env))[1]?).getD (0, 0)) = evalT env a1 := by (rw [h1]; rfl)); (rw [hR] at *; rw [evC_1 hr0 c2]; done) | (rw [evC_2 hr0 hr1]; simp [evN, c1, c2]; done) | (rw [evC_2 hr0 hr1]; unfold evN; rw [if_neg (by omega), if_pos (by omega), if_pos (by omega)]; done) | (rw [evC_2 hr0 hr1]; unfold evN; rw [if_neg (by omega), if_pos (by omega), if_neg (by omega)]; try rfl; done) | (rw [evC_2 hr0 hr1]; unfold evN; rw [if_neg (by omega), if_neg (by omega), if_neg (by omega), if_pos (by omega), if_pos (by omega)]; done) | (rw [evC_2 hr0 hr1]; unfold evN; rw [if_neg (by omega), if_neg (by omega), if_neg (by omega), if_pos (by omega), if_neg (by omega)]; try rfl; done) | (rw [evC_2 hr0 hr1]; unfold evN; rw [if_neg (by omega), if_neg (by omega), if_neg (by omega), if_neg (by omega), if_pos (by omega)]; done) | (rw [evC_2 hr0 hr1]; unfold evN; rw [if_neg (by omega), if_neg (by omega), if_neg (by omega), if_neg (by omega), if_neg (by omega)]; done) | (exfalso; simp_all; done)
   ·intro b3
    have c3 := b3
    try simp only [bne_eq_false_iff_eq] at c3
    refine X_skip ?_
    refine ⟨?_, ?_⟩
    ·first | (simp only [h0, zmc, zg0, zgd]; rfl; done) | (rw [hnil (by assumption)]; rfl; done) | (exfalso; simp_all; done)
    ·first | (simp only [h0, zmc, zg0, zgd]; assumption; done) | (rw [hnil (by assumption)]; rfl; done) | (exfalso; simp_all; done)
  ·intro b4
   have c4 := b4
   try simp only [decide_eq_false_iff_not, Int.not_lt, gt_iff_lt] at c4
   refine X_skip ?_
   refine ⟨?_, ?_⟩
   ·first | (simp only [h0, zmc, zg0, zgd]; rfl; done) | (rw [hnil (by assumption)]; rfl; done) | (exfalso; simp_all; done)
   ·first | (simp only [h0, zmc, zg0, zgd]; assumption; done) | (rw [hnil (by assumption)]; rfl; done) | (exfalso; simp_all; done)
 ·skip
  rintro σ ⟨hσ, hr0⟩
  generalize slotOf σ = x at hσ
  subst hσ
  refine X_seqJ (fun σ => σ = ⟨[slotOf σ 0, m, .ptr 0 0, slotOf σ 3, .int .i64 0, .int .i64 0, .int .i64 (((t.kids.map (evalT env))[0]?).getD (0, 0)).1, .int .i64 (((t.kids.map (evalT env))[1]?).getD (0, 0)).1, slotOf σ 8, slotOf σ 9, slotOf σ 10, slotOf σ 11, slotOf σ 12, slotOf σ 13, slotOf σ 14, slotOf σ 15, slotOf σ 16, slotOf σ 17, slotOf σ 18, slotOf σ 19, slotOf σ 20, slotOf σ 21, slotOf σ 22, slotOf σ 23, slotOf σ 24, slotOf σ 25, slotOf σ 26, slotOf σ 27, slotOf σ 28, slotOf σ 29, slotOf σ 30, slotOf σ 31, slotOf σ 32, slotOf σ 33, slotOf σ 34, slotOf σ 35, slotOf σ 36, slotOf σ 37, slotOf σ 38, slotOf σ 39, slotOf σ 40, slotOf σ 41, slotOf σ 42, slotOf σ 43, slotOf σ 44, slotOf σ 45, slotOf σ 46, slotOf σ 47, slotOf σ 48, slotOf σ 49, slotOf σ 50, slotOf σ 51, slotOf σ 52, slotOf σ 53, slotOf σ 54, slotOf σ 55, slotOf σ 56, slotOf σ 57, slotOf σ 58, slotOf σ 59, slotOf σ 60, slotOf σ 61, slotOf σ 62, slotOf σ 63, slotOf σ 64, slotOf σ 65, slotOf σ 66, slotOf σ 67, slotOf σ 68, slotOf σ 69, slotOf σ 70, slotOf σ 71, slotOf σ 72, slotOf σ 73, slotOf σ 74, slotOf σ 75, slotOf σ 76, slotOf σ 77, slotOf σ 78, slotOf σ 79, slotOf σ 80, slotOf σ 81, slotOf σ 82, slotOf σ 83, slotOf σ 84, slotOf σ 85, slotOf σ 86, slotOf σ 87, slotOf σ 88, slotOf σ 89, slotOf σ 90, slotOf σ 91, slotOf σ 92, slotOf σ 93, slotOf σ 94, slotOf σ 95, slotOf σ 96, slotOf σ 97], [[.int .u8 t.kind, .int .i64 t.num, .str t.name, .slice .imm (if (t.kids.map dN).isEmpty = true then 0 else 4) (t.kids.map dN)]], 0, []⟩ ∧ (((t.kids.map (evalT env))[0]?).getD (0, 0)).2 = 0 ∧ (((t.kids.map (evalT env))[1]?).getD (0, 0)).2 = 0) ?_ ?_
  ·skip
   refine X_seq ?_
   refine X_rg fun R hR => ?_
   simp only [EVP, inr_i64, Int.reduceLE, Int.reduceNeg, aops, astep, awant, aeff, aop, abin, aint, mkD, ev, ofValue, St.put, ia_slice, zg1, zg0, zgd, zmo, if_true, zs1, zs0, zlm, zlc, zln, zd1, zd0, zt1, zt0, Nat.reduceAdd, Nat.reduceLeDiff, Nat.zero_add, zft, if_false, and_self, reduceCtorEq, ty_s_api_Node, ty_api_Node, und_api_Node]
   with_reducible refine hR _ ?_
   clear hR R
   show X _ _ _ _
   refine X_ite (by simp only [ev, zg1, zg0, zgd]; exact rfl) ?_ ?_
   ·intro b5
    have c5 := b5
    try simp only [decide_eq_true_eq, gt_iff_lt] at c5
    refine X_seq ?_
    obtain ⟨a0, a1, r0, h1⟩ := hpos2 (by assumption)
    have hn1 : ((if (t.kids.map dN).isEmpty = true then 0 else 4) = 4) = True := eq_true (sl_n (j := 0) (by rw [h1]; simp))
    have e1 : (t.kids.map dN)[1]? = some (dN a1) := by rw [h1]; rfl
    have hl : (1 : Int) < (t.kids.length : Int) := by assumption
    have hr := ih a1 (by rw [h1]; simp)
    refine X_rg fun R hR => ?_
    simp only [EVP, inr_i64, Int.reduceLE, Int.reduceNeg, aops, astep, awant, aeff, aop, mkD, ev, ofValue, St.put, pcall, ia_slice, zmc, zmn, zg1, zg0, zgd, zmo, if_true, zs1, zs0, zlm, zlc, zln, zd1, zd0, zt1, zt0, zca, zna, Nat.reduceAdd, Nat.reduceLeDiff, Nat.zero_add, zft, if_false, and_self, reduceCtorEq, decide_true, zis, ty_s_api_Node, ty_api_Node, und_api_Node, siz_api_Node, inf_api_Node_eq, any21, dN_cells, dN_isAgg, sl, c5, hn1, e1, hr, Int.reduceToNat]
    with_reducible refine hR _ ?_
    clear hR R
    show X _ _ _ _
    refine X_seq ?_
    refine X_rg fun R hR => ?_
    simp only [inr_i64, Int.reduceLE, Int.reduceNeg, aops, astep, awant, aeff, aop, abin, aint, ev, ofValue, St.put, zg1, zg0, zgd, zmo, if_true, zs1, zs0, and_self]
    with_reducible refine hR _ ?_
    clear hR R
    show X _ _ _ _
    refine X_ite (by simp only [ev, zg1, zg0, zgd]; exact rfl) ?_ ?_
    ·intro b6
     have c6 := b6
     try simp only [bne_iff_ne, ne_eq] at c6
     refine X_seq ?_
     refine X_rg fun R hR => ?_
     simp only [inr_i64, Int.reduceLE, Int.reduceNeg, aops, astep, awant, aeff, aop, ev, ofValue, St.put, zg1, zg0, zgd, zmo, if_true, zs1, zs0, and_self, b6]
     with_reducible refine hR _ ?_
     clear hR R
     show X _ _ _ _
     refine X_ret ?_
     show resD _ _ _ = some _
     simp only [resD, resAll, resOne, resTup, Try.results21, EVP, zg1, zg0, D.good, if_true, zmo]
     rw [evalT_eq env t]
     first | (have hR : (((t.kids.map (evalT env))[0]?).getD (0, 0)) = evalT env a0 := by (rw [h0]; rfl)); (rw [hR, evC_0 c6]; done) | (have hR : (((t.kids.map (evalT env))[1]?).getD (0, 0)) = evalT env a1 := by (rw [h1]; rfl)); (rw [hR] at *; rw [evC_1 hr0 c6]; done) | (rw [evC_2 hr0 hr1]; simp [evN, c5, c6]; done) | (rw [evC_2 hr0 hr1]; unfold evN; rw [if_neg (by omega), if_pos (by omega), if_pos (by omega)]; done) | (rw [evC_2 hr0 hr1]; unfold evN; rw [if_neg (by omega), if_pos (by omega), if_neg (by omega)]; try rfl; done) | (rw [evC_2 hr0 hr1]; unfold evN; rw [if_neg (by omega), if_neg (by omega), if_neg (by omega), if_pos (by omega), if_pos (by omega)]; done) | (rw [evC_2 hr0 hr1]; unfold evN; rw [if_neg (by omega), if_neg (by omega), if_neg (by omega), if_pos (by omega), if_neg (by omega)]; try rfl; done) | (rw [evC_2 hr0 hr1]; unfold evN; rw [if_neg (by omega), if_neg (by omega), if_neg (by omega), if_neg (by omega), if_pos (by omega)]; done) | (rw [evC_2 hr0 hr1]; unfold evN; rw [if_neg (by omega), if_neg (by omega), if_neg (by omega), if_neg (by omega), if_neg (by omega)]; done) | (exfalso; simp_all; done)
    ·intro b7
     have c7 := b7
     try simp only [bne_eq_false_iff_eq] at c7
     refine X_skip ?_
     refine ⟨?_, hr0, ?_⟩
     ·first | (simp only [h1, zmc, zg1, zg0, zgd]; rfl; done) | (rw [hone (by assumption)]; rfl; done) | (exfalso; simp_all; done)
     ·first | (simp only [h1, zmc, zg1, zg0, zgd]; assumption; done) | (rw [hone (by assumption)]; rfl; done) | (exfalso; simp_all; done)
   ·intro b8
    have c8 := b8
    try simp only [decide_eq_false_iff_not, Int.not_lt, gt_iff_lt] at c8
    refine X_skip ?_
    refine ⟨?_, hr0, ?_⟩
    ·first | (simp only [h1, zmc, zg1, zg0, zgd]; rfl; done) | (rw [hone (by assumption)]; rfl; done) | (exfalso; simp_all; done)
    ·first | (simp only [h1, zmc, zg1, zg0, zgd]; assumption; done) | (rw [hone (by assumption)]; rfl; done) | (exfalso; simp_all; done)
  ·skip
   rintro σ ⟨hσ, hr0, hr1⟩
   generalize slotOf σ = x at hσ
   subst hσ
   refine X_seq ?_
   refine X_rg fun R hR => ?_
   simp only [EVP, aops, astep, awant, aeff, aop, mkD, ev, St.put, ia_str, zg1, zg0, zgd, zmo, if_true, zs1, zs0, zlc, zln, zd1, zd0, zt1, zt0, Nat.reduceAdd, Nat.reduceLeDiff, Nat.zero_add, zft, if_false, reduceCtorEq, ty_string, ty_api_Node, hm]
   with_reducible refine hR _ ?_
   clear hR R
   show X _ _ _ _
   refine X_seq ?_
   refine X_seq ?_
   refine X_rg fun R hR => ?_
   simp only [EVP, aops, astep, awant, aeff, aop, mkD, ev, St.put, ia_int, zg1, zg0, zgd, zmo, if_true, zs1, zs0, zlc, zln, zd0, zt1, zt0, Nat.reduceAdd, Nat.reduceLeDiff, Nat.zero_add, Nat.add_zero, zft, if_false, reduceCtorEq, ty_uint8, ty_api_Node]
   with_reducible refine hR _ ?_
   clear hR R
   show X _ _ _ _
   refine X_block ?_
   refine X_seq ?_
   refine X_rg fun R hR => ?_
   simp only [inr_u8, Int.reduceLE, aops, astep, awant, aeff, aop, abin, aint, ev, ofValue, St.put, zg1, zg0, zgd, zmo, if_true, zs1, zs0, and_self]
   with_reducible refine hR _ ?_
   clear hR R
   show X _ _ _ _
   refine X_ite (by simp only [ev, zg1, zg0, zgd]; exact rfl) ?_ ?_
   ·intro b9
    have c9 := b9
    try simp only [beq_iff_eq] at c9
    refine X_seq ?_
    refine X_rg fun R hR => ?_
    simp only [EVP, inr_i64, Int.reduceLE, Int.reduceNeg, aops, astep, awant, aeff, aop, mkD, ev, ofValue, St.put, ia_int, zg1, zg0, zgd, zmo, if_true, zs1, zs0, zlc, zln, zd1, zd0, zt1, zt0, Nat.reduceAdd, Nat.reduceLeDiff, Nat.zero_add, zft, if_false, and_self, reduceCtorEq, beq_self_eq_true, ty_int, ty_api_Node, c9]
    with_reducible refine hR _ ?_
    clear hR R
    show X _ _ _ _
    refine X_ret ?_
    show resD _ _ _ = some _
    simp only [resD, resAll, resOne, resTup, Try.results21, EVP, zg1, zg0, D.good, if_true, zmo]
    rw [evalT_eq env t]
    first | (have hR : (((t.kids.map (evalT env))[0]?).getD (0, 0)) = evalT env a0 := by (rw [h0]; rfl)); (rw [hR, evC_0 c9]; done) | (have hR : (((t.kids.map (evalT env))[1]?).getD (0, 0)) = evalT env a1 := by (rw [h1]; rfl)); (rw [hR] at *; rw [evC_1 hr0 c9]; done) | (rw [evC_2 hr0 hr1]; simp [evN, c9]; done) | (rw [evC_2 hr0 hr1]; unfold evN; rw [if_neg (by omega), if_pos (by omega), if_pos (by omega)]; done) | (rw [evC_2 hr0 hr1]; unfold evN; rw [if_neg (by omega), if_pos (by omega), if_neg (by omega)]; try rfl; done) | (rw [evC_2 hr0 hr1]; unfold evN; rw [if_neg (by omega), if_neg (by omega), if_neg (by omega), if_pos (by omega), if_pos (by omega)]; done) | (rw [evC_2 hr0 hr1]; unfold evN; rw [if_neg (by omega), if_neg (by omega), if_neg (by omega), if_pos (by omega), if_neg (by omega)]; try rfl; done) | (rw [evC_2 hr0 hr1]; unfold evN; rw [if_neg (by omega), if_neg (by omega), if_neg (by omega), if_neg (by omega), if_pos (by omega)]; done) | (rw [evC_2 hr0 hr1]; unfold evN; rw [if_neg (by omega), if_neg (by omega), if_neg (by omega), if_neg (by omega), if_neg (by omega)]; done) | (exfalso; simp_all; done)
   ·intro b10
    have c10 := b10
    try simp only [ne_eq, beq_eq_false_iff_ne] at c10
    refine X_seq ?_
    refine X_seq ?_
    refine X_rg fun R hR => ?_
    simp only [inr_u8, Int.reduceLE, aops, astep, awant, aeff, aop, abin, aint, ev, ofValue, St.put, zg1, zg0, zgd, zmo, if_true, zs1, zs0, and_self, b10]
    with_reducible refine hR _ ?_
    clear hR R
    show X _ _ _ _
    refine X_ite (by simp only [ev, zg1, zg0, zgd]; exact rfl) ?_ ?_
    ·intro b11
     have c11 := b11
     try simp only [beq_iff_eq] at c11
     refine X_skip ?_
     show X _ _ _ _
     refine X_true (by simp only [ev, zg1, zg0, zgd, beq_self_eq_true, c11]) ?_
     refine X_seq ?_
     refine X_seq ?_
     refine X_rg fun R hR => ?_
     simp only [EVP, inr_i64, Int.reduceLE, Int.reduceNeg, aops, astep, awant, aeff, aop, abin, aint, ev, ofValue, St.put, zg1, zg0, zgd, zmo, if_true, zs1, zs0, zlm, and_self, beq_self_eq_true, und_int, c11]
     with_reducible refine hR _ ?_
     clear hR R
     show X _ _ _ _
     refine X_ite (by simp only [ev, zg1, zg0, zgd]; exact rfl) ?_ ?_
     ·intro b12
      have c12 := b12
      try simp only [beq_iff_eq] at c12
      refine X_seq ?_
      refine X_rg fun R hR => ?_
      simp only [inr_i64, Int.reduceLE, Int.reduceNeg, aops, astep, awant, aeff, aop, ev, ofValue, St.put, zgd, zmo, if_true, zs1, zs0, and_self, beq_self_eq_true, c12]
      with_reducible refine hR _ ?_
      clear hR R
      show X _ _ _ _
      refine X_ret ?_
      show resD _ _ _ = some _
      simp only [resD, resAll, resOne, resTup, Try.results21, EVP, zg1, zg0, D.good, if_true, zmo]
      rw [evalT_eq env t]
      first | (have hR : (((t.kids.map (evalT env))[0]?).getD (0, 0)) = evalT env a0 := by (rw [h0]; rfl)); (rw [hR, evC_0 c12]; done) | (have hR : (((t.kids.map (evalT env))[1]?).getD (0, 0)) = evalT env a1 := by (rw [h1]; rfl)); (rw [hR] at *; rw [evC_1 hr0 c12]; done) | (rw [evC_2 hr0 hr1]; simp [evN, c11]; done) | (rw [evC_2 hr0 hr1]; unfold evN; rw [if_neg (by omega), if_pos (by omega), if_pos (by omega)]; done) | (rw [evC_2 hr0 hr1]; unfold evN; rw [if_neg (by omega), if_pos (by omega), if_neg (by omega)]; try rfl; done) | (rw [evC_2 hr0 hr1]; unfold evN; rw [if_neg (by omega), if_neg (by omega), if_neg (by omega), if_pos (by omega), if_pos (by omega)]; done) | (rw [evC_2 hr0 hr1]; unfold evN; rw [if_neg (by omega), if_neg (by omega), if_neg (by omega), if_pos (by omega), if_neg (by omega)]; try rfl; done) | (rw [evC_2 hr0 hr1]; unfold evN; rw [if_neg (by omega), if_neg (by omega), if_neg (by omega), if_neg (by omega), if_pos (by omega)]; done) | (rw [evC_2 hr0 hr1]; unfold evN; rw [if_neg (by omega), if_neg (by omega), if_neg (by omega), if_neg (by omega), if_neg (by omega)]; done) | (exfalso; simp_all; done)
     ·intro b13
      have c13 := b13
      try simp only [ne_eq, beq_eq_false_iff_ne] at c13
      refine X_skip ?_
      show X _ _ _ _
      refine X_seq ?_
      have hne : ¬ (env t.name).length = 0 := by omega
      have hn2 := hen t.name hne
      have hw : IntKind.i64.wrap (((env t.name).length : Int) - 1) = (((env t.name).length - 1 : Nat) : Int) := nat_pre (by omega) (henl t.name)
      have hlt2 : ((((env t.name).length - 1 : Nat) : Int) < ((env t.name).length : Int)) = True := eq_true (by omega)
      have e2 : ((env t.name).map dI)[(env t.name).length - 1]? = some (dI (((env t.name)[(env t.name).length - 1]?).getD 0)) := by rw [List.getElem?_map, List.getElem?_eq_getElem (by omega)]; rfl
      refine X_rg fun R hR => ?_
      simp only [EVP, inr_i64, Int.reduceLE, Int.reduceNeg, nat_0, nat_to, aops, astep, awant, aeff, aop, abin, aint, ev, ofValue, St.put, ia_int, cl_int, zg1, zg0, zgd, zmo, if_true, zs1, zs0, zlm, zlc, zln, Nat.zero_add, and_self, zis, ty_int, und_int, siz_int, inf_int_eq, b13, hn2, hw, hlt2, e2, dI, nat_to]
      with_reducible refine hR _ ?_
      clear hR R
      show X _ _ _ _
      refine X_ret ?_
      show resD _ _ _ = some _
      simp only [resD, resAll, resOne, resTup, Try.results21, EVP, zg1, zg0, D.good, if_true, zmo]
      rw [evalT_eq env t]
      first | (have hR : (((t.kids.map (evalT env))[0]?).getD (0, 0)) = evalT env a0 := by (rw [h0]; rfl)); (rw [hR, evC_0 c13]; done) | (have hR : (((t.kids.map (evalT env))[1]?).getD (0, 0)) = evalT env a1 := by (rw [h1]; rfl)); (rw [hR] at *; rw [evC_1 hr0 c13]; done) | (rw [evC_2 hr0 hr1]; simp [evN, c11]; done) | (rw [evC_2 hr0 hr1]; unfold evN; rw [if_neg (by omega), if_pos (by omega), if_pos (by omega)]; done) | (rw [evC_2 hr0 hr1]; unfold evN; rw [if_neg (by omega), if_pos (by omega), if_neg (by omega)]; try rfl; done) | (rw [evC_2 hr0 hr1]; unfold evN; rw [if_neg (by omega), if_neg (by omega), if_neg (by omega), if_pos (by omega), if_pos (by omega)]; done) | (rw [evC_2 hr0 hr1]; unfold evN; rw [if_neg (by omega), if_neg (by omega), if_neg (by omega), if_pos (by omega), if_neg (by omega)]; try rfl; done) | (rw [evC_2 hr0 hr1]; unfold evN; rw [if_neg (by omega), if_neg (by omega), if_neg (by omega), if_neg (by omega), if_pos (by omega)]; done) | (rw [evC_2 hr0 hr1]; unfold evN; rw [if_neg (by omega), if_neg (by omega), if_neg (by omega), if_neg (by omega), if_neg (by omega)]; done) | (exfalso; simp_all; done)
    ·intro b14
     have c14 := b14
     try simp only [ne_eq, beq_eq_false_iff_ne] at c14
     refine X_rg fun R hR => ?_
     simp only [inr_u8, Int.reduceLE, aops, astep, awant, aeff, aop, abin, aint, ev, ofValue, St.put, zg1, zg0, zgd, zmo, if_true, zs1, zs0, and_self, b14]
     with_reducible refine hR _ ?_
     clear hR R
     show X _ _ _ _
     refine X_ite (by simp only [ev, zg1, zg0, zgd]; exact rfl) ?_ ?_
     ·intro b15
      have c15 := b15
      try simp only [beq_iff_eq] at c15
      refine X_seq ?_
      refine X_seq ?_
      refine X_rg fun R hR => ?_
      simp only [EVP, inr_i64, Int.reduceLE, Int.reduceNeg, aops, astep, awant, aeff, aop, abin, aint, ev, ofValue, St.put, zg1, zg0, zgd, zmo, if_true, zs1, zs0, zlm, and_self, beq_self_eq_true, und_int, c15]
      with_reducible refine hR _ ?_
      clear hR R
      show X _ _ _ _
      refine X_ite (by simp only [ev, zg1, zg0, zgd]; exact rfl) ?_ ?_
      ·intro b16
       have c16 := b16
       try simp only [beq_iff_eq] at c16
       refine X_seq ?_
       refine X_rg fun R hR => ?_
       simp only [inr_i64, Int.reduceLE, Int.reduceNeg, aops, astep, awant, aeff, aop, ev, ofValue, St.put, zgd, zmo, if_true, zs1, zs0, and_self, beq_self_eq_true, c16]
       with_reducible refine hR _ ?_
       clear hR R
       show X _ _ _ _
       refine X_ret ?_
       show resD _ _ _ = some _
       simp only [resD, resAll, resOne, resTup, Try.results21, EVP, zg1, zg0, D.good, if_true, zmo]
       rw [evalT_eq env t]
       first | (have hR : (((t.kids.map (evalT env))[0]?).getD (0, 0)) = evalT env a0 := by (rw [h0]; rfl)); (rw [hR, evC_0 c16]; done) | (have hR : (((t.kids.map (evalT env))[1]?).getD (0, 0)) = evalT env a1 := by (rw [h1]; rfl)); (rw [hR] at *; rw [evC_1 hr0 c16]; done) | (rw [evC_2 hr0 hr1]; simp [evN, c15]; done) | (rw [evC_2 hr0 hr1]; unfold evN; rw [if_neg (by omega), if_pos (by omega), if_pos (by omega)]; done) | (rw [evC_2 hr0 hr1]; unfold evN; rw [if_neg (by omega), if_pos (by omega), if_neg (by omega)]; try rfl; done) | (rw [evC_2 hr0 hr1]; unfold evN; rw [if_neg (by omega), if_neg (by omega), if_neg (by omega), if_pos (by omega), if_pos (by omega)]; done) | (rw [evC_2 hr0 hr1]; unfold evN; rw [if_neg (by omega), if_neg (by omega), if_neg (by omega), if_pos (by omega), if_neg (by omega)]; try rfl; done) | (rw [evC_2 hr0 hr1]; unfold evN; rw [if_neg (by omega), if_neg (by omega), if_neg (by omega), if_neg (by omega), if_pos (by omega)]; done) | (rw [evC_2 hr0 hr1]; unfold evN; rw [if_neg (by omega), if_neg (by omega), if_neg (by omega), if_neg (by omega), if_neg (by omega)]; done) | (exfalso; simp_all; done)
      ·intro b17
       have c17 := b17
       try simp only [ne_eq, beq_eq_false_iff_ne] at c17
       refine X_skip ?_
       show X _ _ _ _
       refine X_seq ?_
       have hne : ¬ (env t.name).length = 0 := by omega
       have hn2 := hen t.name hne
       have hw : IntKind.i64.wrap (((env t.name).length : Int) - 1) = (((env t.name).length - 1 : Nat) : Int) := nat_pre (by omega) (henl t.name)
       have hlt2 : ((((env t.name).length - 1 : Nat) : Int) < ((env t.name).length : Int)) = True := eq_true (by omega)
       have e2 : ((env t.name).map dI)[(env t.name).length - 1]? = some (dI (((env t.name)[(env t.name).length - 1]?).getD 0)) := by rw [List.getElem?_map, List.getElem?_eq_getElem (by omega)]; rfl
       refine X_rg fun R hR => ?_
       simp only [EVP, inr_i64, Int.reduceLE, Int.reduceNeg, nat_0, nat_to, aops, astep, awant, aeff, aop, abin, aint, ev, ofValue, St.put, ia_int, cl_int, zg1, zg0, zgd, zmo, if_true, zs1, zs0, zlm, zlc, zln, Nat.zero_add, and_self, zis, ty_int, und_int, siz_int, inf_int_eq, b17, hn2, hw, hlt2, e2, dI, nat_to]
       with_reducible refine hR _ ?_
       clear hR R
       show X _ _ _ _
       refine X_ret ?_
       show resD _ _ _ = some _
       simp only [resD, resAll, resOne, resTup, Try.results21, EVP, zg1, zg0, D.good, if_true, zmo]
       rw [evalT_eq env t]
       first | (have hR : (((t.kids.map (evalT env))[0]?).getD (0, 0)) = evalT env a0 := by (rw [h0]; rfl)); (rw [hR, evC_0 c17]; done) | (have hR : (((t.kids.map (evalT env))[1]?).getD (0, 0)) = evalT env a1 := by (rw [h1]; rfl)); (rw [hR] at *; rw [evC_1 hr0 c17]; done) | (rw [evC_2 hr0 hr1]; simp [evN, c15]; done) | (rw [evC_2 hr0 hr1]; unfold evN; rw [if_neg (by omega), if_pos (by omega), if_pos (by omega)]; done) | (rw [evC_2 hr0 hr1]; unfold evN; rw [if_neg (by omega), if_pos (by omega), if_neg (by omega)]; try rfl; done) | (rw [evC_2 hr0 hr1]; unfold evN; rw [if_neg (by omega), if_neg (by omega), if_neg (by omega), if_pos (by omega), if_pos (by omega)]; done) | (rw [evC_2 hr0 hr1]; unfold evN; rw [if_neg (by omega), if_neg (by omega), if_neg (by omega), if_pos (by omega), if_neg (by omega)]; try rfl; done) | (rw [evC_2 hr0 hr1]; unfold evN; rw [if_neg (by omega), if_neg (by omega), if_neg (by omega), if_neg (by omega), if_pos (by omega)]; done) | (rw [evC_2 hr0 hr1]; unfold evN; rw [if_neg (by omega), if_neg (by omega), if_neg (by omega), if_neg (by omega), if_neg (by omega)]; done) | (exfalso; simp_all; done)
     ·intro b18
      have c18 := b18
      try simp only [ne_eq, beq_eq_false_iff_ne] at c18
      refine X_seq ?_
      refine X_rg fun R hR => ?_
      simp only [inr_u8, Int.reduceLE, aops, astep, awant, aeff, aop, abin, aint, ev, ofValue, St.put, zg1, zg0, zgd, zmo, if_true, zs1, zs0, and_self, b18]
      with_reducible refine hR _ ?_
      clear hR R
      show X _ _ _ _
      refine X_ite (by simp only [ev, zg1, zg0, zgd]; exact rfl) ?_ ?_
      ·intro b19
       have c19 := b19
       try simp only [beq_iff_eq] at c19
       refine X_seq ?_
       refine X_rg fun R hR => ?_
       simp only [EVP, inr_i64, Int.reduceLE, Int.reduceNeg, aops, astep, awant, aeff, aop, ev, ofValue, St.put, zg1, zg0, zgd, zmo, if_true, zs1, zs0, zlm, and_self, beq_self_eq_true, und_int, c19]
       with_reducible refine hR _ ?_
       clear hR R
       show X _ _ _ _
       refine X_ret ?_
       show resD _ _ _ = some _
       simp only [resD, resAll, resOne, resTup, Try.results21, EVP, zg1, zg0, D.good, if_true, zmo]
       rw [evalT_eq env t]
       first | (have hR : (((t.kids.map (evalT env))[0]?).getD (0, 0)) = evalT env a0 := by (rw [h0]; rfl)); (rw [hR, evC_0 c19]; done) | (have hR : (((t.kids.map (evalT env))[1]?).getD (0, 0)) = evalT env a1 := by (rw [h1]; rfl)); (rw [hR] at *; rw [evC_1 hr0 c19]; done) | (rw [evC_2 hr0 hr1]; simp [evN, c19]; done) | (rw [evC_2 hr0 hr1]; unfold evN; rw [if_neg (by omega), if_pos (by omega), if_pos (by omega)]; done) | (rw [evC_2 hr0 hr1]; unfold evN; rw [if_neg (by omega), if_pos (by omega), if_neg (by omega)]; try rfl; done) | (rw [evC_2 hr0 hr1]; unfold evN; rw [if_neg (by omega), if_neg (by omega), if_neg (by omega), if_pos (by omega), if_pos (by omega)]; done) | (rw [evC_2 hr0 hr1]; unfold evN; rw [if_neg (by omega), if_neg (by omega), if_neg (by omega), if_pos (by omega), if_neg (by omega)]; try rfl; done) | (rw [evC_2 hr0 hr1]; unfold evN; rw [if_neg (by omega), if_neg (by omega), if_neg (by omega), if_neg (by omega), if_pos (by omega)]; done) | (rw [evC_2 hr0 hr1]; unfold evN; rw [if_neg (by omega), if_neg (by omega), if_neg (by omega), if_neg (by omega), if_neg (by omega)]; done) | (exfalso; simp_all; done)
      ·intro b20
       have c20 := b20
       try simp only [ne_eq, beq_eq_false_iff_ne] at c20
       refine X_seq ?_
       refine X_rg fun R hR => ?_
       simp only [inr_u8, Int.reduceLE, aops, astep, awant, aeff, aop, abin, aint, ev, ofValue, St.put, zg1, zg0, zgd, zmo, if_true, zs1, zs0, and_self, b20]
       with_reducible refine hR _ ?_
       clear hR R
       show X _ _ _ _
       refine X_ite (by simp only [ev, zg1, zg0, zgd]; exact rfl) ?_ ?_
       ·intro b21
        have c21 := b21
        try simp only [beq_iff_eq] at c21
        refine X_seq ?_
        refine X_seq ?_
        refine X_y ?_
        refine Y_k 3 fun R hR => ?_
        simp only [EVP, inr_i64, Int.reduceLE, Int.reduceNeg, aops, astep, awant, aeff, aop, abin, aint, ev, ofValue, St.put, zg1, zg0, zgd, zmo, if_true, zs1, zs0, zt1, zt0, and_self, beq_self_eq_true, c21]
        with_reducible refine hR _ ?_
        clear hR R
        simp only [zd1, zd0]
        refine Y_if 72 (by simp only [ev, zg1, zg0, zgd]; exact rfl) ?_ ?_
        ·intro b22
         have c22 := b22
         try simp only [decide_eq_true_eq] at c22
         refine Y_end fun R hR => ?_
         simp only [EVP, aops, astep, awant, aeff, aop, abin, ev, ofValue, St.put, zg1, zg0, zgd, zmo, Option.map_none, zbs, if_true, zs1, zs0, zft, if_false, decide_true, bq_tf, und_int, c22]
         with_reducible refine hR _ ?_
         clear hR R
         show X _ _ _ _
         refine X_true (by simp only [ev, zg1, zg0, zgd]) ?_
         refine X_seq ?_
         refine X_rg fun R hR => ?_
         simp only [inr_i64, Int.reduceLE, Int.reduceNeg, aops, astep, awant, aeff, aop, ev, ofValue, St.put, zgd, zmo, if_true, zs1, zs0, and_self]
         with_reducible refine hR _ ?_
         clear hR R
         show X _ _ _ _
         refine X_ret ?_
         show resD _ _ _ = some _
         simp only [resD, resAll, resOne, resTup, Try.results21, EVP, zg1, zg0, D.good, if_true, zmo]
         rw [evalT_eq env t]
         first | (have hR : (((t.kids.map (evalT env))[0]?).getD (0, 0)) = evalT env a0 := by (rw [h0]; rfl)); (rw [hR, evC_0 c22]; done) | (have hR : (((t.kids.map (evalT env))[1]?).getD (0, 0)) = evalT env a1 := by (rw [h1]; rfl)); (rw [hR] at *; rw [evC_1 hr0 c22]; done) | (rw [evC_2 hr0 hr1]; simp [evN, c21]; done) | (rw [evC_2 hr0 hr1]; unfold evN; rw [if_neg (by omega), if_pos (by omega), if_pos (by omega)]; done) | (rw [evC_2 hr0 hr1]; unfold evN; rw [if_neg (by omega), if_pos (by omega), if_neg (by omega)]; try rfl; done) | (rw [evC_2 hr0 hr1]; unfold evN; rw [if_neg (by omega), if_neg (by omega), if_neg (by omega), if_pos (by omega), if_pos (by omega)]; done) | (rw [evC_2 hr0 hr1]; unfold evN; rw [if_neg (by omega), if_neg (by omega), if_neg (by omega), if_pos (by omega), if_neg (by omega)]; try rfl; done) | (rw [evC_2 hr0 hr1]; unfold evN; rw [if_neg (by omega), if_neg (by omega), if_neg (by omega), if_neg (by omega), if_pos (by omega)]; done) | (rw [evC_2 hr0 hr1]; unfold evN; rw [if_neg (by omega), if_neg (by omega), if_neg (by omega), if_neg (by omega), if_neg (by omega)]; done) | (exfalso; simp_all; done)
        ·intro b23
         have c23 := b23
         try simp only [decide_eq_false_iff_not, Int.not_lt] at c23
         refine Y_end fun R hR => ?_
         simp only [EVP, aops, astep, awant, aeff, aop, abin, aint, ev, ofValue, St.put, zg1, zg0, zgd, zmo, zbs, if_true, zs1, zs0, zlm, zft, if_false, beq_self_eq_true, und_int, b23]
         with_reducible refine hR _ ?_
         clear hR R
         show X _ _ _ _
         refine X_ite (by simp only [ev, zg1, zg0, zgd]; exact rfl) ?_ ?_
         ·intro b24
          have c24 := b24
          try simp only [decide_eq_true_eq, ge_iff_le] at c24
          refine X_seq ?_
          refine X_rg fun R hR => ?_
          simp only [inr_i64, Int.reduceLE, Int.reduceNeg, aops, astep, awant, aeff, aop, ev, ofValue, St.put, zgd, zmo, if_true, zs1, zs0, and_self, decide_true, c24]
          with_reducible refine hR _ ?_
          clear hR R
          show X _ _ _ _
          refine X_ret ?_
          show resD _ _ _ = some _
          simp only [resD, resAll, resOne, resTup, Try.results21, EVP, zg1, zg0, D.good, if_true, zmo]
          rw [evalT_eq env t]
          first | (have hR : (((t.kids.map (evalT env))[0]?).getD (0, 0)) = evalT env a0 := by (rw [h0]; rfl)); (rw [hR, evC_0 c24]; done) | (have hR : (((t.kids.map (evalT env))[1]?).getD (0, 0)) = evalT env a1 := by (rw [h1]; rfl)); (rw [hR] at *; rw [evC_1 hr0 c24]; done) | (rw [evC_2 hr0 hr1]; simp [evN, c21]; done) | (rw [evC_2 hr0 hr1]; unfold evN; rw [if_neg (by omega), if_pos (by omega), if_pos (by omega)]; done) | (rw [evC_2 hr0 hr1]; unfold evN; rw [if_neg (by omega), if_pos (by omega), if_neg (by omega)]; try rfl; done) | (rw [evC_2 hr0 hr1]; unfold evN; rw [if_neg (by omega), if_neg (by omega), if_neg (by omega), if_pos (by omega), if_pos (by omega)]; done) | (rw [evC_2 hr0 hr1]; unfold evN; rw [if_neg (by omega), if_neg (by omega), if_neg (by omega), if_pos (by omega), if_neg (by omega)]; try rfl; done) | (rw [evC_2 hr0 hr1]; unfold evN; rw [if_neg (by omega), if_neg (by omega), if_neg (by omega), if_neg (by omega), if_pos (by omega)]; done) | (rw [evC_2 hr0 hr1]; unfold evN; rw [if_neg (by omega), if_neg (by omega), if_neg (by omega), if_neg (by omega), if_neg (by omega)]; done) | (exfalso; simp_all; done)
         ·intro b25
          have c25 := b25
          try simp only [decide_eq_false_iff_not, Int.not_le, ge_iff_le] at c25
          refine X_skip ?_
          show X _ _ _ _
          refine X_seq ?_
          have hx0 : (0 : Int) ≤ (((t.kids.map (evalT env))[0]?).getD (0, 0)).1 := by first | assumption | omega
          have hx1 : (((t.kids.map (evalT env))[0]?).getD (0, 0)).1 < ((env t.name).length : Int) := by first | assumption | omega
          have hn2 := hen t.name (by omega)
          have e2 : ((env t.name).map dI)[(((t.kids.map (evalT env))[0]?).getD (0, 0)).1.toNat]? = some (dI (((env t.name)[(((t.kids.map (evalT env))[0]?).getD (0, 0)).1.toNat]?).getD 0)) := by rw [List.getElem?_map, List.getElem?_eq_getElem (by omega)]; rfl
          refine X_rg fun R hR => ?_
          simp only [EVP, inr_i64, Int.reduceLE, Int.reduceNeg, aops, astep, awant, aeff, aop, ev, ofValue, St.put, ia_int, cl_int, zg1, zg0, zgd, zmo, if_true, zs1, zs0, zlm, zlc, zln, Nat.zero_add, and_self, zis, ty_int, und_int, siz_int, inf_int_eq, c23, b25, c25, hn2, e2, dI]
          with_reducible refine hR _ ?_
          clear hR R
          show X _ _ _ _
          refine X_ret ?_
          show resD _ _ _ = some _
          simp only [resD, resAll, resOne, resTup, Try.results21, EVP, zg1, zg0, D.good, if_true, zmo]
          rw [evalT_eq env t]
          first | (have hR : (((t.kids.map (evalT env))[0]?).getD (0, 0)) = evalT env a0 := by (rw [h0]; rfl)); (rw [hR, evC_0 c25]; done) | (have hR : (((t.kids.map (evalT env))[1]?).getD (0, 0)) = evalT env a1 := by (rw [h1]; rfl)); (rw [hR] at *; rw [evC_1 hr0 c25]; done) | (rw [evC_2 hr0 hr1]; simp [evN, c21]; done) | (rw [evC_2 hr0 hr1]; unfold evN; rw [if_neg (by omega), if_pos (by omega), if_pos (by omega)]; done) | (rw [evC_2 hr0 hr1]; unfold evN; rw [if_neg (by omega), if_pos (by omega), if_neg (by omega)]; try rfl; done) | (rw [evC_2 hr0 hr1]; unfold evN; rw [if_neg (by omega), if_neg (by omega), if_neg (by omega), if_pos (by omega), if_pos (by omega)]; done) | (rw [evC_2 hr0 hr1]; unfold evN; rw [if_neg (by omega), if_neg (by omega), if_neg (by omega), if_pos (by omega), if_neg (by omega)]; try rfl; done) | (rw [evC_2 hr0 hr1]; unfold evN; rw [if_neg (by omega), if_neg (by omega), if_neg (by omega), if_neg (by omega), if_pos (by omega)]; done) | (rw [evC_2 hr0 hr1]; unfold evN; rw [if_neg (by omega), if_neg (by omega), if_neg (by omega), if_neg (by omega), if_neg (by omega)]; done) | (exfalso; simp_all; done)
       ·intro b26
        have c26 := b26
        try simp only [ne_eq, beq_eq_false_iff_ne] at c26
        refine X_seq ?_
        refine X_seq ?_
        refine X_rg fun R hR => ?_
        simp only [inr_u8, Int.reduceLE, aops, astep, awant, aeff, aop, abin, aint, ev, ofValue, St.put, zg1, zg0, zgd, zmo, if_true, zs1, zs0, and_self, b26]
        with_reducible refine hR _ ?_
        clear hR R
        show X _ _ _ _
        refine X_ite (by simp only [ev, zg1, zg0, zgd]; exact rfl) ?_ ?_
        ·intro b27
         have c27 := b27
         try simp only [beq_iff_eq] at c27
         refine X_skip ?_
         show X _ _ _ _
         refine X_true (by simp only [ev, zg1, zg0, zgd, beq_self_eq_true, c27]) ?_
         refine X_seq ?_
         refine X_rg fun R hR => ?_
         simp only [EVP, aops, astep, awant, aeff, aop, mkD, ev, St.put, pcall, ia_int, zmc, zmn, zg1, zg0, zgd, zmo, if_true, zs1, zs0, zlc, zln, zd0, zt1, zt0, zca, zna, Nat.reduceAdd, Nat.reduceLeDiff, Nat.zero_add, Nat.add_zero, zft, if_false, reduceCtorEq, beq_self_eq_true, ty_uint8, ty_api_Node, any43, runary_fn, c27]
         with_reducible refine hR _ ?_
         clear hR R
         show X _ _ _ _
         refine X_ret ?_
         show resD _ _ _ = some _
         simp only [resD, resAll, resOne, resTup, Try.results21, EVP, zg1, zg0, D.good, if_true, zmo]
         rw [evalT_eq env t]
         first | (have hR : (((t.kids.map (evalT env))[0]?).getD (0, 0)) = evalT env a0 := by (rw [h0]; rfl)); (rw [hR, evC_0 c27]; done) | (have hR : (((t.kids.map (evalT env))[1]?).getD (0, 0)) = evalT env a1 := by (rw [h1]; rfl)); (rw [hR] at *; rw [evC_1 hr0 c27]; done) | (rw [evC_2 hr0 hr1]; simp [evN, c27]; done) | (rw [evC_2 hr0 hr1]; unfold evN; rw [if_neg (by omega), if_pos (by omega), if_pos (by omega)]; done) | (rw [evC_2 hr0 hr1]; unfold evN; rw [if_neg (by omega), if_pos (by omega), if_neg (by omega)]; try rfl; done) | (rw [evC_2 hr0 hr1]; unfold evN; rw [if_neg (by omega), if_neg (by omega), if_neg (by omega), if_pos (by omega), if_pos (by omega)]; done) | (rw [evC_2 hr0 hr1]; unfold evN; rw [if_neg (by omega), if_neg (by omega), if_neg (by omega), if_pos (by omega), if_neg (by omega)]; try rfl; done) | (rw [evC_2 hr0 hr1]; unfold evN; rw [if_neg (by omega), if_neg (by omega), if_neg (by omega), if_neg (by omega), if_pos (by omega)]; done) | (rw [evC_2 hr0 hr1]; unfold evN; rw [if_neg (by omega), if_neg (by omega), if_neg (by omega), if_neg (by omega), if_neg (by omega)]; done) | (exfalso; simp_all; done)
        ·intro b28
         have c28 := b28
         try simp only [ne_eq, beq_eq_false_iff_ne] at c28
         refine X_rg fun R hR => ?_
         simp only [inr_u8, Int.reduceLE, aops, astep, awant, aeff, aop, abin, aint, ev, ofValue, St.put, zg1, zg0, zgd, zmo, if_true, zs1, zs0, and_self, b28]
         with_reducible refine hR _ ?_
         clear hR R
         show X _ _ _ _
         refine X_ite (by simp only [ev, zg1, zg0, zgd]; exact rfl) ?_ ?_
         ·intro b29
          have c29 := b29
          try simp only [beq_iff_eq] at c29
          refine X_seq ?_
          refine X_rg fun R hR => ?_
          simp only [EVP, aops, astep, awant, aeff, aop, mkD, ev, St.put, pcall, ia_int, zmc, zmn, zg1, zg0, zgd, zmo, if_true, zs1, zs0, zlc, zln, zd0, zt1, zt0, zca, zna, Nat.reduceAdd, Nat.reduceLeDiff, Nat.zero_add, Nat.add_zero, zft, if_false, reduceCtorEq, beq_self_eq_true, ty_uint8, ty_api_Node, any43, runary_fn, c29]
          with_reducible refine hR _ ?_
          clear hR R
          show X _ _ _ _
          refine X_ret ?_
          show resD _ _ _ = some _
          simp only [resD, resAll, resOne, resTup, Try.results21, EVP, zg1, zg0, D.good, if_true, zmo]
          rw [evalT_eq env t]
          first | (have hR : (((t.kids.map (evalT env))[0]?).getD (0, 0)) = evalT env a0 := by (rw [h0]; rfl)); (rw [hR, evC_0 c29]; done) | (have hR : (((t.kids.map (evalT env))[1]?).getD (0, 0)) = evalT env a1 := by (rw [h1]; rfl)); (rw [hR] at *; rw [evC_1 hr0 c29]; done) | (rw [evC_2 hr0 hr1]; simp [evN, c29]; done) | (rw [evC_2 hr0 hr1]; unfold evN; rw [if_neg (by omega), if_pos (by omega), if_pos (by omega)]; done) | (rw [evC_2 hr0 hr1]; unfold evN; rw [if_neg (by omega), if_pos (by omega), if_neg (by omega)]; try rfl; done) | (rw [evC_2 hr0 hr1]; unfold evN; rw [if_neg (by omega), if_neg (by omega), if_neg (by omega), if_pos (by omega), if_pos (by omega)]; done) | (rw [evC_2 hr0 hr1]; unfold evN; rw [if_neg (by omega), if_neg (by omega), if_neg (by omega), if_pos (by omega), if_neg (by omega)]; try rfl; done) | (rw [evC_2 hr0 hr1]; unfold evN; rw [if_neg (by omega), if_neg (by omega), if_neg (by omega), if_neg (by omega), if_pos (by omega)]; done) | (rw [evC_2 hr0 hr1]; unfold evN; rw [if_neg (by omega), if_neg (by omega), if_neg (by omega), if_neg (by omega), if_neg (by omega)]; done) | (exfalso; simp_all; done)
         ·intro b30
          have c30 := b30
          try simp only [ne_eq, beq_eq_false_iff_ne] at c30
          refine X_skip ?_
          show X _ _ _ _
          refine X_seq ?_
          refine X_rg fun R hR => ?_
          simp only [EVP, aops, astep, awant, aeff, aop, mkD, ev, St.put, pcall, ia_int, zmc, zmn, zg1, zg0, zgd, zmo, if_true, zs1, zs0, zlc, zln, zd0, zt1, zt0, zca, zna, Nat.reduceAdd, Nat.reduceLeDiff, Nat.zero_add, Nat.add_zero, zft, if_false, reduceCtorEq, ty_uint8, ty_api_Node, any44, rapply_fn, b30]
          with_reducible refine hR _ ?_
          clear hR R
          show X _ _ _ _
          refine X_ret ?_
          show resD _ _ _ = some _
          simp only [resD, resAll, resOne, resTup, Try.results21, EVP, zg1, zg0, D.good, if_true, zmo]
          rw [evalT_eq env t]
          first | (have hR : (((t.kids.map (evalT env))[0]?).getD (0, 0)) = evalT env a0 := by (rw [h0]; rfl)); (rw [hR, evC_0 c30]; done) | (have hR : (((t.kids.map (evalT env))[1]?).getD (0, 0)) = evalT env a1 := by (rw [h1]; rfl)); (rw [hR] at *; rw [evC_1 hr0 c30]; done) | (rw [evC_2 hr0 hr1]; simp [evN, c10, c14, c18, c20, c26, c28, c30]; done) | (rw [evC_2 hr0 hr1]; unfold evN; rw [if_neg (by omega), if_pos (by omega), if_pos (by omega)]; done) | (rw [evC_2 hr0 hr1]; unfold evN; rw [if_neg (by omega), if_pos (by omega), if_neg (by omega)]; try rfl; done) | (rw [evC_2 hr0 hr1]; unfold evN; rw [if_neg (by omega), if_neg (by omega), if_neg (by omega), if_pos (by omega), if_pos (by omega)]; done) | (rw [evC_2 hr0 hr1]; unfold evN; rw [if_neg (by omega), if_neg (by omega), if_neg (by omega), if_pos (by omega), if_neg (by omega)]; try rfl; done) | (rw [evC_2 hr0 hr1]; unfold evN; rw [if_neg (by omega), if_neg (by omega), if_neg (by omega), if_neg (by omega), if_pos (by omega)]; done) | (rw [evC_2 hr0 hr1]; unfold evN; rw [if_neg (by omega), if_neg (by omega), if_neg (by omega), if_neg (by omega), if_neg (by omega)]; done) | (exfalso; simp_all; done)

end Go.Proofs.Ytlpgapmbajblmaa
