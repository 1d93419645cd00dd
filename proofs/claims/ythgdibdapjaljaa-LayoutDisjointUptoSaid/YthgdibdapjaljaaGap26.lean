/- What the pruned texts of the claim LayoutCovers lack. -/
import Derived.Test.YthgdibdapjaljaaLa11
import Derived.Test.YthgdibdapjaljaaAmZ
namespace Go.Proofs.Ythgdibdapjaljaa
open Go.RowKit
theorem S_rg {P : Program} {ca : Nat → List D → St → Option (D × St)} (hca : CaOk P ca) {B id : Nat} {ops : List Oper} {σ : St} {Q : Ex → St → Prop} (hok : ops.all opOk = true) (h : ∀ R : Option St → Prop, (∀ σ', Q .normal σ' → R (some σ')) → R (aops P ca ops ops σ)) : S P B (.region id ops.toArray false) σ Q := by
 obtain ⟨σ', h1, h2⟩ := h (fun o => ∃ σ', o = some σ' ∧ Q .normal σ') fun σ' hq => ⟨σ', rfl, hq⟩
 exact S_ca hca hok h1 h2
def smB (l : List Vd) (t : Tr) : Bool := decide (l.length ≤ 40) && (blockB t && decide (t.size ≤ 100))
set_option maxRecDepth 100000 in
set_option maxHeartbeats 4000000 in
theorem small_fn (l : List Vd) (t : Tr) (hs : t.size ≤ 4611686018427387904) : fn EV 18 [sl 3 (l.map dV), dN t] = some (.int .i64 (if smB l t = true then 1 else 0)) := by
 refine fn_X rfl Try.func18 rfl (by simp only [plain, List.all_cons, List.all_nil, sl_pl (f := dV) (fun _ _ => rfl), dN_pl, Bool.and_true]) (rfl) (rfl) (rfl) ?_
 simp only [zmc, zmn, sl_strip (map_strip (f := dV) (fun _ => rfl) _), dN_strip]
 simp only [enterSt, Try.ntmps18, zlc, zln, Nat.reduceAdd, Nat.reduceSub, zr1, zr0, zca, zna]
 refine X_seq ?_
 refine X_rg fun R hR => ?_
 simp only [inr_i64, Int.reduceLE, Int.reduceNeg, aops, astep, awant, aeff, aop, ev, ofValue, St.put, zg1, zg0, zgd, zmo, if_true, zs1, zs0, zln, zna, and_self, dN_cells, dN_good, sl]
 with_reducible refine hR _ ?_
 clear hR R
 show X _ _ _ _
 refine X_seq ?_
 refine X_seq ?_
 have hib := o_ast_IsBlock t
 have hsz := o_ast_Size t hs
 refine X_y ?_
 refine Y_k 4 fun R hR => ?_
 simp only [EVP, inr_i64, Int.reduceLE, Int.reduceNeg, aops, astep, awant, aeff, aop, abin, aint, ev, ofValue, St.put, zg1, zg0, zgd, zmo, if_true, zs1, zs0, zlm, zt1, zt0, and_self, und_api_VarDecl]
 with_reducible refine hR _ ?_
 clear hR R
 simp only [zd1, zd0]
 refine Y_if 8 (by simp only [ev, zg1, zg0, zgd]; exact rfl) ?_ ?_
 ·intro b1
  have c1 := b1
  try simp only [decide_eq_true_eq, gt_iff_lt] at c1
  refine Y_end fun R hR => ?_
  simp only [EVP, inr_i64, Int.reduceLE, Int.reduceNeg, aops, astep, awant, aeff, aop, abin, mkD, ev, ofValue, St.put, pcall, zmc, zmn, zg1, zg0, zgd, zmo, Option.map_none, zbs, if_true, zs1, zs0, zlc, zln, zd0, zt1, zt0, zca, zna, Nat.reduceAdd, Nat.reduceLeDiff, Nat.zero_add, zft, if_false, and_self, bq_tf, ty_api_Node, any16, any22, dN_agg, b1]
  with_reducible refine hR _ ?_
  clear hR R
  show X _ _ _ _
  refine X_true (by simp only [ev, zg1, zg0, zgd]) ?_
  refine X_seq ?_
  refine X_rg fun R hR => ?_
  simp only [inr_i64, Int.reduceLE, Int.reduceNeg, aops, astep, awant, aeff, aop, ev, ofValue, St.put, zgd, zmo, if_true, zs1, zs0, and_self]
  with_reducible refine hR _ ?_
  clear hR R
  show X _ _ _ _
  refine X_ret ?_
  show resD _ _ _ = some _
  simp only [resD, resAll, resOne, resTup, Try.results18, EVP, zg1, zg0, D.good, if_true, zmo] <;> (first | ((have hq : smB l t = false := by (unfold smB; first | (simp_all; done) | (simp_all; intros; omega) | (simp_all; omega) | (simp; omega) | (simp; intros; omega))); rw [hq]; rfl; done) | ((have hq : smB l t = true := by (unfold smB; first | (simp_all; done) | (simp_all; intros; omega) | (simp_all; omega) | (simp; omega) | (simp; intros; omega))); rw [hq]; rfl; done) | (exfalso; simp_all; done))
 ·intro b2
  have c2 := b2
  try simp only [decide_eq_false_iff_not, Int.not_lt, gt_iff_lt] at c2
  refine Y_k 5 fun R hR => ?_
  simp only [EVP, aops, astep, awant, aeff, aop, mkD, ev, ofValue, St.put, pcall, zmc, zmn, zg1, zg0, zgd, zmo, zbs, if_true, zs1, zs0, zlc, zln, zd0, zt1, zt0, zca, zna, Nat.reduceAdd, Nat.reduceLeDiff, Nat.zero_add, zft, if_false, beq_self_eq_true, ty_api_Node, any16, dN_agg, b2, hib]
  with_reducible refine hR _ ?_
  clear hR R
  simp only [zd1, zd0]
  refine Y_if 13 (by simp only [ev, zg1, zg0, zgd]; exact rfl) ?_ ?_
  ·intro b3
   have c3 := b3
   try simp only [znt] at c3
   refine Y_end fun R hR => ?_
   simp only [EVP, inr_i64, Int.reduceLE, Int.reduceNeg, aops, astep, awant, aeff, aop, abin, mkD, ev, ofValue, St.put, pcall, zmc, zmn, zg1, zg0, zgd, zmo, Option.map_none, zbs, if_true, zs1, zs0, zlc, zln, zd0, zt1, zt0, zca, zna, Nat.reduceAdd, Nat.reduceLeDiff, Nat.zero_add, zft, if_false, and_self, bq_tf, ty_api_Node, any22, dN_agg, b3]
   with_reducible refine hR _ ?_
   clear hR R
   show X _ _ _ _
   refine X_true (by simp only [ev, zg1, zg0, zgd]) ?_
   refine X_seq ?_
   refine X_rg fun R hR => ?_
   simp only [inr_i64, Int.reduceLE, Int.reduceNeg, aops, astep, awant, aeff, aop, ev, ofValue, St.put, zgd, zmo, if_true, zs1, zs0, and_self]
   with_reducible refine hR _ ?_
   clear hR R
   show X _ _ _ _
   refine X_ret ?_
   show resD _ _ _ = some _
   simp only [resD, resAll, resOne, resTup, Try.results18, EVP, zg1, zg0, D.good, if_true, zmo] <;> (first | ((have hq : smB l t = false := by (unfold smB; first | (simp_all; done) | (simp_all; intros; omega) | (simp_all; omega) | (simp; omega) | (simp; intros; omega))); rw [hq]; rfl; done) | ((have hq : smB l t = true := by (unfold smB; first | (simp_all; done) | (simp_all; intros; omega) | (simp_all; omega) | (simp; omega) | (simp; intros; omega))); rw [hq]; rfl; done) | (exfalso; simp_all; done))
  ·intro b4
   have c4 := b4
   try simp only [znf] at c4
   refine Y_end fun R hR => ?_
   simp only [EVP, inr_i64, Int.reduceLE, Int.reduceNeg, aops, astep, awant, aeff, aop, abin, aint, mkD, ev, ofValue, St.put, pcall, zmc, zmn, zg1, zg0, zgd, zmo, zbs, if_true, zs1, zs0, zlc, zln, zd0, zt1, zt0, zca, zna, Nat.reduceAdd, Nat.reduceLeDiff, Nat.zero_add, zft, if_false, and_self, beq_self_eq_true, ty_api_Node, any22, dN_agg, b4, hsz]
   with_reducible refine hR _ ?_
   clear hR R
   show X _ _ _ _
   refine X_ite (by simp only [ev, zg1, zg0, zgd]; exact rfl) ?_ ?_
   ·intro b5
    have c5 := b5
    try simp only [decide_eq_true_eq, gt_iff_lt] at c5
    refine X_seq ?_
    refine X_rg fun R hR => ?_
    simp only [inr_i64, Int.reduceLE, Int.reduceNeg, aops, astep, awant, aeff, aop, ev, ofValue, St.put, zgd, zmo, if_true, zs1, zs0, and_self, b5]
    with_reducible refine hR _ ?_
    clear hR R
    show X _ _ _ _
    refine X_ret ?_
    show resD _ _ _ = some _
    simp only [resD, resAll, resOne, resTup, Try.results18, EVP, zg1, zg0, D.good, if_true, zmo] <;> (first | ((have hq : smB l t = false := by (unfold smB; first | (simp_all; done) | (simp_all; intros; omega) | (simp_all; omega) | (simp; omega) | (simp; intros; omega))); rw [hq]; rfl; done) | ((have hq : smB l t = true := by (unfold smB; first | (simp_all; done) | (simp_all; intros; omega) | (simp_all; omega) | (simp; omega) | (simp; intros; omega))); rw [hq]; rfl; done) | (exfalso; simp_all; done))
   ·intro b6
    have c6 := b6
    try simp only [decide_eq_false_iff_not, Int.not_lt, gt_iff_lt] at c6
    refine X_skip ?_
    show X _ _ _ _
    refine X_seq ?_
    refine X_rg fun R hR => ?_
    simp only [inr_i64, Int.reduceLE, Int.reduceNeg, aops, astep, awant, aeff, aop, ev, ofValue, St.put, zgd, zmo, if_true, zs1, zs0, and_self, b6]
    with_reducible refine hR _ ?_
    clear hR R
    show X _ _ _ _
    refine X_ret ?_
    show resD _ _ _ = some _
    simp only [resD, resAll, resOne, resTup, Try.results18, EVP, zg1, zg0, D.good, if_true, zmo] <;> (first | ((have hq : smB l t = false := by (unfold smB; first | (simp_all; done) | (simp_all; intros; omega) | (simp_all; omega) | (simp; omega) | (simp; intros; omega))); rw [hq]; rfl; done) | ((have hq : smB l t = true := by (unfold smB; first | (simp_all; done) | (simp_all; intros; omega) | (simp_all; omega) | (simp; omega) | (simp; intros; omega))); rw [hq]; rfl; done) | (exfalso; simp_all; done))
theorem pcOne_eq (k : Nat) (a : List D) (d : D) : pcOne k a d k a = some d := by unfold pcOne; rw [if_pos ⟨rfl, rfl⟩]
theorem one_eq2 (b : Bool) : (((if b = true then (1 : Int) else 0)) == 0) = !b := by cases b <;> rfl
end Go.Proofs.Ythgdibdapjaljaa
