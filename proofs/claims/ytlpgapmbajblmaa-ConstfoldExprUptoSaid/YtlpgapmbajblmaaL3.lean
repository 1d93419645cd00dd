/- Const: the plain law. -/
import Derived.Test.YtlpgapmbajblmaaCr
namespace Go.Proofs.Ytlpgapmbajblmaa
open Go.RowKit


def nilE (_ : ByteArray) : List Int := []
theorem nil_look (s : ByteArray) (bx : Nat → Option (List D)) : alook Try.prog bx 62 .nmap (.str s) false = some (.slice .nil 0 ((nilE s).map dI)) := by
 have h1 : Try.prog.underlying 62 = some (.map 9 44) := by kernel_rfl
 have h2 : ((Try.prog.info? 44).bind (·.zero)).bind ofValue = some (.slice .nil 0 []) := by kernel_rfl
 simp only [alook, h1, und_string', keyOk, mcont, mfind, h2, if_true, zft, if_false]
 rfl
theorem eval_nil (t : Tr) (hs : t.size ≤ 1000000) : fn EV 21 [dN t, .nmap] = some (.tup [.int .i64 (evalT nilE t).1, .int .i64 (evalT nilE t).2]) := by
 induction t using Tr.ind with
 | h k n s c ih => exact eval_at .nmap nilE (fun _ => .nil) (fun _ => 0) nil_look (fun s h => absurd rfl h) (fun s => by simp [nilE]) rfl rfl rfl _ hs (fun x hx' => ih x hx' (by have := Tr.kid_size hx'; omega))
def rconstT (t : Tr) : Int × Bool := if exprB t && closedT t then ((evalT nilE t).1, (evalT nilE t).2 == 0) else (0, false)
set_option maxRecDepth 100000 in
set_option maxHeartbeats 4000000 in
theorem rconst_fn (t : Tr) (hs : t.size ≤ 1000000) : fn EV 14 [dN t] = some (.tup [.int .i64 (rconstT t).1, .bool (rconstT t).2]) := by
 have hC := closed_fn t hs
 have hE := eval_nil t hs
 refine fn_X rfl Try.func14 rfl (by simp only [plain, List.all_cons, List.all_nil, dN_under, dN_good, Bool.and_self]) (rfl) (rfl) (rfl) ?_
 simp only [zmc, zmn, dN_strip]
 simp only [enterSt, Try.ntmps14, zlc, zln, Nat.reduceAdd, Nat.reduceSub, zr1, zr0, zca, zna]
 refine X_seq ?_
 refine X_rg fun R hR => ?_
 simp only [inr_i64, Int.reduceLE, Int.reduceNeg, aops, astep, awant, aeff, aop, ev, ofValue, St.put, zg0, zgd, zmo, if_true, zs1, zs0, zln, zna, and_self, dN_cells, dN_good, sl]
 with_reducible refine hR _ ?_
 clear hR R
 show X _ _ _ _
 refine X_seq ?_
 refine X_seq ?_
 refine X_y ?_
 refine Y_k 4 fun R hR => ?_
 simp only [EVP, aops, astep, awant, aeff, aop, mkD, ev, St.put, pcall, zmc, zmn, zg1, zg0, zgd, zmo, if_true, zs1, zs0, zlc, zln, zd0, zt1, zt0, zca, zna, Nat.reduceAdd, Nat.reduceLeDiff, Nat.zero_add, ty_api_Node, any20, dN_agg, o_backstepref03_Expr]
 with_reducible refine hR _ ?_
 clear hR R
 simp only [zd1, zd0]
 refine Y_if 9 (by simp only [ev, zg1, zg0, zgd]; exact rfl) ?_ ?_
 ·intro b1
  have c1 := b1
  try simp only [znt] at c1
  refine Y_end fun R hR => ?_
  simp only [EVP, aops, astep, awant, aeff, aop, mkD, ev, ofValue, St.put, pcall, zmc, zmn, zg1, zg0, zgd, zmo, Option.map_none, zbs, if_true, zs1, zs0, zlc, zln, zd0, zt1, zt0, zca, zna, Nat.reduceAdd, Nat.reduceLeDiff, Nat.zero_add, Bool.not_false, zft, if_false, bq_tf, ty_api_Node, any39, dN_agg, c1]
  with_reducible refine hR _ ?_
  clear hR R
  show X _ _ _ _
  refine X_true (by simp only [ev, zg1, zg0, zgd]) ?_
  refine X_seq ?_
  refine X_rg fun R hR => ?_
  simp only [inr_i64, Int.reduceLE, Int.reduceNeg, aops, astep, awant, aeff, aop, ev, ofValue, St.put, zgd, zmo, if_true, zs1, zs0, and_self]
  with_reducible refine hR _ ?_
  clear hR R
  show X _ _ _ _
  refine X_ret ?_
  show resD _ _ _ = some _
  simp only [resD, resAll, resOne, resTup, Try.results14, EVP, zg1, zg0, D.good, if_true, zmo]
  first | (simp_all [rconstT]; done) | (exfalso; simp_all; done)
 ·intro b2
  have c2 := b2
  try simp only [znf] at c2
  refine Y_end fun R hR => ?_
  simp only [EVP, aops, astep, awant, aeff, aop, mkD, ev, ofValue, St.put, pcall, zmc, zmn, zg1, zg0, zgd, zmo, zbs, if_true, zs1, zs0, zlc, zln, zd0, zt1, zt0, zca, zna, Nat.reduceAdd, Nat.reduceLeDiff, Nat.zero_add, Bool.not_true, zft, if_false, beq_self_eq_true, ty_api_Node, any39, dN_agg, c2, hC]
  with_reducible refine hR _ ?_
  clear hR R
  show X _ _ _ _
  refine X_ite (by simp only [ev, zg1, zg0, zgd]; exact rfl) ?_ ?_
  ·intro b3
   have c3 := b3
   try simp only [znt] at c3
   refine X_seq ?_
   refine X_rg fun R hR => ?_
   simp only [inr_i64, Int.reduceLE, Int.reduceNeg, aops, astep, awant, aeff, aop, ev, ofValue, St.put, zgd, zmo, if_true, zs1, zs0, Bool.not_false, and_self, c3]
   with_reducible refine hR _ ?_
   clear hR R
   show X _ _ _ _
   refine X_ret ?_
   show resD _ _ _ = some _
   simp only [resD, resAll, resOne, resTup, Try.results14, EVP, zg1, zg0, D.good, if_true, zmo]
   first | (simp_all [rconstT]; done) | (exfalso; simp_all; done)
  ·intro b4
   have c4 := b4
   try simp only [znf] at c4
   refine X_skip ?_
   show X _ _ _ _
   refine X_seq ?_
   refine X_rg fun R hR => ?_
   simp only [EVP, aops, astep, awant, aeff, aop, mkD, ev, ofValue, St.put, pcall, zmc, zmn, zg1, zg0, zgd, zmo, if_true, zs1, zs0, zlc, zln, zd0, zt1, zt0, zca, zna, Nat.reduceAdd, Nat.reduceLeDiff, Nat.zero_add, Bool.not_true, ty_api_Node, any21, dN_agg, c4, hE]
   with_reducible refine hR _ ?_
   clear hR R
   show X _ _ _ _
   refine X_seq ?_
   refine X_rg fun R hR => ?_
   simp only [inr_i64, Int.reduceLE, Int.reduceNeg, aops, astep, awant, aeff, aop, abin, aint, ev, ofValue, St.put, zg1, zg0, zgd, zmo, if_true, zs1, zs0, and_self]
   with_reducible refine hR _ ?_
   clear hR R
   show X _ _ _ _
   refine X_ret ?_
   show resD _ _ _ = some _
   simp only [resD, resAll, resOne, resTup, Try.results14, EVP, zg1, zg0, D.good, if_true, zmo]
   first | (simp_all [rconstT]; done) | (exfalso; simp_all; done)

theorem const_law (t : Tr) : exprB t = true → (closedT t = true ∧ (evalT nilE t).2 = 0 → foldT t = (litT (evalT nilE t).1, (evalT nilE t).1, true)) ∧ (¬ (closedT t = true ∧ (evalT nilE t).2 = 0) → (foldT t).2 = (0, false)) := by
 induction t using Tr.ind with
 | h k n s c ih =>
  intro h
  have hc := expr_cases h
  obtain ⟨t, ht⟩ : ∃ t, t = Tr.mk k n s c := ⟨_, rfl⟩
  rw [← ht] at hc ⊢
  have ih' : ∀ x ∈ t.kids, exprB x = true → (closedT x = true ∧ (evalT nilE x).2 = 0 → foldT x = (litT (evalT nilE x).1, (evalT nilE x).1, true)) ∧ (¬ (closedT x = true ∧ (evalT nilE x).2 = 0) → (foldT x).2 = (0, false)) := by rw [ht]; exact ih
  clear ih h ht
  -- the two ways in which a fold goes
  have yes : ∀ v, valueD t.kind t.num (t.kids.map foldT) = (v, true) → foldT t = (litT v, v, true) := fun v hv => by rw [foldT_eq, if_pos (by rw [hv]), hv]
  have no : ∀ v, valueD t.kind t.num (t.kids.map foldT) = (v, false) → (foldT t).2 = (0, false) := fun v hv => by rw [foldT_eq, if_neg (by rw [hv]; simp)]
  rw [closedT_eq, evalT_eq]
  rcases hc with ⟨h1, h2, h3⟩ | ⟨h1, h2⟩ | ⟨h1, a, h2, h3⟩ | ⟨h1, a, h2, h3⟩ | ⟨h1, a, b, h2, h3, h4⟩
  ·have hv := vD_1 (n := t.num) (f := t.kids.map foldT) (by rw [h2]; rfl) h1
   have := yes _ hv
   simp [h1, h2, evC, evN, this]
  ·have := no _ (vD_v (k := t.kind) (by omega))
   refine ⟨fun q => ?_, fun _ => this⟩
   rcases h1 with h1 | h1 | h1 <;> simp [h1] at q
  ·have := no _ (vD_v (k := t.kind) (by omega))
   refine ⟨fun q => ?_, fun _ => this⟩
   simp [h1] at q
  ·obtain ⟨i1, i2⟩ := ih' a (by rw [h2]; simp) h3
   have hcl : (!(decide (t.kind = 2) || decide (t.kind = 3) || decide (t.kind = 4) || decide (t.kind = 5)) && t.kids.all closedT) = closedT a := by
    rw [h2]; rcases h1 with h1 | h1 <;> simp [h1]
   have hev : evC nilE t.kind t.num t.name (((t.kids.map (evalT nilE))[0]?).getD (0, 0)) (((t.kids.map (evalT nilE))[1]?).getD (0, 0)) = if (evalT nilE a).2 ≠ 0 then (0, (evalT nilE a).2) else unD t.kind (evalT nilE a).1 := by
    rw [h2]
    simp only [zmc, zmn, zg0, zgd, evC]
    split
    ·rfl
    ·have : (([evalT nilE a] : List (Int × Int))[1]?).getD (0, 0) = (0, 0) := rfl
     rw [this]
     simp only [ne_eq, not_true_eq_false, if_false, evN]
     rw [if_neg (by omega), if_neg (by omega), if_neg (by omega), if_neg (by omega), if_pos h1]
   rw [hcl, hev]
   by_cases hca : closedT a = true ∧ (evalT nilE a).2 = 0
   ·have hfa := i1 hca
    have hv := vD_u (n := t.num) (f := t.kids.map foldT) (r := []) (x := foldT a) (by rw [h2]; simp [hfa]) h1 (by rw [h2]; rfl)
    rw [hfa] at hv
    simp only at hv
    rw [if_neg (by simp [hca.2])]
    by_cases hu : (unD t.kind (evalT nilE a).1).2 = 0
    ·rw [hu] at hv
     exact ⟨fun _ => yes _ hv, fun q => absurd ⟨hca.1, hu⟩ q⟩
    ·refine ⟨fun q => absurd q.2 hu, fun _ => no _ (by rw [hv]; simp [hu]; rfl)⟩
   ·have hfa := i2 hca
    have := no _ (vD_no (k := t.kind) (n := t.num) (f := t.kids.map foldT) (by rw [h2]; simp [hfa]))
    refine ⟨fun q => absurd ?_ hca, fun _ => this⟩
    refine ⟨q.1, ?_⟩
    by_cases he : (evalT nilE a).2 = 0
    ·exact he
    ·have := q.2; rw [if_pos he] at this; exact this
  ·obtain ⟨i1, i2⟩ := ih' a (by rw [h2]; simp) h3
   obtain ⟨j1, j2⟩ := ih' b (by rw [h2]; simp) h4
   have hcl : (!(decide (t.kind = 2) || decide (t.kind = 3) || decide (t.kind = 4) || decide (t.kind = 5)) && t.kids.all closedT) = (closedT a && closedT b) := by
    have q1 : decide (t.kind = 2) = false := by simp; omega
    have q2 : decide (t.kind = 3) = false := by simp; omega
    have q3 : decide (t.kind = 4) = false := by simp; omega
    have q4 : decide (t.kind = 5) = false := by simp; omega
    rw [h2, q1, q2, q3, q4]; simp
   have hev : evC nilE t.kind t.num t.name (((t.kids.map (evalT nilE))[0]?).getD (0, 0)) (((t.kids.map (evalT nilE))[1]?).getD (0, 0)) = if (evalT nilE a).2 ≠ 0 then (0, (evalT nilE a).2) else if (evalT nilE b).2 ≠ 0 then (0, (evalT nilE b).2) else apD t.kind (evalT nilE a).1 (evalT nilE b).1 := by
    rw [h2]
    simp only [zmc, zmn, zg0, zg1, zgd, evC]
    split
    ·rfl
    ·split
     ·rfl
     ·unfold evN
      rw [if_neg (by omega), if_neg (by omega), if_neg (by omega), if_neg (by omega), if_neg (by omega)]
   rw [hcl, hev, zat]
   by_cases hca : closedT a = true ∧ (evalT nilE a).2 = 0
   ·have hfa := i1 hca
    by_cases hcb : closedT b = true ∧ (evalT nilE b).2 = 0
    ·have hfb := j1 hcb
     have hv := vD_b (n := t.num) (f := t.kids.map foldT) (r := []) (x := foldT a) (y := foldT b) (by rw [h2]; simp [hfa, hfb]) (by omega : ¬ t.kind = 1 ∧ ¬ t.kind = 2 ∧ ¬ t.kind = 3 ∧ ¬ t.kind = 4 ∧ ¬ t.kind = 5 ∧ ¬ t.kind = 6 ∧ ¬ t.kind = 7) (by rw [h2]; rfl)
     rw [hfa, hfb] at hv
     simp only at hv
     rw [if_neg (by simp [hca.2]), if_neg (by simp [hcb.2])]
     by_cases hu : (apD t.kind (evalT nilE a).1 (evalT nilE b).1).2 = 0
     ·rw [hu] at hv
      exact ⟨fun _ => yes _ hv, fun q => absurd ⟨⟨hca.1, hcb.1⟩, hu⟩ q⟩
     ·refine ⟨fun q => absurd q.2 hu, fun _ => no _ (by rw [hv]; simp [hu]; rfl)⟩
    ·have hfb := j2 hcb
     have := no _ (vD_no (k := t.kind) (n := t.num) (f := t.kids.map foldT) (by rw [h2]; simp [hfb]))
     refine ⟨fun q => absurd ?_ hcb, fun _ => this⟩
     refine ⟨q.1.2, ?_⟩
     by_cases he : (evalT nilE b).2 = 0
     ·exact he
     ·have := q.2; rw [if_neg (by simp [hca.2]), if_pos he] at this; exact this
   ·have hfa := i2 hca
    have := no _ (vD_no (k := t.kind) (n := t.num) (f := t.kids.map foldT) (by rw [h2]; simp [hfa]))
    refine ⟨fun q => absurd ?_ hca, fun _ => this⟩
    refine ⟨q.1.1, ?_⟩
    by_cases he : (evalT nilE a).2 = 0
    ·exact he
    ·have := q.2; rw [if_pos he] at this; exact this
theorem const_same (t : Tr) : constT t = rconstT t ∨ ((constT t).2 = false ∧ (rconstT t).2 = false ∧ (constT t).1 = 0) := by
 unfold constT rconstT
 by_cases h : exprB t = true
 ·obtain ⟨h1, h2⟩ := const_law t h
  rw [if_pos h]
  by_cases hc : closedT t = true ∧ (evalT nilE t).2 = 0
  ·have := h1 hc
   left
   rw [if_pos (by simp [h, hc.1]), this]
   simp [hc.2]
  ·have := h2 hc
   right
   rw [this]
   refine ⟨rfl, ?_, rfl⟩
   split
   ·rename_i q
    simp only [zat] at q
    have : ¬ (evalT nilE t).2 = 0 := fun e => hc ⟨q.2, e⟩
    simpa using this
   ·rfl
 ·left
  rw [if_neg h, if_neg (by simp [h])]
end Go.Proofs.Ytlpgapmbajblmaa
