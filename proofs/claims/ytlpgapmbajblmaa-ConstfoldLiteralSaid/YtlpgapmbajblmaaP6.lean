/- For all two integers the law ConstfoldLiteral answers true, and they read behind the call as they did before. Conditions: none. -/
import Derived.Test.YtlpgapmbajblmaaRead
import Derived.Test.YtlpgapmbajblmaaEx
import Derived.Test.YtlpgapmbajblmaaL3
import Derived.Test.YtlpgapmbajblmaaArg2
namespace Go.Proofs.Ytlpgapmbajblmaa
open Go.ChangeShapes Go.WideShapes Go.ChangeAt Go.RowKit

theorem wrap_in {z : Int} (h1 : -9223372036854775808 ≤ z) (h2 : z ≤ 9223372036854775807) : IntKind.i64.wrap z = z := by
  simp only [IntKind.wrap, IntKind.bits, IntKind.signed]; simp; omega
theorem wrap_rng (z : Int) : -9223372036854775808 ≤ IntKind.i64.wrap z ∧ IntKind.i64.wrap z ≤ 9223372036854775807 := by
  simp only [IntKind.wrap, IntKind.bits, IntKind.signed]; simp; omega
theorem fold_leaf (v : Int) : foldT (leafT v) = (litT v, v, true) := by
  have hv : valueD 1 v [] = (v, true) := vD_1 rfl rfl
  rw [foldT_eq, if_pos (by show (valueD 1 v []).2 = true; rw [hv])]
  show (litT (valueD 1 v []).1, (valueD 1 v []).1, true) = _
  rw [hv]
theorem fold_neg {t : Tr} {v : Int} (h : (foldT t).2 = (v, true)) : foldT (.mk 6 0 es [t]) = (litT (IntKind.i64.wrap (0 - v)), IntKind.i64.wrap (0 - v), true) := by
  have hv : valueD 6 0 ([t].map foldT) = (IntKind.i64.wrap (0 - v), true) := by
    rw [vD_u (f := [t].map foldT) (r := []) (x := foldT t) (by simp [h]) (.inl rfl) rfl, h]; rfl
  rw [foldT_eq, if_pos (by show (valueD 6 0 ([t].map foldT)).2 = true; rw [hv])]
  show (litT (valueD 6 0 ([t].map foldT)).1, (valueD 6 0 ([t].map foldT)).1, true) = _
  rw [hv]
theorem fold_two {a b : Tr} {k v w : Int} (hk : k = 8 ∨ k = 9) (h : (foldT a).2 = (v, true)) (h' : (foldT b).2 = (w, true)) : foldT (.mk k 0 es [a, b]) = (litT (apD k v w).1, (apD k v w).1, true) := by
  have hv : valueD k 0 ([a, b].map foldT) = ((apD k v w).1, true) := by
    rw [vD_b (f := [a, b].map foldT) (r := []) (x := foldT a) (y := foldT b) (by simp [h, h']) (by omega) rfl, h, h']
    rcases hk with rfl | rfl <;> simp [apD]
  rw [foldT_eq, if_pos (by show (valueD k 0 ([a, b].map foldT)).2 = true; rw [hv])]
  show (litT (valueD k 0 ([a, b].map foldT)).1, (valueD k 0 ([a, b].map foldT)).1, true) = _
  rw [hv]
theorem ltT_expr (v : Int) : exprB (ltT v) = true := by
  unfold ltT
  by_cases h : 0 ≤ v
  · rw [if_pos h]; simp [leafT, exprB, h, emptyB, lenB, es]
  · rw [if_neg h]
    have : 0 ≤ -(v + 1) := by omega
    simp [leafT, exprB, exprsB, plainB, emptyB, lenB, es]; omega
theorem litT_expr (v : Int) : exprB (litT v) = true := by
  unfold litT
  split
  · rename_i h; simp [leafT, exprB, h, emptyB, lenB, es]
  · split
    · simp [leafT, exprB, exprsB, plainB, emptyB, lenB, es]
    · simp [leafT, exprB, exprsB, plainB, emptyB, lenB, es]; omega
theorem ltT_fold {v : Int} (h1 : -9223372036854775808 ≤ v) (h2 : v ≤ 9223372036854775807) : foldT (ltT v) = (litT v, v, true) := by
  unfold ltT
  by_cases h : 0 ≤ v
  · rw [if_pos h]; exact fold_leaf v
  · rw [if_neg h]
    have e1 := fold_neg (t := leafT (-(v + 1))) (v := -(v + 1)) (by rw [fold_leaf])
    rw [wrap_in (by omega) (by omega)] at e1
    rw [fold_two (.inr rfl) (v := 0 - -(v + 1)) (w := 1) (by rw [e1]) (by rw [fold_leaf])]
    have e2 : (apD 9 (0 - -(v + 1)) 1).1 = v := by
      show IntKind.i64.wrap (0 - -(v + 1) - 1) = v
      rw [wrap_in (by omega) (by omega)]; omega
    rw [e2]
theorem litT_fold {v : Int} (h1 : -9223372036854775808 ≤ v) (h2 : v ≤ 9223372036854775807) : foldT (litT v) = (litT v, v, true) := by
  by_cases h : 0 ≤ v
  · rw [lit_nn h, fold_leaf, lit_nn h]
  · by_cases h3 : v = -9223372036854775808
    · subst h3
      show foldT (.mk 8 0 es [leafT 9223372036854775807, leafT 1]) = _
      rw [fold_two (.inl rfl) (v := 9223372036854775807) (w := 1) (by rw [fold_leaf]) (by rw [fold_leaf])]
      rfl
    · have e : litT v = .mk 6 0 es [leafT (-v)] := by unfold litT; rw [if_neg h, if_neg h3]
      rw [e, fold_neg (v := -v) (by rw [fold_leaf]), wrap_in (by omega) (by omega)]
      have : 0 - -v = v := by omega
      rw [this, e]
theorem sum_fold {v w : Int} (h1 : -9223372036854775808 ≤ v) (h2 : v ≤ 9223372036854775807) (h3 : -9223372036854775808 ≤ w) (h4 : w ≤ 9223372036854775807) : foldT (.mk 8 0 es [ltT v, ltT w]) = (litT (IntKind.i64.wrap (v + w)), IntKind.i64.wrap (v + w), true) :=
  fold_two (.inl rfl) (by rw [ltT_fold h1 h2]) (by rw [ltT_fold h3 h4])
theorem sum_expr (v w : Int) : exprB (.mk 8 0 es [ltT v, ltT w]) = true := by
  simp [exprB, exprsB, plainB, emptyB, lenB, es, ltT_expr]
theorem ltT_size (v : Int) : (ltT v).size ≤ 4 := by unfold ltT leafT; split <;> simp [Tr.size, Tr.sizes]
theorem litT_size (v : Int) : (litT v).size ≤ 3 := by unfold litT leafT; split <;> (try split) <;> simp [Tr.size, Tr.sizes]
set_option maxRecDepth 100000 in
set_option maxHeartbeats 4000000 in
theorem law6_fn (v w : Int) (h1 : -9223372036854775808 ≤ v) (h2 : v ≤ 9223372036854775807) (h3 : -9223372036854775808 ≤ w) (h4 : w ≤ 9223372036854775807) : fn EV 6 [.int .i64 v, .int .i64 w] = some (.bool true) := by
  have lt_v := lt_fn v h1
  have lt_w := lt_fn w h3
  have tS := two_fn 8 (ltT v) (ltT w)
  have s1 := ltT_size v
  have s2 := ltT_size w
  have s3 := litT_size (IntKind.i64.wrap (v + w))
  have s4 : (Tr.mk 8 0 es [ltT v, ltT w]).size ≤ 9 := by simp only [Tr.size, Tr.sizes]; omega
  obtain ⟨r1, r2⟩ := wrap_rng (v + w)
  have cV := const_fn (ltT v) (by omega)
  rw [show constT (ltT v) = (v, true) from by unfold constT; rw [if_pos (ltT_expr v), ltT_fold h1 h2]] at cV
  have cS := const_fn (.mk 8 0 es [ltT v, ltT w]) (by omega)
  rw [show constT (.mk 8 0 es [ltT v, ltT w]) = (IntKind.i64.wrap (v + w), true) from by unfold constT; rw [if_pos (sum_expr v w), sum_fold h1 h2 h3 h4]] at cS
  have xS := expr_fn (.mk 8 0 es [ltT v, ltT w]) (by omega)
  rw [show exprT (.mk 8 0 es [ltT v, ltT w]) = litT (IntKind.i64.wrap (v + w)) from by unfold exprT; rw [if_pos (sum_expr v w), sum_fold h1 h2 h3 h4]] at xS
  have cX := const_fn (litT (IntKind.i64.wrap (v + w))) (by omega)
  rw [show constT (litT (IntKind.i64.wrap (v + w))) = (IntKind.i64.wrap (v + w), true) from by unfold constT; rw [if_pos (litT_expr _), litT_fold r1 r2]] at cX
  have zX := o_ast_Size (litT (IntKind.i64.wrap (v + w))) (by omega)
  have zB : decide (((litT (IntKind.i64.wrap (v + w))).size : Int) ≤ 3) = true := by simp; omega
  have xX := expr_fn (litT (IntKind.i64.wrap (v + w))) (by omega)
  rw [show exprT (litT (IntKind.i64.wrap (v + w))) = litT (IntKind.i64.wrap (v + w)) from by unfold exprT; rw [if_pos (litT_expr _), litT_fold r1 r2]] at xX
  have qX := o_ast_Equal (litT (IntKind.i64.wrap (v + w))) (litT (IntKind.i64.wrap (v + w)))
  rw [eqB_refl] at qX
  generalize hlz : litT (IntKind.i64.wrap (v + w)) = lz at *
  generalize hlu : (Tr.mk 8 0 es [ltT v, ltT w]) = lu at *
  generalize hwe : IntKind.i64.wrap (v + w) = we at *
  refine fn_X rfl Try.func6 rfl (rfl) rfl (rfl) (rfl) ?_
  simp only [List.map_cons, List.map_nil, D.strip]
  simp only [enterSt, Try.ntmps6, List.length_cons, List.length_nil, Nat.reduceAdd, Nat.reduceSub, List.replicate_succ, List.replicate_zero, List.cons_append, List.nil_append]
  refine X_seq ?_
  refine X_rg fun R hR => ?_
  simp only [aops, astep, awant, aeff, aop, ev, ofValue, St.put, Option.getD_some, Option.map_some, if_true, List.set_cons_succ, List.set_cons_zero]
  with_reducible refine hR _ ?_
  clear hR R
  show X _ _ _ _
  refine X_seq ?_
  refine X_seq ?_
  refine X_rg fun R hR => ?_
  simp only [EVP, aops, astep, awant, aeff, aop, ev, St.put, pcall, List.map_nil, List.getElem?_cons_succ, List.getElem?_cons_zero, Option.getD_some, Option.map_some, if_true, List.set_cons_succ, List.set_cons_zero, List.nil_append, Bool.not_true, any11, awake_fn]
  with_reducible refine hR _ ?_
  clear hR R
  show X _ _ _ _
  refine X_false (by simp only [ev, List.getElem?_cons_succ, List.getElem?_cons_zero, Option.getD_some]) ?_
  refine X_skip ?_
  show X _ _ _ _
  refine X_seq ?_
  refine X_rg fun R hR => ?_
  simp only [aops, astep, awant, aeff, aop, ev, St.put, Option.map_some, if_true, List.set_cons_succ, List.set_cons_zero]
  with_reducible refine hR _ ?_
  clear hR R
  show X _ _ _ _
  refine X_seq ?_
  refine X_rg fun R hR => ?_
  simp only [EVP, aops, astep, awant, aeff, aop, ev, St.put, pcall, List.map_cons, List.map_nil, List.getElem?_cons_succ, List.getElem?_cons_zero, Option.getD_some, Option.map_some, if_true, List.set_cons_succ, List.set_cons_zero, List.cons_append, List.nil_append, any13, any22, lt_v, cV]
  with_reducible refine hR _ ?_
  clear hR R
  show X _ _ _ _
  refine X_seq ?_
  refine X_rg fun R hR => ?_
  simp only [EVP, inr_u8, Int.reduceLE, aops, astep, awant, aeff, aop, ev, ofValue, St.put, pcall, List.map_cons, List.map_nil, List.getElem?_cons_succ, List.getElem?_cons_zero, Option.getD_some, Option.map_some, if_true, List.set_cons_succ, List.set_cons_zero, List.cons_append, List.nil_append, and_self, any13, any22, any24, lt_v, lt_w, tS, cS]
  with_reducible refine hR _ ?_
  clear hR R
  show X _ _ _ _
  refine X_seq ?_
  refine X_rg fun R hR => ?_
  simp only [EVP, inr_u8, Int.reduceLE, aops, astep, awant, aeff, aop, astore, ev, ofValue, St.put, pcall, List.map_cons, List.map_nil, List.getElem?_cons_succ, List.getElem?_cons_zero, Option.getD_some, Option.map_some, Option.bind_some, if_true, List.set_cons_succ, List.set_cons_zero, List.length_cons, List.length_nil, List.drop_succ_cons, List.drop_zero, List.take_zero, List.cons_append, List.nil_append, Nat.reduceAdd, Nat.reduceLeDiff, Nat.zero_add, and_self, ty_api_Node, any16, any22, any24, dN_cells, dN_good, sl, lt_v, lt_w, tS, xS]
  with_reducible refine hR _ ?_
  clear hR R
  show X _ _ _ _
  refine X_seq ?_
  refine X_rg fun R hR => ?_
  simp only [EVP, aops, astep, awant, aeff, aop, mkD, ev, St.put, pcall, List.map_cons, List.map_nil, List.getElem?_cons_succ, List.getElem?_cons_zero, Option.getD_some, Option.map_some, if_true, List.set_cons_succ, List.set_cons_zero, List.length_cons, List.length_nil, List.drop_zero, List.take_succ_cons, List.take_zero, List.cons_append, List.nil_append, Nat.reduceAdd, Nat.reduceLeDiff, Nat.zero_add, ty_api_Node, any13, dN_agg, cX]
  with_reducible refine hR _ ?_
  clear hR R
  show X _ _ _ _
  refine X_seq ?_
  refine X_rg fun R hR => ?_
  simp only [EVP, inr_i64, Int.reduceLE, Int.reduceNeg, aops, astep, awant, aeff, aop, abin, aint, mkD, ev, ofValue, St.put, pcall, List.map_cons, List.map_nil, List.getElem?_cons_succ, List.getElem?_cons_zero, Option.getD_some, Option.map_some, Option.bind_some, if_true, List.set_cons_succ, List.set_cons_zero, List.length_cons, List.length_nil, List.drop_zero, List.take_succ_cons, List.take_zero, List.cons_append, List.nil_append, Nat.reduceAdd, Nat.reduceLeDiff, Nat.zero_add, and_self, beq_self_eq_true, ty_api_Node, any16, any25, any26, dN_agg, hwe, zX, xX, qX, zB]
  with_reducible refine hR _ ?_
  clear hR R
  show X _ _ _ _
  refine X_ret ?_
  show resD _ _ _ = some _
  simp only [resD, resAll, resOne, resTup, Try.results6, EVP, List.getElem?_cons_succ, List.getElem?_cons_zero, D.good, if_true, Option.map_some] <;> (first | (rfl; done) | (simp; done) | (exfalso; simp_all; done))
theorem vals2 {w : World} {g : Gh} {d d' : D} {v v' : Value} (h : val w g d v) (h' : val w g d' v') : vals w g [d, d'] [v, v'] := ⟨rfl, fun j h1 h2 => by
  match j, h1, h2 with
  | 0, _, _ => exact h
  | 1, _, _ => exact h'
  | j + 2, h1, _ => simp at h1; omega⟩
set_option maxRecDepth 100000 in
theorem arg_int {H : Type} {enc : TypeId × Value → H} {W : World} {base : Nat} {spare : Nat → Bool} {held : Bool} {r : Reach} {b0 : Nat} {v : Value} {d : DataW H} {p : List MemPlace} (hv : Value.okWide Try.prog W r b0 3 v) (h : DataW.Trod enc Try.prog W base spare held 3 v d p) : ∃ n : Int, val W (gW W) (.int .i64 n) v ∧ -9223372036854775808 ≤ n ∧ n ≤ 9223372036854775807 := by
  obtain ⟨n, rfl, _, _, w0⟩ := open_int Try.underlying3 hv h
  have := wf_i64 w0
  refine ⟨n, val_of_R (.int _ _ ?_) rfl, this.1, this.2⟩
  simp only [inr, IntKind.min, IntKind.max, IntKind.bits, IntKind.signed]; simp; omega
set_option maxRecDepth 100000 in
theorem constfoldLiteral_lifted (os : Os) (started : os.Started) (H : Type) (enc : TypeId × Value → H) :
    ReturnsInHanded {} Try.checked os 6 .any (Rows.constfoldLiteralSpec.pre6 enc Try.prog Try.f6 Rows.constfoldLiteralRow.domain false) (Rows.constfoldLiteralSpec.post enc Try.prog Try.f6 false true false false) := by
  refine returnsInHanded_of_change (C := Try.checked) prog_own started (by kernel_rfl) Try.func6
    (ChangeSpec.witness6 (enc := enc) (C := Try.checked) false ⟨#[], #[.int .i64 0, .int .i64 0], []⟩ 8 (by kernel_rfl) (by kernel_rfl) (by kernel_rfl) (by kernel_rfl)) ?_
  intro W base args ds gs before hval0 hW _ _
  have hval : ∀ (j : Nat) t v, Try.f6.params[j]? = some t → args[j]? = some v → Value.okWide Try.prog W .any base t v := hval0
  have hW' : DataW.Whole enc Try.prog Try.f6.params.toList Rows.constfoldLiteralSpec.vars false W args.toList ds gs before := hW
  obtain ⟨p, q, hA0, hV, rfl, _, _⟩ := hW
  have hA : DataW.TrodAll enc Try.prog W 0 (fun _ => true) true Try.f6.params.toList args.toList ds p := hA0
  rw [Try.params6] at hA hval
  obtain ⟨v0, v1, d0, d1, p0, p1, rfl, rfl, rfl, h0, h1⟩ := trodAll_two hA
  obtain ⟨g0, hg0, lo0, hi0⟩ := arg_int (hval 0 3 v0 rfl rfl) h0
  obtain ⟨g1, hg1, lo1, hi1⟩ := arg_int (hval 1 3 v1 rfl rfl) h1
  refine (law_calls EV_ok (law6_fn g0 g1 lo0 hi0 lo1 hi1) (vals2 hg0 hg1)).mono fun e W' ⟨he, hb⟩ => ?_
  subst he
  exact ⟨_, rfl, law_post hW' rfl rfl (by rw [Try.params6]; intro t ht; simp at ht; rcases ht with rfl | rfl <;> exact ⟨by kernel_rfl, of_decide_eq_true (by kernel_rfl)⟩) rfl hb⟩

theorem constfoldLiteral_holds : Rows.ConstfoldLiteralSaid :=
  OpenClaim.holds_of_wide 6 Try.f6 rfl rfl rfl rfl rfl rfl rfl ⟨rfl, rfl, rfl, rfl, rfl⟩ rfl rfl rfl rfl rfl (by kernel_rfl) Try.func6 (by kernel_rfl)
    (of_decide_eq_true (by kernel_rfl)) (by unfold Func.isWrapper; first | (rw [if_pos (by decide +kernel)]; kernel_rfl) | (rw [if_neg (by decide +kernel)]; exact ⟨rfl, rfl⟩))
    (fun os started H enc _ => constfoldLiteral_lifted os started H enc)

end Go.Proofs.Ytlpgapmbajblmaa
