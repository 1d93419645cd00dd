/- For every tree and every map that is handed to it the law ConstfoldValue answers true, and both read behind the call as they did before. Conditions: none. -/
import Derived.Test.YtlpgapmbajblmaaRead
import Derived.Test.YtlpgapmbajblmaaEx
import Derived.Test.YtlpgapmbajblmaaL3
import Derived.Test.YtlpgapmbajblmaaArg2
namespace Go.Proofs.Ytlpgapmbajblmaa
open Go.ChangeShapes Go.WideShapes Go.ChangeAt Go.RowKit

theorem wrap_in {z : Int} (h1 : -9223372036854775808 ≤ z) (h2 : z ≤ 9223372036854775807) : IntKind.i64.wrap z = z := by
  simp only [IntKind.wrap, IntKind.bits, IntKind.signed]; simp; omega
theorem fold_leaf (v : Int) : foldT (leafT v) = (litT v, v, true) := by
  have hv : valueD 1 v [] = (v, true) := vD_1 rfl rfl
  rw [foldT_eq, if_pos (by show (valueD 1 v []).2 = true; rw [hv])]
  show (litT (valueD 1 v []).1, (valueD 1 v []).1, true) = _
  rw [hv]
theorem fold_neg {t : Tr} {v : Int} (h : (foldT t).2 = (v, true)) : foldT (.mk 6 0 es [t]) = (litT (IntKind.i64.wrap (0 - v)), IntKind.i64.wrap (0 - v), true) := by
  have hv : valueD 6 0 ([t].map foldT) = (IntKind.i64.wrap (0 - v), true) := by
    rw [vD_u (f := [t].map foldT) (r := []) (x := foldT t) (by simp [h]) (.inl rfl) rfl, h]; rfl
  rw [foldT_eq, if_pos (by show (valueD 6 0 ([t].map foldT)).2 = true; rw [hv])]
  show (litT (valueD 6 0 ([t].map foldT)).1, (valueD 6 0 ([t].map foldT)).1, true) = _
  rw [hv]
theorem fold_two {a b : Tr} {k v w : Int} (hk : k = 8 ∨ k = 9) (h : (foldT a).2 = (v, true)) (h' : (foldT b).2 = (w, true)) : foldT (.mk k 0 es [a, b]) = (litT (apD k v w).1, (apD k v w).1, true) := by
  have hv : valueD k 0 ([a, b].map foldT) = ((apD k v w).1, true) := by
    rw [vD_b (f := [a, b].map foldT) (r := []) (x := foldT a) (y := foldT b) (by simp [h, h']) (by omega) rfl, h, h']
    rcases hk with rfl | rfl <;> simp [apD]
  rw [foldT_eq, if_pos (by show (valueD k 0 ([a, b].map foldT)).2 = true; rw [hv])]
  show (litT (valueD k 0 ([a, b].map foldT)).1, (valueD k 0 ([a, b].map foldT)).1, true) = _
  rw [hv]
theorem litT_expr (v : Int) : exprB (litT v) = true := by
  unfold litT
  split
  · rename_i h; simp [leafT, exprB, h, emptyB, lenB, es]
  · split
    · simp [leafT, exprB, exprsB, plainB, emptyB, lenB, es]
    · simp [leafT, exprB, exprsB, plainB, emptyB, lenB, es]; omega
theorem litT_fold {v : Int} (h1 : -9223372036854775808 ≤ v) : foldT (litT v) = (litT v, v, true) := by
  by_cases h : 0 ≤ v
  · rw [lit_nn h, fold_leaf, lit_nn h]
  · by_cases h3 : v = -9223372036854775808
    · subst h3
      show foldT (.mk 8 0 es [leafT 9223372036854775807, leafT 1]) = _
      rw [fold_two (.inl rfl) (v := 9223372036854775807) (w := 1) (by rw [fold_leaf]) (by rw [fold_leaf])]
      rfl
    · have e : litT v = .mk 6 0 es [leafT (-v)] := by unfold litT; rw [if_neg h, if_neg h3]
      rw [e, fold_neg (v := -v) (by rw [fold_leaf]), wrap_in (by omega) (by omega)]
      have : 0 - -v = v := by omega
      rw [this, e]
theorem litT_size (v : Int) : (litT v).size ≤ 3 := by unfold litT leafT; split <;> (try split) <;> simp [Tr.size, Tr.sizes]
theorem expr_swap {k n : Int} {s : ByteArray} {c c' : List Tr} (hl : c'.length = c.length) (ha : c'.all exprB = true) (h : exprB (.mk k n s c) = true) : exprB (.mk k n s c') = true := by
  have hn : ∀ m, lenB c' m = lenB c m := fun m => by simp [lenB, hl]
  rw [exprB] at h ⊢
  rw [exprsB_all] at h ⊢
  simp only [hn, ha, Bool.and_true]
  revert h
  split
  · exact id
  · split
    · exact id
    · split
      · intro h; simp only [Bool.and_eq_true] at h ⊢; exact h.1
      · split
        · intro h; simp only [Bool.and_eq_true] at h ⊢; exact h.1
        · split
          · intro h; simp only [Bool.and_eq_true] at h ⊢; exact h.1
          · exact id
theorem fold_expr (t : Tr) : exprB t = true → exprB (foldT t).1 = true := by
  induction t using Tr.ind with
  | h k n s c ih =>
    intro h
    rw [foldT_eq]
    split
    · exact litT_expr _
    · refine expr_swap (c := c) (by simp [Tr.kids]) ?_ h
      rw [List.all_eq_true]
      intro x hx
      obtain ⟨y, hy, rfl⟩ := List.mem_map.1 hx
      obtain ⟨z, hz, rfl⟩ := List.mem_map.1 hy
      exact ih z hz (expr_kids h z hz)
theorem fold_idem (t : Tr) : exprB t = true → foldT (foldT t).1 = foldT t := by
  induction t using Tr.ind with
  | h k n s c ih =>
    intro h
    have hlo := foldT_lo _ h
    rw [foldT_eq (.mk k n s c)] at hlo ⊢
    split
    · rename_i hv
      rw [if_pos hv] at hlo
      exact litT_fold hlo
    · rename_i hv
      have e : (((Tr.mk k n s c).kids.map foldT).map (fun x => x.1)).map foldT = (Tr.mk k n s c).kids.map foldT := by
        rw [List.map_map, List.map_map]
        refine List.map_congr_left fun x hx => ?_
        exact ih x hx (expr_kids h x hx)
      rw [foldT_eq]
      show (if (valueD k n ((((Tr.mk k n s c).kids.map foldT).map (fun x => x.1)).map foldT)).2 = true then _ else _) = _
      have hv' : ¬ (valueD k n ((Tr.mk k n s c).kids.map foldT)).2 = true := hv
      rw [e, if_neg hv']
      show (Tr.mk k n s (((((Tr.mk k n s c).kids.map foldT).map (fun x => x.1)).map foldT).map (fun x => x.1)), (0 : Int), false) = _
      rw [e]; rfl
theorem fold_size3 (t : Tr) : (foldT t).1.size ≤ 3 * t.size := by
  induction t using Tr.ind with
  | h k n s c ih =>
    rw [foldT_eq]
    split
    · have := litT_size (valueD (Tr.mk k n s c).kind (Tr.mk k n s c).num ((Tr.mk k n s c).kids.map foldT)).1
      simp only [Tr.size]; omega
    · have : ∀ l : List Tr, (∀ x ∈ l, (foldT x).1.size ≤ 3 * x.size) → Tr.sizes ((l.map foldT).map (fun x => x.1)) ≤ 3 * Tr.sizes l := by
        intro l
        induction l with
        | nil => intro _; simp [Tr.sizes]
        | cons x r ih2 =>
          intro hl
          have h1 := hl x (by simp)
          have h2 := ih2 (fun y hy => hl y (by simp [hy]))
          simp only [List.map_cons, Tr.sizes]; omega
      have := this c ih
      simp only [Tr.size, Tr.kids]; omega
theorem exprT_size (t : Tr) : (exprT t).size ≤ 3 * t.size := by
  unfold exprT
  split
  · exact fold_size3 t
  · omega
def partOk (m : Tr) : Prop := (constT m).2 = true → m.kind = 1 ∨ (m.kind = 6 ∧ (∃ a r, m.kids = a :: r ∧ a.kind = 1) ∧ (constT m).1 < 0) ∨ (m.kind = 8 ∧ (constT m).1 = -9223372036854775808 ∧ m.size = 3)
theorem walksL_mem : ∀ (c : List Tr) (p : List Int) (i : Nat) (x : List Int × Tr), x ∈ walksL p i c → ∃ y ∈ c, ∃ q, x ∈ walkL q y
  | [], _, _, _, h => by simp [walksL] at h
  | t :: r, p, i, x, h => by
    rw [walksL] at h
    rcases List.mem_append.1 h with h | h
    · exact ⟨t, by simp, _, h⟩
    · obtain ⟨y, hy, q, hq⟩ := walksL_mem r p (i + 1) x h
      exact ⟨y, by simp [hy], q, hq⟩
theorem walkL_size (t : Tr) : ∀ (p : List Int) (x : List Int × Tr), x ∈ walkL p t → x.2.size ≤ t.size := by
  induction t using Tr.ind with
  | h k n s c ih =>
    intro p x hx
    rw [walkL] at hx
    rcases List.mem_cons.1 hx with rfl | hx
    · exact Nat.le_refl _
    · obtain ⟨y, hy, q, hq⟩ := walksL_mem c p 0 x hx
      have h1 := ih y hy q x hq
      have h2 := Tr.size_le_of_mem hy
      simp only [Tr.size]; omega
theorem leaf_part (v : Int) : partOk (leafT v) := fun _ => .inl rfl
theorem lit_part {v : Int} (h1 : -9223372036854775808 ≤ v) : partOk (litT v) := by
  intro _
  have hc : constT (litT v) = (v, true) := by unfold constT; rw [if_pos (litT_expr v), litT_fold h1]
  rw [hc]
  by_cases h : 0 ≤ v
  · left; rw [lit_nn h]; rfl
  · right
    by_cases h3 : v = -9223372036854775808
    · right; subst h3; exact ⟨rfl, rfl, by simp [litT, leafT, Tr.size, Tr.sizes]⟩
    · left
      have e : litT v = .mk 6 0 es [leafT (-v)] := by unfold litT; rw [if_neg h, if_neg h3]
      rw [e]
      exact ⟨rfl, ⟨_, _, rfl, rfl⟩, by show v < 0; omega⟩
theorem leaf_parts (v : Int) (p : List Int) (x : List Int × Tr) (hx : x ∈ walkL p (leafT v)) : partOk x.2 := by
  simp only [leafT, walkL, walksL, List.mem_cons, List.not_mem_nil, or_false] at hx
  subst hx; exact leaf_part v
theorem lit_parts {v : Int} (h1 : -9223372036854775808 ≤ v) (p : List Int) (x : List Int × Tr) (hx : x ∈ walkL p (litT v)) : partOk x.2 := by
  have hp := lit_part h1
  by_cases h : 0 ≤ v
  · rw [lit_nn h] at hx; exact leaf_parts v p x hx
  · by_cases h3 : v = -9223372036854775808
    · have e : litT v = .mk 8 0 es [leafT 9223372036854775807, leafT 1] := by unfold litT; rw [if_neg h, if_pos h3]
      rw [e] at hx hp
      rw [walkL] at hx
      rcases List.mem_cons.1 hx with rfl | hx
      · exact hp
      · obtain ⟨y, hy, q, hq⟩ := walksL_mem _ p 0 x hx
        simp only [List.mem_cons, List.not_mem_nil, or_false] at hy
        rcases hy with rfl | rfl <;> exact leaf_parts _ q x hq
    · have e : litT v = .mk 6 0 es [leafT (-v)] := by unfold litT; rw [if_neg h, if_neg h3]
      rw [e] at hx hp
      rw [walkL] at hx
      rcases List.mem_cons.1 hx with rfl | hx
      · exact hp
      · obtain ⟨y, hy, q, hq⟩ := walksL_mem _ p 0 x hx
        simp only [List.mem_cons, List.not_mem_nil, or_false] at hy
        subst hy; exact leaf_parts _ q x hq
theorem fold_parts (t : Tr) : exprB t = true → ∀ (p : List Int) (x : List Int × Tr), x ∈ walkL p (foldT t).1 → partOk x.2 := by
  induction t using Tr.ind with
  | h k n s c ih =>
    intro h p x hx
    have hlo := foldT_lo _ h
    have hid := fold_idem _ h
    rw [foldT_eq (.mk k n s c)] at hlo hid hx
    by_cases hv : (valueD (Tr.mk k n s c).kind (Tr.mk k n s c).num ((Tr.mk k n s c).kids.map foldT)).2 = true
    · rw [if_pos hv] at hlo hx
      exact lit_parts hlo p x hx
    · rw [if_neg hv] at hid hx
      rw [walkL] at hx
      rcases List.mem_cons.1 hx with rfl | hx
      · intro hc
        unfold constT at hc
        split at hc
        · rw [hid] at hc; simp at hc
        · simp at hc
      · obtain ⟨y, hy, q, hq⟩ := walksL_mem _ p 0 x hx
        obtain ⟨z, hz, rfl⟩ := List.mem_map.1 hy
        obtain ⟨u, hu, rfl⟩ := List.mem_map.1 hz
        exact ih u hu (expr_kids h u hu) q x hq
theorem eval_lit (env : ByteArray → List Int) {v : Int} (h1 : -9223372036854775808 ≤ v) : evalT env (litT v) = (v, 0) := by
  by_cases h : 0 ≤ v
  · rw [lit_nn h]; simp [leafT, evalT, evalsT, evC, evN]
  · by_cases h3 : v = -9223372036854775808
    · subst h3; rfl
    · have e : litT v = .mk 6 0 es [leafT (-v)] := by unfold litT; rw [if_neg h, if_neg h3]
      have hw : IntKind.i64.wrap v = v := wrap_in (by omega) (by omega)
      rw [e]; simp [leafT, evalT, evalsT, evC, evN, unD, hw]
theorem eval_fold (env : ByteArray → List Int) (t : Tr) : exprB t = true → evalT env (foldT t).1 = evalT env t ∧ ((foldT t).2.2 = true → evalT env t = ((foldT t).2.1, 0)) := by
  induction t using Tr.ind with
  | h k n s c ih =>
    intro h
    have hc := expr_cases h
    have hlo := foldT_lo _ h
    have hk := expr_kids h
    obtain ⟨t, ht⟩ : ∃ t, t = Tr.mk k n s c := ⟨_, rfl⟩
    have ih' : ∀ x ∈ t.kids, evalT env (foldT x).1 = evalT env x ∧ ((foldT x).2.2 = true → evalT env x = ((foldT x).2.1, 0)) := by rw [ht]; exact fun x hx => ih x hx (hk x hx)
    rw [← ht] at hc hlo ⊢
    clear ih h hk ht
    have p2 : (foldT t).2.2 = true → evalT env t = ((foldT t).2.1, 0) := by
      intro hcst
      have hv : (valueD t.kind t.num (t.kids.map foldT)).2 = true := by
        rw [foldT_eq] at hcst
        by_cases q : (valueD t.kind t.num (t.kids.map foldT)).2 = true
        · exact q
        · rw [if_neg q] at hcst; simp at hcst
      have hval : (foldT t).2.1 = (valueD t.kind t.num (t.kids.map foldT)).1 := by rw [foldT_eq, if_pos hv]
      have hall : (t.kids.map foldT).all (fun x => x.2.2) = true := by
        by_cases q : (t.kids.map foldT).all (fun x => x.2.2) = true
        · exact q
        · rw [vD_no (by simpa using q)] at hv; simp at hv
      rw [hval, evalT_eq]
      rcases hc with ⟨h1, h2, h3⟩ | ⟨h1, h2⟩ | ⟨h1, a, h2, h3⟩ | ⟨h1, a, h2, h3⟩ | ⟨h1, a, b, h2, h3, h4⟩
      · rw [vD_1 hall h1, h2]; simp [evC, evN, h1]
      · rw [vD_v (by omega)] at hv; simp at hv
      · rw [vD_v (by omega)] at hv; simp at hv
      · have ha := (ih' a (by rw [h2]; simp)).2 (by rw [h2] at hall; simpa using hall)
        have hu := vD_u (n := t.num) (f := t.kids.map foldT) (r := []) (x := foldT a) hall h1 (by rw [h2]; rfl)
        rw [hu] at hv ⊢
        rw [h2]
        simp only [List.map_cons, List.map_nil, List.getElem?_cons_zero, List.getElem?_cons_succ, List.getElem?_nil, Option.getD_some, Option.getD_none, ha]
        rw [evC_2 rfl rfl]
        unfold evN
        rw [if_neg (by omega), if_neg (by omega), if_neg (by omega), if_neg (by omega), if_pos h1]
        have h0 : (unD t.kind (foldT a).2.1).2 = 0 := by simpa using hv
        exact Prod.ext rfl h0
      · have hab : (foldT a).2.2 = true ∧ (foldT b).2.2 = true := by rw [h2] at hall; simpa using hall
        have ha := (ih' a (by rw [h2]; simp)).2 hab.1
        have hb := (ih' b (by rw [h2]; simp)).2 hab.2
        have hu := vD_b (n := t.num) (f := t.kids.map foldT) (r := []) (x := foldT a) (y := foldT b) hall (by omega : ¬ t.kind = 1 ∧ ¬ t.kind = 2 ∧ ¬ t.kind = 3 ∧ ¬ t.kind = 4 ∧ ¬ t.kind = 5 ∧ ¬ t.kind = 6 ∧ ¬ t.kind = 7) (by rw [h2]; rfl)
        rw [hu] at hv ⊢
        rw [h2]
        simp only [List.map_cons, List.map_nil, List.getElem?_cons_zero, List.getElem?_cons_succ, Option.getD_some, ha, hb]
        rw [evC_2 rfl rfl]
        unfold evN
        rw [if_neg (by omega), if_neg (by omega), if_neg (by omega), if_neg (by omega), if_neg (by omega)]
        have h0 : (apD t.kind (foldT a).2.1 (foldT b).2.1).2 = 0 := by simpa using hv
        exact Prod.ext rfl h0
    refine ⟨?_, p2⟩
    by_cases hv : (valueD t.kind t.num (t.kids.map foldT)).2 = true
    · have e := foldT_eq t
      rw [if_pos hv] at e
      have := p2 (by rw [e])
      rw [this]
      rw [e] at hlo ⊢
      exact eval_lit env hlo
    · rw [foldT_eq, if_neg hv, evalT_eq, evalT_eq env t]
      show evC env t.kind t.num t.name (((((t.kids.map foldT).map (fun x => x.1)).map (evalT env))[0]?).getD (0, 0)) (((((t.kids.map foldT).map (fun x => x.1)).map (evalT env))[1]?).getD (0, 0)) = _
      have e : ((t.kids.map foldT).map (fun x => x.1)).map (evalT env) = t.kids.map (evalT env) := by
        rw [List.map_map, List.map_map]
        exact List.map_congr_left fun x hx => (ih' x hx).1
      rw [e]
theorem eval_expr (env : ByteArray → List Int) (t : Tr) : evalT env (exprT t) = evalT env t := by
  unfold exprT
  split
  · rename_i h; exact (eval_fold env t h).1
  · rfl
set_option maxRecDepth 100000 in
set_option maxHeartbeats 4000000 in
theorem law5_fn (t : Tr) (m : D) (env : ByteArray → List Int) (hmu : m.under 0 = true) (hmg : m.good = true) (hms : m.strip = m) (_hmc : m.isAgg = false) (hev : ∀ x : Tr, x.size ≤ 1000000 → fn EV 21 [dN x, m] = some (.tup [.int .i64 (evalT env x).1, .int .i64 (evalT env x).2])) : fn EV 5 [dN t, m] = some (.bool true) := by
  refine fn_X rfl Try.func5 rfl (by simp only [plain, List.all_cons, List.all_nil, dN_under, dN_good, hmu, hmg, Bool.and_self]) rfl (rfl) (rfl) ?_
  simp only [List.map_cons, List.map_nil, dN_strip, hms]
  simp only [enterSt, Try.ntmps5, List.length_cons, List.length_nil, Nat.reduceAdd, Nat.reduceSub, List.replicate_succ, List.replicate_zero, List.cons_append, List.nil_append]
  refine X_seq ?_
  refine X_rg fun R hR => ?_
  simp only [aops, astep, awant, aeff, aop, ev, ofValue, St.put, List.getElem?_cons_zero, Option.getD_some, Option.map_some, if_true, List.set_cons_succ, List.set_cons_zero, List.length_nil, List.nil_append, dN_cells, dN_good, sl]
  with_reducible refine hR _ ?_
  clear hR R
  show X _ _ _ _
  refine X_seq ?_
  refine X_seq ?_
  refine X_rg fun R hR => ?_
  simp only [EVP, aops, astep, awant, aeff, aop, ev, St.put, pcall, List.map_nil, List.getElem?_cons_succ, List.getElem?_cons_zero, Option.getD_some, Option.map_some, if_true, List.set_cons_succ, List.set_cons_zero, List.nil_append, Bool.not_true, any11, awake_ok]
  with_reducible refine hR _ ?_
  clear hR R
  show X _ _ _ _
  refine X_false (by simp only [ev, List.getElem?_cons_succ, List.getElem?_cons_zero, Option.getD_some]) ?_
  refine X_skip ?_
  show X _ _ _ _
  refine X_seq ?_
  refine X_seq ?_
  refine X_y ?_
  refine Y_k 3 fun R hR => ?_
  simp only [EVP, aops, astep, awant, aeff, aop, mkD, ev, St.put, pcall, List.map_cons, List.map_nil, List.getElem?_cons_succ, List.getElem?_cons_zero, Option.getD_some, Option.map_some, if_true, List.set_cons_succ, List.set_cons_zero, List.length_cons, List.length_nil, List.drop_zero, List.take_succ_cons, List.take_zero, List.cons_append, List.nil_append, Nat.reduceAdd, Nat.reduceLeDiff, Nat.zero_add, ty_api_Node, any12, dN_agg, o_backstepref03_Big]
  with_reducible refine hR _ ?_
  clear hR R
  simp only [List.drop_succ_cons, List.drop_zero]
  refine Y_if 13 (by simp only [ev, List.getElem?_cons_succ, List.getElem?_cons_zero, Option.getD_some]; exact rfl) ?_ ?_
  · intro b1
    have c1 := b1
    try simp only [Bool.not_eq_true', Bool.not_eq_false', decide_eq_true_eq, decide_eq_false_iff_not, beq_iff_eq, Int.not_lt, Int.not_le, ge_iff_le, gt_iff_lt, bne_iff_ne, ne_eq, bne_eq_false_iff_eq, beq_eq_false_iff_ne, Bool.and_eq_true, Bool.or_eq_false_iff] at c1
    refine Y_end fun R hR => ?_
    simp only [EVP, aops, astep, awant, aeff, aop, mkD, ev, ofValue, St.put, pcall, List.map_cons, List.map_nil, List.getElem?_cons_succ, List.getElem?_cons_zero, Option.getD_some, Option.map_some, Option.map_none, Option.bind_some, if_true, List.set_cons_succ, List.set_cons_zero, List.length_cons, List.length_nil, List.drop_zero, List.take_succ_cons, List.take_zero, List.cons_append, List.nil_append, Nat.reduceAdd, Nat.reduceLeDiff, Nat.zero_add, Bool.false_eq_true, if_false, bq_tf, ty_api_Node, any20, dN_agg, b1]
    with_reducible refine hR _ ?_
    clear hR R
    show X _ _ _ _
    refine X_true (by simp only [ev, List.getElem?_cons_succ, List.getElem?_cons_zero, Option.getD_some]) ?_
    refine X_seq ?_
    refine X_rg fun R hR => ?_
    simp only [aops, astep, awant, aeff, aop, ev, ofValue, St.put, Option.getD_some, Option.map_some, if_true, List.set_cons_succ, List.set_cons_zero]
    with_reducible refine hR _ ?_
    clear hR R
    show X _ _ _ _
    refine X_ret ?_
    show resD _ _ _ = some _
    simp only [resD, resAll, resOne, resTup, Try.results5, EVP, List.getElem?_cons_succ, List.getElem?_cons_zero, D.good, if_true, Option.map_some] <;> (first | (rfl; done) | (simp_all; done) | (exfalso; simp_all; done))
  · intro b2
    have c2 := b2
    try simp only [Bool.not_eq_true', Bool.not_eq_false', decide_eq_true_eq, decide_eq_false_iff_not, beq_iff_eq, Int.not_lt, Int.not_le, ge_iff_le, gt_iff_lt, bne_iff_ne, ne_eq, bne_eq_false_iff_eq, beq_eq_false_iff_ne, Bool.and_eq_true, Bool.or_eq_false_iff] at c2
    refine Y_end fun R hR => ?_
    simp only [EVP, aops, astep, awant, aeff, aop, mkD, ev, ofValue, St.put, pcall, List.map_cons, List.map_nil, List.getElem?_cons_succ, List.getElem?_cons_zero, Option.getD_some, Option.map_some, Option.bind_some, if_true, List.set_cons_succ, List.set_cons_zero, List.length_cons, List.length_nil, List.drop_zero, List.take_succ_cons, List.take_zero, List.cons_append, List.nil_append, Nat.reduceAdd, Nat.reduceLeDiff, Nat.zero_add, Bool.false_eq_true, if_false, beq_self_eq_true, ty_api_Node, any20, dN_agg, o_backstepref03_Expr, b2]
    with_reducible refine hR _ ?_
    clear hR R
    show X _ _ _ _
    refine X_ite (by simp only [ev, List.getElem?_cons_succ, List.getElem?_cons_zero, Option.getD_some]; exact rfl) ?_ ?_
    · intro b3
      have c3 := b3
      try simp only [Bool.not_eq_true'] at c3
      refine X_seq ?_
      refine X_rg fun R hR => ?_
      simp only [aops, astep, awant, aeff, aop, ev, ofValue, St.put, Option.getD_some, Option.map_some, if_true, List.set_cons_succ, List.set_cons_zero, Bool.not_false, c3]
      with_reducible refine hR _ ?_
      clear hR R
      show X _ _ _ _
      refine X_ret ?_
      show resD _ _ _ = some _
      simp only [resD, resAll, resOne, resTup, Try.results5, EVP, List.getElem?_cons_succ, List.getElem?_cons_zero, D.good, if_true, Option.map_some] <;> (first | (rfl; done) | (simp_all; done) | (exfalso; simp_all; done))
    · intro b4
      have c4 := b4
      try simp only [Bool.not_eq_false'] at c4
      refine X_skip ?_
      show X _ _ _ _
      refine X_seq ?_
      have hb : bigB t = false := by simp_all
      have hs := (bigB_no hb).1
      have hz := exprT_size t
      have hE := hev t (by omega)
      refine X_rg fun R hR => ?_
      simp only [EVP, aops, astep, awant, aeff, aop, mkD, ev, St.put, pcall, List.map_cons, List.map_nil, List.getElem?_cons_succ, List.getElem?_cons_zero, Option.getD_some, Option.map_some, if_true, List.set_cons_succ, List.set_cons_zero, List.length_cons, List.length_nil, List.drop_zero, List.take_succ_cons, List.take_zero, List.cons_append, List.nil_append, Nat.reduceAdd, Nat.reduceLeDiff, Nat.zero_add, Bool.not_true, ty_api_Node, any21, dN_agg, c4, hE]
      with_reducible refine hR _ ?_
      clear hR R
      show X _ _ _ _
      refine X_seq ?_
      have hX := expr_fn t (by omega)
      have hE2 := hev (exprT t) (by omega)
      rw [eval_expr] at hE2
      refine X_rg fun R hR => ?_
      simp only [EVP, aops, astep, awant, aeff, aop, mkD, ev, St.put, pcall, List.map_cons, List.map_nil, List.getElem?_cons_succ, List.getElem?_cons_zero, Option.getD_some, Option.map_some, if_true, List.set_cons_succ, List.set_cons_zero, List.length_cons, List.length_nil, List.drop_zero, List.take_succ_cons, List.take_zero, List.cons_append, List.nil_append, Nat.reduceAdd, Nat.reduceLeDiff, Nat.zero_add, ty_api_Node, any16, any21, dN_agg, hX, hE2]
      with_reducible refine hR _ ?_
      clear hR R
      show X _ _ _ _
      refine X_seq ?_
      refine X_rg fun R hR => ?_
      simp only [aops, astep, awant, aeff, aop, abin, aint, ev, ofValue, St.put, List.getElem?_cons_succ, List.getElem?_cons_zero, Option.getD_some, Option.map_some, Option.bind_some, if_true, List.set_cons_succ, List.set_cons_zero, beq_self_eq_true]
      with_reducible refine hR _ ?_
      clear hR R
      show X _ _ _ _
      refine X_ret ?_
      show resD _ _ _ = some _
      simp only [resD, resAll, resOne, resTup, Try.results5, EVP, List.getElem?_cons_succ, List.getElem?_cons_zero, D.good, if_true, Option.map_some] <;> (first | (rfl; done) | (simp_all; done) | (exfalso; simp_all; done))

def prD (p : ByteArray × List Int) : List D := [dS p.1, sl 1 (p.2.map dI)]
def dM (A : List (ByteArray × List Int)) : D := .cmap (A.flatMap prD)
def envA : List (ByteArray × List Int) → ByteArray → List Int
  | [], _ => []
  | p :: r, s => if s = p.1 then p.2 else envA r s
def neA : List (ByteArray × List Int) → ByteArray → Nat × Own
  | [], _ => (0, .nil)
  | p :: r, s => if s = p.1 then (if (p.2.map dI).isEmpty then 0 else 1, .imm) else neA r s
theorem mfind_A (s : ByteArray) : ∀ A : List (ByteArray × List Int), (mfind .string (.str s) (A.flatMap prD) = some none ∧ envA A s = [] ∧ neA A s = (0, .nil)) ∨ mfind .string (.str s) (A.flatMap prD) = some (some (.slice (neA A s).2 (neA A s).1 ((envA A s).map dI)))
  | [] => .inl ⟨rfl, rfl, rfl⟩
  | p :: r => by
    show (mfind .string (.str s) (dS p.1 :: sl 1 (p.2.map dI) :: r.flatMap prD) = some none ∧ _) ∨ mfind .string (.str s) (dS p.1 :: sl 1 (p.2.map dI) :: r.flatMap prD) = _
    by_cases h : s = p.1
    · right
      subst h
      simp only [mfind, sameK, dS, decide_true, envA, neA, if_true]; rfl
    · simp only [mfind, sameK, dS, h, decide_false, envA, neA, if_false]
      exact mfind_A s r
theorem look_A (A : List (ByteArray × List Int)) (s : ByteArray) (bx : Nat → Option (List D)) : alook Try.prog bx 62 (dM A) (.str s) false = some (.slice (neA A s).2 (neA A s).1 ((envA A s).map dI)) := by
  have h1 : Try.prog.underlying 62 = some (.map 9 44) := by kernel_rfl
  have h2 : ((Try.prog.info? 44).bind (·.zero)).bind ofValue = some (.slice .nil 0 []) := by kernel_rfl
  rcases mfind_A s A with ⟨q, e1, e2⟩ | q
  · simp only [alook, h1, und_string', keyOk, dM, mcont, q, h2, if_true, Bool.false_eq_true, if_false, e1, e2]; rfl
  · simp only [alook, h1, und_string', keyOk, dM, mcont, q, if_true, Bool.false_eq_true, if_false, D.isAgg, D.good, and_self]
theorem neA_1 (s : ByteArray) : ∀ A : List (ByteArray × List Int), ¬ (envA A s).length = 0 → (neA A s).1 = 1
  | [], h => absurd rfl h
  | p :: r, h => by
    unfold envA at h; unfold neA
    split
    · rename_i q; rw [if_pos q] at h
      rw [if_neg]
      simp only [List.isEmpty_iff, List.map_eq_nil_iff]
      intro e; rw [e] at h; exact h rfl
    · rename_i q; rw [if_neg q] at h; exact neA_1 s r h
theorem envA_le (s : ByteArray) : ∀ A : List (ByteArray × List Int), (∀ p ∈ A, p.2.length ≤ 9223372036854775807) → (envA A s).length ≤ 9223372036854775807
  | [], _ => by simp [envA]
  | p :: r, h => by
    unfold envA
    split
    · exact h p (by simp)
    · exact envA_le s r fun q hq => h q (by simp [hq])
theorem prs_strips : ∀ A : List (ByteArray × List Int), D.strips (A.flatMap prD) = A.flatMap prD
  | [] => rfl
  | p :: r => by
    show D.strips (dS p.1 :: sl 1 (p.2.map dI) :: r.flatMap prD) = dS p.1 :: sl 1 (p.2.map dI) :: r.flatMap prD
    simp only [D.strips, prs_strips r, dS, D.strip, sl_strip (map_strip (f := dI) (fun _ => rfl) _)]
theorem prs_unders (m : Nat) : ∀ A : List (ByteArray × List Int), D.unders m (A.flatMap prD) = true
  | [] => rfl
  | p :: r => by
    show D.unders m (dS p.1 :: sl 1 (p.2.map dI) :: r.flatMap prD) = true
    simp only [D.unders, prs_unders m r, dS, D.under, sl_under (map_under (f := dI) (fun _ => rfl) _), Bool.and_true]
theorem dM_strip (A : List (ByteArray × List Int)) : (dM A).strip = dM A := by unfold dM; simp only [D.strip, prs_strips]
theorem dM_under (m : Nat) (A : List (ByteArray × List Int)) : (dM A).under m = true := prs_unders m A
theorem eval_all (m : D) (env : ByteArray → List Int) (oe : ByteArray → Own) (ne : ByteArray → Nat) (hm : ∀ s bx, alook Try.prog bx 62 m (.str s) false = some (.slice (oe s) (ne s) ((env s).map dI))) (hen : ∀ s, ¬ (env s).length = 0 → ne s = 1) (henl : ∀ s, (env s).length ≤ 9223372036854775807) (hmu : m.under 0 = true) (hmg : m.good = true) (hms : m.strip = m) (t : Tr) : t.size ≤ 1000000 → fn EV 21 [dN t, m] = some (.tup [.int .i64 (evalT env t).1, .int .i64 (evalT env t).2]) := by
  induction t using Tr.ind with
  | h k n s c ih => exact fun hs => eval_at m env oe ne hm hen henl hmu hmg hms _ hs (fun x hx' => ih x hx' (by have := Tr.kid_size hx'; omega))
theorem vals2 {w : World} {g : Gh} {d d' : D} {v v' : Value} (h : val w g d v) (h' : val w g d' v') : vals w g [d, d'] [v, v'] := ⟨rfl, fun j h1 h2 => by
  match j, h1, h2 with
  | 0, _, _ => exact h
  | 1, _, _ => exact h'
  | j + 2, h1, _ => simp at h1; omega⟩
theorem str_key {v : Value} {l : Lit} (h : keyOf Try.prog 9 v = some l) : ∃ s, v = .string s ∧ s.size ≤ 9223372036854775807 := by
  rw [keyOf_string Try.underlying9] at h
  unfold mapKey at h
  rw [Try.underlying9] at h
  cases v <;> simp at h
  rename_i s
  exact ⟨s, rfl, h.1⟩
set_option maxRecDepth 100000 in
theorem formed_slice {v : Value} (h : v.formed Try.prog 44 = true) : v.cells.toList = [v] := by
  unfold Value.formed at h
  rw [Try.underlying44] at h
  cases v <;> first | rfl | (simp at h; done)
theorem sl_le {w : World} {g : Gh} {o : Own} {n : Nat} {l : List D} {vs : List Value} (h : R w g (.slice o n l) vs) : l.length ≤ 9223372036854775807 := by
  cases h with
  | slice _ _ _ A cap cs h1 h2 => exact Nat.le_trans h1 h2
theorem pr_len : ∀ A : List (ByteArray × List Int), (A.flatMap prD).length = 2 * A.length
  | [] => rfl
  | p :: r => by
    show (dS p.1 :: sl 1 (p.2.map dI) :: r.flatMap prD).length = _
    simp only [List.length_cons, pr_len r]; omega
theorem flat_get {α : Type} (f g : α → D) : ∀ (L : List α) (j : Nat) (x : α), L[j / 2]? = some x → (L.flatMap fun x => [f x, g x])[j]? = some (if j % 2 = 0 then f x else g x)
  | [], _, _, h => by simp at h
  | a :: r, 0, x, h => by simp at h; subst h; rfl
  | a :: r, 1, x, h => by simp at h; subst h; rfl
  | a :: r, j + 2, x, h => by
    have e : (j + 2) / 2 = j / 2 + 1 := by omega
    rw [e, List.getElem?_cons_succ] at h
    have := flat_get f g r j x h
    rw [List.flatMap_cons]
    have e2 : (j + 2) % 2 = j % 2 := by omega
    rw [e2]
    exact this
set_option maxRecDepth 100000 in
theorem arg_env {H : Type} {enc : TypeId × Value → H} {W : World} {base : Nat} {spare : Nat → Bool} {held : Bool} {r : Reach} {b0 : Nat} {v : Value} {d : DataW H} {p : List MemPlace} (hv : Value.okWide Try.prog W r b0 33 v) (h : DataW.Trod enc Try.prog W base spare held 33 v d p) :
    ∃ (m : D) (env : ByteArray → List Int), val W (gW W) m v ∧ m.under 0 = true ∧ m.good = true ∧ m.strip = m ∧ m.isAgg = false ∧ ∀ x : Tr, x.size ≤ 1000000 → fn EV 21 [dN x, m] = some (.tup [.int .i64 (evalT env x).1, .int .i64 (evalT env x).2]) := by
  obtain ⟨a, rfl⟩ := okWide_map Try.underlying33 hv
  obtain ⟨fuel, hf⟩ := h
  rcases Go.WideElems.open_map Try.underlying33 hf with ⟨e, _⟩ | ⟨b, es, clock, n, rfl, e, hb, hbase, F, _⟩
  · simp only [Value.cells, List.cons.injEq, Value.map.injEq, and_true] at e
    subst e
    exact ⟨.nmap, nilE, val_of_R .nmap rfl, rfl, rfl, rfl, rfl, eval_nil⟩
  · simp only [Value.cells, List.cons.injEq, Value.map.injEq, and_true] at e
    subst e
    have hk : ∀ x : MapEntry, ∃ q : ByteArray × List Int, x ∈ es.toList → R W (gW W) (dS q.1) [x.key] ∧ R W (gW W) (sl 1 (q.2.map dI)) [x.val] ∧ q.2.length ≤ 9223372036854775807 := by
      intro x
      by_cases hx : x ∈ es.toList
      · obtain ⟨y, hy⟩ := F.reads x hx
        unfold Go.WideElems.rd at hy
        rw [Option.bind_eq_some_iff] at hy
        obtain ⟨key, hkey, hy⟩ := hy
        obtain ⟨s, hs, hsz⟩ := str_key hkey
        rw [Option.map_eq_some_iff] at hy
        obtain ⟨z, hz, _⟩ := hy
        unfold Go.WideElems.elemAt at hz
        split at hz
        · rename_i hfm
          rw [formed_slice hfm] at hz
          obtain ⟨l, hl⟩ := arg_ints hz
          refine ⟨(s, l), fun _ => ⟨by rw [hs]; exact .str s hsz, hl, ?_⟩⟩
          simpa using sl_le hl
        · cases hz
      · exact ⟨(⟨#[]⟩, []), fun q => absurd q hx⟩
    obtain ⟨T, hT⟩ := Classical.axiomOfChoice hk
    have hA : ∀ q ∈ es.toList.map T, q.2.length ≤ 9223372036854775807 := fun q hq => by
      obtain ⟨x, hx, rfl⟩ := List.mem_map.1 hq
      exact (hT x hx).2.2
    refine ⟨dM (es.toList.map T), envA (es.toList.map T), val_of_R (.cmap _ b es clock (Array.getElem?_eq_some_iff.1 hb).1 hb ?_ ?_) rfl, dM_under 0 _, rfl, dM_strip _, rfl, eval_all _ _ (fun s => (neA (es.toList.map T) s).2) (fun s => (neA (es.toList.map T) s).1) (fun s bx => look_A _ s bx) (fun s => neA_1 s _) (fun s => envA_le s _ hA) (dM_under 0 _) rfl (dM_strip _)⟩
    · rw [pr_len]; simp
    · intro j hj
      have hlen : ((es.toList.map T).flatMap prD).length = 2 * es.size := by rw [pr_len]; simp
      have hj2 : j / 2 < es.size := by omega
      have hx : es.toList[j / 2]? = some es[j / 2] := by rw [Array.getElem?_toList, Array.getElem?_eq_getElem hj2]
      have hg := flat_get (fun q : ByteArray × List Int => dS q.1) (fun q => sl 1 (q.2.map dI)) (es.toList.map T) j (T es[j / 2]) (by rw [List.getElem?_map, hx]; rfl)
      have hg' : ((es.toList.map T).flatMap prD)[j] = if j % 2 = 0 then dS (T es[j / 2]).1 else sl 1 ((T es[j / 2]).2.map dI) := by
        have := (List.getElem?_eq_getElem hj).symm.trans hg
        exact Option.some.inj this
      rw [hg']
      have ht := hT es[j / 2] (by simp)
      unfold ent
      rw [Array.getElem?_eq_getElem hj2]
      simp only
      split
      · exact ht.1
      · exact ht.2.1
set_option maxRecDepth 100000 in
theorem constfoldValue_lifted (os : Os) (started : os.Started) (H : Type) (enc : TypeId × Value → H) :
    ReturnsInHanded {} Try.checked os 5 .any (Rows.constfoldValueSpec.pre6 enc Try.prog Try.f5 Rows.constfoldValueRow.domain false) (Rows.constfoldValueSpec.post enc Try.prog Try.f5 false true false false) := by
  refine returnsInHanded_of_change (C := Try.checked) prog_own started (by kernel_rfl) Try.func5
    (ChangeSpec.witness6 (enc := enc) (C := Try.checked) false ⟨#[], #[.agg #[.int .u8 0, .int .i64 0, .string ⟨#[]⟩, .slice none 0 0], .map none], []⟩ 8 (by kernel_rfl) (by kernel_rfl) (by kernel_rfl) (by kernel_rfl)) ?_
  intro W base args ds gs before hval0 hW _ _
  have hval : ∀ (j : Nat) t v, Try.f5.params[j]? = some t → args[j]? = some v → Value.okWide Try.prog W .any base t v := hval0
  have hW' : DataW.Whole enc Try.prog Try.f5.params.toList Rows.constfoldValueSpec.vars false W args.toList ds gs before := hW
  obtain ⟨p, q, hA0, hV, rfl, _, _⟩ := hW
  have hA : DataW.TrodAll enc Try.prog W 0 (fun _ => true) true Try.f5.params.toList args.toList ds p := hA0
  rw [Try.params5] at hA hval
  obtain ⟨v0, v1, d0, d1, p0, p1, rfl, rfl, rfl, h0, h1⟩ := trodAll_two hA
  obtain ⟨g0, hg0⟩ := arg_agg Try.underlying24 (hval 0 24 v0 rfl rfl) h0 (fun x => dN_isAgg x) (fun fuel => arg_node fuel)
  obtain ⟨m1, env1, hg1, a1, a2, a3, a4, a5⟩ := arg_env (hval 1 33 v1 rfl rfl) h1
  refine (law_calls EV_ok (law5_fn g0 m1 env1 a1 a2 a3 a4 a5) (vals2 hg0 hg1)).mono fun e W' ⟨he, hb⟩ => ?_
  subst he
  exact ⟨_, rfl, law_post hW' rfl rfl (by rw [Try.params5]; intro t ht; simp at ht; rcases ht with rfl | rfl <;> exact ⟨by kernel_rfl, of_decide_eq_true (by kernel_rfl)⟩) rfl hb⟩

theorem constfoldValue_holds : Rows.ConstfoldValueSaid :=
  OpenClaim.holds_of_wide 5 Try.f5 rfl rfl rfl rfl rfl rfl rfl ⟨rfl, rfl, rfl, rfl, rfl⟩ rfl rfl rfl rfl rfl (by kernel_rfl) Try.func5 (by kernel_rfl)
    (of_decide_eq_true (by kernel_rfl)) (by unfold Func.isWrapper; first | (rw [if_pos (by decide +kernel)]; kernel_rfl) | (rw [if_neg (by decide +kernel)]; exact ⟨rfl, rfl⟩))
    (fun os started H enc _ => constfoldValue_lifted os started H enc)

end Go.Proofs.Ytlpgapmbajblmaa
