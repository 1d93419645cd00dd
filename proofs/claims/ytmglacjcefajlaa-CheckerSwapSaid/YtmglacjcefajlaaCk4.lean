/- Great returns a number. -/
import Derived.Test.YtmglacjcefajlaaCk2
namespace Go.Proofs.Ytmglacjcefajlaa
open Go.RowKit

theorem fn_XE {E : Env} {k : Nat} {args : List D} {f : Func} {body : Code} {Φ : D → Prop} (hfs : E.fs k = true) (hf : E.P.funcs[k]? = some f) (hb : f.body = some body) (hp : plain args = true) (ho : E.orc k (args.map D.strip) = none)
  (h : X E body (enterSt f (args.map D.strip) [] 0 []) (fun e σ => (e = .normal ∨ e = .ret) ∧ ∃ d, resD E.P f σ = some d ∧ d.under 0 = true ∧ Φ d.strip)) : ∃ d, fn E k args = some d ∧ Φ d := by
 obtain ⟨e, σ1, h1, he, d, h2, h3, h4⟩ := h
 refine ⟨d.strip, fn_Xs hfs hf hb hp ho ⟨e, σ1, h1, ?_⟩, h4⟩
 rcases he with rfl | rfl
 ·exact ⟨d, h2, h3, rfl⟩
 ·exact ⟨d, h2, h3, rfl⟩
theorem tk_size (t : Tr) : t.size = 1 + Tr.sizes t.kids := by cases t; simp only [Tr.size, Tr.kids]; omega
theorem tk_app : ∀ l m : List Tr, Tr.sizes (l ++ m) = Tr.sizes l + Tr.sizes m
 | [], _ => by simp [Tr.sizes]
 | t :: r, m => by rw [zca, Tr.sizes, Tr.sizes, tk_app r m]; omega
theorem tk_sizes (l : List Tr) (i : Nat) (h : i < l.length) : Tr.sizes (l.take (i + 1)) = Tr.sizes (l.take i) + l[i].size := by
 rw [List.take_succ_eq_append_getElem h, tk_app]; simp [Tr.sizes]
theorem int_pred {z : Int} (h : -9223372036854775807 ≤ z) (h' : z ≤ 9223372036854775807) : IntKind.i64.wrap (z - 1) = z - 1 := by
 simp only [IntKind.wrap, IntKind.bits, IntKind.signed]; simp; omega
set_option maxRecDepth 100000 in
set_option maxHeartbeats 4000000 in
theorem small_at (t : Tr) (ih : ∀ x ∈ t.kids, ∀ (d l : Int) (B0 : List (List D)) (nx : Nat) (lv : List Nat) (b : Nat), 0 ≤ d → d ≤ 24 → 0 ≤ l → l ≤ 200 → B0[b]? = some [.int .i64 l] → Free B0 → ∃ d' B' nx' lv', (∀ fr, cal EV 50 [dN x, .int .i64 d, .ptr b 0] ⟨fr, B0, nx, lv⟩ = some (d', ⟨fr, B', nx', lv'⟩)) ∧ (fun d' B' nx' lv' => ∃ (q : Bool) (l' : Int), d' = .bool q ∧ B' = B0.set b [.int .i64 l'] ∧ nx' = nx ∧ lv' = lv ∧ l' ≤ l - 1 ∧ -1 ≤ l' ∧ (q = true → 0 ≤ l' ∧ (x.size : Int) ≤ l - l')) d' B' nx' lv') (d l : Int) (B0 : List (List D)) (nx : Nat) (lv : List Nat) (b : Nat) (h0 : 0 ≤ d) (h1 : d ≤ 24) (h2 : 0 ≤ l) (h3 : l ≤ 200) (hb : B0[b]? = some [.int .i64 l]) (hfr : Free B0) : ∃ d' B' nx' lv', (∀ fr, cal EV 50 [dN t, .int .i64 d, .ptr b 0] ⟨fr, B0, nx, lv⟩ = some (d', ⟨fr, B', nx', lv'⟩)) ∧ (fun d' B' nx' lv' => ∃ (q : Bool) (l' : Int), d' = .bool q ∧ B' = B0.set b [.int .i64 l'] ∧ nx' = nx ∧ lv' = lv ∧ l' ≤ l - 1 ∧ -1 ≤ l' ∧ (q = true → 0 ≤ l' ∧ (t.size : Int) ≤ l - l')) d' B' nx' lv' := by
 refine cal_XE rfl Try.func50 rfl (by simp [plain, D.under]) ?_
 simp only [enterSt, Try.ntmps50, zlc, zln, Nat.reduceAdd, Nat.reduceSub, zr1, zr0, zca, zna]
 refine X_seq ?_
 refine X_rc fun R hR => ?_
 simp only [aops, astep, awant, aeff, aop, ev, ofValue, St.put, zg0, zgd, zmo, if_true, zs1, zs0, dN_cells, dN_good, sl]
 with_reducible refine hR _ ?_
 clear hR R
 show X _ _ _ _
 refine X_seq ?_
 refine X_seq ?_
 have hb1 := fun x => snoc_get hb [x]
 have hw := int_pred (z := l) (by omega) (by omega)
 refine X_rc fun R hR => ?_
 simp only [EVP, inr_i64, Int.reduceLE, Int.reduceNeg, aops, astep, awant, aeff, aop, abin, aint, mkD, astore, ev, ofValue, St.put, gd_int, ia_int, cl_int, zg1, zg0, zgd, zmo, if_true, zs1, zs0, zlc, zln, zd1, zd0, zt1, zt0, zca, zna, Nat.reduceLeDiff, Nat.zero_add, zft, if_false, and_self, ty_int, hb1, hw]
 with_reducible refine hR _ ?_
 clear hR R
 show X _ _ _ _
 refine X_seq ?_
 refine X_yC ?_
 refine Y_kC 5 fun R hR => ?_
 simp only [EVP, inr_i64, Int.reduceLE, Int.reduceNeg, aops, astep, awant, aeff, aop, abin, aint, mkD, ev, ofValue, St.put, ia_int, zg1, zg0, zgd, zmo, if_true, zs1, zs0, zlc, zln, zd0, zt1, zt0, Nat.reduceLeDiff, Nat.zero_add, zft, if_false, and_self, ty_int, lim_get hb]
 with_reducible refine hR _ ?_
 clear hR R
 simp only [zd1, zd0]
 refine Y_ifC 18 (by simp only [ev, zg1, zg0, zgd]; exact rfl) ?_ ?_
 ·intro b1
  have c1 := b1
  try simp only [decide_eq_true_eq] at c1
  refine Y_endC fun R hR => ?_
  simp only [EVP, inr_i64, Int.reduceLE, Int.reduceNeg, aops, astep, awant, aeff, aop, abin, ev, ofValue, St.put, zg1, zg0, zgd, zmo, Option.map_none, zbs, if_true, zs1, zs0, Nat.zero_add, zft, if_false, and_self, reduceCtorEq, bq_tf, ty_string, ty_api_Node, und_string', b1]
  with_reducible refine hR _ ?_
  clear hR R
  show X _ _ _ _
  refine X_true (by simp only [ev, zg1, zg0, zgd]) ?_
  refine X_seq ?_
  refine X_rc fun R hR => ?_
  simp only [aops, astep, awant, aeff, aop, ev, ofValue, St.put, zgd, zmo, if_true, zs1, zs0]
  with_reducible refine hR _ ?_
  clear hR R
  show X _ _ _ _
  refine X_ret ?_
  show _ ∧ _
  refine ⟨.inr rfl, .bool false, by simp only [resD, resAll, resOne, resTup, Try.results50, EVP, zg1, zg0, D.good, if_true, zmo], rfl, by simp, ?_, false, l - 1, rfl, lim_take0, rfl, rfl, by omega, by omega, fun q => by cases q⟩
  rw [lim_take0]; exact (hfr.set (fun _ => rfl) b).all _
 ·intro b2
  have c2 := b2
  try simp only [decide_eq_false_iff_not, Int.not_lt] at c2
  refine Y_kC 4 fun R hR => ?_
  simp only [EVP, inr_i64, Int.reduceLE, Int.reduceNeg, aops, astep, awant, aeff, aop, abin, aint, ev, ofValue, St.put, zg1, zg0, zgd, zmo, zbs, if_true, zs1, zs0, zt1, zt0, zft, if_false, and_self, beq_self_eq_true, b2]
  with_reducible refine hR _ ?_
  clear hR R
  simp only [zd1, zd0]
  refine Y_ifC 22 (by simp only [ev, zg1, zg0, zgd]; exact rfl) ?_ ?_
  ·intro b3
   have c3 := b3
   try simp only [beq_iff_eq] at c3
   refine Y_endC fun R hR => ?_
   simp only [EVP, inr_i64, Int.reduceLE, Int.reduceNeg, aops, astep, awant, aeff, aop, abin, ev, ofValue, St.put, zg1, zg0, zgd, zmo, Option.map_none, zbs, if_true, zs1, zs0, Nat.zero_add, zft, if_false, and_self, reduceCtorEq, bq_tf, ty_string, ty_api_Node, und_string', b3]
   with_reducible refine hR _ ?_
   clear hR R
   show X _ _ _ _
   refine X_true (by simp only [ev, zg1, zg0, zgd]) ?_
   refine X_seq ?_
   refine X_rc fun R hR => ?_
   simp only [aops, astep, awant, aeff, aop, ev, ofValue, St.put, zgd, zmo, if_true, zs1, zs0]
   with_reducible refine hR _ ?_
   clear hR R
   show X _ _ _ _
   refine X_ret ?_
   show _ ∧ _
   refine ⟨.inr rfl, .bool false, by simp only [resD, resAll, resOne, resTup, Try.results50, EVP, zg1, zg0, D.good, if_true, zmo], rfl, by simp, ?_, false, l - 1, rfl, lim_take0, rfl, rfl, by omega, by omega, fun q => by cases q⟩
   rw [lim_take0]; exact (hfr.set (fun _ => rfl) b).all _
  ·intro b4
   have c4 := b4
   try simp only [ne_eq, beq_eq_false_iff_ne] at c4
   refine Y_endC fun R hR => ?_
   simp only [EVP, inr_i64, Int.reduceLE, Int.reduceNeg, aops, astep, awant, aeff, aop, abin, aint, mkD, ev, ofValue, St.put, ia_str, zg1, zg0, zgd, zmo, zbs, if_true, zs1, zs0, zlc, zln, zd1, zd0, zt1, zt0, Nat.reduceAdd, Nat.reduceLeDiff, Nat.zero_add, zft, if_false, and_self, reduceCtorEq, beq_self_eq_true, ty_string, ty_api_Node, und_string', lim_last hb, b4]
   with_reducible refine hR _ ?_
   clear hR R
   show X _ _ _ _
   refine X_ite (by simp only [ev, zg1, zg0, zgd]; exact rfl) ?_ ?_
   ·intro b5
    have c5 := b5
    try simp only [decide_eq_true_eq, gt_iff_lt] at c5
    refine X_seq ?_
    refine X_rc fun R hR => ?_
    simp only [aops, astep, awant, aeff, aop, ev, ofValue, St.put, zgd, zmo, if_true, zs1, zs0, b5]
    with_reducible refine hR _ ?_
    clear hR R
    show X _ _ _ _
    refine X_ret ?_
    show _ ∧ _
    refine ⟨.inr rfl, .bool false, by simp only [resD, resAll, resOne, resTup, Try.results50, EVP, zg1, zg0, D.good, if_true, zmo], rfl, by simp, ?_, false, l - 1, rfl, lim_take0, rfl, rfl, by omega, by omega, fun q => by cases q⟩
    rw [lim_take0]; exact (hfr.set (fun _ => rfl) b).all _
   ·intro b6
    have c6 := b6
    try simp only [decide_eq_false_iff_not, Int.not_lt, gt_iff_lt] at c6
    refine X_skip ?_
    show X _ _ _ _
    refine X_seq ?_
    refine X_seq ?_
    refine X_rc fun R hR => ?_
    simp only [EVP, inr_i64, Int.reduceLE, Int.reduceNeg, aops, astep, awant, aeff, aop, mkD, ev, ofValue, St.put, ia_slice, zg1, zg0, zgd, zmo, if_true, zs1, zs0, zlm, zlc, zln, zd1, zd0, zt1, zt0, Nat.reduceAdd, Nat.reduceLeDiff, Nat.zero_add, zft, if_false, and_self, reduceCtorEq, ty_s_api_Node, ty_api_Node, und_api_Node, lim_last hb, b6]
    with_reducible refine hR _ ?_
    clear hR R
    show X _ _ _ _
    refine X_block ?_
    refine X_loop (fun m σ => ∃ (i : Nat) (ml : Int) (B : List (List D)), σ = ⟨[slotOf σ 0, .int .i64 d, .ptr b 0, slotOf σ 3, slotOf σ 4, slotOf σ 5, slotOf σ 6, slotOf σ 7, slotOf σ 8, slotOf σ 9, slotOf σ 10, slotOf σ 11, slotOf σ 12, slotOf σ 13, slotOf σ 14, slotOf σ 15, slotOf σ 16, slotOf σ 17, slotOf σ 18, slotOf σ 19, slotOf σ 20, slotOf σ 21, slotOf σ 22, slotOf σ 23, slotOf σ 24, slotOf σ 25, slotOf σ 26, slotOf σ 27, slotOf σ 28, .slice .imm (if (t.kids.map dN).isEmpty = true then 0 else 4) (t.kids.map dN), .int .i64 t.kids.length, .int .i64 i, slotOf σ 32, slotOf σ 33, slotOf σ 34, slotOf σ 35, slotOf σ 36, slotOf σ 37, slotOf σ 38, slotOf σ 39, slotOf σ 40, slotOf σ 41], B, nx, lv⟩ ∧ m = t.kids.length - i ∧ i ≤ t.kids.length ∧ 0 ≤ ml ∧ ml + i ≤ l - 1 ∧ ml + 1 + (Tr.sizes (t.kids.take i) : Int) ≤ l ∧ B0.length ≤ B.length ∧ B[b]? = some [.int .i64 ml] ∧ Hid (B.take B0.length = B0.set b [.int .i64 ml]) ∧ Hid (Free B)) ?_ (t.kids.length) _ ?_
    rotate_left
    ·exact ⟨0, l - 1, _, rfl, rfl, Nat.zero_le _, by simp at *; omega, by omega, by simp only [zt0, Tr.sizes]; omega, by simp, lim_get hb, Lib.hid lim_take0, Lib.hid ((hfr.snoc (fc9 t)).set (fun _ => rfl) b)⟩
    rintro m σ ⟨i, ml, B, hσ, rfl, hi, hm0, hm, hsz, hlB, hB, hT, hF⟩
    generalize slotOf σ = x at hσ
    subst hσ
    refine X_seq ?_
    refine X_rc fun R hR => ?_
    simp only [nat_lt, aops, astep, awant, aeff, aop, abin, aint, ev, St.put, zg1, zg0, zgd, zmo, if_true, zs1, zs0]
    with_reducible refine hR _ ?_
    clear hR R
    show X _ _ _ _
    refine X_seq ?_
    refine X_ite (by simp only [ev, zg1, zg0, zgd]; exact rfl) ?_ ?_
    ·intro b7
     have c7 := b7
     try simp only [decide_eq_true_eq] at c7
     refine X_skip ?_
     show X _ _ _ _
     refine X_seq ?_
     refine X_block ?_
     refine X_seq ?_
     have hlt : i < t.kids.length := by first | assumption | omega
     have hn1 : ((if (t.kids.map dN).isEmpty = true then 0 else 4) = 4) = True := eq_true (sl_n (j := i) (by simpa using hlt))
     have e1 : (t.kids.map dN)[i]? = some (dN t.kids[i]) := by simp [hlt]
     refine X_rc fun R hR => ?_
     simp only [EVP, app_get0, app_set0, nat_lt, nat_0, nat_to, aops, astep, awant, aeff, aop, astore, ev, St.put, zg1, zg0, zgd, zmo, zbs, if_true, zs1, zs0, zlm, zlc, zln, zd1, zd0, zt0, zca, zna, Nat.reduceAdd, Nat.reduceLeDiff, Nat.zero_add, and_self, decide_true, zis, ty_api_Node, und_api_Node, siz_api_Node, inf_api_Node_eq, dN_cells, dN_isAgg, dN_good, sl, hlt, hn1, e1]
     with_reducible refine hR _ ?_
     clear hR R
     show X _ _ _ _
     refine X_seq ?_
     have hd1 : 1 ≤ d := by simp at *; omega
     have hwd := int_pred (z := d) (by omega) (by omega)
     obtain ⟨dd, B', nx', lv', hc, q, l', rfl, rfl, rfl, rfl, hl1, hl2, hl3⟩ := ih t.kids[i] (List.getElem_mem hlt) (d - 1) ml (B ++ [[.int .u8 t.kids[i].kind, .int .i64 t.kids[i].num, .str t.kids[i].name, .slice .imm (if (t.kids[i].kids.map dN).isEmpty = true then 0 else 4) (t.kids[i].kids.map dN)]]) nx lv b (by omega) (by omega) hm0 (by omega) (snoc_get hB _) (hF.out.snoc (fc9 _))
     refine X_rc fun R hR => ?_
     simp only [EVP, inr_i64, Int.reduceLE, Int.reduceNeg, app_get0, aops, astep, awant, aeff, aop, abin, aint, mkD, ev, ofValue, St.put, zmc, zmn, zg1, zg0, zgd, zmo, if_true, zs1, zs0, zlc, zln, zd0, zt1, zt0, zca, zna, Nat.reduceAdd, Nat.reduceLeDiff, Nat.zero_add, and_self, ty_api_Node, any50, dN_agg, hwd, hc]
     with_reducible refine hR _ ?_
     clear hR R
     show X _ _ _ _
     refine X_ite (by simp only [ev, zg1, zg0, zgd]; exact rfl) ?_ ?_
     ·intro b8
      have c8 := b8
      try simp only [znt] at c8
      refine X_seq ?_
      refine X_rc fun R hR => ?_
      simp only [aops, astep, awant, aeff, aop, ev, ofValue, St.put, zgd, zmo, if_true, zs1, zs0, b8]
      with_reducible refine hR _ ?_
      clear hR R
      show X _ _ _ _
      refine X_ret ?_
      show _ ∧ _
      refine ⟨.inr rfl, .bool false, by simp only [resD, resAll, resOne, resTup, Try.results50, EVP, zg1, zg0, D.good, if_true, zmo], rfl, by simp; omega, ?_, false, l', rfl, ?_, rfl, rfl, by omega, hl2, fun q => by cases q⟩
      ·rw [lim_take hlB hT.out]; exact (hfr.set (fun _ => rfl) b).all _
      ·exact lim_take hlB hT.out
     ·intro b9
      have c9 := b9
      try simp only [znf] at c9
      refine X_skip ?_
      show X _ _ _ _
      have hbig : i < 9223372036854775807 := by omega
      refine X_rc fun R hR => ?_
      simp only [inr_i64, Int.reduceLE, Int.reduceNeg, aops, astep, awant, aeff, aop, abin, aint, ev, ofValue, St.put, zg1, zg0, zgd, zmo, if_true, zs1, zs0, and_self, b9, nat_succ hbig]
      with_reducible refine hR _ ?_
      clear hR R
      show ∃ m, m < _ ∧ _
      exact ⟨t.kids.length - (i + 1), by omega, i + 1, l', _, rfl, rfl, by omega, (hl3 (by first | assumption | (simp_all; done))).1, by omega, by have h8 := (hl3 (by first | assumption | (simp_all; done))).2; have h9 := tk_sizes t.kids i hlt; omega, by simp; omega, lim_get hB, Lib.hid (lim_take hlB hT.out), Lib.hid ((hF.out.snoc (fc9 _)).set (fun _ => rfl) b)⟩
    ·intro b10
     have c10 := b10
     try simp only [decide_eq_false_iff_not] at c10
     refine X_exit ?_
     show X _ _ _ _
     refine X_seq ?_
     refine X_rc fun R hR => ?_
     simp only [aops, astep, awant, aeff, aop, ev, ofValue, St.put, zgd, zmo, if_true, zs1, zs0, b10]
     with_reducible refine hR _ ?_
     clear hR R
     show X _ _ _ _
     refine X_ret ?_
     show _ ∧ _
     refine ⟨.inr rfl, .bool true, by simp only [resD, resAll, resOne, resTup, Try.results50, EVP, zg1, zg0, D.good, if_true, zmo], rfl, hlB, ?_, true, ml, rfl, hT.out, rfl, rfl, by omega, by omega, fun _ => ⟨hm0, by have h8 : t.kids.take i = t.kids := List.take_of_length_le (by first | omega | (simp_all; done) | (simp at *; omega)); rw [h8] at hsz; have h9 := tk_size t; omega⟩⟩
     rw [hT.out]; exact (hfr.set (fun _ => rfl) b).all _
theorem small_ex (t : Tr) : ∀ (d l : Int) (B0 : List (List D)) (nx : Nat) (lv : List Nat) (b : Nat), 0 ≤ d → d ≤ 24 → 0 ≤ l → l ≤ 200 → B0[b]? = some [.int .i64 l] → Free B0 → ∃ d' B' nx' lv', (∀ fr, cal EV 50 [dN t, .int .i64 d, .ptr b 0] ⟨fr, B0, nx, lv⟩ = some (d', ⟨fr, B', nx', lv'⟩)) ∧ (fun d' B' nx' lv' => ∃ (q : Bool) (l' : Int), d' = .bool q ∧ B' = B0.set b [.int .i64 l'] ∧ nx' = nx ∧ lv' = lv ∧ l' ≤ l - 1 ∧ -1 ≤ l' ∧ (q = true → 0 ≤ l' ∧ (t.size : Int) ≤ l - l')) d' B' nx' lv' := by
 induction t using Tr.ind with
 | h k n s c ih => exact small_at _ ih
set_option maxRecDepth 100000 in
set_option maxHeartbeats 4000000 in
theorem great_ex (t : Tr) : ∃ d, fn EV 28 [dN t] = some d ∧ ∃ q : Bool, d = .bool q ∧ (q = false → t.size ≤ 200) := by
 refine fn_XE rfl Try.func28 rfl (by simp only [plain, List.all_cons, List.all_nil, dN_pl, Bool.and_true]) rfl ?_
 simp only [zmc, zmn, dN_strip]
 simp only [enterSt, Try.ntmps28, zlc, zln, Nat.reduceAdd, Nat.reduceSub, zr1, zr0, zca, zna]
 refine X_seq ?_
 refine X_rg fun R hR => ?_
 simp only [aops, astep, awant, aeff, aop, ev, ofValue, St.put, zg0, zgd, zmo, if_true, zs1, zs0, zln, zna, dN_cells, dN_good, sl]
 with_reducible refine hR _ ?_
 clear hR R
 show X _ _ _ _
 refine X_seq ?_
 refine X_rg fun R hR => ?_
 simp only [EVP, inr_i64, Int.reduceLE, Int.reduceNeg, aops, astep, awant, aeff, astore, ev, ofValue, St.put, gd_int, cl_int, zg1, zg0, zgd, zmo, zbs, if_true, zs1, zs0, zlc, zln, zd1, zd0, zt0, zca, zna, Nat.reduceLeDiff, Nat.zero_add, and_self, ty_int]
 with_reducible refine hR _ ?_
 clear hR R
 show X _ _ _ _
 refine X_seq ?_
 obtain ⟨dd, B', nx', lv', hc, q, l', rfl, rfl, rfl, rfl, hl1, hl2, hl3⟩ := small_ex t 24 200 [[.int .u8 t.kind, .int .i64 t.num, .str t.name, .slice .imm (if (t.kids.map dN).isEmpty = true then 0 else 4) (t.kids.map dN)], [.int .i64 200]] 0 [] 1 (by omega) (by omega) (by omega) (by omega) rfl (by have := fr9 (r := []) Free.nil t t; intro cs hcs m; rcases List.mem_cons.1 hcs with rfl | hcs; exact fc9 t m; rcases List.mem_cons.1 hcs with rfl | hcs; rfl; cases hcs)
 refine X_rc fun R hR => ?_
 simp only [EVP, inr_i64, Int.reduceLE, Int.reduceNeg, aops, astep, awant, aeff, aop, mkD, ev, ofValue, St.put, zmc, zmn, zg1, zg0, zgd, zmo, if_true, zs1, zs0, zlc, zln, zd0, zt1, zt0, zca, zna, Nat.reduceAdd, Nat.reduceLeDiff, Nat.zero_add, and_self, ty_api_Node, any50, dN_agg, hc]
 with_reducible refine hR _ ?_
 clear hR R
 show X _ _ _ _
 refine X_ret ?_
 show _ ∧ _
 have hq9 : (!q) = false → t.size ≤ 200 := fun h => by have h9 := hl3 (by simpa using h); omega
 first | refine ⟨.inr rfl, .bool (!q), ?_, rfl, !q, rfl, hq9⟩ | refine ⟨.inl rfl, .bool (!q), ?_, rfl, !q, rfl, hq9⟩
 simp only [resD, resAll, resOne, resTup, Try.results28, EVP, zg1, zg0, D.good, if_true, zmo]
set_option maxRecDepth 100000 in
set_option maxHeartbeats 4000000 in
theorem great_q (p : Pg) : ∃ d, fn EV 12 [dG p] = some d ∧ ∃ q : Int, d = .int .i64 q ∧ (q = 1 ∨ (p.procs.length ≤ 5 ∧ p.main.size ≤ 200 ∧ ∀ f ∈ p.procs, f.body.size ≤ 200)) := by
 refine fn_XE rfl Try.func12 rfl (by simp only [plain, List.all_cons, List.all_nil, dG_pl, Bool.and_true]) rfl ?_
 simp only [zmc, zmn, dG_strip]
 simp only [enterSt, Try.ntmps12, zlc, zln, Nat.reduceAdd, Nat.reduceSub, zr1, zr0, zca, zna]
 refine X_seq ?_
 refine X_rg fun R hR => ?_
 simp only [inr_i64, Int.reduceLE, Int.reduceNeg, aops, astep, awant, aeff, aop, ev, ofValue, St.put, zg0, zgd, zmo, if_true, zs1, zs0, zln, zna, and_self, dG_cells, dG_good]
 with_reducible refine hR _ ?_
 clear hR R
 show X _ _ _ _
 refine X_seq ?_
 refine X_seq ?_
 obtain ⟨dm, hgm, qm, rfl, hqm⟩ := great_ex p.main
 refine X_y ?_
 refine Y_k 5 fun R hR => ?_
 simp only [EVP, inr_i64, Int.reduceLE, Int.reduceNeg, aops, astep, awant, aeff, aop, abin, aint, mkD, ev, ofValue, St.put, ia_slice, zg1, zg0, zgd, zmo, if_true, zs1, zs0, zlm, zlc, zln, zd0, zt1, zt0, Nat.reduceAdd, Nat.reduceLeDiff, Nat.zero_add, Nat.add_zero, zft, if_false, and_self, reduceCtorEq, ty_s_api_VarDecl, ty_api_Program, und_api_VarDecl]
 with_reducible refine hR _ ?_
 clear hR R
 simp only [zd1, zd0]
 refine Y_if 13 (by simp only [ev, zg1, zg0, zgd]; exact rfl) ?_ ?_
 ·intro b1
  have c1 := b1
  try simp only [decide_eq_true_eq, gt_iff_lt] at c1
  refine Y_end fun R hR => ?_
  simp only [EVP, inr_i64, Int.reduceLE, Int.reduceNeg, aops, astep, awant, aeff, aop, abin, ev, ofValue, St.put, pcall, zmc, zmn, zg1, zg0, zgd, zmo, Option.map_none, zbs, if_true, zs1, zs0, zca, zna, Nat.zero_add, zft, if_false, and_self, reduceCtorEq, bq_tf, ty_s_api_Proc, ty_api_Node, ty_api_Program, und_api_Proc, any28, b1]
  with_reducible refine hR _ ?_
  clear hR R
  show X _ _ _ _
  refine X_true (by simp only [ev, zg1, zg0, zgd]) ?_
  refine X_seq ?_
  refine X_rg fun R hR => ?_
  simp only [inr_i64, Int.reduceLE, Int.reduceNeg, aops, astep, awant, aeff, aop, ev, ofValue, St.put, zgd, zmo, if_true, zs1, zs0, and_self]
  with_reducible refine hR _ ?_
  clear hR R
  show X _ _ _ _
  refine X_ret ?_
  show _ ∧ _
  first | (refine ⟨.inr rfl, .int .i64 1, ?_, rfl, 1, rfl, .inl rfl⟩; simp only [resD, resAll, resOne, resTup, Try.results12, EVP, zg1, zg0, D.good, if_true, zmo]; done) | (refine ⟨.inr rfl, .int .i64 0, ?_, rfl, 0, rfl, .inr ⟨hA2, hqm0, ?_⟩⟩; (simp only [resD, resAll, resOne, resTup, Try.results12, EVP, mkD, ty_int, ty_bool, ty_uint8, ty_string, ty_s_int, ty_s_api_Node, ty_s_api_VarDecl, ty_s_api_Proc, ty_api_Node, ty_api_VarDecl, ty_api_Proc, ty_api_Program, st_api_Node, sta_api_Node, zg1, zg0, zd0, zt1, zt0, zlc, zln, Nat.reduceAdd, Nat.reduceLeDiff, Nat.zero_add, D.good, if_true, reduceIte, zft, if_false, D.isAgg, zmo]); (intro f hf; obtain ⟨j, hj, rfl⟩ := List.getElem_of_mem hf; exact hs j hj (by omega)))
 ·intro b2
  have c2 := b2
  try simp only [decide_eq_false_iff_not, Int.not_lt, gt_iff_lt] at c2
  refine Y_k 6 fun R hR => ?_
  simp only [EVP, inr_i64, Int.reduceLE, Int.reduceNeg, aops, astep, awant, aeff, aop, abin, aint, mkD, ev, ofValue, St.put, ia_slice, zg1, zg0, zgd, zmo, zbs, if_true, zs1, zs0, zlm, zlc, zln, zd1, zd0, zt1, zt0, Nat.reduceAdd, Nat.reduceLeDiff, Nat.zero_add, zft, if_false, and_self, reduceCtorEq, beq_self_eq_true, ty_s_api_Proc, ty_api_Program, und_api_Proc, b2]
  with_reducible refine hR _ ?_
  clear hR R
  simp only [zd1, zd0]
  refine Y_if 19 (by simp only [ev, zg1, zg0, zgd]; exact rfl) ?_ ?_
  ·intro b3
   have c3 := b3
   try simp only [decide_eq_true_eq, gt_iff_lt] at c3
   refine Y_end fun R hR => ?_
   simp only [EVP, aops, astep, awant, aeff, aop, ev, ofValue, St.put, pcall, zmc, zmn, zg1, zg0, zgd, zmo, Option.map_none, zbs, if_true, zs1, zs0, zca, zna, Nat.zero_add, zft, if_false, reduceCtorEq, bq_tf, ty_api_Node, ty_api_Program, any28, b3]
   with_reducible refine hR _ ?_
   clear hR R
   show X _ _ _ _
   refine X_true (by simp only [ev, zg1, zg0, zgd]) ?_
   refine X_seq ?_
   refine X_rg fun R hR => ?_
   simp only [inr_i64, Int.reduceLE, Int.reduceNeg, aops, astep, awant, aeff, aop, ev, ofValue, St.put, zgd, zmo, if_true, zs1, zs0, and_self]
   with_reducible refine hR _ ?_
   clear hR R
   show X _ _ _ _
   refine X_ret ?_
   show _ ∧ _
   first | (refine ⟨.inr rfl, .int .i64 1, ?_, rfl, 1, rfl, .inl rfl⟩; simp only [resD, resAll, resOne, resTup, Try.results12, EVP, zg1, zg0, D.good, if_true, zmo]; done) | (refine ⟨.inr rfl, .int .i64 0, ?_, rfl, 0, rfl, .inr ⟨hA2, hqm0, ?_⟩⟩; (simp only [resD, resAll, resOne, resTup, Try.results12, EVP, mkD, ty_int, ty_bool, ty_uint8, ty_string, ty_s_int, ty_s_api_Node, ty_s_api_VarDecl, ty_s_api_Proc, ty_api_Node, ty_api_VarDecl, ty_api_Proc, ty_api_Program, st_api_Node, sta_api_Node, zg1, zg0, zd0, zt1, zt0, zlc, zln, Nat.reduceAdd, Nat.reduceLeDiff, Nat.zero_add, D.good, if_true, reduceIte, zft, if_false, D.isAgg, zmo]); (intro f hf; obtain ⟨j, hj, rfl⟩ := List.getElem_of_mem hf; exact hs j hj (by omega)))
  ·intro b4
   have c4 := b4
   try simp only [decide_eq_false_iff_not, Int.not_lt, gt_iff_lt] at c4
   refine Y_end fun R hR => ?_
   simp only [EVP, aops, astep, awant, aeff, aop, mkD, ev, ofValue, St.put, pcall, zmc, zmn, zg1, zg0, zgd, zmo, zbs, if_true, zs1, zs0, zlc, zln, zd1, zd0, zt1, zt0, zca, zna, Nat.reduceAdd, Nat.reduceLeDiff, Nat.zero_add, zft, if_false, reduceCtorEq, beq_self_eq_true, ty_api_Node, ty_api_Program, any28, dN_agg, b4, hgm]
   with_reducible refine hR _ ?_
   clear hR R
   show X _ _ _ _
   refine X_ite (by simp only [ev, zg1, zg0, zgd]; exact rfl) ?_ ?_
   ·intro b5
    have c5 := b5
    try simp only [znt, znf, decide_eq_true_eq, decide_eq_false_iff_not, beq_iff_eq, Int.not_lt, Int.not_le, ge_iff_le, gt_iff_lt, bne_iff_ne, ne_eq, bne_eq_false_iff_eq, beq_eq_false_iff_ne, zat, zof] at c5
    refine X_seq ?_
    refine X_rg fun R hR => ?_
    simp only [inr_i64, Int.reduceLE, Int.reduceNeg, aops, astep, awant, aeff, aop, ev, ofValue, St.put, zgd, zmo, if_true, zs1, zs0, and_self, b5]
    with_reducible refine hR _ ?_
    clear hR R
    show X _ _ _ _
    refine X_ret ?_
    show _ ∧ _
    first | (refine ⟨.inr rfl, .int .i64 1, ?_, rfl, 1, rfl, .inl rfl⟩; simp only [resD, resAll, resOne, resTup, Try.results12, EVP, zg1, zg0, D.good, if_true, zmo]; done) | (refine ⟨.inr rfl, .int .i64 0, ?_, rfl, 0, rfl, .inr ⟨hA2, hqm0, ?_⟩⟩; (simp only [resD, resAll, resOne, resTup, Try.results12, EVP, mkD, ty_int, ty_bool, ty_uint8, ty_string, ty_s_int, ty_s_api_Node, ty_s_api_VarDecl, ty_s_api_Proc, ty_api_Node, ty_api_VarDecl, ty_api_Proc, ty_api_Program, st_api_Node, sta_api_Node, zg1, zg0, zd0, zt1, zt0, zlc, zln, Nat.reduceAdd, Nat.reduceLeDiff, Nat.zero_add, D.good, if_true, reduceIte, zft, if_false, D.isAgg, zmo]); (intro f hf; obtain ⟨j, hj, rfl⟩ := List.getElem_of_mem hf; exact hs j hj (by omega)))
   ·intro b6
    have c6 := b6
    try simp only [znt, znf, decide_eq_true_eq, decide_eq_false_iff_not, beq_iff_eq, Int.not_lt, Int.not_le, ge_iff_le, gt_iff_lt, bne_iff_ne, ne_eq, bne_eq_false_iff_eq, beq_eq_false_iff_ne, zat, zof] at c6
    refine X_skip ?_
    show X _ _ _ _
    refine X_seq ?_
    refine X_seq ?_
    refine X_rg fun R hR => ?_
    simp only [EVP, inr_i64, Int.reduceLE, Int.reduceNeg, aops, astep, awant, aeff, aop, mkD, ev, ofValue, St.put, ia_slice, zg1, zg0, zgd, zmo, if_true, zs1, zs0, zlm, zlc, zln, zd0, zt1, zt0, Nat.reduceAdd, Nat.reduceLeDiff, Nat.zero_add, Nat.add_zero, zft, if_false, and_self, reduceCtorEq, ty_s_api_VarDecl, ty_api_Program, und_api_VarDecl, b6]
    with_reducible refine hR _ ?_
    clear hR R
    show X _ _ _ _
    refine X_block ?_
    have hA1 : p.vars.length ≤ 8 := by simp at *; omega
    have hA2 : p.procs.length ≤ 5 := by simp at *; omega
    have hqm0 : p.main.size ≤ 200 := hqm (by first | assumption | (simp_all; done))
    refine X_loop (fun m σ => ∃ (i : Nat) (r : List (List D)), σ = ⟨[slotOf σ 0, .ptr 0 0, slotOf σ 2, slotOf σ 3, slotOf σ 4, slotOf σ 5, slotOf σ 6, slotOf σ 7, slotOf σ 8, slotOf σ 9, slotOf σ 10, slotOf σ 11, slotOf σ 12, slotOf σ 13, slotOf σ 14, slotOf σ 15, slotOf σ 16, slotOf σ 17, slotOf σ 18, slotOf σ 19, slotOf σ 20, slotOf σ 21, slotOf σ 22, slotOf σ 23, slotOf σ 24, .slice .imm (if (p.vars.map dV).isEmpty = true then 0 else 3) (p.vars.map dV), .int .i64 p.vars.length, .int .i64 i, slotOf σ 28, slotOf σ 29, slotOf σ 30, slotOf σ 31, slotOf σ 32, slotOf σ 33, slotOf σ 34, slotOf σ 35, slotOf σ 36, slotOf σ 37, slotOf σ 38, slotOf σ 39, slotOf σ 40, slotOf σ 41, slotOf σ 42, slotOf σ 43, slotOf σ 44, slotOf σ 45, slotOf σ 46, slotOf σ 47, slotOf σ 48, slotOf σ 49, slotOf σ 50, slotOf σ 51, slotOf σ 52, slotOf σ 53, slotOf σ 54, slotOf σ 55, slotOf σ 56, slotOf σ 57, slotOf σ 58, slotOf σ 59, slotOf σ 60, slotOf σ 61, slotOf σ 62, slotOf σ 63, slotOf σ 64, slotOf σ 65, slotOf σ 66, slotOf σ 67, slotOf σ 68, slotOf σ 69, slotOf σ 70], [.slice .imm (if (p.vars.map dV).isEmpty = true then 0 else 3) (p.vars.map dV), .slice .imm (if (p.procs.map dP).isEmpty = true then 0 else 6) (p.procs.map dP), .int .u8 p.main.kind, .int .i64 p.main.num, .str p.main.name, .slice .imm (if (p.main.kids.map dN).isEmpty = true then 0 else 4) (p.main.kids.map dN)] :: r, 0, []⟩ ∧ m = p.vars.length - i ∧ i ≤ p.vars.length) ?_ (p.vars.length) _ ?_
    rotate_left
    ·exact ⟨0, [], rfl, rfl, Nat.zero_le _⟩
    rintro m σ ⟨i, r, hσ, rfl, hi⟩
    generalize slotOf σ = x at hσ
    subst hσ
    refine X_seq ?_
    refine X_rg fun R hR => ?_
    simp only [nat_lt, aops, astep, awant, aeff, aop, abin, aint, ev, St.put, zg1, zg0, zgd, zmo, if_true, zs1, zs0]
    with_reducible refine hR _ ?_
    clear hR R
    show X _ _ _ _
    refine X_seq ?_
    refine X_ite (by simp only [ev, zg1, zg0, zgd]; exact rfl) ?_ ?_
    ·intro b7
     have c7 := b7
     try simp only [decide_eq_true_eq] at c7
     refine X_skip ?_
     show X _ _ _ _
     refine X_seq ?_
     refine X_block ?_
     refine X_seq ?_
     have hlt : i < p.vars.length := by first | assumption | omega
     have hn1 : ((if (p.vars.map dV).isEmpty = true then 0 else 3) = 3) = True := eq_true (sl_n (j := i) (by simpa using hlt))
     have e1 : (p.vars.map dV)[i]? = some (.agg [.str p.vars[i].name, .int .u8 p.vars[i].kind, .int .i64 p.vars[i].len]) := by simp [hlt, dV]
     refine X_rg fun R hR => ?_
     simp only [EVP, app_get0, app_set0, nat_lt, nat_0, nat_to, aops, astep, awant, aeff, aop, astore, ev, St.put, gd_agg, ia_agg, cl_agg, zg1, zg0, zgd, zmo, zbs, if_true, zs1, zs0, zlm, zlc, zln, zd1, zd0, zt0, zca, zna, Nat.reduceAdd, Nat.reduceLeDiff, Nat.zero_add, and_self, decide_true, zis, ty_api_VarDecl, und_api_VarDecl, siz_api_VarDecl, inf_api_VarDecl_eq, hlt, hn1, e1]
     with_reducible refine hR _ ?_
     clear hR R
     show X _ _ _ _
     refine X_seq ?_
     refine X_rg fun R hR => ?_
     simp only [EVP, inr_i64, Int.reduceLE, Int.reduceNeg, app_get0, aops, astep, awant, aeff, aop, abin, aint, mkD, ev, ofValue, St.put, ia_str, zg1, zg0, zgd, zmo, if_true, zs1, zs0, zlc, zln, zd0, zt1, zt0, Nat.reduceAdd, Nat.reduceLeDiff, Nat.zero_add, Nat.add_zero, zft, if_false, and_self, reduceCtorEq, ty_string, ty_api_VarDecl, und_string']
     with_reducible refine hR _ ?_
     clear hR R
     show X _ _ _ _
     refine X_ite (by simp only [ev, zg1, zg0, zgd]; exact rfl) ?_ ?_
     ·intro b8
      have c8 := b8
      try simp only [decide_eq_true_eq, gt_iff_lt] at c8
      refine X_seq ?_
      refine X_rg fun R hR => ?_
      simp only [inr_i64, Int.reduceLE, Int.reduceNeg, aops, astep, awant, aeff, aop, ev, ofValue, St.put, zgd, zmo, if_true, zs1, zs0, and_self, b8]
      with_reducible refine hR _ ?_
      clear hR R
      show X _ _ _ _
      refine X_ret ?_
      show _ ∧ _
      first | (refine ⟨.inr rfl, .int .i64 1, ?_, rfl, 1, rfl, .inl rfl⟩; simp only [resD, resAll, resOne, resTup, Try.results12, EVP, zg1, zg0, D.good, if_true, zmo]; done) | (refine ⟨.inr rfl, .int .i64 0, ?_, rfl, 0, rfl, .inr ⟨hA2, hqm0, ?_⟩⟩; (simp only [resD, resAll, resOne, resTup, Try.results12, EVP, mkD, ty_int, ty_bool, ty_uint8, ty_string, ty_s_int, ty_s_api_Node, ty_s_api_VarDecl, ty_s_api_Proc, ty_api_Node, ty_api_VarDecl, ty_api_Proc, ty_api_Program, st_api_Node, sta_api_Node, zg1, zg0, zd0, zt1, zt0, zlc, zln, Nat.reduceAdd, Nat.reduceLeDiff, Nat.zero_add, D.good, if_true, reduceIte, zft, if_false, D.isAgg, zmo]); (intro f hf; obtain ⟨j, hj, rfl⟩ := List.getElem_of_mem hf; exact hs j hj (by omega)))
     ·intro b9
      have c9 := b9
      try simp only [decide_eq_false_iff_not, Int.not_lt, gt_iff_lt] at c9
      refine X_skip ?_
      show X _ _ _ _
      have hbig : i < 9223372036854775807 := by omega
      refine X_rg fun R hR => ?_
      simp only [inr_i64, Int.reduceLE, Int.reduceNeg, aops, astep, awant, aeff, aop, abin, aint, ev, ofValue, St.put, zg1, zg0, zgd, zmo, if_true, zs1, zs0, and_self, b9, nat_succ hbig]
      with_reducible refine hR _ ?_
      clear hR R
      show ∃ m, m < _ ∧ _
      exact ⟨p.vars.length - (i + 1), by omega, i + 1, _, rfl, rfl, by omega⟩
    ·intro b10
     have c10 := b10
     try simp only [decide_eq_false_iff_not] at c10
     refine X_exit ?_
     show X _ _ _ _
     refine X_seq ?_
     refine X_seq ?_
     refine X_rg fun R hR => ?_
     simp only [EVP, inr_i64, Int.reduceLE, Int.reduceNeg, aops, astep, awant, aeff, aop, mkD, ev, ofValue, St.put, ia_slice, zg1, zg0, zgd, zmo, if_true, zs1, zs0, zlm, zlc, zln, zd1, zd0, zt1, zt0, Nat.reduceAdd, Nat.reduceLeDiff, Nat.zero_add, zft, if_false, and_self, reduceCtorEq, ty_s_api_Proc, ty_api_Program, und_api_Proc, b10]
     with_reducible refine hR _ ?_
     clear hR R
     show X _ _ _ _
     refine X_block ?_
     refine X_loop (fun m σ => ∃ (i : Nat) (r : List (List D)), σ = ⟨[slotOf σ 0, .ptr 0 0, slotOf σ 2, slotOf σ 3, slotOf σ 4, slotOf σ 5, slotOf σ 6, slotOf σ 7, slotOf σ 8, slotOf σ 9, slotOf σ 10, slotOf σ 11, slotOf σ 12, slotOf σ 13, slotOf σ 14, slotOf σ 15, slotOf σ 16, slotOf σ 17, slotOf σ 18, slotOf σ 19, slotOf σ 20, slotOf σ 21, slotOf σ 22, slotOf σ 23, slotOf σ 24, slotOf σ 25, slotOf σ 26, slotOf σ 27, slotOf σ 28, slotOf σ 29, slotOf σ 30, slotOf σ 31, slotOf σ 32, slotOf σ 33, slotOf σ 34, slotOf σ 35, slotOf σ 36, .slice .imm (if (p.procs.map dP).isEmpty = true then 0 else 6) (p.procs.map dP), .int .i64 p.procs.length, .int .i64 i, slotOf σ 40, slotOf σ 41, slotOf σ 42, slotOf σ 43, slotOf σ 44, slotOf σ 45, slotOf σ 46, slotOf σ 47, slotOf σ 48, slotOf σ 49, slotOf σ 50, slotOf σ 51, slotOf σ 52, slotOf σ 53, slotOf σ 54, slotOf σ 55, slotOf σ 56, slotOf σ 57, slotOf σ 58, slotOf σ 59, slotOf σ 60, slotOf σ 61, slotOf σ 62, slotOf σ 63, slotOf σ 64, slotOf σ 65, slotOf σ 66, slotOf σ 67, slotOf σ 68, slotOf σ 69, slotOf σ 70], [.slice .imm (if (p.vars.map dV).isEmpty = true then 0 else 3) (p.vars.map dV), .slice .imm (if (p.procs.map dP).isEmpty = true then 0 else 6) (p.procs.map dP), .int .u8 p.main.kind, .int .i64 p.main.num, .str p.main.name, .slice .imm (if (p.main.kids.map dN).isEmpty = true then 0 else 4) (p.main.kids.map dN)] :: r, 0, []⟩ ∧ m = p.procs.length - i ∧ i ≤ p.procs.length ∧ ∀ (j : Nat) (hj : j < p.procs.length), j < i → p.procs[j].body.size ≤ 200) ?_ (p.procs.length) _ ?_
     rotate_left
     ·exact ⟨0, _, rfl, rfl, Nat.zero_le _, fun j _ h => absurd h (Nat.not_lt_zero _)⟩
     rintro m σ ⟨i, r, hσ, rfl, hi, hs⟩
     generalize slotOf σ = x at hσ
     subst hσ
     refine X_seq ?_
     refine X_rg fun R hR => ?_
     simp only [nat_lt, aops, astep, awant, aeff, aop, abin, aint, ev, St.put, zg1, zg0, zgd, zmo, if_true, zs1, zs0]
     with_reducible refine hR _ ?_
     clear hR R
     show X _ _ _ _
     refine X_seq ?_
     refine X_ite (by simp only [ev, zg1, zg0, zgd]; exact rfl) ?_ ?_
     ·intro b11
      have c11 := b11
      try simp only [decide_eq_true_eq] at c11
      refine X_skip ?_
      show X _ _ _ _
      refine X_seq ?_
      refine X_block ?_
      refine X_seq ?_
      have hlt : i < p.procs.length := by first | assumption | omega
      have hn1 : ((if (p.procs.map dP).isEmpty = true then 0 else 6) = 6) = True := eq_true (sl_n (j := i) (by simpa using hlt))
      have e1 : (p.procs.map dP)[i]? = some (dP p.procs[i]) := by simp [hlt]
      obtain ⟨db, hgb, qb, rfl, hqb⟩ := great_ex p.procs[i].body
      refine X_rg fun R hR => ?_
      simp only [EVP, app_get0, app_set0, nat_lt, nat_0, nat_to, aops, astep, awant, aeff, aop, astore, ev, St.put, gd_agg, ia_agg, cl_agg, zg1, zg0, zgd, zmo, zbs, if_true, zs1, zs0, zlm, zlc, zln, zd1, zd0, zt0, zca, zna, Nat.reduceAdd, Nat.reduceLeDiff, Nat.zero_add, and_self, decide_true, zis, ty_api_Proc, und_api_Proc, siz_api_Proc, inf_api_Proc_eq, sl, dP, hlt, hn1, e1]
      with_reducible refine hR _ ?_
      clear hR R
      show X _ _ _ _
      refine X_seq ?_
      refine X_seq ?_
      refine X_y ?_
      refine Y_k 5 fun R hR => ?_
      simp only [EVP, inr_i64, Int.reduceLE, Int.reduceNeg, app_get0, aops, astep, awant, aeff, aop, abin, aint, mkD, ev, ofValue, St.put, ia_slice, zg1, zg0, zgd, zmo, if_true, zs1, zs0, zlm, zlc, zln, zd1, zd0, zt1, zt0, Nat.reduceAdd, Nat.reduceLeDiff, Nat.zero_add, zft, if_false, and_self, reduceCtorEq, ty_s_api_VarDecl, ty_api_Proc, und_api_VarDecl]
      with_reducible refine hR _ ?_
      clear hR R
      simp only [zd1, zd0]
      refine Y_if 47 (by simp only [ev, zg1, zg0, zgd]; exact rfl) ?_ ?_
      ·intro b12
       have c12 := b12
       try simp only [decide_eq_true_eq, gt_iff_lt] at c12
       refine Y_end fun R hR => ?_
       simp only [EVP, inr_i64, Int.reduceLE, Int.reduceNeg, aops, astep, awant, aeff, aop, abin, ev, ofValue, St.put, pcall, zmc, zmn, zg1, zg0, zgd, zmo, Option.map_none, zbs, if_true, zs1, zs0, zca, zna, Nat.zero_add, Nat.add_zero, zft, if_false, and_self, reduceCtorEq, bq_tf, ty_string, ty_api_Node, ty_api_Proc, und_string', any28, b12]
       with_reducible refine hR _ ?_
       clear hR R
       show X _ _ _ _
       refine X_true (by simp only [ev, zg1, zg0, zgd]) ?_
       refine X_seq ?_
       refine X_rg fun R hR => ?_
       simp only [inr_i64, Int.reduceLE, Int.reduceNeg, aops, astep, awant, aeff, aop, ev, ofValue, St.put, zgd, zmo, if_true, zs1, zs0, and_self]
       with_reducible refine hR _ ?_
       clear hR R
       show X _ _ _ _
       refine X_ret ?_
       show _ ∧ _
       first | (refine ⟨.inr rfl, .int .i64 1, ?_, rfl, 1, rfl, .inl rfl⟩; simp only [resD, resAll, resOne, resTup, Try.results12, EVP, zg1, zg0, D.good, if_true, zmo]; done) | (refine ⟨.inr rfl, .int .i64 0, ?_, rfl, 0, rfl, .inr ⟨hA2, hqm0, ?_⟩⟩; (simp only [resD, resAll, resOne, resTup, Try.results12, EVP, mkD, ty_int, ty_bool, ty_uint8, ty_string, ty_s_int, ty_s_api_Node, ty_s_api_VarDecl, ty_s_api_Proc, ty_api_Node, ty_api_VarDecl, ty_api_Proc, ty_api_Program, st_api_Node, sta_api_Node, zg1, zg0, zd0, zt1, zt0, zlc, zln, Nat.reduceAdd, Nat.reduceLeDiff, Nat.zero_add, D.good, if_true, reduceIte, zft, if_false, D.isAgg, zmo]); (intro f hf; obtain ⟨j, hj, rfl⟩ := List.getElem_of_mem hf; exact hs j hj (by omega)))
      ·intro b13
       have c13 := b13
       try simp only [decide_eq_false_iff_not, Int.not_lt, gt_iff_lt] at c13
       refine Y_k 6 fun R hR => ?_
       simp only [EVP, inr_i64, Int.reduceLE, Int.reduceNeg, app_get0, aops, astep, awant, aeff, aop, abin, aint, mkD, ev, ofValue, St.put, ia_str, zg1, zg0, zgd, zmo, zbs, if_true, zs1, zs0, zlc, zln, zd0, zt1, zt0, Nat.reduceAdd, Nat.reduceLeDiff, Nat.zero_add, Nat.add_zero, zft, if_false, and_self, reduceCtorEq, beq_self_eq_true, ty_string, ty_api_Proc, und_string', b13]
       with_reducible refine hR _ ?_
       clear hR R
       simp only [zd1, zd0]
       refine Y_if 53 (by simp only [ev, zg1, zg0, zgd]; exact rfl) ?_ ?_
       ·intro b14
        have c14 := b14
        try simp only [decide_eq_true_eq, gt_iff_lt] at c14
        refine Y_end fun R hR => ?_
        simp only [EVP, aops, astep, awant, aeff, aop, ev, ofValue, St.put, pcall, zmc, zmn, zg1, zg0, zgd, zmo, Option.map_none, zbs, if_true, zs1, zs0, zca, zna, Nat.zero_add, zft, if_false, reduceCtorEq, bq_tf, ty_api_Node, ty_api_Proc, any28, b14]
        with_reducible refine hR _ ?_
        clear hR R
        show X _ _ _ _
        refine X_true (by simp only [ev, zg1, zg0, zgd]) ?_
        refine X_seq ?_
        refine X_rg fun R hR => ?_
        simp only [inr_i64, Int.reduceLE, Int.reduceNeg, aops, astep, awant, aeff, aop, ev, ofValue, St.put, zgd, zmo, if_true, zs1, zs0, and_self]
        with_reducible refine hR _ ?_
        clear hR R
        show X _ _ _ _
        refine X_ret ?_
        show _ ∧ _
        first | (refine ⟨.inr rfl, .int .i64 1, ?_, rfl, 1, rfl, .inl rfl⟩; simp only [resD, resAll, resOne, resTup, Try.results12, EVP, zg1, zg0, D.good, if_true, zmo]; done) | (refine ⟨.inr rfl, .int .i64 0, ?_, rfl, 0, rfl, .inr ⟨hA2, hqm0, ?_⟩⟩; (simp only [resD, resAll, resOne, resTup, Try.results12, EVP, mkD, ty_int, ty_bool, ty_uint8, ty_string, ty_s_int, ty_s_api_Node, ty_s_api_VarDecl, ty_s_api_Proc, ty_api_Node, ty_api_VarDecl, ty_api_Proc, ty_api_Program, st_api_Node, sta_api_Node, zg1, zg0, zd0, zt1, zt0, zlc, zln, Nat.reduceAdd, Nat.reduceLeDiff, Nat.zero_add, D.good, if_true, reduceIte, zft, if_false, D.isAgg, zmo]); (intro f hf; obtain ⟨j, hj, rfl⟩ := List.getElem_of_mem hf; exact hs j hj (by omega)))
       ·intro b15
        have c15 := b15
        try simp only [decide_eq_false_iff_not, Int.not_lt, gt_iff_lt] at c15
        refine Y_end fun R hR => ?_
        simp only [EVP, app_get0, aops, astep, awant, aeff, aop, mkD, ev, ofValue, St.put, pcall, zmc, zmn, zg1, zg0, zgd, zmo, zbs, if_true, zs1, zs0, zlc, zln, zd1, zd0, zt1, zt0, zca, zna, Nat.reduceAdd, Nat.reduceLeDiff, Nat.zero_add, zft, if_false, reduceCtorEq, beq_self_eq_true, ty_api_Node, ty_api_Proc, any28, dN_agg, b15, hgb]
        with_reducible refine hR _ ?_
        clear hR R
        show X _ _ _ _
        refine X_ite (by simp only [ev, zg1, zg0, zgd]; exact rfl) ?_ ?_
        ·intro b16
         have c16 := b16
         try simp only [znt, znf, decide_eq_true_eq, decide_eq_false_iff_not, beq_iff_eq, Int.not_lt, Int.not_le, ge_iff_le, gt_iff_lt, bne_iff_ne, ne_eq, bne_eq_false_iff_eq, beq_eq_false_iff_ne, zat, zof] at c16
         refine X_seq ?_
         refine X_rg fun R hR => ?_
         simp only [inr_i64, Int.reduceLE, Int.reduceNeg, aops, astep, awant, aeff, aop, ev, ofValue, St.put, zgd, zmo, if_true, zs1, zs0, and_self, b16]
         with_reducible refine hR _ ?_
         clear hR R
         show X _ _ _ _
         refine X_ret ?_
         show _ ∧ _
         first | (refine ⟨.inr rfl, .int .i64 1, ?_, rfl, 1, rfl, .inl rfl⟩; simp only [resD, resAll, resOne, resTup, Try.results12, EVP, zg1, zg0, D.good, if_true, zmo]; done) | (refine ⟨.inr rfl, .int .i64 0, ?_, rfl, 0, rfl, .inr ⟨hA2, hqm0, ?_⟩⟩; (simp only [resD, resAll, resOne, resTup, Try.results12, EVP, mkD, ty_int, ty_bool, ty_uint8, ty_string, ty_s_int, ty_s_api_Node, ty_s_api_VarDecl, ty_s_api_Proc, ty_api_Node, ty_api_VarDecl, ty_api_Proc, ty_api_Program, st_api_Node, sta_api_Node, zg1, zg0, zd0, zt1, zt0, zlc, zln, Nat.reduceAdd, Nat.reduceLeDiff, Nat.zero_add, D.good, if_true, reduceIte, zft, if_false, D.isAgg, zmo]); (intro f hf; obtain ⟨j, hj, rfl⟩ := List.getElem_of_mem hf; exact hs j hj (by omega)))
        ·intro b17
         have c17 := b17
         try simp only [znt, znf, decide_eq_true_eq, decide_eq_false_iff_not, beq_iff_eq, Int.not_lt, Int.not_le, ge_iff_le, gt_iff_lt, bne_iff_ne, ne_eq, bne_eq_false_iff_eq, beq_eq_false_iff_ne, zat, zof] at c17
         refine X_skip ?_
         show X _ _ _ _
         refine X_seq ?_
         refine X_rg fun R hR => ?_
         simp only [EVP, inr_i64, Int.reduceLE, Int.reduceNeg, app_get0, aops, astep, awant, aeff, aop, mkD, ev, ofValue, St.put, ia_slice, zg1, zg0, zgd, zmo, if_true, zs1, zs0, zlm, zlc, zln, zd1, zd0, zt1, zt0, Nat.reduceAdd, Nat.reduceLeDiff, Nat.zero_add, zft, if_false, and_self, reduceCtorEq, ty_s_api_VarDecl, ty_api_Proc, und_api_VarDecl, b17]
         with_reducible refine hR _ ?_
         clear hR R
         show X _ _ _ _
         refine X_block ?_
         have hqb0 : p.procs[i].body.size ≤ 200 := hqb (by first | assumption | (simp_all; done))
         have hA3 : p.procs[i].params.length ≤ 10 := by simp at *; omega
         refine X_loop (fun m σ => ∃ (j : Nat) (r3 : List (List D)), σ = ⟨[slotOf σ 0, .ptr 0 0, slotOf σ 2, slotOf σ 3, slotOf σ 4, slotOf σ 5, slotOf σ 6, slotOf σ 7, slotOf σ 8, slotOf σ 9, slotOf σ 10, slotOf σ 11, slotOf σ 12, slotOf σ 13, slotOf σ 14, slotOf σ 15, slotOf σ 16, slotOf σ 17, slotOf σ 18, slotOf σ 19, slotOf σ 20, slotOf σ 21, slotOf σ 22, slotOf σ 23, slotOf σ 24, slotOf σ 25, slotOf σ 26, slotOf σ 27, slotOf σ 28, slotOf σ 29, slotOf σ 30, slotOf σ 31, slotOf σ 32, slotOf σ 33, slotOf σ 34, slotOf σ 35, slotOf σ 36, .slice .imm (if (p.procs.map dP).isEmpty = true then 0 else 6) (p.procs.map dP), .int .i64 p.procs.length, .int .i64 i, slotOf σ 40, slotOf σ 41, slotOf σ 42, slotOf σ 43, slotOf σ 44, slotOf σ 45, slotOf σ 46, slotOf σ 47, slotOf σ 48, slotOf σ 49, slotOf σ 50, slotOf σ 51, slotOf σ 52, slotOf σ 53, slotOf σ 54, slotOf σ 55, slotOf σ 56, slotOf σ 57, slotOf σ 58, .slice .imm (if (p.procs[i].params.map dV).isEmpty = true then 0 else 3) (p.procs[i].params.map dV), .int .i64 p.procs[i].params.length, .int .i64 j, slotOf σ 62, slotOf σ 63, slotOf σ 64, slotOf σ 65, slotOf σ 66, slotOf σ 67, slotOf σ 68, slotOf σ 69, slotOf σ 70], [.slice .imm (if (p.vars.map dV).isEmpty = true then 0 else 3) (p.vars.map dV), .slice .imm (if (p.procs.map dP).isEmpty = true then 0 else 6) (p.procs.map dP), .int .u8 p.main.kind, .int .i64 p.main.num, .str p.main.name, .slice .imm (if (p.main.kids.map dN).isEmpty = true then 0 else 4) (p.main.kids.map dN)] :: r3, 0, []⟩ ∧ m = p.procs[i].params.length - j ∧ j ≤ p.procs[i].params.length) ?_ (p.procs[i].params.length) _ ?_
         rotate_left
         ·exact ⟨0, _, rfl, rfl, Nat.zero_le _⟩
         rintro m σ ⟨j, r3, hσ, rfl, hj⟩
         generalize slotOf σ = x at hσ
         subst hσ
         refine X_seq ?_
         refine X_rg fun R hR => ?_
         simp only [nat_lt, aops, astep, awant, aeff, aop, abin, aint, ev, St.put, zg1, zg0, zgd, zmo, if_true, zs1, zs0]
         with_reducible refine hR _ ?_
         clear hR R
         show X _ _ _ _
         refine X_seq ?_
         refine X_ite (by simp only [ev, zg1, zg0, zgd]; exact rfl) ?_ ?_
         ·intro b18
          have c18 := b18
          try simp only [decide_eq_true_eq] at c18
          refine X_skip ?_
          show X _ _ _ _
          refine X_seq ?_
          refine X_block ?_
          refine X_seq ?_
          have hlj : j < p.procs[i].params.length := by first | assumption | omega
          have hn1 : ((if (p.procs[i].params.map dV).isEmpty = true then 0 else 3) = 3) = True := eq_true (sl_n (j := j) (by simpa using hlj))
          have e1 : (p.procs[i].params.map dV)[j]? = some (.agg [.str p.procs[i].params[j].name, .int .u8 p.procs[i].params[j].kind, .int .i64 p.procs[i].params[j].len]) := by simp [hlj, dV]
          refine X_rg fun R hR => ?_
          simp only [EVP, app_get0, app_set0, nat_lt, nat_0, nat_to, aops, astep, awant, aeff, aop, astore, ev, St.put, gd_agg, ia_agg, cl_agg, zg1, zg0, zgd, zmo, zbs, if_true, zs1, zs0, zlm, zlc, zln, zd1, zd0, zt0, zca, zna, Nat.reduceAdd, Nat.reduceLeDiff, Nat.zero_add, and_self, decide_true, zis, ty_api_VarDecl, und_api_VarDecl, siz_api_VarDecl, inf_api_VarDecl_eq, hlj, hn1, e1]
          with_reducible refine hR _ ?_
          clear hR R
          show X _ _ _ _
          refine X_seq ?_
          refine X_rg fun R hR => ?_
          simp only [EVP, inr_i64, Int.reduceLE, Int.reduceNeg, app_get0, aops, astep, awant, aeff, aop, abin, aint, mkD, ev, ofValue, St.put, ia_str, zg1, zg0, zgd, zmo, if_true, zs1, zs0, zlc, zln, zd0, zt1, zt0, Nat.reduceAdd, Nat.reduceLeDiff, Nat.zero_add, Nat.add_zero, zft, if_false, and_self, reduceCtorEq, ty_string, ty_api_VarDecl, und_string']
          with_reducible refine hR _ ?_
          clear hR R
          show X _ _ _ _
          refine X_ite (by simp only [ev, zg1, zg0, zgd]; exact rfl) ?_ ?_
          ·intro b19
           have c19 := b19
           try simp only [decide_eq_true_eq, gt_iff_lt] at c19
           refine X_seq ?_
           refine X_rg fun R hR => ?_
           simp only [inr_i64, Int.reduceLE, Int.reduceNeg, aops, astep, awant, aeff, aop, ev, ofValue, St.put, zgd, zmo, if_true, zs1, zs0, and_self, b19]
           with_reducible refine hR _ ?_
           clear hR R
           show X _ _ _ _
           refine X_ret ?_
           show _ ∧ _
           first | (refine ⟨.inr rfl, .int .i64 1, ?_, rfl, 1, rfl, .inl rfl⟩; simp only [resD, resAll, resOne, resTup, Try.results12, EVP, zg1, zg0, D.good, if_true, zmo]; done) | (refine ⟨.inr rfl, .int .i64 0, ?_, rfl, 0, rfl, .inr ⟨hA2, hqm0, ?_⟩⟩; (simp only [resD, resAll, resOne, resTup, Try.results12, EVP, mkD, ty_int, ty_bool, ty_uint8, ty_string, ty_s_int, ty_s_api_Node, ty_s_api_VarDecl, ty_s_api_Proc, ty_api_Node, ty_api_VarDecl, ty_api_Proc, ty_api_Program, st_api_Node, sta_api_Node, zg1, zg0, zd0, zt1, zt0, zlc, zln, Nat.reduceAdd, Nat.reduceLeDiff, Nat.zero_add, D.good, if_true, reduceIte, zft, if_false, D.isAgg, zmo]); (intro f hf; obtain ⟨j, hj, rfl⟩ := List.getElem_of_mem hf; exact hs j hj (by omega)))
          ·intro b20
           have c20 := b20
           try simp only [decide_eq_false_iff_not, Int.not_lt, gt_iff_lt] at c20
           refine X_skip ?_
           show X _ _ _ _
           have hbj : j < 9223372036854775807 := by omega
           refine X_rg fun R hR => ?_
           simp only [inr_i64, Int.reduceLE, Int.reduceNeg, aops, astep, awant, aeff, aop, abin, aint, ev, ofValue, St.put, zg1, zg0, zgd, zmo, if_true, zs1, zs0, and_self, b20, nat_succ hbj]
           with_reducible refine hR _ ?_
           clear hR R
           show ∃ m, m < _ ∧ _
           exact ⟨p.procs[i].params.length - (j + 1), by omega, j + 1, _, rfl, rfl, by omega⟩
         ·intro b21
          have c21 := b21
          try simp only [decide_eq_false_iff_not] at c21
          refine X_exit ?_
          show X _ _ _ _
          have hbig : i < 9223372036854775807 := by omega
          refine X_rg fun R hR => ?_
          simp only [inr_i64, Int.reduceLE, Int.reduceNeg, aops, astep, awant, aeff, aop, abin, aint, ev, ofValue, St.put, zg1, zg0, zgd, zmo, if_true, zs1, zs0, and_self, b21, nat_succ hbig]
          with_reducible refine hR _ ?_
          clear hR R
          show ∃ m, m < _ ∧ _
          exact ⟨p.procs.length - (i + 1), by omega, i + 1, _, rfl, rfl, by omega, fun j hj h => (Nat.lt_or_ge j i).elim (fun h9 => hs j hj h9) (fun h9 => by obtain rfl : j = i := (by omega); exact hqb0)⟩
     ·intro b22
      have c22 := b22
      try simp only [decide_eq_false_iff_not] at c22
      refine X_exit ?_
      show X _ _ _ _
      refine X_seq ?_
      refine X_rg fun R hR => ?_
      simp only [inr_i64, Int.reduceLE, Int.reduceNeg, aops, astep, awant, aeff, aop, ev, ofValue, St.put, zgd, zmo, if_true, zs1, zs0, and_self, b22]
      with_reducible refine hR _ ?_
      clear hR R
      show X _ _ _ _
      refine X_ret ?_
      show _ ∧ _
      first | (refine ⟨.inr rfl, .int .i64 1, ?_, rfl, 1, rfl, .inl rfl⟩; simp only [resD, resAll, resOne, resTup, Try.results12, EVP, zg1, zg0, D.good, if_true, zmo]; done) | (refine ⟨.inr rfl, .int .i64 0, ?_, rfl, 0, rfl, .inr ⟨hA2, hqm0, ?_⟩⟩; (simp only [resD, resAll, resOne, resTup, Try.results12, EVP, zg1, zg0, D.good, if_true, zmo]); (intro f hf; obtain ⟨j, hj, rfl⟩ := List.getElem_of_mem hf; exact hs j hj (by omega)))
end Go.Proofs.Ytmglacjcefajlaa
