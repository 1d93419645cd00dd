/- turned at S-level: a copy of a tree whose updates have one kind. -/
import Derived.Test.YtmglacjcefajlaaUd
import Derived.Test.YtmglacjcefajlaaCk1
import Derived.Test.YtmglacjcefajlaaMk4
namespace Go.Proofs.Ytmglacjcefajlaa
open Go.RowKit

/-- a sequence cut at an assertion -/
theorem S_seqJ {P : Program} {B : Nat} {x y : Code} {σ : St} {Q : Ex → St → Prop} (J : St → Prop) (h1 : S P B x σ (ThenJ J Q)) (h2 : ∀ σ, J σ → S P B y σ Q) : S P B (.seq x y) σ Q :=
 S_seq (S_mono h1 fun e σ' q => match e, q with
  | .normal, q => h2 σ' q
  | .ret, q => q
  | .exit _, q => q)
mutual
theorem dN_avoid (i : Nat) : ∀ t : Tr, (dN t).avoid i = true
 | .mk k n s c => by simp only [dN, D.avoid, D.avoids, dNs_avoid i c, Bool.and_true]
theorem dNs_avoid (i : Nat) : ∀ c : List Tr, D.avoids i (dNs c) = true
 | [] => rfl
 | t :: r => by simp only [dNs, D.avoids, dN_avoid i t, dNs_avoid i r, Bool.and_true]
end
theorem dNs_avoid' (i : Nat) (c : List Tr) : D.avoids i (c.map dN) = true := by rw [← dNs_map]; exact dNs_avoid i c
theorem avoids_app (i : Nat) : ∀ l m : List D, D.avoids i (l ++ m) = (D.avoids i l && D.avoids i m)
 | [], m => by simp [D.avoids]
 | d :: l, m => by rw [zca, D.avoids, D.avoids, avoids_app i l m, Bool.and_assoc]
theorem dN_cav (i : Nat) (t : Tr) : D.avoids i (dN t).cells = true := by
 rw [dN_cells]; simp only [sl, D.avoids, D.avoid, dNs_avoid', Bool.and_true]
/-- the cells of a node that make lays -/
def z4 : List D := [.int .u8 0, .int .i64 0, .str ⟨#[]⟩, .slice .nil 0 []]
/-- the cells of the first i kids, turned, and of the rest, laid -/
def rowC (f : Tr → Tr) (l : List Tr) (i : Nat) : List D := ((l.take i).map fun x => dN (f x)).flatMap D.cells ++ (List.replicate (l.length - i) z4).flatten
theorem flat_len4 (f : Tr → Tr) : ∀ l : List Tr, ((l.map fun x => dN (f x)).flatMap D.cells).length = l.length * 4
 | [] => rfl
 | x :: r => by
  have := flat_len4 f r
  rw [zmc, List.flatMap_cons, zla, this, dN_cells]; simp only [zlc, zln]; omega
theorem rep_len4 : ∀ n : Nat, (List.replicate n z4).flatten.length = n * 4
 | 0 => rfl
 | n + 1 => by rw [zr1, List.flatten_cons, zla, rep_len4 n]; simp only [z4, zlc, zln]; omega
theorem rowC_len (f : Tr → Tr) {l : List Tr} {i : Nat} (h : i ≤ l.length) : (rowC f l i).length = l.length * 4 := by
 unfold rowC
 rw [zla, flat_len4, rep_len4, List.length_take, Nat.min_eq_left h]; omega
theorem rowC_zero (f : Tr → Tr) (l : List Tr) : rowC f l 0 = (List.replicate l.length z4).flatten := by unfold rowC; simp
theorem rowC_all (f : Tr → Tr) (l : List Tr) : rowC f l l.length = (l.map fun x => dN (f x)).flatMap D.cells := by unfold rowC; simp
theorem rowC_set (f : Tr → Tr) {l : List Tr} {i : Nat} (h : i < l.length) : (rowC f l i).take (i * 4) ++ (dN (f l[i])).cells ++ (rowC f l i).drop (i * 4 + 4) = rowC f l (i + 1) := by
 have hA : (((l.take i).map fun x => dN (f x)).flatMap D.cells).length = i * 4 := by rw [flat_len4, List.length_take, Nat.min_eq_left (Nat.le_of_lt h)]
 unfold rowC
 rw [List.take_left' hA, ← List.drop_drop, List.drop_left' hA, List.take_succ_eq_append_getElem h, List.map_append, List.flatMap_append, show l.length - i = (l.length - (i + 1)) + 1 from by omega, zr1, List.flatten_cons, zmc, zmn, List.flatMap_cons, List.flatMap_nil, List.append_nil]
 rfl
theorem flat_cav (f : Tr → Tr) (i : Nat) : ∀ l : List Tr, D.avoids i ((l.map fun x => dN (f x)).flatMap D.cells) = true
 | [] => rfl
 | x :: r => by rw [zmc, List.flatMap_cons, avoids_app, dN_cav, flat_cav f i r]; rfl
def TurnC (c : Int) (l : List Tr) : Nat → List D → D → Prop := fun k a d => k = 20 ∧ ∃ x ∈ l, a = [dN x, .int .u8 c] ∧ d = dN (trT c x)
theorem dN_one {a b : Tr} (h : dN a = dN b) : a = b := by
 have := congrArg toTr h
 rw [toTr_of, toTr_of] at this
 exact Option.some.inj this
theorem kids_env {c : Int} {l : List Tr} (h : ∀ x ∈ l, PContract Try.prog 20 [dN x, .int .u8 c] (dN (trT c x))) : ∃ EX : Env, EX.Ok ∧ EX.P = Try.prog ∧ ∀ x ∈ l, fn EX 20 [dN x, .int .u8 c] = some (dN (trT c x)) :=
 ⟨EV.by (TurnC c l), by_ok EV_ok (fun k a d q => by obtain ⟨rfl, x, hx, rfl, rfl⟩ := q; exact ⟨dN_under 0 _, dN_strip _, h x hx⟩), rfl, fun x hx => by_fn (by simp only [plain, List.all_cons, List.all_nil, dN_pl, int_pl, Bool.and_true]) (by simp only [zmc, zmn, dN_strip, D.strip]) rfl rfl ⟨rfl, x, hx, rfl, rfl⟩ (fun d' q => by
  obtain ⟨_, y, _, h1, rfl⟩ := q
  rw [dN_one (List.cons.inj h1).1])⟩
theorem zer_node {z : Value} (h : inf_api_Node.zero = some z) : ofCells z.cells.toList = some z4 := by
 have : (inf_api_Node.zero.bind fun z => ofCells z.cells.toList) = some z4 := by kernel_rfl
 rw [h] at this
 exact this
theorem tr_under (c : Int) (t : Tr) : (D.agg [.int .u8 (trT c t).kind, .int .i64 t.num, .str t.name, .slice .imm 4 (t.kids.map fun x => dN (trT c x))]).under 0 = true := by
 simp only [D.under, D.unders, Bool.and_true, Bool.true_and]
 rw [D.unders_all, List.all_eq_true]
 intro d hd
 obtain ⟨x, _, rfl⟩ := List.mem_map.1 hd
 exact dN_under 0 _
theorem tr_strip (c : Int) (t : Tr) : (D.agg [.int .u8 (trT c t).kind, .int .i64 t.num, .str t.name, .slice .imm 4 (t.kids.map fun x => dN (trT c x))]).strip = dN (trT c t) := by
 rw [dN_eq (trT c t), trT_num, trT_name, trT_kids, List.map_map]
 simp only [D.strip, D.strips, Own.st, strips_id (f := fun x => dN (trT c x)) (fun x => dN_strip _), sl]
 rfl
set_option maxRecDepth 100000 in
set_option maxHeartbeats 4000000 in
theorem turn_at (t : Tr) (c : Int) (hs : t.size ≤ 1000000) (hk : ∀ x ∈ t.kids, PContract Try.prog 20 [dN x, .int .u8 c] (dN (trT c x))) : PContract Try.prog 20 [dN t, .int .u8 c] (dN (trT c t)) := by
 obtain ⟨EX, EX_ok, EXP, ih⟩ := kids_env hk
 have hkl : t.kids.length ≤ 1000000 := by have := Tr.length_kids t; omega
 refine S_pure (f := _) Try.func20 rfl (by simp only [List.all_cons, List.all_nil, dN_pl, int_pl, Bool.and_true]) (by simp only [zmc, zmn, dN_strip, D.strip]) ?_
 simp only [enterSt, Try.ntmps20, zlc, zln, Nat.reduceAdd, Nat.reduceSub, zr1, zr0, zca, zna]
 rw [← EXP]
 refine S_seq ?_
 refine S_of_X EX_ok (by kernel_rfl) ?_
 refine X_rg fun R hR => ?_
 simp only [EXP, aops, astep, awant, aeff, ev, St.put, zg0, zgd, zmo, zbs, if_true, zs1, zs0, zlc, zln, zca, zna, Nat.zero_add, ty_api_Node, dN_cells, dN_good, sl]
 with_reducible refine hR _ ?_
 clear hR R
 show S _ _ _ _ _
 refine S_seq ?_
 refine S_of_X EX_ok (by kernel_rfl) ?_
 refine X_rg fun R hR => ?_
 simp only [EXP, aops, astep, awant, aeff, aop, mkD, astore, ev, St.put, gd_agg, cl_agg, zg1, zg0, zgd, zmo, zbs, if_true, zs1, zs0, zlc, zln, zd1, zd0, zt1, zt0, zca, zna, Nat.reduceAdd, Nat.reduceLeDiff, Nat.zero_add, and_self, ty_api_Node]
 with_reducible refine hR _ ?_
 clear hR R
 show S _ _ _ _ _
 refine S_seqJ (fun σ => σ = ⟨[slotOf σ 0, .int .u8 c, .ptr 0 0, slotOf σ 3, .ptr 1 0, .ptr 2 0, slotOf σ 6, slotOf σ 7, slotOf σ 8, slotOf σ 9, slotOf σ 10, slotOf σ 11, slotOf σ 12, slotOf σ 13, slotOf σ 14, slotOf σ 15, slotOf σ 16, slotOf σ 17, slotOf σ 18, slotOf σ 19, slotOf σ 20, slotOf σ 21, slotOf σ 22, slotOf σ 23, slotOf σ 24, slotOf σ 25, slotOf σ 26, slotOf σ 27, slotOf σ 28, slotOf σ 29, slotOf σ 30, slotOf σ 31, slotOf σ 32, slotOf σ 33, slotOf σ 34, slotOf σ 35, slotOf σ 36, slotOf σ 37, slotOf σ 38, slotOf σ 39, slotOf σ 40, slotOf σ 41, slotOf σ 42, slotOf σ 43, slotOf σ 44, slotOf σ 45], [[.int .u8 t.kind, .int .i64 t.num, .str t.name, .slice .imm (if (t.kids.map dN).isEmpty = true then 0 else 4) (t.kids.map dN)], [.int .u8 0, .int .i64 0, .str ⟨#[]⟩, .slice .nil 0 []], [.int .u8 (trT c t).kind, .int .i64 t.num, .str t.name, .slice .imm (if (t.kids.map dN).isEmpty = true then 0 else 4) (t.kids.map dN)]], 0, []⟩ ∧ (∀ s, BsN 3 4 t.kids.length (slotOf σ s))) ?_ ?_
 ·skip
  refine S_seq ?_
  refine S_of_X EX_ok (by kernel_rfl) ?_
  refine X_y ?_
  refine Y_k 4 fun R hR => ?_
  simp only [EXP, inr_u8, Int.reduceLE, aops, astep, awant, aeff, aop, abin, aint, mkD, ev, ofValue, St.put, ia_int, zg1, zg0, zgd, zmo, if_true, zs1, zs0, zlc, zln, zd0, zt1, zt0, Nat.reduceAdd, Nat.reduceLeDiff, Nat.zero_add, Nat.add_zero, zft, if_false, and_self, reduceCtorEq, ty_uint8, ty_api_Node]
  with_reducible refine hR _ ?_
  clear hR R
  simp only [zd1, zd0]
  refine Y_if 12 (by simp only [ev, zg1, zg0, zgd]; exact rfl) ?_ ?_
  ·intro b1
   have c1 := b1
   try simp only [beq_iff_eq] at c1
   refine Y_end fun R hR => ?_
   simp only [EXP, inr_u8, Int.reduceLE, aops, astep, awant, aeff, aop, abin, ev, ofValue, St.put, zg1, zg0, zgd, zmo, Option.map_none, zbs, if_true, zs1, zs0, Nat.add_zero, zft, if_false, and_self, reduceCtorEq, bq_tf, ty_uint8, ty_api_Node, b1]
   with_reducible refine hR _ ?_
   clear hR R
   show S _ _ _ _ _
   refine S_true (by simp only [ev, zg1, zg0, zgd]) ?_
   refine S_of_X EX_ok (by kernel_rfl) ?_
   refine X_rg fun R hR => ?_
   simp only [EXP, aops, astep, awant, aeff, aop, astore, ev, St.put, gd_int, cl_int, zg1, zg0, zgd, zmo, if_true, zs1, zs0, zlc, zln, zd1, zd0, zt0, zca, zna, Nat.reduceAdd, Nat.reduceLeDiff, Nat.zero_add, Nat.add_zero, if_false, and_self, reduceCtorEq, ty_uint8, ty_api_Node]
   with_reducible refine hR _ ?_
   clear hR R
   have hK : (trT c t).kind = c := by rw [trT_kind]; rw [if_pos]; simp_all [updK]
   exact ⟨by rw [hK]; rfl, (BnL.slot (by repeat first | exact .nil | apply BnL.cons (.inl rfl) | apply BnL.cons (.inr (.inl rfl)) | apply BnL.cons (.inl (dN_avoid _ _)) | apply BnL.cons (.inl (by (simp only [D.avoid, D.avoids, dNs_avoid', Bool.and_self]; done)))))⟩
  ·intro b2
   have c2 := b2
   try simp only [ne_eq, beq_eq_false_iff_ne] at c2
   refine Y_k 5 fun R hR => ?_
   simp only [EXP, inr_u8, Int.reduceLE, aops, astep, awant, aeff, aop, abin, aint, mkD, ev, ofValue, St.put, ia_int, zg1, zg0, zgd, zmo, zbs, if_true, zs1, zs0, zlc, zln, zd0, zt1, zt0, Nat.reduceAdd, Nat.reduceLeDiff, Nat.zero_add, Nat.add_zero, zft, if_false, and_self, reduceCtorEq, beq_self_eq_true, ty_uint8, ty_api_Node, b2]
   with_reducible refine hR _ ?_
   clear hR R
   simp only [zd1, zd0]
   refine Y_if 17 (by simp only [ev, zg1, zg0, zgd]; exact rfl) ?_ ?_
   ·intro b3
    have c3 := b3
    try simp only [beq_iff_eq] at c3
    refine Y_end fun R hR => ?_
    simp only [EXP, inr_u8, Int.reduceLE, aops, astep, awant, aeff, aop, abin, ev, ofValue, St.put, zg1, zg0, zgd, zmo, Option.map_none, zbs, if_true, zs1, zs0, Nat.add_zero, zft, if_false, and_self, reduceCtorEq, bq_tf, ty_uint8, ty_api_Node, b3]
    with_reducible refine hR _ ?_
    clear hR R
    show S _ _ _ _ _
    refine S_true (by simp only [ev, zg1, zg0, zgd]) ?_
    refine S_of_X EX_ok (by kernel_rfl) ?_
    refine X_rg fun R hR => ?_
    simp only [EXP, aops, astep, awant, aeff, aop, astore, ev, St.put, gd_int, cl_int, zg1, zg0, zgd, zmo, if_true, zs1, zs0, zlc, zln, zd1, zd0, zt0, zca, zna, Nat.reduceAdd, Nat.reduceLeDiff, Nat.zero_add, Nat.add_zero, if_false, and_self, reduceCtorEq, ty_uint8, ty_api_Node]
    with_reducible refine hR _ ?_
    clear hR R
    have hK : (trT c t).kind = c := by rw [trT_kind]; rw [if_pos]; simp_all [updK]
    exact ⟨by rw [hK]; rfl, (BnL.slot (by repeat first | exact .nil | apply BnL.cons (.inl rfl) | apply BnL.cons (.inr (.inl rfl)) | apply BnL.cons (.inl (dN_avoid _ _)) | apply BnL.cons (.inl (by (simp only [D.avoid, D.avoids, dNs_avoid', Bool.and_self]; done)))))⟩
   ·intro b4
    have c4 := b4
    try simp only [ne_eq, beq_eq_false_iff_ne] at c4
    refine Y_end fun R hR => ?_
    simp only [EXP, inr_u8, Int.reduceLE, aops, astep, awant, aeff, aop, abin, aint, mkD, ev, ofValue, St.put, ia_int, zg1, zg0, zgd, zmo, zbs, if_true, zs1, zs0, zlc, zln, zd0, zt1, zt0, Nat.reduceAdd, Nat.reduceLeDiff, Nat.zero_add, Nat.add_zero, zft, if_false, and_self, reduceCtorEq, beq_self_eq_true, ty_uint8, ty_api_Node, b4]
    with_reducible refine hR _ ?_
    clear hR R
    show S _ _ _ _ _
    refine S_ite (by simp only [ev, zg1, zg0, zgd]; exact rfl) ?_ ?_
    ·intro b5
     have c5 := b5
     try simp only [beq_iff_eq] at c5
     refine S_of_X EX_ok (by kernel_rfl) ?_
     refine X_rg fun R hR => ?_
     simp only [EXP, aops, astep, awant, aeff, aop, astore, ev, St.put, gd_int, cl_int, zg1, zg0, zgd, zmo, if_true, zs1, zs0, zlc, zln, zd1, zd0, zt0, zca, zna, Nat.reduceAdd, Nat.reduceLeDiff, Nat.zero_add, Nat.add_zero, if_false, and_self, reduceCtorEq, ty_uint8, ty_api_Node, b5]
     with_reducible refine hR _ ?_
     clear hR R
     have hK : (trT c t).kind = c := by rw [trT_kind]; rw [if_pos]; simp_all [updK]
     exact ⟨by rw [hK]; rfl, (BnL.slot (by repeat first | exact .nil | apply BnL.cons (.inl rfl) | apply BnL.cons (.inr (.inl rfl)) | apply BnL.cons (.inl (dN_avoid _ _)) | apply BnL.cons (.inl (by (simp only [D.avoid, D.avoids, dNs_avoid', Bool.and_self]; done)))))⟩
    ·intro b6
     have c6 := b6
     try simp only [ne_eq, beq_eq_false_iff_ne] at c6
     refine S_skip ?_
     have hK : (trT c t).kind = t.kind := by rw [trT_kind]; rw [if_neg]; simp_all [updK]
     exact ⟨by rw [hK]; rfl, (BnL.slot (by repeat first | exact .nil | apply BnL.cons (.inl rfl) | apply BnL.cons (.inr (.inl rfl)) | apply BnL.cons (.inl (dN_avoid _ _)) | apply BnL.cons (.inl (by (simp only [D.avoid, D.avoids, dNs_avoid', Bool.and_self]; done)))))⟩
 ·skip
  rintro σ ⟨hσ, hx⟩
  generalize slotOf σ = x at hσ hx
  subst hσ
  refine S_seq ?_
  obtain ⟨z, hz0, hzs⟩ := Option.map_eq_some_iff.1 inf_api_Node_zc
  have hz4 := zer_node hz0
  refine S_ls ?_
  refine LS_ops EX_ok 3 (by kernel_rfl) fun R hR => ?_
  simp only [EXP, aops, astep, awant, aeff, aop, mkD, ev, St.put, ia_slice, zg1, zg0, zgd, zmo, if_true, zs1, zs0, zlm, zlc, zln, zd1, zd0, zt1, zt0, Nat.reduceAdd, Nat.reduceLeDiff, Nat.zero_add, zft, if_false, reduceCtorEq, ty_s_api_Node, ty_api_Node, und_api_Node]
  with_reducible refine hR _ ?_
  clear hR R
  simp only [zd1, zd0]
  refine LS_make (s := 26) (n := t.kids.length) (k := .i64) (t := 24) (e := 26) (i := inf_api_Node) (z := z) (ds := z4) rfl rfl (EXP ▸ und_api_Node) (EXP ▸ inf_api_Node_eq) hz0 hz4 (hzs.trans inf_api_Node_size.symm) (by rw [inf_api_Node_size]; omega) (by rw [inf_api_Node_bytes]; omega) rfl (by omega) ?_
  rw [inf_api_Node_size]
  simp only [St.put, zlc, zln, Nat.reduceAdd, zs1, zs0, zca, zna]
  refine LS_ops EX_ok 2 (by kernel_rfl) fun R hR => ?_
  simp only [EXP, aops, astep, awant, aeff, aop, astore, ev, St.put, gd_bsl, cl_bsl, zg1, zg0, zgd, zmo, if_true, zs1, zs0, zlc, zln, zd1, zd0, zt1, zt0, zca, zna, Nat.reduceAdd, Nat.reduceLeDiff, Nat.zero_add, if_false, and_self, reduceCtorEq, ty_s_api_Node, ty_api_Node]
  with_reducible refine hR _ ?_
  clear hR R
  simp only [zd1, zd0]
  refine LS_nil ?_
  show S _ _ _ _ _
  refine S_seq ?_
  refine S_seq ?_
  refine S_of_X EX_ok (by kernel_rfl) ?_
  refine X_rg fun R hR => ?_
  simp only [EXP, inr_i64, Int.reduceLE, Int.reduceNeg, aops, astep, awant, aeff, aop, mkD, ev, ofValue, St.put, ia_slice, zg1, zg0, zgd, zmo, if_true, zs1, zs0, zlm, zlc, zln, zd1, zd0, zt1, zt0, Nat.reduceAdd, Nat.reduceLeDiff, Nat.zero_add, zft, if_false, and_self, reduceCtorEq, ty_s_api_Node, ty_api_Node, und_api_Node]
  with_reducible refine hR _ ?_
  clear hR R
  show S _ _ _ _ _
  refine S_block ?_
  refine S_loop (fun m σ => ∃ (i : Nat) (r : List (List D)) (nx : Nat) (lv : List Nat), σ = ⟨[slotOf σ 0, .int .u8 c, .ptr 0 0, slotOf σ 3, .ptr 1 0, .ptr 2 0, slotOf σ 6, slotOf σ 7, slotOf σ 8, slotOf σ 9, slotOf σ 10, slotOf σ 11, slotOf σ 12, slotOf σ 13, slotOf σ 14, slotOf σ 15, slotOf σ 16, slotOf σ 17, slotOf σ 18, slotOf σ 19, slotOf σ 20, slotOf σ 21, slotOf σ 22, slotOf σ 23, slotOf σ 24, slotOf σ 25, slotOf σ 26, .bsl 3 0 4 t.kids.length, slotOf σ 28, slotOf σ 29, .slice .imm (if (t.kids.map dN).isEmpty = true then 0 else 4) (t.kids.map dN), .int .i64 t.kids.length, .int .i64 i, slotOf σ 33, slotOf σ 34, slotOf σ 35, slotOf σ 36, slotOf σ 37, slotOf σ 38, slotOf σ 39, slotOf σ 40, slotOf σ 41, slotOf σ 42, slotOf σ 43, slotOf σ 44, slotOf σ 45], [.int .u8 t.kind, .int .i64 t.num, .str t.name, .slice .imm (if (t.kids.map dN).isEmpty = true then 0 else 4) (t.kids.map dN)] :: [.int .u8 0, .int .i64 0, .str ⟨#[]⟩, .slice .nil 0 []] :: [.int .u8 (trT c t).kind, .int .i64 t.num, .str t.name, .bsl 3 0 4 t.kids.length] :: rowC (trT c) t.kids i :: r, nx, lv⟩ ∧ m = t.kids.length - i ∧ i ≤ t.kids.length ∧ (∀ s, BsN 3 4 t.kids.length (slotOf σ s)) ∧ (∀ b ∈ r, D.avoids 3 b = true)) ?_ (t.kids.length) ?_
  rotate_left
  ·exact ⟨0, [], _, _, by rw [rowC_zero]; rfl, rfl, Nat.zero_le _, (BnL.slot (by repeat first | exact .nil | apply BnL.cons (.inl rfl) | apply BnL.cons (hx _) | apply BnL.cons (.inr (.inl rfl)) | apply BnL.cons (.inl (dN_avoid _ _)) | apply BnL.cons (.inl (by (simp only [D.avoid, dNs_avoid']; done))))), fun b hb => absurd hb (List.not_mem_nil)⟩
  rintro m σ ⟨i, r, nx, lv, hσ, rfl, hi, hx, hr⟩
  generalize slotOf σ = x at hσ hx
  subst hσ
  refine S_seq ?_
  refine S_of_X EX_ok (by kernel_rfl) ?_
  refine X_rg fun R hR => ?_
  simp only [nat_lt, aops, astep, awant, aeff, aop, abin, aint, ev, St.put, zg1, zg0, zgd, zmo, if_true, zs1, zs0]
  with_reducible refine hR _ ?_
  clear hR R
  show S _ _ _ _ _
  refine S_seq ?_
  refine S_ite (by simp only [ev, zg1, zg0, zgd]; exact rfl) ?_ ?_
  ·intro b7
   have c7 := b7
   try simp only [decide_eq_true_eq] at c7
   refine S_skip ?_
   show S _ _ _ _ _
   refine S_seq ?_
   refine S_block ?_
   refine S_seq ?_
   have hlt : i < t.kids.length := by first | assumption | omega
   have hn1 : ((if (t.kids.map dN).isEmpty = true then 0 else 4) = 4) = True := eq_true (sl_n (j := i) (by simpa using hlt))
   have e1 : (t.kids.map dN)[i]? = some (dN t.kids[i]) := by simp [hlt]
   have hrec := ih t.kids[i] (List.getElem_mem hlt)
   refine S_of_X EX_ok (by kernel_rfl) ?_
   refine X_rg fun R hR => ?_
   simp only [EXP, app_get0, app_set0, nat_lt, nat_0, nat_to, aops, astep, awant, aeff, aop, astore, ev, St.put, zg1, zg0, zgd, zmo, zbs, if_true, zs1, zs0, zlm, zlc, zln, zd1, zd0, zt0, zca, zna, Nat.reduceAdd, Nat.reduceLeDiff, Nat.zero_add, and_self, decide_true, zis, ty_api_Node, und_api_Node, siz_api_Node, inf_api_Node_eq, dN_cells, dN_isAgg, dN_good, sl, hlt, hn1, e1]
   with_reducible refine hR _ ?_
   clear hR R
   show S _ _ _ _ _
   have hil : ((i : Int) < (t.kids.length : Int)) = True := eq_true (by omega)
   have hi0 : (0 ≤ (i : Int)) = True := eq_true (by omega)
   have hin : ((i : Int)).toNat = i := Int.toNat_natCast i
   have hle : (i * 4 + 4 ≤ (rowC (trT c) t.kids i).length) = True := eq_true (by rw [rowC_len _ (Nat.le_of_lt hlt)]; omega)
   have hset := rowC_set (trT c) hlt
   rw [zaa] at hset
   have hc4 : ((dN (trT c t.kids[i])).cells.length = 4) = True := eq_true (by rw [dN_cells]; rfl)
   have hlt4 : (i * 4 + 4 ≤ t.kids.length * 4) = True := eq_true (by omega)
   have hrl := rowC_len (trT c) (Nat.le_of_lt hlt)
   refine S_dg EX_ok (CaOk.cal EX_ok) 6 (by simp only [zlc, zln]; omega) (by kernel_rfl) fun R hR => ?_
   simp only [EXP, app_get0, aops, astep, awant, aeff, aop, mkD, ev, St.put, pcall, ia_bsl, zmc, zmn, zg1, zg0, zgd, zmo, if_true, zs1, zs0, zlc, zln, zd1, zd0, zt1, zt0, zca, zna, Nat.reduceAdd, Nat.reduceLeDiff, Nat.zero_add, zft, if_false, reduceCtorEq, ty_s_api_Node, ty_api_Node, any20, hrec, Nat.zero_add, dN_agg]
   with_reducible refine hR _ ?_
   clear hR R
   intro R hR
   simp only [EXP, aops, astep, awant, aeff, aop, astore, ev, St.put, zg1, zg0, zgd, zmo, if_true, zs1, zs0, zd1, zd0, zaa, Nat.reduceLT, Nat.zero_add, and_self, zis, ty_api_Node, und_api_Node, siz_api_Node, inf_api_Node_eq, dN_good, hc4, hil, hi0, hin, hrl, hlt4, hset, Nat.zero_add]
   with_reducible refine hR _ ?_
   clear hR R
   show S _ _ _ _ _
   have hbig : i < 9223372036854775807 := by omega
   refine S_of_X EX_ok (by kernel_rfl) ?_
   refine X_rg fun R hR => ?_
   simp only [inr_i64, Int.reduceLE, Int.reduceNeg, aops, astep, awant, aeff, aop, abin, aint, ev, ofValue, St.put, zg1, zg0, zgd, zmo, if_true, zs1, zs0, and_self, nat_succ hbig]
   with_reducible refine hR _ ?_
   clear hR R
   show ∃ m, m < _ ∧ _
   exact ⟨t.kids.length - (i + 1), by omega, i + 1, _, _, _, rfl, rfl, by omega, (BnL.slot (by repeat first | exact .nil | apply BnL.cons (.inl rfl) | apply BnL.cons (hx _) | apply BnL.cons (.inr (.inl rfl)) | apply BnL.cons (.inr (.inr ⟨i, hlt, rfl⟩)) | apply BnL.cons (.inl (dN_avoid _ _)) | apply BnL.cons (.inl (by (simp only [D.avoid, dN_avoid, dNs_avoid']; done))))), fun b hb => by rcases List.mem_append.1 hb with hb | hb; (exact hr b hb); (rw [List.mem_singleton] at hb; subst hb; (simp only [D.avoid, D.avoids, dNs_avoid', Bool.and_self]; done))⟩
  ·intro b8
   have c8 := b8
   try simp only [decide_eq_false_iff_not] at c8
   refine S_exit ?_
   show S _ _ _ _ _
   refine S_seq ?_
   have hil : i = t.kids.length := by first | omega | (simp_all; omega)
   subst hil
   rw [rowC_all]
   have h4 : ∀ d ∈ t.kids.map (fun x => dN (trT c x)), d.cells.length = 4 := fun d hd => by obtain ⟨x, _, rfl⟩ := List.mem_map.1 hd; rw [dN_cells]; rfl
   have hx2 : ∀ s, ∃ d, Fz 3 ((t.kids.map fun x => dN (trT c x)).flatMap D.cells) (x s) d := fun s => BsN.fz (by omega) h4 (by rw [zlm]; exact hx s)
   obtain ⟨y, hy⟩ := Classical.axiomOfChoice hx2
   have hrow : Fz 3 ((t.kids.map fun x => dN (trT c x)).flatMap D.cells) (.bsl 3 0 4 t.kids.length) (.slice .imm 4 (t.kids.map fun x => dN (trT c x))) := Fz.row rfl (by simp) (by omega) h4
   apply S_freeze (i := 3) (t0 := 27) (d0 := .bsl 3 0 4 t.kids.length) (cs := (t.kids.map fun x => dN (trT c x)).flatMap D.cells) (Nat.zero_le _) rfl (.inr ⟨_, _, _, rfl⟩) rfl (flat_cav _ 3 _)
   ·dsimp only
    repeat first
      | exact .nil
      | apply FzL.cons (.keep _ rfl)
      | apply FzL.cons (hy _)
      | apply FzL.cons hrow
      | apply FzL.cons (.keep _ (by (simp only [D.avoid, dNs_avoid']; done)))
   ·dsimp only
    repeat first
      | exact FzB.all hr
      | apply FzB.self (c' := []) rfl
      | apply FzB.turn (t0 := 5) (off := 0) (.cons (.keep _ rfl) (.cons (.keep _ rfl) (.cons (.keep _ rfl) (.cons hrow .nil)))) rfl
      | apply FzB.keep rfl
      | apply FzB.keep (by (simp only [D.avoid, D.avoids, dNs_avoid', Bool.and_self]; done))
   show S _ _ _ _ _
   refine S_of_X EX_ok (by kernel_rfl) ?_
   refine X_rg fun R hR => ?_
   simp only [EXP, aops, astep, awant, aeff, aop, mkD, astore, ev, St.put, gd_agg, cl_agg, zg1, zg0, zgd, zmo, if_true, zs1, zs0, zlc, zln, zd1, zd0, zt1, zt0, zca, zna, Nat.reduceAdd, Nat.reduceLeDiff, Nat.zero_add, and_self, ty_api_Node, b8]
   with_reducible refine hR _ ?_
   clear hR R
   show S _ _ _ _ _
   refine S_ret ?_
   refine ⟨.inr rfl, .agg [.int .u8 (trT c t).kind, .int .i64 t.num, .str t.name, .slice .imm 4 (t.kids.map fun x => dN (trT c x))], ?_, ?_, ?_⟩
   ·simp only [resD, resAll, resOne, resTup, Try.results20, EXP, mkD, ty_api_Node, zg1, zg0, zd0, zt1, zt0, zlc, zln, Nat.reduceAdd, Nat.reduceLeDiff, Nat.zero_add, if_true, zmo]; try exact rfl
   ·exact tr_under c t
   ·exact tr_strip c t
theorem turn_any (c : Int) (t : Tr) : t.size ≤ 1000000 → PContract Try.prog 20 [dN t, .int .u8 c] (dN (trT c t)) := by
 induction t using Tr.ind with
 | h k n s l ih =>
  intro hs
  exact turn_at _ c hs (fun x hx => ih x hx (by simp only [Tr.kids] at hx; have := Tr.size_le_of_mem hx; simp only [Tr.size] at hs; omega))

end Go.Proofs.Ytmglacjcefajlaa
