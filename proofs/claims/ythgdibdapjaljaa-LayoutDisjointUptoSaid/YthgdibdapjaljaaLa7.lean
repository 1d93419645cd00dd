/- Layouts over data: layout.Of. -/
import Derived.Test.YthgdibdapjaljaaLa6
namespace Go.Proofs.Ythgdibdapjaljaa
open Go.RowKit
theorem dclF_y {l : List Vd} {i : Nat} {f : Fm} (h : i < l.length) (hn : inL l[i].name (l.take i) = true) : dclF (l.take i) (l.drop i) f = none := by
 rw [List.drop_eq_getElem_cons h, dclF, if_pos hn]
theorem dclF_n {l : List Vd} {i : Nat} {f : Fm} (h : i < l.length) (hn : inL l[i].name (l.take i) = false) : dclF (l.take i) (l.drop i) f = dclF (l.take (i + 1)) (l.drop (i + 1)) (addF f l[i]) := by
 rw [List.drop_eq_getElem_cons h, dclF, hn, List.take_succ_eq_append_getElem h]; rfl
theorem und_msb : Try.prog.underlying 77 = some (.map 9 4) := by kernel_rfl
theorem ty_msb : tyOf Try.prog 77 = some { sz := 1, agg := false, flds := [], elem := none, zero := some [.nmap], bytes := 8 } := by kernel_rfl
theorem und_str0 : Try.prog.underlying 9 = some .string := by kernel_rfl
theorem zer_bool : ((Try.prog.info? 4).bind (·.zero)).bind ofValue = some (.bool false) := by kernel_rfl
theorem look_mp (l : List Vd) (s : ByteArray) (bx : Nat → Option (List D)) (h : bx 5 = some (mpD l)) : alook Try.prog bx 77 (.mref 5) (.str s) false = some (.bool (inL s l)) := by
 unfold alook
 simp only [und_msb, und_str0, keyOk, if_true, mcont, h, mp_find]
 cases inL s l
 ·simp only [zft, if_false, zer_bool]
 ·rfl
theorem set_mp (l : List Vd) (v : Vd) (hn : inL v.name l = false) (hl : l.length ≤ 1000000) (σ : St) (h : σ.bx[5]? = some (mpD l)) : amset Try.prog σ 77 (.mref 5) (.str v.name) (.bool true) = some { σ with bx := σ.bx.set 5 (mpD (l ++ [v])) } := by
 have hl2 : (mpD l).length ≤ 16777216 := by rw [mpD_len]; omega
 unfold amset
 simp only [und_msb, und_str0, keyOk, h, mp_put hn]
 rw [if_pos ⟨trivial, rfl, rfl⟩, if_pos hl2]; rfl
mutual
theorem walkL_len : ∀ (t : Tr) (p : List Int), (walkL p t).length = t.size
 | .mk k n s c, p => by
  have := walksL_len c p 0
  simp only [walkL, zlc, Tr.size]; omega
theorem walksL_len : ∀ (c : List Tr) (p : List Int) (i : Nat), (walksL p i c).length = Tr.sizes c
 | [], _, _ => rfl
 | t :: r, p, i => by simp only [walksL, zla, walkL_len t, walksL_len r, Tr.sizes]
end
theorem dcl_len {v : Vd} (h : dclB v = true) : 0 ≤ v.len ∧ v.len ≤ 16 := by
 unfold dclB at h
 split at h
 ·have : v.len = 0 := by simpa using h
  omega
 ·split at h
  ·simp at h; omega
  ·cases h
theorem ofF_bad {l : List Vd} {t : Tr} (h : (dclsB l && blockB t) = false) : ofF l t = (zF, 3) := by unfold ofF; rw [if_pos h]
theorem ofF_some {l : List Vd} {t : Tr} {f : Fm} (h : dclsB l = true) (h' : blockB t = true) (hf : (dclF [] l zF).bind (locF l ((walkL [] t).map (·.2))) = some f) : ofF l t = (f, 0) := by
 unfold ofF; rw [if_neg (by rw [h, h']; decide), hf]
theorem ofF_none {l : List Vd} {t : Tr} (h : dclsB l = true) (h' : blockB t = true) (hf : (dclF [] l zF).bind (locF l ((walkL [] t).map (·.2))) = none) : ofF l t = (zF, 22) := by
 unfold ofF; rw [if_neg (by rw [h, h']; decide), hf]
theorem locF_no {l : List Vd} {f : Fm} {m : Tr} {W : List Tr} (h : locV m = none) : locF l (m :: W) f = locF l W f := by
 simp only [locF, locS, h, zbs]
theorem locF_bad {l : List Vd} {f : Fm} {m : Tr} {W : List Tr} {v : Vd} (h : locV m = some v) (hi : inL v.name l = true) : locF l (m :: W) f = none := by
 simp only [locF, locS, h, hi, if_true, Option.bind_none]
theorem locF_old {l : List Vd} {f : Fm} {m : Tr} {W : List Tr} {v : Vd} (h : locV m = some v) (hi : inL v.name l = false) (hy : (fdS f.slots v.name v.kind).2 = true) : locF l (m :: W) f = locF l W f := by
 simp only [locF, locS, h, hi, hy, zft, if_true, if_false, zbs]
theorem locF_new {l : List Vd} {f : Fm} {m : Tr} {W : List Tr} {v : Vd} (h : locV m = some v) (hi : inL v.name l = false) (hy : (fdS f.slots v.name v.kind).2 = false) : locF l (m :: W) f = locF l W (addF f v) := by
 simp only [locF, locS, h, hi, hy, zft, if_false, zbs]
theorem own_fst {f : Fm} {o : Own} {n nx : Nat} {lv : List Nat} (ha : AccB 27 4 o n (f.slots.map dSl) nx lv) : (D.agg [.slice o n (f.slots.map dSl), .int .i64 f.cells, .int .i64 f.stacks]).strip = dFm f := by
 have h1 : (f.slots.map dSl).map D.strip = f.slots.map dSl := by rw [List.map_map]; exact List.map_congr_left fun x _ => dSl_strip x
 have h2 : ∀ a b c : D, (D.agg [a, b, c]).strip = .agg [a.strip, b.strip, c.strip] := fun _ _ _ => by simp only [D.strip, D.strips]
 rw [h2, ha.a.strip, h1]; rfl
theorem own_find {f : Fm} {o : Own} {n nx : Nat} {lv : List Nat} (ha : AccB 27 4 o n (f.slots.map dSl) nx lv) (s : ByteArray) (k : Int) (hll : f.slots.length ≤ 1000000) : fn EV 11 [.agg [.slice o n (f.slots.map dSl), .int .i64 f.cells, .int .i64 f.stacks], .str s, .int .u8 k] = some (.tup [dSl (fdS f.slots s k).1, .bool (fdS f.slots s k).2]) := by
 have h1 : plain [.agg [.slice o n (f.slots.map dSl), .int .i64 f.cells, .int .i64 f.stacks], .str s, .int .u8 k] = true := by
  simp only [plain, List.all_cons, List.all_nil, D.under, D.unders, unders_id (f := dSl) dSl_under, D.good, Bool.and_true]
 have h2 : plain [dFm f, .str s, .int .u8 k] = true := by simp only [plain, List.all_cons, List.all_nil, dFm_pl, str_pl, int_pl, Bool.and_true]
 rw [fn_strip h1 h2 (by simp only [zmc, zmn, own_fst ha, dFm_strip])]
 exact lfind_fn f s k hll
theorem NC_un (t : Tr) (m : Nat) : D.unders m [.int .u8 t.kind, .int .i64 t.num, .str t.name, .slice .imm (if (t.kids.map dN).isEmpty = true then 0 else 4) (t.kids.map dN)] = true := by
 have h := dN_under m t
 rw [dN_eq] at h; exact h
theorem freeB {r : List (List D)} (h : Free r) {a b : List D} (ha : ∀ m, D.unders m a = true) (hb : ∀ m, D.unders m b = true) : Free (r ++ [a, b]) := by
 have := (h.snoc ha).snoc hb
 rwa [zaa] at this
theorem freeC {r : List (List D)} (h : Free r) {a b c : List D} (ha : ∀ m, D.unders m a = true) (hb : ∀ m, D.unders m b = true) (hc : ∀ m, D.unders m c = true) : Free (r ++ [a, b, c]) := by
 have := (freeB h ha hb).snoc hc
 rwa [zaa] at this
theorem bxs_un {S3 : List D} (hS : D.unders 0 S3 = true) (t : Tr) (f : Fm) (o : Own) (n : Nat) (m : List Vd) {r : List (List D)} (hr : Free r) :
  ([.int .u8 t.kind, .int .i64 t.num, .str t.name, .slice .imm (if (t.kids.map dN).isEmpty = true then 0 else 4) (t.kids.map dN)] :: [D.slice .nil 0 [], .int .i64 0, .int .i64 0] :: [D.int .i64 0] :: S3 :: [.slice o n (f.slots.map dSl), .int .i64 f.cells, .int .i64 f.stacks] :: mpD m :: [D.mref 5] :: r).all (D.unders ([.int .u8 t.kind, .int .i64 t.num, .str t.name, .slice .imm (if (t.kids.map dN).isEmpty = true then 0 else 4) (t.kids.map dN)] :: [D.slice .nil 0 [], .int .i64 0, .int .i64 0] :: [D.int .i64 0] :: S3 :: [.slice o n (f.slots.map dSl), .int .i64 f.cells, .int .i64 f.stacks] :: mpD m :: [D.mref 5] :: r).length) = true := by
 generalize hN : List.length _ = N
 have h5 : 5 < N := by rw [← hN]; simp
 simp only [List.all_cons, NC_un, mpD_under, D.unders_le (Nat.zero_le N) _ hS, hr.all N, Bool.true_and, Bool.and_true]
 simp only [D.unders, D.under, unders_id (f := dSl) dSl_under, decide_eq_true h5, Bool.and_true]
set_option maxRecDepth 100000 in
set_option maxHeartbeats 4000000 in
theorem of_fn (l : List Vd) (t : Tr) (hs : t.size ≤ 900000) : fn EV 14 [sl 3 (l.map dV), dN t] = some (.tup [dFm (ofF l t).1, .int .i64 (ofF l t).2]) := by
 refine fn_Xs rfl Try.func14 rfl (by simp only [plain, List.all_cons, List.all_nil, sl_pl (f := dV) (fun _ _ => rfl), dN_pl, Bool.and_true]) (rfl) ?_
 simp only [zmc, zmn, sl_strip (map_strip (f := dV) (fun _ => rfl) _), dN_strip]
 simp only [enterSt, Try.ntmps14, zlc, zln, Nat.reduceAdd, Nat.reduceSub, zr1, zr0, zca, zna]
 refine X_seq ?_
 refine X_rg fun R hR => ?_
 simp only [EVP, aops, astep, awant, aeff, ev, St.put, zg1, zg0, zgd, zmo, zbs, if_true, zs1, zs0, zlc, zln, zca, zna, Nat.reduceAdd, Nat.zero_add, ty_layout_Frame, ty_api_Errno, dN_cells, dN_good, sl]
 with_reducible refine hR _ ?_
 clear hR R
 show X _ _ _ _
 refine X_seq ?_
 refine X_seq ?_
 obtain ⟨_, hnw, hnu, o1, o2, o3, n1, n2, n3, l1, l2, l3, rfl⟩ := new_ex l
 simp only [sl] at hnw
 have hS : D.unders 0 [.slice o1 n1 l1, .slice o2 n2 l2, .slice o3 n3 l3] = true := by simpa [D.under, D.unders] using hnu
 refine X_rg fun R hR => ?_
 simp only [EVP, aops, astep, awant, aeff, aop, astore, ev, ofValue, St.put, pcall, gd_agg, cl_agg, zmc, zmn, zg1, zg0, zgd, zmo, zbs, if_true, zs1, zs0, zlc, zln, zd1, zd0, zt0, zca, zna, Nat.reduceAdd, Nat.reduceLeDiff, Nat.zero_add, and_self, ty_api_State, any28, hnw]
 with_reducible refine hR _ ?_
 clear hR R
 show X _ _ _ _
 refine X_seq ?_
 have hbk := o_ast_IsBlock t
 refine X_y ?_
 refine Y_k 3 fun R hR => ?_
 simp only [EVP, inr_i64, Int.reduceLE, Int.reduceNeg, aops, astep, awant, aeff, aop, abin, aint, ev, ofValue, St.put, zg1, zg0, zgd, zmo, if_true, zs1, zs0, zt1, zt0, and_self]
 with_reducible refine hR _ ?_
 clear hR R
 simp only [zd1, zd0]
 refine Y_if 24 (by simp only [ev, zg1, zg0, zgd]; exact rfl) ?_ ?_
 ·intro b1
  have c1 := b1
  try simp only [bne_iff_ne, ne_eq] at c1
  refine Y_end fun R hR => ?_
  simp only [EVP, aops, astep, awant, aeff, aop, mkD, ev, ofValue, St.put, pcall, zmc, zmn, zg1, zg0, zgd, zmo, Option.map_none, zbs, if_true, zs1, zs0, zlc, zln, zd0, zt1, zt0, zca, zna, Nat.reduceAdd, Nat.reduceLeDiff, Nat.zero_add, zft, if_false, bq_tf, ty_api_Node, any16, dN_agg, b1]
  with_reducible refine hR _ ?_
  clear hR R
  show X _ _ _ _
  refine X_true (by simp only [ev, zg1, zg0, zgd]) ?_
  refine X_seq ?_
  refine X_rg fun R hR => ?_
  simp only [EVP, inr_i64, Int.reduceLE, Int.reduceNeg, aops, astep, awant, aeff, aop, afill, astore, ev, ofValue, St.put, gd_int, cl_int, gd_agg, cl_agg, zmn, zg1, zg0, zgd, zmo, if_true, zs1, zs0, zlc, zln, zd1, zd0, zt0, zca, zna, Nat.reduceAdd, Nat.reduceLeDiff, Nat.zero_add, and_self, ty_layout_Frame, st_layout_Frame, sta_layout_Frame, ty_api_Errno]
  with_reducible refine hR _ ?_
  clear hR R
  show X _ _ _ _
  refine X_ret ?_
  show ∃ d, resD _ _ _ = some d ∧ _ ∧ _
  have hbad : (dclsB l && blockB t) = false := by first | (simp_all; done) | (cases hq : dclsB l <;> simp_all)
  refine ⟨_, by simp only [resD, resAll, resOne, Try.results14, EVP, mkD, ty_layout_Frame, zg1, zg0, zd0, zt1, zt0, zlc, zln, Nat.reduceAdd, Nat.reduceLeDiff, Nat.zero_add, if_true, D.isAgg]; exact rfl, ?_, ?_⟩
  ·first | rfl | (simp only [resTup, D.under, D.unders, unders_id (f := dSl) dSl_under, Bool.and_true]; done) | (trace_state; fail)
  ·rw [ofF_bad hbad]; simp only []; rfl
 ·intro b2
  have c2 := b2
  try simp only [bne_eq_false_iff_eq] at c2
  refine Y_end fun R hR => ?_
  simp only [EVP, aops, astep, awant, aeff, aop, mkD, ev, ofValue, St.put, pcall, zmc, zmn, zg1, zg0, zgd, zmo, zbs, if_true, zs1, zs0, zlc, zln, zd0, zt1, zt0, zca, zna, Nat.reduceAdd, Nat.reduceLeDiff, Nat.zero_add, zft, if_false, beq_self_eq_true, ty_api_Node, any16, dN_agg, b2, hbk]
  with_reducible refine hR _ ?_
  clear hR R
  show X _ _ _ _
  refine X_ite (by simp only [ev, zg1, zg0, zgd]; exact rfl) ?_ ?_
  ·intro b3
   have c3 := b3
   try simp only [znt] at c3
   refine X_seq ?_
   refine X_rg fun R hR => ?_
   simp only [EVP, inr_i64, Int.reduceLE, Int.reduceNeg, aops, astep, awant, aeff, aop, afill, astore, ev, ofValue, St.put, gd_int, cl_int, gd_agg, cl_agg, zmn, zg1, zg0, zgd, zmo, if_true, zs1, zs0, zlc, zln, zd1, zd0, zt0, zca, zna, Nat.reduceAdd, Nat.reduceLeDiff, Nat.zero_add, and_self, ty_layout_Frame, st_layout_Frame, sta_layout_Frame, ty_api_Errno, b3]
   with_reducible refine hR _ ?_
   clear hR R
   show X _ _ _ _
   refine X_ret ?_
   show ∃ d, resD _ _ _ = some d ∧ _ ∧ _
   have hbad : (dclsB l && blockB t) = false := by first | (simp_all; done) | (cases hq : dclsB l <;> simp_all)
   refine ⟨_, by simp only [resD, resAll, resOne, Try.results14, EVP, mkD, ty_layout_Frame, zg1, zg0, zd0, zt1, zt0, zlc, zln, Nat.reduceAdd, Nat.reduceLeDiff, Nat.zero_add, if_true, D.isAgg]; exact rfl, ?_, ?_⟩
   ·first | rfl | (simp only [resTup, D.under, D.unders, unders_id (f := dSl) dSl_under, Bool.and_true]; done) | (trace_state; fail)
   ·rw [ofF_bad hbad]; simp only []; rfl
  ·intro b4
   have c4 := b4
   try simp only [znf] at c4
   refine X_skip ?_
   show X _ _ _ _
   refine X_seq ?_
   refine X_rg fun R hR => ?_
   simp only [EVP, aops, astep, awant, aeff, St.put, zmo, zbs, if_true, zs1, zs0, zlc, zln, zca, zna, Nat.reduceAdd, Nat.zero_add, ty_layout_Frame, b4]
   with_reducible refine hR _ ?_
   clear hR R
   show X _ _ _ _
   refine X_seq ?_
   refine X_rg fun R hR => ?_
   simp only [EVP, aops, astep, awant, aeff, astore, ev, St.put, gd_mref, cl_mref, zg1, zg0, zgd, zmo, zbs, if_true, zs1, zs0, zlc, zln, zd1, zd0, zt0, zca, zna, Nat.reduceAdd, Nat.reduceLeDiff, Nat.zero_add, and_self, Option.isNone_none, ty_msb]
   with_reducible refine hR _ ?_
   clear hR R
   show X _ _ _ _
   refine X_seq ?_
   refine X_seq ?_
   have hd : dclsB l = true := by first | assumption | (simp_all; done)
   have hB : blockB t = true := by first | assumption | (simp_all; done)
   have hln : l.length ≤ 32 ∧ l.all dclB = true := by simpa [dclsB] using hd
   refine X_rg fun R hR => ?_
   simp only [EVP, inr_i64, Int.reduceLE, Int.reduceNeg, aops, astep, awant, aeff, aop, ev, ofValue, St.put, zg1, zg0, zgd, zmo, if_true, zs1, zs0, zlm, and_self, und_api_VarDecl]
   with_reducible refine hR _ ?_
   clear hR R
   show X _ _ _ _
   refine X_block ?_
   refine X_loop (fun m σ => ∃ (i : Nat) (f : Fm) (o : Own) (n : Nat) (r : List (List D)) (nx : Nat) (lv : List Nat), σ = ⟨[slotOf σ 0, slotOf σ 1, slotOf σ 2, .ptr 0 0, .ptr 1 0, .ptr 2 0, slotOf σ 6, slotOf σ 7, .ptr 4 0, .ptr 6 0, slotOf σ 10, slotOf σ 11, slotOf σ 12, slotOf σ 13, slotOf σ 14, slotOf σ 15, slotOf σ 16, slotOf σ 17, slotOf σ 18, slotOf σ 19, slotOf σ 20, slotOf σ 21, slotOf σ 22, slotOf σ 23, slotOf σ 24, slotOf σ 25, slotOf σ 26, slotOf σ 27, slotOf σ 28, slotOf σ 29, slotOf σ 30, .slice .imm (if (l.map dV).isEmpty = true then 0 else 3) (l.map dV), .int .i64 l.length, .int .i64 i, slotOf σ 34, slotOf σ 35, slotOf σ 36, slotOf σ 37, slotOf σ 38, slotOf σ 39, slotOf σ 40, slotOf σ 41, slotOf σ 42, slotOf σ 43, slotOf σ 44, slotOf σ 45, slotOf σ 46, slotOf σ 47, slotOf σ 48, slotOf σ 49, slotOf σ 50, slotOf σ 51, slotOf σ 52, slotOf σ 53, slotOf σ 54, slotOf σ 55, slotOf σ 56, slotOf σ 57, slotOf σ 58, slotOf σ 59, slotOf σ 60, slotOf σ 61, slotOf σ 62, slotOf σ 63, slotOf σ 64, slotOf σ 65, slotOf σ 66, slotOf σ 67, slotOf σ 68, slotOf σ 69, slotOf σ 70, slotOf σ 71, slotOf σ 72, slotOf σ 73, slotOf σ 74, slotOf σ 75, slotOf σ 76, slotOf σ 77, slotOf σ 78, slotOf σ 79, slotOf σ 80, slotOf σ 81], [.int .u8 t.kind, .int .i64 t.num, .str t.name, .slice .imm (if (t.kids.map dN).isEmpty = true then 0 else 4) (t.kids.map dN)] :: [.slice .nil 0 [], .int .i64 0, .int .i64 0] :: [.int .i64 0] :: [.slice o1 n1 l1, .slice o2 n2 l2, .slice o3 n3 l3] :: [.slice o n (f.slots.map dSl), .int .i64 f.cells, .int .i64 f.stacks] :: mpD (l.take i) :: [.mref 5] :: r, nx, lv⟩ ∧ m = l.length - i ∧ i ≤ l.length ∧ Hid (Free r) ∧ Hid (AccB 27 4 o n (f.slots.map dSl) nx lv) ∧ Hid (dclF [] l zF = dclF (l.take i) (l.drop i) f) ∧ Hid (FmB i f)) ?_ (l.length) _ ?_
   rotate_left
   ·exact ⟨0, zF, .nil, 0, [], 0, [], rfl, rfl, Nat.zero_le _, Lib.hid Free.nil, Lib.hid (.nil _ _ _ _), Lib.hid rfl, Lib.hid ⟨by decide, by decide, by decide, by decide, by decide⟩⟩
   rintro m σ ⟨i, f, o, n, r, nx, lv, hσ, rfl, hi, hr, ha, hF, hb⟩
   generalize slotOf σ = x at hσ
   subst hσ
   refine X_seq ?_
   refine X_rg fun R hR => ?_
   simp only [nat_lt, aops, astep, awant, aeff, aop, abin, aint, ev, St.put, zg1, zg0, zgd, zmo, if_true, zs1, zs0]
   with_reducible refine hR _ ?_
   clear hR R
   show X _ _ _ _
   refine X_seq ?_
   refine X_ite (by simp only [ev, zg1, zg0, zgd]; exact rfl) ?_ ?_
   ·intro b5
    have c5 := b5
    try simp only [decide_eq_true_eq] at c5
    refine X_skip ?_
    show X _ _ _ _
    refine X_seq ?_
    refine X_block ?_
    refine X_seq ?_
    have hlt : i < l.length := by first | assumption | omega
    have hn1 : ((if (l.map dV).isEmpty = true then 0 else 3) = 3) = True := eq_true (sl_n (j := i) (by simpa using hlt))
    have e1 : (l.map dV)[i]? = some (.agg [.str l[i].name, .int .u8 l[i].kind, .int .i64 l[i].len]) := by rw [List.getElem?_map, List.getElem?_eq_getElem hlt]; rfl
    refine X_rg fun R hR => ?_
    simp only [EVP, app_get0, app_set0, nat_lt, nat_0, nat_to, aops, astep, awant, aeff, aop, astore, ev, St.put, gd_agg, ia_agg, cl_agg, zg1, zg0, zgd, zmo, zbs, if_true, zs1, zs0, zlm, zlc, zln, zd1, zd0, zt0, zca, zna, Nat.reduceAdd, Nat.reduceLeDiff, Nat.zero_add, and_self, decide_true, zis, ty_api_VarDecl, und_api_VarDecl, siz_api_VarDecl, inf_api_VarDecl_eq, hlt, hn1, e1]
    with_reducible refine hR _ ?_
    clear hR R
    show X _ _ _ _
    refine X_seq ?_
    refine X_seq ?_
    have hlk := look_mp (l.take i) l[i].name
    refine X_rg fun R hR => ?_
    simp only [EVP, app_get0, aops, astep, awant, aeff, aop, mkD, ev, St.put, ia_str, ia_mref, zg1, zg0, zgd, zmo, if_true, zs1, zs0, zlc, zln, zd0, zt1, zt0, Nat.reduceAdd, Nat.reduceLeDiff, Nat.zero_add, Nat.add_zero, zft, if_false, reduceCtorEq, ty_string, ty_api_VarDecl, hlk, ty_msb]
    with_reducible refine hR _ ?_
    clear hR R
    show X _ _ _ _
    refine X_ite (by simp only [ev, zg1, zg0, zgd]; exact rfl) ?_ ?_
    ·intro b6
     have c6 := b6
     try simp only [znt, znf, decide_eq_true_eq, decide_eq_false_iff_not, beq_iff_eq, Int.not_lt, Int.not_le, ge_iff_le, gt_iff_lt, bne_iff_ne, ne_eq, bne_eq_false_iff_eq, beq_eq_false_iff_ne, zat, zof] at c6
     refine X_seq ?_
     refine X_rg fun R hR => ?_
     simp only [EVP, inr_i64, Int.reduceLE, Int.reduceNeg, aops, astep, awant, aeff, aop, afill, astore, ev, ofValue, St.put, gd_int, cl_int, gd_agg, cl_agg, zmn, zg1, zg0, zgd, zmo, if_true, zs1, zs0, zlc, zln, zd1, zd0, zt0, zca, zna, Nat.reduceAdd, Nat.reduceLeDiff, Nat.zero_add, and_self, ty_layout_Frame, st_layout_Frame, sta_layout_Frame, ty_api_Errno, b6]
     with_reducible refine hR _ ?_
     clear hR R
     show X _ _ _ _
     refine X_ret ?_
     show ∃ d, resD _ _ _ = some d ∧ _ ∧ _
     have hin : inL l[i].name (l.take i) = true := by first | assumption | (simp_all; done)
     refine ⟨_, by simp only [resD, resAll, resOne, Try.results14, EVP, mkD, ty_layout_Frame, zg1, zg0, zd0, zt1, zt0, zlc, zln, Nat.reduceAdd, Nat.reduceLeDiff, Nat.zero_add, if_true, D.isAgg]; exact rfl, ?_, ?_⟩
     ·first | rfl | (simp only [resTup, D.under, D.unders, unders_id (f := dSl) dSl_under, Bool.and_true]; done) | (trace_state; fail)
     ·rw [ofF_none hd hB (by rw [hF.out, dclF_y hlt hin]; rfl)]; simp only []; rfl
    ·intro b7
     have c7 := b7
     try simp only [znt, znf, decide_eq_true_eq, decide_eq_false_iff_not, beq_iff_eq, Int.not_lt, Int.not_le, ge_iff_le, gt_iff_lt, bne_iff_ne, ne_eq, bne_eq_false_iff_eq, beq_eq_false_iff_ne, zat, zof] at c7
     refine X_skip ?_
     show X _ _ _ _
     refine X_seq ?_
     have hin : inL l[i].name (l.take i) = false := by first | assumption | (simp_all; done)
     have hsm := set_mp (l.take i) l[i] hin (by simp; omega)
     rw [← List.take_succ_eq_append_getElem hlt] at hsm
     refine X_rg fun R hR => ?_
     simp only [EVP, app_get0, aops, astep, awant, aeff, aop, mkD, ev, ofValue, St.put, ia_str, ia_mref, zg1, zg0, zgd, zmo, if_true, zs1, zs0, zlc, zln, zd0, zt1, zt0, Nat.reduceAdd, Nat.reduceLeDiff, Nat.zero_add, Nat.add_zero, zft, if_false, reduceCtorEq, ty_string, ty_api_VarDecl, b7, hsm, ty_msb]
     with_reducible refine hR _ ?_
     clear hR R
     show X _ _ _ _
     have hin : inL l[i].name (l.take i) = false := by first | assumption | (simp_all; done)
     have hv : 0 ≤ l[i].len ∧ l[i].len ≤ 16 := dcl_len (List.all_eq_true.1 hln.2 _ (List.getElem_mem hlt))
     obtain ⟨q1, q2, q3, q4, q5⟩ := hb.out
     obtain ⟨_, B4, nx4, lv4, hc4, rfl, o4, n4, hB4, ha4⟩ := add_ex f l[i] q1 (by omega) q3 (by omega) hv.1 (by omega) (by omega) ([.int .u8 t.kind, .int .i64 t.num, .str t.name, .slice .imm (if (t.kids.map dN).isEmpty = true then 0 else 4) (t.kids.map dN)] :: [.slice .nil 0 [], .int .i64 0, .int .i64 0] :: [.int .i64 0] :: [.slice o1 n1 l1, .slice o2 n2 l2, .slice o3 n3 l3] :: [.slice o n (f.slots.map dSl), .int .i64 f.cells, .int .i64 f.stacks] :: mpD (l.take (i + 1)) :: [.mref 5] :: (r ++ [[.str l[i].name, .int .u8 l[i].kind, .int .i64 l[i].len]])) 4 nx lv o n rfl ha.out (bxs_un hS _ _ _ _ _ (hr.out.snoc fun _ => rfl))
     simp only [dV] at hc4
     simp only [bxF, zs1, zs0] at hB4
     subst hB4
     refine X_rc fun R hR => ?_
     simp only [EVP, app_get0, aops, astep, awant, aeff, aop, mkD, ev, St.put, zmc, zmn, zg1, zg0, zgd, zmo, if_true, zs1, zs0, zlc, zln, zd0, zt1, zt0, zca, zna, Nat.reduceAdd, Nat.reduceLeDiff, Nat.zero_add, ty_api_VarDecl, any29, hc4]
     with_reducible refine hR _ ?_
     clear hR R
     show X _ _ _ _
     have hbig : i < 9223372036854775807 := by omega
     refine X_rg fun R hR => ?_
     simp only [inr_i64, Int.reduceLE, Int.reduceNeg, aops, astep, awant, aeff, aop, abin, aint, ev, ofValue, St.put, zg1, zg0, zgd, zmo, if_true, zs1, zs0, and_self, nat_succ hbig]
     with_reducible refine hR _ ?_
     clear hR R
     show ∃ m, m < _ ∧ _
     exact ⟨l.length - (i + 1), by omega, i + 1, _, _, _, r ++ [[.str l[i].name, .int .u8 l[i].kind, .int .i64 l[i].len]], _, _, rfl, rfl, by omega, Lib.hid (hr.out.snoc fun _ => rfl), Lib.hid ha4, Lib.hid (hF.out.trans (dclF_n hlt hin)), Lib.hid (addF_b hb.out hv.1 hv.2)⟩
   ·intro b8
    have c8 := b8
    try simp only [decide_eq_false_iff_not] at c8
    refine X_exit ?_
    show X _ _ _ _
    refine X_seq ?_
    refine X_seq ?_
    have hW := o_ast_Walk t (by omega)
    refine X_rg fun R hR => ?_
    simp only [EVP, aops, astep, awant, aeff, aop, mkD, ev, St.put, pcall, zmc, zmn, zg1, zg0, zgd, zmo, if_true, zs1, zs0, zlc, zln, zd0, zt1, zt0, zca, zna, Nat.reduceAdd, Nat.reduceLeDiff, Nat.zero_add, ty_api_Node, any23, dN_agg, b8, hW]
    with_reducible refine hR _ ?_
    clear hR R
    show X _ _ _ _
    refine X_block ?_
    refine X_range (L := walkD t) (by simp only [ev, zg1, zg0, zgd]) ?_
    refine XR_inv (fun L σ => ∃ (fr : List D) (r : List (List D)) (W : List (List Int × Tr)) (o : Own) (n : Nat) (f : Fm) (k : Nat) (nx : Nat) (lv : List Nat), σ = ⟨fr, [.int .u8 t.kind, .int .i64 t.num, .str t.name, .slice .imm (if (t.kids.map dN).isEmpty = true then 0 else 4) (t.kids.map dN)] :: [.slice .nil 0 [], .int .i64 0, .int .i64 0] :: [.int .i64 0] :: [.slice o1 n1 l1, .slice o2 n2 l2, .slice o3 n3 l3] :: [.slice o n (f.slots.map dSl), .int .i64 f.cells, .int .i64 f.stacks] :: mpD (l) :: [.mref 5] :: r, nx, lv⟩ ∧ L = W.map (fun x : List Int × Tr => [sl 1 (x.1.map dI), dN x.2]) ∧ Hid (AccB 27 4 o n (f.slots.map dSl) nx lv) ∧ Hid (Free r) ∧ Hid ((dclF [] l zF).bind (locF l ((walkL [] t).map (·.2))) = locF l (W.map (·.2)) f) ∧ Hid (FmB k f) ∧ k + W.length ≤ 900032) ?_ ?_ _ _ ?_
    rotate_right
    ·refine ⟨_, r, walkL [] t, o, n, f, i, nx, lv, by rw [List.take_of_length_le (by omega)], rfl, ha, hr, Lib.hid (by rw [hF.out, List.drop_of_length_le (by omega)]; rfl), hb, by rw [walkL_len]; omega⟩
    ·rintro σ ⟨fr, r, W, o, n, f, k, nx, lv, rfl, hL, ha, hr, hF, hb, hk⟩
     have hW0 : W = [] := by cases W with | nil => rfl | cons a b => cases hL
     subst hW0
     show X _ _ _ _
     refine X_seq ?_
     refine X_rg fun R hR => ?_
     simp only [EVP, inr_i64, Int.reduceLE, Int.reduceNeg, aops, astep, awant, aeff, aop, mkD, astore, ev, ofValue, St.put, gd_int, cl_int, gd_agg, cl_agg, zg1, zg0, zgd, zmo, if_true, zs1, zs0, zlc, zln, zd1, zd0, zt1, zt0, zca, zna, Nat.reduceAdd, Nat.reduceLeDiff, Nat.zero_add, and_self, ty_layout_Frame, ty_api_Errno]
     with_reducible refine hR _ ?_
     clear hR R
     show X _ _ _ _
     refine X_ret ?_
     show ∃ d, resD _ _ _ = some d ∧ _ ∧ _
     refine ⟨_, by simp only [resD, resAll, resOne, Try.results14, EVP, mkD, ty_layout_Frame, zg1, zg0, zd0, zt1, zt0, zlc, zln, Nat.reduceAdd, Nat.reduceLeDiff, Nat.zero_add, if_true, D.isAgg]; exact rfl, ?_, ?_⟩
     ·first | rfl | (simp only [resTup, D.under, D.unders, unders_id (f := dSl) dSl_under, Bool.and_true]; done) | (trace_state; fail)
     ·rw [ofF_some hd hB hF.out, ← own_fst ha.out]; simp only [resTup, D.strip, D.strips]
    ·rintro row L σ ⟨fr, r, W, o, n, f, k, nx, lv, rfl, hL, ha, hr, hF, hb, hk⟩
     obtain ⟨x, W2, rfl⟩ : ∃ x W2, W = x :: W2 := by cases W with | nil => cases hL | cons a b => exact ⟨a, b, rfl⟩
     simp only [zmc, List.cons.injEq] at hL
     obtain ⟨rfl, rfl⟩ := hL
     obtain ⟨px, m⟩ := x
     refine ⟨by simp only [zlc, zln], ?_⟩
     simp only [setPs, zs1, zs0]
     refine X_rg fun R hR => ?_
     simp only [EVP, app_get0, app_set0, aops, astep, awant, aeff, astore, ev, St.put, zg1, zg0, zgd, zmo, zbs, if_true, zs1, zs0, zlc, zln, zd1, zd0, zt0, zca, zna, Nat.reduceAdd, Nat.reduceLeDiff, Nat.zero_add, and_self, ty_api_Node, dN_cells, dN_good, sl]
     with_reducible refine hR _ ?_
     clear hR R
     refine ⟨rfl, ?_⟩
     refine X_block ?_
     refine X_seq ?_
     refine X_rg fun R hR => ?_
     simp only [EVP, app_get0, app_get1, app_set1, aops, astep, awant, aeff, aop, mkD, afill, astore, ev, ofValue, St.put, gd_str, ia_str, cl_str, gd_agg, cl_agg, zmc, zmn, zg1, zg0, zgd, zmo, zbs, if_true, zs1, zs0, zlc, zln, zd1, zd0, zt1, zt0, zca, zna, zaa, Nat.reduceAdd, Nat.reduceLeDiff, Nat.zero_add, zft, if_false, and_self, reduceCtorEq, ty_string, ty_api_Node, ty_api_VarDecl, st_api_VarDecl, sta_api_VarDecl, zla, zlc, zln]
     with_reducible refine hR _ ?_
     clear hR R
     show X _ _ _ _
     refine X_seq ?_
     refine X_seq ?_
     refine X_rg fun R hR => ?_
     simp only [EVP, app_get0, aops, astep, awant, aeff, aop, mkD, ev, St.put, ia_int, zg1, zg0, zgd, zmo, if_true, zs1, zs0, zlc, zln, zd0, zt1, zt0, Nat.reduceAdd, Nat.reduceLeDiff, Nat.zero_add, Nat.add_zero, zft, if_false, reduceCtorEq, ty_uint8, ty_api_Node]
     with_reducible refine hR _ ?_
     clear hR R
     show X _ _ _ _
     refine X_block ?_
     refine X_seq ?_
     refine X_rg fun R hR => ?_
     simp only [inr_u8, Int.reduceLE, aops, astep, awant, aeff, aop, abin, aint, ev, ofValue, St.put, zg1, zg0, zgd, zmo, if_true, zs1, zs0, and_self]
     with_reducible refine hR _ ?_
     clear hR R
     show X _ _ _ _
     refine X_ite (by simp only [ev, zg1, zg0, zgd]; exact rfl) ?_ ?_
     ·intro b9
      have c9 := b9
      try simp only [beq_iff_eq] at c9
      refine X_rg fun R hR => ?_
      simp only [EVP, inr_u8, Int.reduceLE, app_get1, app_set1, aops, astep, awant, aeff, aop, astore, ev, ofValue, St.put, gd_int, cl_int, zg1, zg0, zgd, zmo, if_true, zs1, zs0, zlc, zln, zd1, zd0, zt1, zt0, zca, zna, Nat.reduceAdd, Nat.reduceLeDiff, Nat.zero_add, if_false, and_self, reduceCtorEq, ty_uint8, ty_api_VarDecl, b9]
      with_reducible refine hR _ ?_
      clear hR R
      show X _ _ _ _
      refine X_seq ?_
      refine X_seq ?_
      have hlk := look_mp l m.name
      refine X_rg fun R hR => ?_
      simp only [EVP, app_get1, aops, astep, awant, aeff, aop, mkD, ev, St.put, ia_str, ia_mref, zg1, zg0, zgd, zmo, if_true, zs1, zs0, zlc, zln, zd0, zt1, zt0, Nat.reduceAdd, Nat.reduceLeDiff, Nat.zero_add, Nat.add_zero, zft, if_false, reduceCtorEq, ty_string, ty_api_VarDecl, ty_msb, hlk]
      with_reducible refine hR _ ?_
      clear hR R
      show X _ _ _ _
      refine X_ite (by simp only [ev, zg1, zg0, zgd]; exact rfl) ?_ ?_
      ·intro b10
       have c10 := b10
       try simp only [znt, znf, decide_eq_true_eq, decide_eq_false_iff_not, beq_iff_eq, Int.not_lt, Int.not_le, ge_iff_le, gt_iff_lt, bne_iff_ne, ne_eq, bne_eq_false_iff_eq, beq_eq_false_iff_ne, zat, zof] at c10
       refine X_seq ?_
       refine X_rg fun R hR => ?_
       simp only [EVP, inr_i64, Int.reduceLE, Int.reduceNeg, aops, astep, awant, aeff, aop, afill, astore, ev, ofValue, St.put, gd_int, cl_int, gd_agg, cl_agg, zmn, zg1, zg0, zgd, zmo, if_true, zs1, zs0, zlc, zln, zd1, zd0, zt0, zca, zna, Nat.reduceAdd, Nat.reduceLeDiff, Nat.zero_add, and_self, ty_layout_Frame, st_layout_Frame, sta_layout_Frame, ty_api_Errno, b10]
       with_reducible refine hR _ ?_
       clear hR R
       show X _ _ _ _
       refine X_ret ?_
       show ∃ d, resD _ _ _ = some d ∧ _ ∧ _
       have hlv : locV m = some ⟨m.name, 1, 0⟩ := by unfold locV; simp_all
       have hin : inL m.name l = true := by first | assumption | (simp_all; done)
       refine ⟨_, by simp only [resD, resAll, resOne, Try.results14, EVP, mkD, ty_layout_Frame, zg1, zg0, zd0, zt1, zt0, zlc, zln, Nat.reduceAdd, Nat.reduceLeDiff, Nat.zero_add, if_true, D.isAgg]; exact rfl, ?_, ?_⟩
       ·first | rfl | (simp only [resTup, D.under, D.unders, unders_id (f := dSl) dSl_under, Bool.and_true]; done) | (trace_state; fail)
       ·rw [ofF_none hd hB (hF.out.trans (locF_bad hlv hin))]; simp only []; rfl
      ·intro b11
       have c11 := b11
       try simp only [znt, znf, decide_eq_true_eq, decide_eq_false_iff_not, beq_iff_eq, Int.not_lt, Int.not_le, ge_iff_le, gt_iff_lt, bne_iff_ne, ne_eq, bne_eq_false_iff_eq, beq_eq_false_iff_ne, zat, zof] at c11
       refine X_skip ?_
       show X _ _ _ _
       refine X_seq ?_
       obtain ⟨q1, q2, q3, q4, q5⟩ := hb.out
       have hfd := own_find ha.out m.name 1 (by simp only [zlc] at hk; omega)
       refine X_rg fun R hR => ?_
       simp only [EVP, app_get1, app_get2, app_set2, aops, astep, awant, aeff, aop, mkD, astore, ev, St.put, pcall, ia_int, ia_str, zmc, zmn, zg1, zg0, zgd, zmo, zbs, if_true, zs1, zs0, zlc, zln, zd1, zd0, zt1, zt0, zca, zna, zaa, Nat.reduceAdd, Nat.reduceLeDiff, Nat.zero_add, Nat.add_zero, zft, if_false, and_self, reduceCtorEq, ty_uint8, ty_string, ty_api_VarDecl, ty_layout_Slot, ty_layout_Frame, any11, dSl_cells, dSl_good, b11, hfd, zla, zlc, zln]
       with_reducible refine hR _ ?_
       clear hR R
       show X _ _ _ _
       refine X_seq ?_
       refine X_rg fun R hR => ?_
       simp only [aops, astep, awant, aeff, aop, ev, St.put, zg1, zg0, zgd, zmo, if_true, zs1, zs0]
       with_reducible refine hR _ ?_
       clear hR R
       show X _ _ _ _
       refine X_ite (by simp only [ev, zg1, zg0, zgd]; exact rfl) ?_ ?_
       ·intro b12
        have c12 := b12
        try simp only [znt] at c12
        obtain ⟨_, B4, nx4, lv4, hc4, rfl, o4, n4, hB4, ha4⟩ := add_ex f ⟨m.name, 1, 0⟩ q1 (by simp only [zlc] at hk; omega) q3 (by simp only [zlc] at hk; omega) (by simp) (by simp) (by simp only [zlc] at hk; omega) ([.int .u8 t.kind, .int .i64 t.num, .str t.name, .slice .imm (if (t.kids.map dN).isEmpty = true then 0 else 4) (t.kids.map dN)] :: [.slice .nil 0 [], .int .i64 0, .int .i64 0] :: [.int .i64 0] :: [.slice o1 n1 l1, .slice o2 n2 l2, .slice o3 n3 l3] :: [.slice o n (f.slots.map dSl), .int .i64 f.cells, .int .i64 f.stacks] :: mpD (l) :: [.mref 5] :: (r ++ [[.int .u8 m.kind, .int .i64 m.num, .str m.name, .slice .imm (if (m.kids.map dN).isEmpty = true then 0 else 4) (m.kids.map dN)], [.str m.name, .int .u8 1, .int .i64 0], [.str (fdS f.slots m.name 1).1.name, .int .u8 (fdS f.slots m.name 1).1.kind, .int .i64 (fdS f.slots m.name 1).1.len, .int .i64 (fdS f.slots m.name 1).1.off]])) 4 nx lv o n rfl ha.out (bxs_un hS _ _ _ _ _ (freeC hr.out (fun x => NC_un m x) (fun _ => rfl) (fun _ => rfl)))
        simp only [dV] at hc4
        simp only [bxF, zs1, zs0] at hB4
        subst hB4
        refine X_rc fun R hR => ?_
        simp only [EVP, app_get1, aops, astep, awant, aeff, aop, mkD, ev, St.put, zmc, zmn, zg1, zg0, zgd, zmo, if_true, zs1, zs0, zlc, zln, zd0, zt1, zt0, zca, zna, Nat.reduceAdd, Nat.reduceLeDiff, Nat.zero_add, ty_api_VarDecl, any29, b12, hc4, zlc, zln]
        with_reducible refine hR _ ?_
        clear hR R
        skip
        have hlv : locV m = some ⟨m.name, 1, 0⟩ := by unfold locV; simp_all
        have hin : inL m.name l = false := by first | assumption | (simp_all; done)
        have hno : (fdS f.slots m.name 1).2 = false := by first | assumption | (simp_all; done)
        exact ⟨_, _, W2, _, _, _, k + 1, _, _, rfl, rfl, ha4, Lib.hid (freeC hr.out (fun x => NC_un m x) (fun _ => rfl) (fun _ => rfl)), Lib.hid (hF.out.trans (locF_new hlv hin hno)), Lib.hid (addF_b hb.out (by simp) (by simp)), by simp only [zlc] at hk; omega⟩
       ·intro b13
        have c13 := b13
        try simp only [znf] at c13
        refine X_skip ?_
        skip
        have hlv : locV m = some ⟨m.name, 1, 0⟩ := by unfold locV; simp_all
        have hin : inL m.name l = false := by first | assumption | (simp_all; done)
        have hyes : (fdS f.slots m.name 1).2 = true := by first | assumption | (simp_all; done)
        exact ⟨_, _, W2, _, _, _, k, _, _, rfl, rfl, ha, Lib.hid (freeC hr.out (fun x => NC_un m x) (fun _ => rfl) (fun _ => rfl)), Lib.hid (hF.out.trans (locF_old hlv hin hyes)), hb, by simp only [zlc] at hk; omega⟩
     ·intro b14
      have c14 := b14
      try simp only [ne_eq, beq_eq_false_iff_ne] at c14
      refine X_seq ?_
      refine X_rg fun R hR => ?_
      simp only [inr_u8, Int.reduceLE, aops, astep, awant, aeff, aop, abin, aint, ev, ofValue, St.put, zg1, zg0, zgd, zmo, if_true, zs1, zs0, and_self, b14]
      with_reducible refine hR _ ?_
      clear hR R
      show X _ _ _ _
      refine X_ite (by simp only [ev, zg1, zg0, zgd]; exact rfl) ?_ ?_
      ·intro b15
       have c15 := b15
       try simp only [beq_iff_eq] at c15
       refine X_rg fun R hR => ?_
       simp only [EVP, inr_u8, Int.reduceLE, app_get1, app_set1, aops, astep, awant, aeff, aop, astore, ev, ofValue, St.put, gd_int, cl_int, zg1, zg0, zgd, zmo, if_true, zs1, zs0, zlc, zln, zd1, zd0, zt1, zt0, zca, zna, Nat.reduceAdd, Nat.reduceLeDiff, Nat.zero_add, if_false, and_self, reduceCtorEq, ty_uint8, ty_api_VarDecl, b15]
       with_reducible refine hR _ ?_
       clear hR R
       show X _ _ _ _
       refine X_seq ?_
       refine X_seq ?_
       have hlk := look_mp l m.name
       refine X_rg fun R hR => ?_
       simp only [EVP, app_get1, aops, astep, awant, aeff, aop, mkD, ev, St.put, ia_str, ia_mref, zg1, zg0, zgd, zmo, if_true, zs1, zs0, zlc, zln, zd0, zt1, zt0, Nat.reduceAdd, Nat.reduceLeDiff, Nat.zero_add, Nat.add_zero, zft, if_false, reduceCtorEq, ty_string, ty_api_VarDecl, ty_msb, hlk]
       with_reducible refine hR _ ?_
       clear hR R
       show X _ _ _ _
       refine X_ite (by simp only [ev, zg1, zg0, zgd]; exact rfl) ?_ ?_
       ·intro b16
        have c16 := b16
        try simp only [znt, znf, decide_eq_true_eq, decide_eq_false_iff_not, beq_iff_eq, Int.not_lt, Int.not_le, ge_iff_le, gt_iff_lt, bne_iff_ne, ne_eq, bne_eq_false_iff_eq, beq_eq_false_iff_ne, zat, zof] at c16
        refine X_seq ?_
        refine X_rg fun R hR => ?_
        simp only [EVP, inr_i64, Int.reduceLE, Int.reduceNeg, aops, astep, awant, aeff, aop, afill, astore, ev, ofValue, St.put, gd_int, cl_int, gd_agg, cl_agg, zmn, zg1, zg0, zgd, zmo, if_true, zs1, zs0, zlc, zln, zd1, zd0, zt0, zca, zna, Nat.reduceAdd, Nat.reduceLeDiff, Nat.zero_add, and_self, ty_layout_Frame, st_layout_Frame, sta_layout_Frame, ty_api_Errno, b16]
        with_reducible refine hR _ ?_
        clear hR R
        show X _ _ _ _
        refine X_ret ?_
        show ∃ d, resD _ _ _ = some d ∧ _ ∧ _
        have hlv : locV m = some ⟨m.name, 3, 0⟩ := by unfold locV; simp_all
        have hin : inL m.name l = true := by first | assumption | (simp_all; done)
        refine ⟨_, by simp only [resD, resAll, resOne, Try.results14, EVP, mkD, ty_layout_Frame, zg1, zg0, zd0, zt1, zt0, zlc, zln, Nat.reduceAdd, Nat.reduceLeDiff, Nat.zero_add, if_true, D.isAgg]; exact rfl, ?_, ?_⟩
        ·first | rfl | (simp only [resTup, D.under, D.unders, unders_id (f := dSl) dSl_under, Bool.and_true]; done) | (trace_state; fail)
        ·rw [ofF_none hd hB (hF.out.trans (locF_bad hlv hin))]; simp only []; rfl
       ·intro b17
        have c17 := b17
        try simp only [znt, znf, decide_eq_true_eq, decide_eq_false_iff_not, beq_iff_eq, Int.not_lt, Int.not_le, ge_iff_le, gt_iff_lt, bne_iff_ne, ne_eq, bne_eq_false_iff_eq, beq_eq_false_iff_ne, zat, zof] at c17
        refine X_skip ?_
        show X _ _ _ _
        refine X_seq ?_
        obtain ⟨q1, q2, q3, q4, q5⟩ := hb.out
        have hfd := own_find ha.out m.name 3 (by simp only [zlc] at hk; omega)
        refine X_rg fun R hR => ?_
        simp only [EVP, app_get1, app_get2, app_set2, aops, astep, awant, aeff, aop, mkD, astore, ev, St.put, pcall, ia_int, ia_str, zmc, zmn, zg1, zg0, zgd, zmo, zbs, if_true, zs1, zs0, zlc, zln, zd1, zd0, zt1, zt0, zca, zna, zaa, Nat.reduceAdd, Nat.reduceLeDiff, Nat.zero_add, Nat.add_zero, zft, if_false, and_self, reduceCtorEq, ty_uint8, ty_string, ty_api_VarDecl, ty_layout_Slot, ty_layout_Frame, any11, dSl_cells, dSl_good, b17, hfd, zla, zlc, zln]
        with_reducible refine hR _ ?_
        clear hR R
        show X _ _ _ _
        refine X_seq ?_
        refine X_rg fun R hR => ?_
        simp only [aops, astep, awant, aeff, aop, ev, St.put, zg1, zg0, zgd, zmo, if_true, zs1, zs0]
        with_reducible refine hR _ ?_
        clear hR R
        show X _ _ _ _
        refine X_ite (by simp only [ev, zg1, zg0, zgd]; exact rfl) ?_ ?_
        ·intro b18
         have c18 := b18
         try simp only [znt] at c18
         obtain ⟨_, B4, nx4, lv4, hc4, rfl, o4, n4, hB4, ha4⟩ := add_ex f ⟨m.name, 3, 0⟩ q1 (by simp only [zlc] at hk; omega) q3 (by simp only [zlc] at hk; omega) (by simp) (by simp) (by simp only [zlc] at hk; omega) ([.int .u8 t.kind, .int .i64 t.num, .str t.name, .slice .imm (if (t.kids.map dN).isEmpty = true then 0 else 4) (t.kids.map dN)] :: [.slice .nil 0 [], .int .i64 0, .int .i64 0] :: [.int .i64 0] :: [.slice o1 n1 l1, .slice o2 n2 l2, .slice o3 n3 l3] :: [.slice o n (f.slots.map dSl), .int .i64 f.cells, .int .i64 f.stacks] :: mpD (l) :: [.mref 5] :: (r ++ [[.int .u8 m.kind, .int .i64 m.num, .str m.name, .slice .imm (if (m.kids.map dN).isEmpty = true then 0 else 4) (m.kids.map dN)], [.str m.name, .int .u8 3, .int .i64 0], [.str (fdS f.slots m.name 3).1.name, .int .u8 (fdS f.slots m.name 3).1.kind, .int .i64 (fdS f.slots m.name 3).1.len, .int .i64 (fdS f.slots m.name 3).1.off]])) 4 nx lv o n rfl ha.out (bxs_un hS _ _ _ _ _ (freeC hr.out (fun x => NC_un m x) (fun _ => rfl) (fun _ => rfl)))
         simp only [dV] at hc4
         simp only [bxF, zs1, zs0] at hB4
         subst hB4
         refine X_rc fun R hR => ?_
         simp only [EVP, app_get1, aops, astep, awant, aeff, aop, mkD, ev, St.put, zmc, zmn, zg1, zg0, zgd, zmo, if_true, zs1, zs0, zlc, zln, zd0, zt1, zt0, zca, zna, Nat.reduceAdd, Nat.reduceLeDiff, Nat.zero_add, ty_api_VarDecl, any29, b18, hc4, zlc, zln]
         with_reducible refine hR _ ?_
         clear hR R
         skip
         have hlv : locV m = some ⟨m.name, 3, 0⟩ := by unfold locV; simp_all
         have hin : inL m.name l = false := by first | assumption | (simp_all; done)
         have hno : (fdS f.slots m.name 3).2 = false := by first | assumption | (simp_all; done)
         exact ⟨_, _, W2, _, _, _, k + 1, _, _, rfl, rfl, ha4, Lib.hid (freeC hr.out (fun x => NC_un m x) (fun _ => rfl) (fun _ => rfl)), Lib.hid (hF.out.trans (locF_new hlv hin hno)), Lib.hid (addF_b hb.out (by simp) (by simp)), by simp only [zlc] at hk; omega⟩
        ·intro b19
         have c19 := b19
         try simp only [znf] at c19
         refine X_skip ?_
         skip
         have hlv : locV m = some ⟨m.name, 3, 0⟩ := by unfold locV; simp_all
         have hin : inL m.name l = false := by first | assumption | (simp_all; done)
         have hyes : (fdS f.slots m.name 3).2 = true := by first | assumption | (simp_all; done)
         exact ⟨_, _, W2, _, _, _, k, _, _, rfl, rfl, ha, Lib.hid (freeC hr.out (fun x => NC_un m x) (fun _ => rfl) (fun _ => rfl)), Lib.hid (hF.out.trans (locF_old hlv hin hyes)), hb, by simp only [zlc] at hk; omega⟩
      ·intro b20
       have c20 := b20
       try simp only [ne_eq, beq_eq_false_iff_ne] at c20
       refine X_exit ?_
       skip
       have hlv : locV m = none := by unfold locV; simp_all
       exact ⟨_, _, W2, _, _, _, k, _, _, rfl, rfl, ha, Lib.hid (freeB hr.out (fun x => NC_un m x) (fun _ => rfl)), Lib.hid (hF.out.trans (locF_no hlv)), hb, by simp only [zlc] at hk; omega⟩

end Go.Proofs.Ythgdibdapjaljaa
