/- Layouts over data: the reference. -/
import Derived.Test.YthgdibdapjaljaaLa8
namespace Go.Proofs.Ythgdibdapjaljaa
open Go.RowKit

theorem findN_any (l : List Vd) (s : ByteArray) : ∀ n, n ≤ l.length → (findN l s n).2 = (l.take n).any fun v => v.name.toList == s.toList
  | 0, _ => by simp [findN]
  | n + 1, h => by
    have hn : n < l.length := by omega
    rw [List.take_succ_eq_append_getElem hn, List.any_append]
    simp only [findN, List.getElem?_eq_getElem hn, List.any_cons, List.any_nil, Bool.or_false]
    cases q : l[n].name.toList == s.toList with
    | true => simp
    | false => simp only [Bool.or_false, Bool.false_eq_true, if_false]; exact findN_any l s n (by omega)
theorem findN_in (l : List Vd) (s : ByteArray) : (findN l s l.length).2 = inL s l := by
  rw [findN_any l s _ (Nat.le_refl _), List.take_of_length_le (Nat.le_refl _)]
  unfold inL
  congr 1
  funext v
  rw [Bool.eq_iff_iff, beq_iff_eq, decide_eq_true_eq, bytes_toList]
  exact eq_comm
theorem rfind_take (l : List Vd) (i : Nat) (s : ByteArray) (hl : l.length ≤ 1000000) : fn EV 34 [.slice .imm (if (l.map dV).isEmpty = true then 0 else 3) ((l.map dV).take i), .str s] = some (.tup [dV (findN (l.take i) s (l.take i).length).1, .bool (inL s (l.take i))]) := by
  have hpl : ∀ n (c : List Vd), plain [.slice .imm n (c.map dV), .str s] = true := by
    intro n c
    have h0 : D.under 0 (.slice .imm n (c.map dV)) = true := by simp only [D.under, unders_id (f := dV) (fun _ _ => rfl)]
    simp only [plain, List.all_cons, List.all_nil, h0, str_pl, Bool.and_true, Bool.true_and]; rfl
  rw [← List.map_take, fn_strip (args' := [sl 3 ((l.take i).map dV), .str s]) (hpl _ _) (hpl _ _)]
  · rw [← findN_in]; exact rfind_fn _ s (by rw [List.length_take]; omega)
  · simp only [List.map_cons, List.map_nil, D.strip, strips_id (f := dV) (fun _ => rfl), sl]
    congr 2
    cases l with
    | nil => simp
    | cons a r => cases i <;> simp
def foldF (l : List Vd) : Fm := l.foldl addF zF
theorem foldF_succ {l : List Vd} {i : Nat} (h : i < l.length) : foldF (l.take (i + 1)) = addF (foldF (l.take i)) l[i] := by
  unfold foldF; rw [List.take_succ_eq_append_getElem h, List.foldl_append]; rfl
theorem zF_b : FmB 0 zF := ⟨by decide, by decide, by decide, by decide, by decide⟩
def locG (l : List Vd) : List Vd → Fm → Option Fm
  | [], f => some f
  | v :: r, f => if inL v.name l then none else locG l r (if (fdS f.slots v.name v.kind).2 then f else addF f v)
theorem locF_G (l : List Vd) : ∀ (W : List Tr) (f : Fm), locF l W f = locG l (W.filterMap locV) f
  | [], _ => rfl
  | m :: W, f => by
    cases h : locV m with
    | none => rw [locF_no h, List.filterMap_cons_none h]; exact locF_G l W f
    | some v =>
      rw [List.filterMap_cons_some h, locG]
      cases hi : inL v.name l with
      | true => rw [locF_bad h hi]; rfl
      | false =>
        cases hy : (fdS f.slots v.name v.kind).2 with
        | true => rw [locF_old h hi hy]; simpa using locF_G l W f
        | false => rw [locF_new h hi hy]; simpa using locF_G l W _
theorem locG_y {l L : List Vd} {j : Nat} {f : Fm} (h : j < L.length) (hi : inL L[j].name l = true) : locG l (L.drop j) f = none := by
  rw [List.drop_eq_getElem_cons h, locG, if_pos hi]
theorem locG_o {l L : List Vd} {j : Nat} {f : Fm} (h : j < L.length) (hi : inL L[j].name l = false) (hy : (fdS f.slots L[j].name L[j].kind).2 = true) : locG l (L.drop j) f = locG l (L.drop (j + 1)) f := by
  rw [List.drop_eq_getElem_cons h, locG, hi, hy]; rfl
theorem locG_n {l L : List Vd} {j : Nat} {f : Fm} (h : j < L.length) (hi : inL L[j].name l = false) (hy : (fdS f.slots L[j].name L[j].kind).2 = false) : locG l (L.drop j) f = locG l (L.drop (j + 1)) (addF f L[j]) := by
  rw [List.drop_eq_getElem_cons h, locG, hi, hy]; rfl
theorem locV_dcl {t : Tr} {v : Vd} (h : locV t = some v) : dclB v = true := by
  unfold locV at h
  split at h
  · cases h; rfl
  · split at h
    · cases h; rfl
    · cases h
theorem lcs_dcl (t : Tr) : ∀ v ∈ lcs t, dclB v = true := fun v hv => by
  rw [← lcs_walk t [], List.mem_filterMap] at hv
  obtain ⟨m, _, hm⟩ := hv
  exact locV_dcl hm
/-- the row of a frame under way -/
structure FrX (o : Own) (n : Nat) (M : List D) (f : Fm) : Prop where
  s : (D.slice o n M).strip = sl 4 (f.slots.map dSl)
  u : D.unders 0 M = true
theorem FrX.nil : FrX .nil 0 [] zF := ⟨rfl, rfl⟩
theorem FrX.imm (f : Fm) : FrX .imm (if (f.slots.map dSl).isEmpty = true then 0 else 4) (f.slots.map dSl) f := ⟨by
  have h := sl_strip (n := 4) (map_strip dSl_strip f.slots)
  simpa only [sl] using h, unders_id dSl_under 0 _⟩
theorem FrX.pl {o : Own} {n : Nat} {M : List D} {f : Fm} (h : FrX o n M f) : (D.agg [.slice o n M, .int .i64 f.cells, .int .i64 f.stacks]).under 0 = true := by
  simp only [D.under, D.unders, h.u, Bool.and_true]
theorem FrX.st {o : Own} {n : Nat} {M : List D} {f : Fm} (h : FrX o n M f) : (D.agg [.slice o n M, .int .i64 f.cells, .int .i64 f.stacks]).strip = dFm f := by
  have h2 : ∀ a b c : D, (D.agg [a, b, c]).strip = .agg [a.strip, b.strip, c.strip] := fun _ _ _ => by simp only [D.strip, D.strips]
  rw [h2, h.s]; rfl
theorem frx_with {o : Own} {n : Nat} {M : List D} {f : Fm} (h : FrX o n M f) (v : Vd) (hv : dclB v = true) (h1 : 0 ≤ f.cells) (h2 : f.cells ≤ 100000000) (h3 : 0 ≤ f.stacks) (h4 : f.stacks ≤ 100000000) (h7 : f.slots.length ≤ 10000000) : fn EV 36 [.agg [.slice o n M, .int .i64 f.cells, .int .i64 f.stacks], .agg [.str v.name, .int .u8 v.kind, .int .i64 v.len]] = some (dFm (addF f v)) := by
  have p1 : plain [.agg [.slice o n M, .int .i64 f.cells, .int .i64 f.stacks], dV v] = true := by
    simp only [plain, List.all_cons, List.all_nil, h.pl, Bool.and_true, Bool.true_and]; rfl
  have p2 : plain [dFm f, dV v] = true := by simp only [plain, List.all_cons, List.all_nil, dFm_pl, Bool.and_true, Bool.true_and]; rfl
  show fn EV _ [_, dV v] = _
  rw [fn_strip p1 p2 (by simp only [List.map_cons, List.map_nil, h.st, dFm_strip])]
  exact with_fn f v hv h1 h2 h3 h4 h7
theorem frx_find {o : Own} {n : Nat} {M : List D} {f : Fm} (h : FrX o n M f) (s : ByteArray) (k : Int) (hll : f.slots.length ≤ 1000000) : fn EV 12 [.agg [.slice o n M, .int .i64 f.cells, .int .i64 f.stacks], .str s, .int .u8 k] = some (.tup [dSl (fdS f.slots s k).1, .bool (fdS f.slots s k).2]) := by
  have p1 : plain [.agg [.slice o n M, .int .i64 f.cells, .int .i64 f.stacks], .str s, .int .u8 k] = true := by
    simp only [plain, List.all_cons, List.all_nil, h.pl, Bool.and_true, Bool.true_and]; rfl
  have p2 : plain [dFm f, .str s, .int .u8 k] = true := by simp only [plain, List.all_cons, List.all_nil, dFm_pl, str_pl, int_pl, Bool.and_true]
  rw [fn_strip p1 p2 (by simp only [List.map_cons, List.map_nil, h.st, dFm_strip])]
  exact rlfind_fn f s k hll
theorem mid_get {α : Type} (r : List α) (a : α) (r2 : List α) (x : α) (l : List α) : (r ++ a :: (r2 ++ x :: l))[(r ++ a :: r2).length]? = some x := by
  rw [show r ++ a :: (r2 ++ x :: l) = (r ++ a :: r2) ++ x :: l by simp, app_get0]; rfl
theorem mid_set {α : Type} (r : List α) (a : α) (r2 : List α) (x : α) (l : List α) (y : α) : (r ++ a :: (r2 ++ x :: l)).set (r ++ a :: r2).length y = r ++ a :: (r2 ++ y :: l) := by
  rw [show r ++ a :: (r2 ++ x :: l) = (r ++ a :: r2) ++ x :: l by simp, app_set0]; simp
theorem mid_get2 {α : Type} (r : List α) (a : α) (r2 : List α) (v x : α) (l : List α) : (r ++ a :: (r2 ++ v :: x :: l))[(r ++ a :: (r2 ++ [v])).length]? = some x := by
  rw [show r ++ a :: (r2 ++ v :: x :: l) = (r ++ a :: (r2 ++ [v])) ++ x :: l by simp, app_get0]; rfl
theorem mid_set2 {α : Type} (r : List α) (a : α) (r2 : List α) (v x : α) (l : List α) (y : α) : (r ++ a :: (r2 ++ v :: x :: l)).set (r ++ a :: (r2 ++ [v])).length y = r ++ a :: (r2 ++ v :: y :: l) := by
  rw [show r ++ a :: (r2 ++ v :: x :: l) = (r ++ a :: (r2 ++ [v])) ++ x :: l by simp, app_set0]; simp
theorem FmB_le {n m : Nat} {f : Fm} (h : FmB n f) (hm : n ≤ m) : FmB m f := by
  obtain ⟨a, b, c, d, e⟩ := h
  exact ⟨a, by omega, c, by omega, by omega⟩
set_option maxRecDepth 100000 in
set_option maxHeartbeats 4000000 in
theorem rof_fn (l : List Vd) (t : Tr) (hl : l.length ≤ 1000000) (hs : t.size ≤ 900000) (hB : blockB t = true) : fn EV 19 [sl 3 (l.map dV), dN t] = some (.tup [dFm (ofF l t).1, .int .i64 (ofF l t).2]) := by
  refine fn_Xs rfl Try.func19 rfl (by simp only [plain, List.all_cons, List.all_nil, sl_pl (f := dV) (fun _ _ => rfl), dN_pl, Bool.and_true]) (rfl) ?_
  simp only [List.map_cons, List.map_nil, sl_strip (map_strip (f := dV) (fun _ => rfl) _), dN_strip]
  simp only [enterSt, Try.ntmps19, List.length_cons, List.length_nil, Nat.reduceAdd, Nat.reduceSub, List.replicate_succ, List.replicate_zero, List.cons_append, List.nil_append]
  refine X_seq ?_
  refine X_rg fun R hR => ?_
  simp only [EVP, inr_i64, Int.reduceLE, Int.reduceNeg, aops, astep, awant, aeff, aop, ev, ofValue, St.put, List.getElem?_cons_succ, List.getElem?_cons_zero, Option.getD_some, Option.map_some, Option.bind_some, if_true, List.set_cons_succ, List.set_cons_zero, List.length_cons, List.length_nil, List.cons_append, List.nil_append, Nat.zero_add, and_self, ty_backstepref26_Frame, dN_cells, dN_good, sl]
  with_reducible refine hR _ ?_
  clear hR R
  show X _ _ _ _
  refine X_seq ?_
  refine X_seq ?_
  have hva := rvalid_fn l hl
  simp only [sl] at hva
  refine X_rg fun R hR => ?_
  simp only [EVP, aops, astep, awant, aeff, aop, ev, St.put, pcall, List.map_cons, List.map_nil, List.getElem?_cons_succ, List.getElem?_cons_zero, Option.getD_some, Option.map_some, if_true, List.set_cons_succ, List.set_cons_zero, List.cons_append, List.nil_append, any33, hva]
  with_reducible refine hR _ ?_
  clear hR R
  show X _ _ _ _
  refine X_ite (by simp only [ev, List.getElem?_cons_succ, List.getElem?_cons_zero, Option.getD_some]; exact rfl) ?_ ?_
  · intro b1
    have c1 := b1
    try simp only [Bool.not_eq_true'] at c1
    refine X_seq ?_
    refine X_rg fun R hR => ?_
    simp only [EVP, inr_i64, Int.reduceLE, Int.reduceNeg, aops, astep, awant, aeff, aop, afill, astore, ev, ofValue, St.put, gd_agg, cl_agg, List.map_nil, List.getElem?_cons_succ, List.getElem?_cons_zero, Option.getD_some, Option.map_some, if_true, List.set_cons_succ, List.set_cons_zero, List.length_cons, List.length_nil, List.drop_succ_cons, List.drop_zero, List.take_zero, List.cons_append, List.nil_append, Nat.reduceAdd, Nat.reduceLeDiff, Nat.zero_add, and_self, ty_backstepref26_Frame, st_backstepref26_Frame, sta_backstepref26_Frame, b1]
    with_reducible refine hR _ ?_
    clear hR R
    show X _ _ _ _
    refine X_ret ?_
    show ∃ d, resD _ _ _ = some d ∧ _ ∧ _
    have hbad : (dclsB l && blockB t) = false := by first | (simp_all; done) | (cases hq : dclsB l <;> simp_all)
    refine ⟨_, by simp only [resD, resAll, resOne, resTup, Try.results19, EVP, mkD, ty_backstepref26_Frame, List.getElem?_cons_succ, List.getElem?_cons_zero, List.drop_zero, List.take_succ_cons, List.take_zero, List.length_cons, List.length_nil, Nat.reduceAdd, Nat.reduceLeDiff, Nat.zero_add, D.good, if_true, Option.map_some]; exact rfl, ?_, ?_⟩
    · first | rfl | (simp only [resTup, D.under, D.unders, hX.out.u, Bool.and_true]; done)
    · rw [ofF_bad hbad]; simp only [D.strip, D.strips, Own.st, List.isEmpty_nil, if_true]; rfl
  · intro b2
    have c2 := b2
    try simp only [Bool.not_eq_false'] at c2
    refine X_skip ?_
    show X _ _ _ _
    refine X_seq ?_
    refine X_seq ?_
    have hd : dclsB l = true := by first | assumption | (simp_all; done)
    have hln : l.length ≤ 32 ∧ l.all dclB = true := by simpa [dclsB] using hd
    refine X_rg fun R hR => ?_
    simp only [inr_i64, Int.reduceLE, Int.reduceNeg, aops, astep, awant, aeff, aop, ev, ofValue, St.put, Option.getD_some, Option.map_some, if_true, List.set_cons_succ, List.set_cons_zero, and_self, b2]
    with_reducible refine hR _ ?_
    clear hR R
    show X _ _ _ _
    refine X_block ?_
    refine X_loop (fun m σ => ∃ (i : Nat) (r : List (List D)), σ = ⟨[.slice .imm (if (l.map dV).isEmpty = true then 0 else 3) (l.map dV), slotOf σ 1, slotOf σ 2, .ptr 0 0, .ptr 1 0, slotOf σ 5, .int .i64 i, slotOf σ 7, slotOf σ 8, slotOf σ 9, slotOf σ 10, slotOf σ 11, slotOf σ 12, slotOf σ 13, slotOf σ 14, slotOf σ 15, slotOf σ 16, slotOf σ 17, slotOf σ 18, slotOf σ 19, slotOf σ 20, slotOf σ 21, slotOf σ 22, slotOf σ 23, slotOf σ 24, slotOf σ 25, slotOf σ 26, slotOf σ 27, slotOf σ 28, slotOf σ 29, slotOf σ 30, slotOf σ 31, slotOf σ 32, slotOf σ 33, slotOf σ 34, slotOf σ 35, slotOf σ 36, slotOf σ 37, slotOf σ 38, slotOf σ 39, slotOf σ 40, slotOf σ 41, slotOf σ 42, slotOf σ 43, slotOf σ 44, slotOf σ 45, slotOf σ 46, slotOf σ 47, slotOf σ 48, slotOf σ 49, slotOf σ 50, slotOf σ 51, slotOf σ 52, slotOf σ 53, slotOf σ 54, slotOf σ 55, slotOf σ 56, slotOf σ 57, slotOf σ 58, slotOf σ 59, slotOf σ 60, slotOf σ 61, slotOf σ 62, slotOf σ 63, slotOf σ 64, slotOf σ 65, slotOf σ 66, slotOf σ 67, slotOf σ 68, slotOf σ 69, slotOf σ 70, slotOf σ 71, slotOf σ 72, slotOf σ 73, slotOf σ 74, slotOf σ 75, slotOf σ 76, slotOf σ 77, slotOf σ 78, slotOf σ 79, slotOf σ 80, slotOf σ 81, slotOf σ 82, slotOf σ 83, slotOf σ 84, slotOf σ 85, slotOf σ 86, slotOf σ 87, slotOf σ 88, slotOf σ 89, slotOf σ 90, slotOf σ 91, slotOf σ 92, slotOf σ 93, slotOf σ 94, slotOf σ 95, slotOf σ 96, slotOf σ 97], [.int .u8 t.kind, .int .i64 t.num, .str t.name, .slice .imm (if (t.kids.map dN).isEmpty = true then 0 else 4) (t.kids.map dN)] :: [.slice .nil 0 [], .int .i64 0, .int .i64 0] :: r, 0, []⟩ ∧ m = l.length - i ∧ i ≤ l.length ∧ Hid (dclF [] l zF = dclF (l.take i) (l.drop i) (foldF (l.take i)))) ?_ (l.length) _ ?_
    rotate_left
    · exact ⟨0, _, rfl, rfl, Nat.zero_le _, Lib.hid rfl⟩
    rintro m σ ⟨i, r, hσ, rfl, hi, hF⟩
    generalize slotOf σ = x at hσ
    subst hσ
    refine X_seq ?_
    refine X_seq ?_
    refine X_rg fun R hR => ?_
    simp only [EVP, nat_lt, aops, astep, awant, aeff, aop, abin, aint, ev, St.put, List.getElem?_cons_succ, List.getElem?_cons_zero, Option.getD_some, Option.map_some, if_true, List.set_cons_succ, List.set_cons_zero, List.length_map, und_api_VarDecl]
    with_reducible refine hR _ ?_
    clear hR R
    show X _ _ _ _
    refine X_ite (by simp only [ev, List.getElem?_cons_succ, List.getElem?_cons_zero, Option.getD_some]; exact rfl) ?_ ?_
    · intro b3
      have c3 := b3
      try simp only [decide_eq_true_eq] at c3
      refine X_skip ?_
      show X _ _ _ _
      refine X_seq ?_
      refine X_block ?_
      refine X_seq ?_
      have hlt : i < l.length := by first | assumption | omega
      have hn1 : ((if (l.map dV).isEmpty = true then 0 else 3) = 3) = True := eq_true (sl_n (j := i) (by simpa using hlt))
      have e1 : (l.map dV)[i]? = some (.agg [.str l[i].name, .int .u8 l[i].kind, .int .i64 l[i].len]) := by rw [List.getElem?_map, List.getElem?_eq_getElem hlt]; rfl
      have hfr := rfind_take l i l[i].name (by omega)
      have hle : ((i : Int) ≤ (l.length : Int)) = True := by simp; omega
      refine X_rg fun R hR => ?_
      simp only [EVP, app_get0, app_set0, nat_lt, nat_0, nat_to, aops, astep, awant, aeff, aop, idx, aslice, astore, ev, St.put, pcall, ia_str, cl_str, List.map_cons, List.map_nil, List.getElem?_cons_succ, List.getElem?_cons_zero, Option.getD_some, Option.map_some, Option.map_none, Option.bind_some, if_true, List.set_cons_succ, List.set_cons_zero, List.length_map, List.length_cons, List.length_nil, List.drop_succ_cons, List.drop_zero, List.take_succ_cons, List.take_zero, List.cons_append, List.nil_append, Nat.reduceAdd, Nat.reduceLeDiff, Nat.zero_add, Bool.false_eq_true, if_false, and_self, reduceCtorEq, decide_true, Option.isSome_some, ty_string, ty_api_VarDecl, und_api_VarDecl, siz_api_VarDecl, inf_api_VarDecl_eq, any34, dV_cells, dV_good, hlt, hn1, e1, hfr, hle, true_or, Nat.sub_zero, Nat.zero_le, List.drop_zero, nat_le]
      with_reducible refine hR _ ?_
      clear hR R
      show X _ _ _ _
      refine X_seq ?_
      refine X_rg fun R hR => ?_
      simp only [aops, astep, awant, aeff, aop, ev, St.put, List.getElem?_cons_succ, List.getElem?_cons_zero, Option.getD_some, Option.map_some, if_true, List.set_cons_succ, List.set_cons_zero, dV_agg]
      with_reducible refine hR _ ?_
      clear hR R
      show X _ _ _ _
      refine X_ite (by simp only [ev, List.getElem?_cons_succ, List.getElem?_cons_zero, Option.getD_some]; exact rfl) ?_ ?_
      · intro b4
        have c4 := b4
        try simp only [Bool.not_eq_true', Bool.not_eq_false', decide_eq_true_eq, decide_eq_false_iff_not, beq_iff_eq, Int.not_lt, Int.not_le, ge_iff_le, gt_iff_lt, bne_iff_ne, ne_eq, bne_eq_false_iff_eq, beq_eq_false_iff_ne, Bool.and_eq_true, Bool.or_eq_false_iff] at c4
        refine X_seq ?_
        refine X_rg fun R hR => ?_
        simp only [EVP, inr_i64, Int.reduceLE, Int.reduceNeg, aops, astep, awant, aeff, aop, afill, astore, ev, ofValue, St.put, gd_agg, cl_agg, List.map_nil, List.getElem?_cons_succ, List.getElem?_cons_zero, Option.getD_some, Option.map_some, if_true, List.set_cons_succ, List.set_cons_zero, List.length_cons, List.length_nil, List.drop_succ_cons, List.drop_zero, List.take_zero, List.cons_append, List.nil_append, Nat.reduceAdd, Nat.reduceLeDiff, Nat.zero_add, and_self, ty_backstepref26_Frame, st_backstepref26_Frame, sta_backstepref26_Frame, b4]
        with_reducible refine hR _ ?_
        clear hR R
        show X _ _ _ _
        refine X_ret ?_
        show ∃ d, resD _ _ _ = some d ∧ _ ∧ _
        have hin : inL l[i].name (l.take i) = true := by first | assumption | (simp_all; done)
        refine ⟨_, by simp only [resD, resAll, resOne, resTup, Try.results19, EVP, mkD, ty_backstepref26_Frame, List.getElem?_cons_succ, List.getElem?_cons_zero, List.drop_zero, List.take_succ_cons, List.take_zero, List.length_cons, List.length_nil, Nat.reduceAdd, Nat.reduceLeDiff, Nat.zero_add, D.good, if_true, Option.map_some]; exact rfl, ?_, ?_⟩
        · first | rfl | (simp only [resTup, D.under, D.unders, hX.out.u, Bool.and_true]; done)
        · rw [ofF_none hd hB (by rw [hF.out, dclF_y hlt hin]; rfl)]; simp only [D.strip, D.strips, Own.st, List.isEmpty_nil, if_true]; rfl
      · intro b5
        have c5 := b5
        try simp only [Bool.not_eq_true', Bool.not_eq_false', decide_eq_true_eq, decide_eq_false_iff_not, beq_iff_eq, Int.not_lt, Int.not_le, ge_iff_le, gt_iff_lt, bne_iff_ne, ne_eq, bne_eq_false_iff_eq, beq_eq_false_iff_ne, Bool.and_eq_true, Bool.or_eq_false_iff] at c5
        refine X_skip ?_
        show X _ _ _ _
        have hbig : i < 9223372036854775807 := by omega
        refine X_rg fun R hR => ?_
        simp only [inr_i64, Int.reduceLE, Int.reduceNeg, aops, astep, awant, aeff, aop, abin, aint, ev, ofValue, St.put, List.getElem?_cons_succ, List.getElem?_cons_zero, Option.getD_some, Option.map_some, if_true, List.set_cons_succ, List.set_cons_zero, and_self, b5, nat_succ hbig]
        with_reducible refine hR _ ?_
        clear hR R
        show ∃ m, m < _ ∧ _
        have hin : inL l[i].name (l.take i) = false := by first | assumption | (simp_all; done)
        exact ⟨l.length - (i + 1), by omega, i + 1, _, rfl, rfl, by omega, Lib.hid (by rw [hF.out, dclF_n hlt hin, foldF_succ hlt])⟩
    · intro b6
      have c6 := b6
      try simp only [decide_eq_false_iff_not] at c6
      refine X_exit ?_
      show X _ _ _ _
      refine X_seq ?_
      have hlo := locals_fn t.size t (Nat.le_refl _) (by omega)
      simp only [sl] at hlo
      have hcl := lcs_len t
      refine X_rg fun R hR => ?_
      simp only [EVP, aops, astep, awant, aeff, aop, mkD, ev, St.put, pcall, List.map_cons, List.map_nil, List.getElem?_cons_succ, List.getElem?_cons_zero, Option.getD_some, Option.map_some, if_true, List.set_cons_succ, List.set_cons_zero, List.length_cons, List.length_nil, List.drop_zero, List.take_succ_cons, List.take_zero, List.cons_append, List.nil_append, Nat.reduceAdd, Nat.reduceLeDiff, Nat.zero_add, ty_api_Node, any35, dN_agg, b6, hlo]
      with_reducible refine hR _ ?_
      clear hR R
      show X _ _ _ _
      refine X_seq ?_
      refine X_rg fun R hR => ?_
      simp only [EVP, app_get0, app_set0, aops, astep, awant, aeff, aop, afill, astore, ev, ofValue, St.put, gd_agg, cl_agg, List.map_nil, List.getElem?_cons_succ, List.getElem?_cons_zero, Option.getD_some, Option.map_some, Option.bind_some, if_true, List.set_cons_succ, List.set_cons_zero, List.length_cons, List.length_nil, List.drop_succ_cons, List.drop_zero, List.take_zero, List.cons_append, List.nil_append, Nat.reduceAdd, Nat.reduceLeDiff, Nat.zero_add, and_self, ty_backstepref26_Frame, st_backstepref26_Frame, sta_backstepref26_Frame]
      with_reducible refine hR _ ?_
      clear hR R
      show X _ _ _ _
      refine X_seq ?_
      refine X_seq ?_
      refine X_rg fun R hR => ?_
      simp only [inr_i64, Int.reduceLE, Int.reduceNeg, aops, astep, awant, aeff, aop, ev, ofValue, St.put, Option.getD_some, Option.map_some, if_true, List.set_cons_succ, List.set_cons_zero, and_self]
      with_reducible refine hR _ ?_
      clear hR R
      show X _ _ _ _
      refine X_block ?_
      refine X_loop (fun m σ => ∃ (i : Nat) (f : Fm) (o : Own) (n : Nat) (M : List D) (r2 : List (List D)), σ = ⟨[.slice .imm (if (l.map dV).isEmpty = true then 0 else 3) (l.map dV), slotOf σ 1, slotOf σ 2, slotOf σ 3, .ptr 1 0, slotOf σ 5, slotOf σ 6, slotOf σ 7, slotOf σ 8, .slice .imm (if ((lcs t).map dV).isEmpty = true then 0 else 3) ((lcs t).map dV), .ptr (r.length + 1 + 1) 0, .int .i64 i, slotOf σ 12, slotOf σ 13, slotOf σ 14, slotOf σ 15, slotOf σ 16, slotOf σ 17, slotOf σ 18, slotOf σ 19, slotOf σ 20, slotOf σ 21, slotOf σ 22, slotOf σ 23, slotOf σ 24, slotOf σ 25, slotOf σ 26, slotOf σ 27, slotOf σ 28, slotOf σ 29, slotOf σ 30, slotOf σ 31, slotOf σ 32, slotOf σ 33, slotOf σ 34, slotOf σ 35, slotOf σ 36, slotOf σ 37, slotOf σ 38, slotOf σ 39, slotOf σ 40, slotOf σ 41, slotOf σ 42, slotOf σ 43, slotOf σ 44, slotOf σ 45, slotOf σ 46, slotOf σ 47, slotOf σ 48, slotOf σ 49, slotOf σ 50, slotOf σ 51, slotOf σ 52, slotOf σ 53, slotOf σ 54, slotOf σ 55, slotOf σ 56, slotOf σ 57, slotOf σ 58, slotOf σ 59, slotOf σ 60, slotOf σ 61, slotOf σ 62, slotOf σ 63, slotOf σ 64, slotOf σ 65, slotOf σ 66, slotOf σ 67, slotOf σ 68, slotOf σ 69, slotOf σ 70, slotOf σ 71, slotOf σ 72, slotOf σ 73, slotOf σ 74, slotOf σ 75, slotOf σ 76, slotOf σ 77, slotOf σ 78, slotOf σ 79, slotOf σ 80, slotOf σ 81, slotOf σ 82, slotOf σ 83, slotOf σ 84, slotOf σ 85, slotOf σ 86, slotOf σ 87, slotOf σ 88, slotOf σ 89, slotOf σ 90, slotOf σ 91, slotOf σ 92, slotOf σ 93, slotOf σ 94, slotOf σ 95, slotOf σ 96, slotOf σ 97], ([.int .u8 t.kind, .int .i64 t.num, .str t.name, .slice .imm (if (t.kids.map dN).isEmpty = true then 0 else 4) (t.kids.map dN)] :: [.slice .nil 0 [], .int .i64 0, .int .i64 0] :: (r ++ [.slice o n M, .int .i64 f.cells, .int .i64 f.stacks] :: r2)), 0, []⟩ ∧ m = l.length - i ∧ i ≤ l.length ∧ Hid (f = foldF (l.take i)) ∧ Hid (FrX o n M f) ∧ Hid (FmB i f)) ?_ (l.length) _ ?_
      rotate_left
      · exact ⟨0, zF, _, _, _, [], rfl, rfl, Nat.zero_le _, Lib.hid rfl, Lib.hid FrX.nil, Lib.hid zF_b⟩
      rintro m σ ⟨i, f, o, n, M, r2, hσ, rfl, hi, hf, hX, hb⟩
      generalize slotOf σ = x at hσ
      subst hσ
      refine X_seq ?_
      refine X_seq ?_
      refine X_rg fun R hR => ?_
      simp only [EVP, nat_lt, aops, astep, awant, aeff, aop, abin, aint, ev, St.put, List.getElem?_cons_succ, List.getElem?_cons_zero, Option.getD_some, Option.map_some, if_true, List.set_cons_succ, List.set_cons_zero, List.length_map, und_api_VarDecl]
      with_reducible refine hR _ ?_
      clear hR R
      show X _ _ _ _
      refine X_ite (by simp only [ev, List.getElem?_cons_succ, List.getElem?_cons_zero, Option.getD_some]; exact rfl) ?_ ?_
      · intro b7
        have c7 := b7
        try simp only [decide_eq_true_eq] at c7
        refine X_skip ?_
        show X _ _ _ _
        refine X_seq ?_
        refine X_block ?_
        have hlt : i < l.length := by first | assumption | omega
        have hn1 : ((if (l.map dV).isEmpty = true then 0 else 3) = 3) = True := eq_true (sl_n (j := i) (by simpa using hlt))
        have e1 : (l.map dV)[i]? = some (.agg [.str l[i].name, .int .u8 l[i].kind, .int .i64 l[i].len]) := by rw [List.getElem?_map, List.getElem?_eq_getElem hlt]; rfl
        have hdl : dclB l[i] = true := List.all_eq_true.1 hln.2 _ (List.getElem_mem hlt)
        have hv := dcl_len hdl
        obtain ⟨q1, q2, q3, q4, q5⟩ := hb.out
        have hwi := frx_with hX.out l[i] hdl q1 (by omega) q3 (by omega) (by omega)
        refine X_rg fun R hR => ?_
        simp only [EVP, app_get0, app_set0, nat_lt, nat_0, nat_to, aops, astep, awant, aeff, aop, mkD, astore, ev, St.put, pcall, ia_agg, cl_agg, List.map_cons, List.map_nil, List.getElem?_cons_succ, List.getElem?_cons_zero, Option.getD_some, Option.map_some, if_true, List.set_cons_succ, List.set_cons_zero, List.length_map, List.length_cons, List.length_nil, List.drop_succ_cons, List.drop_zero, List.take_succ_cons, List.take_zero, List.cons_append, List.nil_append, Nat.reduceAdd, Nat.reduceLeDiff, Nat.zero_add, and_self, decide_true, Option.isSome_some, ty_api_VarDecl, und_api_VarDecl, siz_api_VarDecl, inf_api_VarDecl_eq, ty_backstepref26_Frame, any36, dFm_cells, dFm_good, hlt, hn1, e1, hwi, app_get0, app_set0, List.getElem?_cons_zero, List.set_cons_zero]
        with_reducible refine hR _ ?_
        clear hR R
        show X _ _ _ _
        have hbig : i < 9223372036854775807 := by omega
        refine X_rg fun R hR => ?_
        simp only [inr_i64, Int.reduceLE, Int.reduceNeg, aops, astep, awant, aeff, aop, abin, aint, ev, ofValue, St.put, List.getElem?_cons_succ, List.getElem?_cons_zero, Option.getD_some, Option.map_some, if_true, List.set_cons_succ, List.set_cons_zero, and_self, dV_agg, nat_succ hbig]
        with_reducible refine hR _ ?_
        clear hR R
        show ∃ m, m < _ ∧ _
        exact ⟨l.length - (i + 1), by omega, i + 1, addF f l[i], _, _, _, r2, rfl, rfl, by omega, Lib.hid (by rw [foldF_succ hlt, ← hf.out]), Lib.hid (FrX.imm _), Lib.hid (addF_b hb.out hv.1 hv.2)⟩
      · intro b8
        have c8 := b8
        try simp only [decide_eq_false_iff_not] at c8
        refine X_exit ?_
        show X _ _ _ _
        refine X_seq ?_
        refine X_seq ?_
        refine X_rg fun R hR => ?_
        simp only [inr_i64, Int.reduceLE, Int.reduceNeg, aops, astep, awant, aeff, aop, ev, ofValue, St.put, Option.getD_some, Option.map_some, if_true, List.set_cons_succ, List.set_cons_zero, and_self, b8]
        with_reducible refine hR _ ?_
        clear hR R
        show X _ _ _ _
        refine X_block ?_
        refine X_loop (fun m σ => ∃ (j : Nat) (f : Fm) (o : Own) (n : Nat) (M : List D) (r2 : List (List D)), σ = ⟨[.slice .imm (if (l.map dV).isEmpty = true then 0 else 3) (l.map dV), slotOf σ 1, slotOf σ 2, slotOf σ 3, .ptr 1 0, slotOf σ 5, slotOf σ 6, slotOf σ 7, slotOf σ 8, .slice .imm (if ((lcs t).map dV).isEmpty = true then 0 else 3) ((lcs t).map dV), .ptr (r.length + 1 + 1) 0, slotOf σ 11, .int .i64 j, slotOf σ 13, slotOf σ 14, slotOf σ 15, slotOf σ 16, slotOf σ 17, slotOf σ 18, slotOf σ 19, slotOf σ 20, slotOf σ 21, slotOf σ 22, slotOf σ 23, slotOf σ 24, slotOf σ 25, slotOf σ 26, slotOf σ 27, slotOf σ 28, slotOf σ 29, slotOf σ 30, slotOf σ 31, slotOf σ 32, slotOf σ 33, slotOf σ 34, slotOf σ 35, slotOf σ 36, slotOf σ 37, slotOf σ 38, slotOf σ 39, slotOf σ 40, slotOf σ 41, slotOf σ 42, slotOf σ 43, slotOf σ 44, slotOf σ 45, slotOf σ 46, slotOf σ 47, slotOf σ 48, slotOf σ 49, slotOf σ 50, slotOf σ 51, slotOf σ 52, slotOf σ 53, slotOf σ 54, slotOf σ 55, slotOf σ 56, slotOf σ 57, slotOf σ 58, slotOf σ 59, slotOf σ 60, slotOf σ 61, slotOf σ 62, slotOf σ 63, slotOf σ 64, slotOf σ 65, slotOf σ 66, slotOf σ 67, slotOf σ 68, slotOf σ 69, slotOf σ 70, slotOf σ 71, slotOf σ 72, slotOf σ 73, slotOf σ 74, slotOf σ 75, slotOf σ 76, slotOf σ 77, slotOf σ 78, slotOf σ 79, slotOf σ 80, slotOf σ 81, slotOf σ 82, slotOf σ 83, slotOf σ 84, slotOf σ 85, slotOf σ 86, slotOf σ 87, slotOf σ 88, slotOf σ 89, slotOf σ 90, slotOf σ 91, slotOf σ 92, slotOf σ 93, slotOf σ 94, slotOf σ 95, slotOf σ 96, slotOf σ 97], ([.int .u8 t.kind, .int .i64 t.num, .str t.name, .slice .imm (if (t.kids.map dN).isEmpty = true then 0 else 4) (t.kids.map dN)] :: [.slice .nil 0 [], .int .i64 0, .int .i64 0] :: (r ++ [.slice o n M, .int .i64 f.cells, .int .i64 f.stacks] :: r2)), 0, []⟩ ∧ m = (lcs t).length - j ∧ j ≤ (lcs t).length ∧ Hid (FrX o n M f) ∧ Hid (FmB (l.length + j) f) ∧ Hid (locG l (lcs t) (foldF l) = locG l ((lcs t).drop j) f)) ?_ ((lcs t).length) _ ?_
        rotate_left
        · exact ⟨0, f, o, n, M, r2, rfl, rfl, Nat.zero_le _, hX, Lib.hid (FmB_le hb.out (by omega)), Lib.hid (by rw [hf.out, List.take_of_length_le (by omega)]; rfl)⟩
        rintro m σ ⟨j, f, o, n, M, r2, hσ, rfl, hj, hX, hb, hL⟩
        generalize slotOf σ = x at hσ
        subst hσ
        refine X_seq ?_
        refine X_seq ?_
        refine X_rg fun R hR => ?_
        simp only [EVP, nat_lt, aops, astep, awant, aeff, aop, abin, aint, ev, St.put, List.getElem?_cons_succ, List.getElem?_cons_zero, Option.getD_some, Option.map_some, if_true, List.set_cons_succ, List.set_cons_zero, List.length_map, und_api_VarDecl]
        with_reducible refine hR _ ?_
        clear hR R
        show X _ _ _ _
        refine X_ite (by simp only [ev, List.getElem?_cons_succ, List.getElem?_cons_zero, Option.getD_some]; exact rfl) ?_ ?_
        · intro b9
          have c9 := b9
          try simp only [decide_eq_true_eq] at c9
          refine X_skip ?_
          show X _ _ _ _
          refine X_seq ?_
          refine X_block ?_
          refine X_seq ?_
          refine X_seq ?_
          have hlj : j < (lcs t).length := by first | assumption | omega
          have hn1 : ((if ((lcs t).map dV).isEmpty = true then 0 else 3) = 3) = True := eq_true (sl_n (j := j) (by simpa using hlj))
          have e1 : ((lcs t).map dV)[j]? = some (.agg [.str (lcs t)[j].name, .int .u8 (lcs t)[j].kind, .int .i64 (lcs t)[j].len]) := by rw [List.getElem?_map, List.getElem?_eq_getElem hlj]; rfl
          have hfr := rfind_fn l (lcs t)[j].name (by omega)
          rw [findN_in] at hfr
          simp only [sl] at hfr
          refine X_rg fun R hR => ?_
          simp only [EVP, nat_lt, nat_0, nat_to, aops, astep, awant, aeff, aop, astore, ev, St.put, pcall, ia_str, cl_str, List.map_cons, List.map_nil, List.getElem?_cons_succ, List.getElem?_cons_zero, Option.getD_some, Option.map_some, Option.bind_some, if_true, List.set_cons_succ, List.set_cons_zero, List.length_map, List.length_cons, List.length_nil, List.drop_succ_cons, List.drop_zero, List.take_succ_cons, List.take_zero, List.cons_append, List.nil_append, List.append_assoc, Nat.reduceAdd, Nat.reduceLeDiff, Nat.zero_add, Bool.false_eq_true, if_false, and_self, reduceCtorEq, decide_true, Option.isSome_some, ty_string, ty_api_VarDecl, und_api_VarDecl, siz_api_VarDecl, inf_api_VarDecl_eq, any34, dV_cells, dV_good, hlj, hn1, e1, hfr, mid_get, mid_set, List.getElem?_cons_zero, List.set_cons_zero]
          with_reducible refine hR _ ?_
          clear hR R
          show X _ _ _ _
          refine X_seq ?_
          refine X_rg fun R hR => ?_
          simp only [aops, astep, awant, aeff, aop, ev, St.put, List.getElem?_cons_succ, List.getElem?_cons_zero, Option.getD_some, Option.map_some, if_true, List.set_cons_succ, List.set_cons_zero, dV_agg]
          with_reducible refine hR _ ?_
          clear hR R
          show X _ _ _ _
          refine X_ite (by simp only [ev, List.getElem?_cons_succ, List.getElem?_cons_zero, Option.getD_some]; exact rfl) ?_ ?_
          · intro b10
            have c10 := b10
            try simp only [Bool.not_eq_true', Bool.not_eq_false', decide_eq_true_eq, decide_eq_false_iff_not, beq_iff_eq, Int.not_lt, Int.not_le, ge_iff_le, gt_iff_lt, bne_iff_ne, ne_eq, bne_eq_false_iff_eq, beq_eq_false_iff_ne, Bool.and_eq_true, Bool.or_eq_false_iff] at c10
            refine X_seq ?_
            refine X_rg fun R hR => ?_
            simp only [EVP, inr_i64, Int.reduceLE, Int.reduceNeg, aops, astep, awant, aeff, aop, afill, astore, ev, ofValue, St.put, gd_agg, cl_agg, List.map_nil, List.getElem?_cons_succ, List.getElem?_cons_zero, Option.getD_some, Option.map_some, if_true, List.set_cons_succ, List.set_cons_zero, List.length_cons, List.length_nil, List.drop_succ_cons, List.drop_zero, List.take_zero, List.cons_append, List.nil_append, Nat.reduceAdd, Nat.reduceLeDiff, Nat.zero_add, and_self, ty_backstepref26_Frame, st_backstepref26_Frame, sta_backstepref26_Frame, b10]
            with_reducible refine hR _ ?_
            clear hR R
            show X _ _ _ _
            refine X_ret ?_
            show ∃ d, resD _ _ _ = some d ∧ _ ∧ _
            have hD : dclF [] l zF = some (foldF l) := by rw [hF.out, List.take_of_length_le (by omega), List.drop_of_length_le (by omega)]; rfl
            have hin : inL (lcs t)[j].name l = true := by first | assumption | (simp_all; done)
            refine ⟨_, by simp only [resD, resAll, resOne, resTup, Try.results19, EVP, mkD, ty_backstepref26_Frame, List.getElem?_cons_succ, List.getElem?_cons_zero, List.drop_zero, List.take_succ_cons, List.take_zero, List.length_cons, List.length_nil, Nat.reduceAdd, Nat.reduceLeDiff, Nat.zero_add, D.good, if_true, Option.map_some]; exact rfl, ?_, ?_⟩
            · first | rfl | (simp only [resTup, D.under, D.unders, hX.out.u, Bool.and_true]; done)
            · rw [ofF_none hd hB (by rw [hD, Option.bind_some, locF_G, lcs_walk, hL.out, locG_y hlj hin])]; simp only [D.strip, D.strips, Own.st, List.isEmpty_nil, if_true]; rfl
          · intro b11
            have c11 := b11
            try simp only [Bool.not_eq_true', Bool.not_eq_false', decide_eq_true_eq, decide_eq_false_iff_not, beq_iff_eq, Int.not_lt, Int.not_le, ge_iff_le, gt_iff_lt, bne_iff_ne, ne_eq, bne_eq_false_iff_eq, beq_eq_false_iff_ne, Bool.and_eq_true, Bool.or_eq_false_iff] at c11
            refine X_skip ?_
            show X _ _ _ _
            refine X_seq ?_
            obtain ⟨q1, q2, q3, q4, q5⟩ := hb.out
            have hfd := frx_find hX.out (lcs t)[j].name (lcs t)[j].kind (by omega)
            refine X_rg fun R hR => ?_
            simp only [EVP, app_get0, nat_lt, nat_0, nat_to, aops, astep, awant, aeff, aop, mkD, astore, ev, St.put, pcall, ia_int, cl_int, ia_str, cl_str, List.map_cons, List.map_nil, List.getElem?_cons_succ, List.getElem?_cons_zero, Option.getD_some, Option.map_some, Option.bind_some, if_true, List.set_cons_succ, List.set_cons_zero, List.length_map, List.length_cons, List.length_nil, List.drop_succ_cons, List.drop_zero, List.take_succ_cons, List.take_zero, List.cons_append, List.nil_append, List.append_assoc, Nat.reduceAdd, Nat.reduceLeDiff, Nat.zero_add, Bool.false_eq_true, if_false, and_self, reduceCtorEq, Option.isSome_some, ty_uint8, ty_string, ty_api_VarDecl, und_api_VarDecl, siz_api_VarDecl, inf_api_VarDecl_eq, ty_backstepref26_Slot, ty_backstepref26_Frame, any12, dSl_cells, dSl_good, b11, hlj, hn1, e1, hfd, mid_get2, mid_set2, app_get0, List.getElem?_cons_zero, List.set_cons_zero]
            with_reducible refine hR _ ?_
            clear hR R
            show X _ _ _ _
            refine X_seq ?_
            refine X_rg fun R hR => ?_
            simp only [aops, astep, awant, aeff, aop, ev, St.put, List.getElem?_cons_succ, List.getElem?_cons_zero, Option.getD_some, Option.map_some, if_true, List.set_cons_succ, List.set_cons_zero, dV_agg]
            with_reducible refine hR _ ?_
            clear hR R
            show X _ _ _ _
            refine X_ite (by simp only [ev, List.getElem?_cons_succ, List.getElem?_cons_zero, Option.getD_some]; exact rfl) ?_ ?_
            · intro b12
              have c12 := b12
              try simp only [Bool.not_eq_true'] at c12
              have hdl : dclB (lcs t)[j] = true := lcs_dcl t _ (List.getElem_mem hlj)
              have hv := dcl_len hdl
              have hwi := frx_with hX.out (lcs t)[j] hdl q1 (by omega) q3 (by omega) (by omega)
              refine X_rg fun R hR => ?_
              simp only [EVP, app_get0, app_set0, nat_lt, nat_0, nat_to, aops, astep, awant, aeff, aop, mkD, astore, ev, St.put, pcall, ia_agg, cl_agg, List.map_cons, List.map_nil, List.getElem?_cons_succ, List.getElem?_cons_zero, Option.getD_some, Option.map_some, if_true, List.set_cons_succ, List.set_cons_zero, List.length_map, List.length_cons, List.length_nil, List.drop_succ_cons, List.drop_zero, List.take_succ_cons, List.take_zero, List.cons_append, List.nil_append, Nat.reduceAdd, Nat.reduceLeDiff, Nat.zero_add, and_self, Option.isSome_some, ty_api_VarDecl, und_api_VarDecl, siz_api_VarDecl, inf_api_VarDecl_eq, ty_backstepref26_Frame, any36, dFm_cells, dFm_good, b12, hlj, hn1, e1, hwi, app_get0, app_set0, List.getElem?_cons_zero, List.set_cons_zero]
              with_reducible refine hR _ ?_
              clear hR R
              show X _ _ _ _
              have hbig : j < 9223372036854775807 := by omega
              refine X_rg fun R hR => ?_
              simp only [inr_i64, Int.reduceLE, Int.reduceNeg, aops, astep, awant, aeff, aop, abin, aint, ev, ofValue, St.put, List.getElem?_cons_succ, List.getElem?_cons_zero, Option.getD_some, Option.map_some, if_true, List.set_cons_succ, List.set_cons_zero, and_self, dV_agg, nat_succ hbig]
              with_reducible refine hR _ ?_
              clear hR R
              show ∃ m, m < _ ∧ _
              have hin : inL (lcs t)[j].name l = false := by first | assumption | (simp_all; done)
              have hno : (fdS f.slots (lcs t)[j].name (lcs t)[j].kind).2 = false := by first | assumption | (simp_all; done)
              exact ⟨(lcs t).length - (j + 1), by omega, j + 1, addF f (lcs t)[j], _, _, _, _, rfl, rfl, by omega, Lib.hid (FrX.imm _), Lib.hid (addF_b hb.out hv.1 hv.2), Lib.hid (hL.out.trans (locG_n hlj hin hno))⟩
            · intro b13
              have c13 := b13
              try simp only [Bool.not_eq_false'] at c13
              refine X_skip ?_
              show X _ _ _ _
              have hbig : j < 9223372036854775807 := by omega
              refine X_rg fun R hR => ?_
              simp only [inr_i64, Int.reduceLE, Int.reduceNeg, aops, astep, awant, aeff, aop, abin, aint, ev, ofValue, St.put, List.getElem?_cons_succ, List.getElem?_cons_zero, Option.getD_some, Option.map_some, if_true, List.set_cons_succ, List.set_cons_zero, and_self, b13, nat_succ hbig]
              with_reducible refine hR _ ?_
              clear hR R
              show ∃ m, m < _ ∧ _
              have hin : inL (lcs t)[j].name l = false := by first | assumption | (simp_all; done)
              have hyes : (fdS f.slots (lcs t)[j].name (lcs t)[j].kind).2 = true := by first | assumption | (simp_all; done)
              exact ⟨(lcs t).length - (j + 1), by omega, j + 1, f, o, n, M, _, rfl, rfl, by omega, hX, Lib.hid (FmB_le hb.out (by omega)), Lib.hid (hL.out.trans (locG_o hlj hin hyes))⟩
        · intro b14
          have c14 := b14
          try simp only [decide_eq_false_iff_not] at c14
          refine X_exit ?_
          show X _ _ _ _
          refine X_seq ?_
          refine X_rg fun R hR => ?_
          simp only [EVP, inr_i64, Int.reduceLE, Int.reduceNeg, app_get0, aops, astep, awant, aeff, aop, mkD, astore, ev, ofValue, St.put, gd_agg, cl_agg, List.getElem?_cons_succ, List.getElem?_cons_zero, Option.getD_some, Option.map_some, if_true, List.set_cons_succ, List.set_cons_zero, List.length_cons, List.length_nil, List.drop_succ_cons, List.drop_zero, List.take_succ_cons, List.take_zero, List.cons_append, List.nil_append, Nat.reduceAdd, Nat.reduceLeDiff, Nat.zero_add, and_self, ty_backstepref26_Frame, b14, app_get0, List.getElem?_cons_zero, List.set_cons_zero]
          with_reducible refine hR _ ?_
          clear hR R
          show X _ _ _ _
          refine X_ret ?_
          show ∃ d, resD _ _ _ = some d ∧ _ ∧ _
          have hD : dclF [] l zF = some (foldF l) := by rw [hF.out, List.take_of_length_le (by omega), List.drop_of_length_le (by omega)]; rfl
          refine ⟨_, by simp only [resD, resAll, resOne, resTup, Try.results19, EVP, mkD, ty_backstepref26_Frame, List.getElem?_cons_succ, List.getElem?_cons_zero, List.drop_zero, List.take_succ_cons, List.take_zero, List.length_cons, List.length_nil, Nat.reduceAdd, Nat.reduceLeDiff, Nat.zero_add, D.good, if_true, Option.map_some]; exact rfl, ?_, ?_⟩
          · first | rfl | (simp only [D.under, D.unders, hX.out.u, Bool.and_true]; done)
          · rw [ofF_some hd hB (by rw [hD, Option.bind_some, locF_G, lcs_walk, hL.out, List.drop_of_length_le (by omega)]; rfl), ← hX.out.st]; simp only [D.strip, D.strips]

end Go.Proofs.Ythgdibdapjaljaa
