/- The layer scope over data: small functions. -/
import Derived.Test.YtjikokmhknnnoaaFi
namespace Go.Proofs.Ytjikokmhknnnoaa
open Go.RowKit
theorem dG_agg (p : Pg) : D.agg [.slice .imm (if (p.vars.map dV).isEmpty = true then 0 else 3) (p.vars.map dV), .slice .imm (if (p.procs.map dP).isEmpty = true then 0 else 6) (p.procs.map dP), .int .u8 p.main.kind, .int .i64 p.main.num, .str p.main.name, .slice .imm (if (p.main.kids.map dN).isEmpty = true then 0 else 4) (p.main.kids.map dN)] = dG p := rfl
theorem dG_cells (p : Pg) : (dG p).cells = [.slice .imm (if (p.vars.map dV).isEmpty = true then 0 else 3) (p.vars.map dV), .slice .imm (if (p.procs.map dP).isEmpty = true then 0 else 6) (p.procs.map dP), .int .u8 p.main.kind, .int .i64 p.main.num, .str p.main.name, .slice .imm (if (p.main.kids.map dN).isEmpty = true then 0 else 4) (p.main.kids.map dN)] := rfl
theorem dG_good (p : Pg) : (dG p).good = true := rfl
theorem dV_cells (v : Vd) : (dV v).cells = [.str v.name, .int .u8 v.kind, .int .i64 v.len] := rfl
theorem dV_good (v : Vd) : (dV v).good = true := rfl
theorem sl_pl {α : Type} {f : α → D} (h : ∀ m x, (f x).under m = true) (n : Nat) (l : List α) : ((sl n (l.map f)).under 0 && (sl n (l.map f)).good) = true := by
 rw [sl_under (map_under (h 0) l)]; rfl
theorem int_pl (k : IntKind) (n : Int) : ((D.int k n).under 0 && (D.int k n).good) = true := rfl
theorem dN_pl (t : Tr) : ((dN t).under 0 && (dN t).good) = true := by rw [dN_under, dN_good]; rfl
theorem dG_pl (t : Pg) : ((dG t).under 0 && (dG t).good) = true := by rw [dG_under]; rfl
theorem sl_ne {α : Type} {f : α → D} {l : List α} (h : l.length ≠ 0) : ((l.map f) = []) = False := by
 cases l with
 | nil => exact absurd rfl h
 | cons a r => simp
theorem sl_or (n : Nat) (l : List D) : ((if l.isEmpty = true then 0 else n) = n ∨ l = []) = True := by cases l <;> simp
theorem strips_id {α : Type} {f : α → D} (h : ∀ x, (f x).strip = f x) (l : List α) : D.strips (l.map f) = l.map f := by
 rw [D.strips_map, List.map_map]; exact List.map_congr_left fun x _ => h x
theorem unders_id {α : Type} {f : α → D} (h : ∀ m x, (f x).under m = true) (m : Nat) (l : List α) : D.unders m (l.map f) = true := by
 rw [D.unders_all, List.all_eq_true]; intro x hx; obtain ⟨y, _, rfl⟩ := List.mem_map.1 hx; exact h m y
set_option maxRecDepth 100000 in
set_option maxHeartbeats 4000000 in
theorem cloneV_fn1 (l : List Vd) (h0 : l.length ≠ 0) (hl : l.length ≤ 1000000) : fn EV 54 [sl 3 (l.map dV)] = some (sl 3 (l.map dV)) := by
 have hn : (if (l.map dV).isEmpty = true then 0 else 3) = 3 := sl_n (j := 0) (by simp; omega)
 refine fn_Xs rfl Try.func54 rfl (by simp only [plain, List.all_cons, List.all_nil, sl_pl (f := dV) (fun _ _ => rfl), Bool.and_true]) (by cases l with | nil => exact absurd rfl h0 | cons a r => rfl) ?_
 simp only [zmc, zmn, sl_strip (map_strip (f := dV) (fun _ => rfl) _)]
 simp only [enterSt, Try.ntmps54, zlc, zln, Nat.reduceAdd, Nat.reduceSub, zr1, zr0, zca, zna]
 refine X_seq ?_
 refine X_rg fun R hR => ?_
 simp only [aops, astep, awant, aeff, aop, ev, ofValue, St.put, zgd, zmo, if_true, zs1, zs0, sl]
 with_reducible refine hR _ ?_
 clear hR R
 show X _ _ _ _
 refine X_seq ?_
 refine X_seq ?_
 refine X_rg fun R hR => ?_
 simp only [EVP, aops, astep, awant, aeff, aop, abin, ev, ofValue, St.put, zg1, zg0, zgd, zmo, if_true, zs1, zs0, if_false, reduceCtorEq, und_api_VarDecl, sl_ne h0]
 with_reducible refine hR _ ?_
 clear hR R
 show X _ _ _ _
 refine X_false (by simp only [ev, zg1, zg0, zgd]) ?_
 refine X_skip ?_
 show X _ _ _ _
 refine X_seq ?_
 have hap := fun fr => Acc.app (P := Try.prog) (σ := ⟨fr, [], 1, [0]⟩) (t := 22) (e := 34) (o := .own 0 34) (n := 3) (L := []) (o2 := .imm) (l2 := l.map dV) (.own (by simp)) und_api_VarDecl inf_api_VarDecl_eq inf_api_VarDecl_size (by omega) (by rw [inf_api_VarDecl_bytes]; omega) inf_api_VarDecl_zc (by simp; omega) (by rw [ne_eq, sl_ne h0]; simp)
 refine X_rg fun R hR => ?_
 simp only [EVP, aops, astep, awant, aeff, aop, abuild, ev, ofValue, St.put, zmn, zg1, zg0, zgd, zmo, if_true, zs1, zs0, zna, Nat.reduceAdd, Nat.reduceLeDiff, Nat.reduceLT, Nat.zero_add, and_self, List.all_nil, Nat.reduceMul, rng_0, und_api_VarDecl, inf_api_VarDecl_eq, inf_api_VarDecl_size, inf_api_VarDecl_zero, hap, hn]
 with_reducible refine hR _ ?_
 clear hR R
 show X _ _ _ _
 refine X_ret ?_
 show ∃ d, resD _ _ _ = some d ∧ _ ∧ _
 simp only [resD, resAll, resOne, resTup, Try.results54, EVP, zg1, zg0, D.good, if_true, zmo]
 refine ⟨_, rfl, ?_, ?_⟩
 ·simp only [D.under, unders_id (f := dV) (fun _ _ => rfl)]
 ·simp only [D.strip, strips_id (f := dV) (fun _ => rfl), Own.st, sl, hn]
theorem cloneV_fn (l : List Vd) (hl : l.length ≤ 1000000) : fn EV 54 [sl 3 (l.map dV)] = some (sl 3 (l.map dV)) := by
 by_cases h0 : l.length = 0
 ·rw [List.length_eq_zero_iff] at h0
  subst h0
  exact fn_orc EV rfl rfl
 ·exact cloneV_fn1 l h0 hl
def cl (n : Nat) (l : List D) : D := .slice .clip (if l.isEmpty = true then 0 else n) l
set_option maxRecDepth 100000 in
set_option maxHeartbeats 4000000 in
theorem clipV_fn (l : List Vd) (_hl : l.length ≤ 1000000) : fn EV 67 [sl 3 (l.map dV)] = some (cl 3 (l.map dV)) := by
 refine fn_Xs rfl Try.func67 rfl (by simp only [plain, List.all_cons, List.all_nil, sl_pl (f := dV) (fun _ _ => rfl), Bool.and_true]) (rfl) ?_
 simp only [zmc, zmn, sl_strip (map_strip (f := dV) (fun _ => rfl) _)]
 simp only [enterSt, Try.ntmps67, zlc, zln, Nat.reduceAdd, Nat.reduceSub, zr1, zr0, zca, zna]
 refine X_seq ?_
 refine X_rg fun R hR => ?_
 simp only [aops, astep, awant, aeff, aop, ev, ofValue, St.put, zgd, zmo, if_true, zs1, zs0, sl]
 with_reducible refine hR _ ?_
 clear hR R
 show X _ _ _ _
 refine X_seq ?_
 have tk : List.take l.length (l.map dV) = l.map dV := List.take_of_length_le (by simp)
 have hle : ((l.length : Int) ≤ (l.length : Int)) = True := by simp
 have hle0 : ((0 : Int) ≤ (l.length : Int)) = True := by simp
 refine X_rg fun R hR => ?_
 simp only [EVP, nat_to, aops, astep, awant, aeff, aop, idx, ev, St.put, aslice3, zg1, zg0, zgd, zmo, Option.map_none, if_true, zs1, zs0, zlm, zd0, and_self, zis, und_api_VarDecl, siz_api_VarDecl, inf_api_VarDecl_eq, zlm, sl_or, tk, hle, Nat.sub_zero, Nat.zero_le, nat_le]
 with_reducible refine hR _ ?_
 clear hR R
 show X _ _ _ _
 refine X_ret ?_
 show ∃ d, resD _ _ _ = some d ∧ _ ∧ _
 simp only [resD, resAll, resOne, resTup, Try.results67, EVP, zg1, zg0, D.good, if_true, zmo]
 refine ⟨_, rfl, ?_, ?_⟩
 ·simp only [D.under, unders_id (f := dV) (fun _ _ => rfl)]
 ·simp only [D.strip, strips_id (f := dV) (fun _ => rfl), Own.st, cl]; try (cases (l.map dV) <;> rfl)
theorem app_clip {P : Program} {t e : TypeId} {i : TypeInfo} {sz : Nat} {σ : St} {o2 : Own} {l l2 : List D} (hu : P.underlying t = some (.slice e)) (hi : P.info? e = some i) (hs : i.size = sz) (hp : 0 < sz) (hb : i.bytes ≤ 4096) (hz : (i.zero.map fun z => z.cells.size) = some sz)
  (hl : l.length + l2.length ≤ 16777216) (hne : l2 ≠ []) : aappend P σ t (.slice .clip (if l.isEmpty = true then 0 else sz) l) (.slice o2 sz l2) = some (.slice (.own σ.nx e) sz (l ++ l2), { σ with nx := σ.nx + 1, lv := σ.nx :: σ.lv }) := by
 subst hs
 unfold aappend
 simp only [hu, hi]
 rw [if_neg hne, if_pos ⟨trivial, hp, hb, hz, hl⟩]
 cases l with
 | nil => simp
 | cons a r => simp
def innerV (t : Tr) (i : Int) (vs : List Vd) : List Vd := if t.kind = 54 ∧ i = 1 then vs ++ [⟨t.name, 1, 0⟩] else if t.kind = 55 ∧ i = 0 then vs ++ [⟨t.name, 3, 0⟩] else vs
theorem sl_own {α : Type} {f : α → D} {sz : Nat} {l : List α} (h : ∀ x, (f x).strip = f x) (_hne : l ≠ []) (o : Own) (ho : o.st = .imm) : (D.slice o sz (l.map f)).strip = sl sz (l.map f) := by
 simp only [D.strip, strips_id h, ho, sl]
set_option maxRecDepth 100000 in
set_option maxHeartbeats 4000000 in
theorem inner_fn (t : Tr) (i : Int) (vs : List Vd) (hl : vs.length ≤ 1000000) : fn EV 55 [dN t, .int .i64 i, sl 3 (vs.map dV)] = some (sl 3 ((innerV t i vs).map dV)) := by
 refine fn_Xs rfl Try.func55 rfl (by simp only [plain, List.all_cons, List.all_nil, sl_pl (f := dV) (fun _ _ => rfl), int_pl, dN_pl, Bool.and_true]) (rfl) ?_
 simp only [zmc, zmn, D.strip, sl_strip (map_strip (f := dV) (fun _ => rfl) _), dN_strip]
 simp only [enterSt, Try.ntmps55, zlc, zln, Nat.reduceAdd, Nat.reduceSub, zr1, zr0, zca, zna]
 refine X_seq ?_
 refine X_rg fun R hR => ?_
 simp only [aops, astep, awant, aeff, aop, ev, ofValue, St.put, zg0, zgd, zmo, if_true, zs1, zs0, zln, zna, dN_cells, dN_good, sl]
 with_reducible refine hR _ ?_
 clear hR R
 show X _ _ _ _
 refine X_seq ?_
 refine X_block ?_
 refine X_seq ?_
 refine X_y ?_
 refine Y_k 4 fun R hR => ?_
 simp only [EVP, inr_u8, Int.reduceLE, aops, astep, awant, aeff, aop, abin, aint, mkD, ev, ofValue, St.put, ia_int, zg1, zg0, zgd, zmo, if_true, zs1, zs0, zlc, zln, zd0, zt1, zt0, Nat.reduceAdd, Nat.reduceLeDiff, Nat.zero_add, Nat.add_zero, zft, if_false, and_self, reduceCtorEq, ty_uint8, ty_api_Node]
 with_reducible refine hR _ ?_
 clear hR R
 simp only [zd1, zd0]
 refine Y_if 11 (by simp only [ev, zg1, zg0, zgd]; exact rfl) ?_ ?_
 ·intro b1
  have c1 := b1
  try simp only [beq_iff_eq] at c1
  refine Y_end fun R hR => ?_
  simp only [inr_i64, Int.reduceLE, Int.reduceNeg, aops, astep, awant, aeff, aop, abin, aint, ev, ofValue, St.put, zg1, zg0, zgd, zmo, zbs, if_true, zs1, zs0, and_self, beq_self_eq_true, c1]
  with_reducible refine hR _ ?_
  clear hR R
  show X _ _ _ _
  refine X_ite (by simp only [ev, zg1, zg0, zgd]; exact rfl) ?_ ?_
  ·intro b2
   have c2 := b2
   try simp only [beq_iff_eq] at c2
   refine X_seq ?_
   have hc := clipV_fn vs hl
   simp only [sl, cl] at hc
   have hap := fun fr bx => app_clip (P := Try.prog) (σ := ⟨fr, bx, 1, [0]⟩) (t := 22) (e := 34) (o2 := .own 0 34) (sz := 3) (l := vs.map dV) (l2 := [.agg [.str t.name, .int .u8 1, .int .i64 0]]) und_api_VarDecl inf_api_VarDecl_eq inf_api_VarDecl_size (by omega) (by rw [inf_api_VarDecl_bytes]; omega) inf_api_VarDecl_zc (by simp; omega) (by simp)
   refine X_rg fun R hR => ?_
   simp only [EVP, inr_u8, Int.reduceLE, aops, astep, awant, aeff, aop, mkD, afill, abuild, ev, ofValue, St.put, pcall, gd_int, cl_int, gd_str, ia_str, cl_str, gd_agg, cl_agg, zmc, zmn, zg1, zg0, zgd, zmo, if_true, zs1, zs0, zlc, zln, zd1, zd0, zt1, zt0, zca, zna, Nat.reduceAdd, Nat.reduceLeDiff, Nat.reduceLT, Nat.zero_add, Bool.and_true, zft, if_false, and_self, reduceCtorEq, List.all_cons, List.all_nil, beq_self_eq_true, Nat.reduceMul, rng_1, ty_string, ty_api_Node, ty_api_VarDecl, st_api_VarDecl, sta_api_VarDecl, und_api_VarDecl, inf_api_VarDecl_eq, inf_api_VarDecl_size, inf_api_VarDecl_zero, any67, c2, hc, hap]
   with_reducible refine hR _ ?_
   clear hR R
   show X _ _ _ _
   refine X_ret ?_
   show ∃ d, resD _ _ _ = some d ∧ _ ∧ _
   simp only [resD, resAll, resOne, resTup, Try.results55, EVP, zg1, zg0, D.good, if_true, zmo]
   first | exact ⟨_, rfl, (by rw [show (vs.map dV) ++ [D.agg [.str t.name, .int .u8 1, .int .i64 0]] = (vs ++ [Vd.mk t.name 1 0]).map dV from by simp [dV]]; simp only [D.under, unders_id (f := dV) (fun _ _ => rfl)]), (by rw [show (vs.map dV) ++ [D.agg [.str t.name, .int .u8 1, .int .i64 0]] = (vs ++ [Vd.mk t.name 1 0]).map dV from by simp [dV], show innerV t i vs = vs ++ [Vd.mk t.name 1 0] from by simp_all [innerV]]; exact sl_own (f := dV) (fun _ => rfl) (by simp) _ rfl)⟩ | (exfalso; simp_all; done)
  ·intro b3
   have c3 := b3
   try simp only [ne_eq, beq_eq_false_iff_ne] at c3
   refine X_seq ?_
   refine X_y ?_
   refine Y_k 4 fun R hR => ?_
   simp only [EVP, inr_u8, Int.reduceLE, aops, astep, awant, aeff, aop, abin, aint, mkD, ev, ofValue, St.put, ia_int, zg1, zg0, zgd, zmo, if_true, zs1, zs0, zlc, zln, zd0, zt1, zt0, Nat.reduceAdd, Nat.reduceLeDiff, Nat.zero_add, Nat.add_zero, zft, if_false, and_self, reduceCtorEq, Int.reduceBEq, ty_uint8, ty_api_Node, b3]
   with_reducible refine hR _ ?_
   clear hR R
   simp only [zd1, zd0]
   refine Y_if 26 (by simp only [ev, zg1, zg0, zgd]; exact rfl) ?_ ?_
   ·intro b4
    have c4 := b4
    try simp only [znt, znf, decide_eq_true_eq, decide_eq_false_iff_not, beq_iff_eq, Int.not_lt, Int.not_le, ge_iff_le, gt_iff_lt, bne_iff_ne, ne_eq, bne_eq_false_iff_eq, beq_eq_false_iff_ne, zat, zof] at c4
    refine Y_end fun R hR => ?_
    simp only [inr_i64, Int.reduceLE, Int.reduceNeg, aops, astep, awant, aeff, aop, abin, aint, ev, ofValue, St.put, zg1, zg0, zgd, zmo, zbs, if_true, zs1, zs0, and_self, beq_self_eq_true, b4]
    with_reducible refine hR _ ?_
    clear hR R
    show X _ _ _ _
    refine X_ite (by simp only [ev, zg1, zg0, zgd]; exact rfl) ?_ ?_
    ·intro b5
     have c5 := b5
     try simp only [beq_iff_eq] at c5
     refine X_seq ?_
     have hc := clipV_fn vs hl
     simp only [sl, cl] at hc
     have hap := fun fr bx => app_clip (P := Try.prog) (σ := ⟨fr, bx, 1, [0]⟩) (t := 22) (e := 34) (o2 := .own 0 34) (sz := 3) (l := vs.map dV) (l2 := [.agg [.str t.name, .int .u8 3, .int .i64 0]]) und_api_VarDecl inf_api_VarDecl_eq inf_api_VarDecl_size (by omega) (by rw [inf_api_VarDecl_bytes]; omega) inf_api_VarDecl_zc (by simp; omega) (by simp)
     refine X_rg fun R hR => ?_
     simp only [EVP, inr_u8, Int.reduceLE, aops, astep, awant, aeff, aop, mkD, afill, abuild, ev, ofValue, St.put, pcall, gd_int, cl_int, ia_str, gd_agg, cl_agg, zmc, zmn, zg1, zg0, zgd, zmo, if_true, zs1, zs0, zlc, zln, zd1, zd0, zt1, zt0, zca, zna, Nat.reduceAdd, Nat.reduceLeDiff, Nat.reduceLT, Nat.zero_add, Bool.and_true, if_false, and_self, reduceCtorEq, List.all_cons, List.all_nil, beq_self_eq_true, Nat.reduceMul, rng_1, ty_string, ty_api_Node, ty_api_VarDecl, st_api_VarDecl, sta_api_VarDecl, und_api_VarDecl, inf_api_VarDecl_eq, inf_api_VarDecl_size, inf_api_VarDecl_zero, any67, b4, c5, hc, hap]
     with_reducible refine hR _ ?_
     clear hR R
     show X _ _ _ _
     refine X_ret ?_
     show ∃ d, resD _ _ _ = some d ∧ _ ∧ _
     simp only [resD, resAll, resOne, resTup, Try.results55, EVP, zg1, zg0, D.good, if_true, zmo]
     first | exact ⟨_, rfl, (by rw [show (vs.map dV) ++ [D.agg [.str t.name, .int .u8 3, .int .i64 0]] = (vs ++ [Vd.mk t.name 3 0]).map dV from by simp [dV]]; simp only [D.under, unders_id (f := dV) (fun _ _ => rfl)]), (by rw [show (vs.map dV) ++ [D.agg [.str t.name, .int .u8 3, .int .i64 0]] = (vs ++ [Vd.mk t.name 3 0]).map dV from by simp [dV], show innerV t i vs = vs ++ [Vd.mk t.name 3 0] from by simp_all []]; exact sl_own (f := dV) (fun _ => rfl) (by simp) _ rfl)⟩ | (exfalso; simp_all; done)
    ·intro b6
     have c6 := b6
     try simp only [ne_eq, beq_eq_false_iff_ne] at c6
     refine X_skip ?_
     show X _ _ _ _
     refine X_seq ?_
     refine X_rg fun R hR => ?_
     simp only [aops, astep, awant, aeff, aop, ev, St.put, zg1, zg0, zgd, zmo, if_true, zs1, zs0, b4, b6]
     with_reducible refine hR _ ?_
     clear hR R
     show X _ _ _ _
     refine X_ret ?_
     show ∃ d, resD _ _ _ = some d ∧ _ ∧ _
     simp only [resD, resAll, resOne, resTup, Try.results55, EVP, zg1, zg0, D.good, if_true, zmo]
     first | exact ⟨_, rfl, (by exact sl_under (map_under (f := dV) (fun _ => rfl) _)), (by rw [show innerV t i vs = vs from by simp_all []]; exact sl_strip (map_strip (f := dV) (fun _ => rfl) _))⟩ | (exfalso; simp_all; done)
   ·intro b7
    have c7 := b7
    try simp only [] at c7
    refine Y_end fun R hR => ?_
    simp only [inr_i64, Int.reduceLE, Int.reduceNeg, aops, astep, awant, aeff, aop, abin, ev, ofValue, St.put, zg1, zg0, zgd, zmo, Option.map_none, zbs, if_true, zs1, zs0, zft, if_false, and_self, bq_ft]
    with_reducible refine hR _ ?_
    clear hR R
    show X _ _ _ _
    refine X_false (by simp only [ev, zg1, zg0, zgd]) ?_
    refine X_skip ?_
    show X _ _ _ _
    refine X_seq ?_
    refine X_rg fun R hR => ?_
    simp only [aops, astep, awant, aeff, aop, ev, St.put, zg1, zg0, zgd, zmo, if_true, zs1, zs0]
    with_reducible refine hR _ ?_
    clear hR R
    show X _ _ _ _
    refine X_ret ?_
    show ∃ d, resD _ _ _ = some d ∧ _ ∧ _
    simp only [resD, resAll, resOne, resTup, Try.results55, EVP, zg1, zg0, D.good, if_true, zmo]
    first | exact ⟨_, rfl, (by exact sl_under (map_under (f := dV) (fun _ => rfl) _)), (by rw [show innerV t i vs = vs from by simp_all [innerV]]; exact sl_strip (map_strip (f := dV) (fun _ => rfl) _))⟩ | (exfalso; simp_all; done)
 ·intro b8
  have c8 := b8
  try simp only [ne_eq, beq_eq_false_iff_ne] at c8
  refine Y_end fun R hR => ?_
  simp only [inr_i64, Int.reduceLE, Int.reduceNeg, aops, astep, awant, aeff, aop, abin, ev, ofValue, St.put, zg1, zg0, zgd, zmo, Option.map_none, zbs, if_true, zs1, zs0, zft, if_false, and_self, bq_ft, b8]
  with_reducible refine hR _ ?_
  clear hR R
  show X _ _ _ _
  refine X_false (by simp only [ev, zg1, zg0, zgd]) ?_
  refine X_seq ?_
  refine X_y ?_
  refine Y_k 4 fun R hR => ?_
  simp only [EVP, inr_u8, Int.reduceLE, aops, astep, awant, aeff, aop, abin, aint, mkD, ev, ofValue, St.put, ia_int, zg1, zg0, zgd, zmo, if_true, zs1, zs0, zlc, zln, zd0, zt1, zt0, Nat.reduceAdd, Nat.reduceLeDiff, Nat.zero_add, Nat.add_zero, zft, if_false, and_self, reduceCtorEq, ty_uint8, ty_api_Node]
  with_reducible refine hR _ ?_
  clear hR R
  simp only [zd1, zd0]
  refine Y_if 26 (by simp only [ev, zg1, zg0, zgd]; exact rfl) ?_ ?_
  ·intro b9
   have c9 := b9
   try simp only [beq_iff_eq] at c9
   refine Y_end fun R hR => ?_
   simp only [inr_i64, Int.reduceLE, Int.reduceNeg, aops, astep, awant, aeff, aop, abin, aint, ev, ofValue, St.put, zg1, zg0, zgd, zmo, zbs, if_true, zs1, zs0, and_self, beq_self_eq_true, c9]
   with_reducible refine hR _ ?_
   clear hR R
   show X _ _ _ _
   refine X_ite (by simp only [ev, zg1, zg0, zgd]; exact rfl) ?_ ?_
   ·intro b10
    have c10 := b10
    try simp only [beq_iff_eq] at c10
    refine X_seq ?_
    have hc := clipV_fn vs hl
    simp only [sl, cl] at hc
    have hap := fun fr bx => app_clip (P := Try.prog) (σ := ⟨fr, bx, 1, [0]⟩) (t := 22) (e := 34) (o2 := .own 0 34) (sz := 3) (l := vs.map dV) (l2 := [.agg [.str t.name, .int .u8 3, .int .i64 0]]) und_api_VarDecl inf_api_VarDecl_eq inf_api_VarDecl_size (by omega) (by rw [inf_api_VarDecl_bytes]; omega) inf_api_VarDecl_zc (by simp; omega) (by simp)
    refine X_rg fun R hR => ?_
    simp only [EVP, inr_u8, Int.reduceLE, aops, astep, awant, aeff, aop, mkD, afill, abuild, ev, ofValue, St.put, pcall, gd_int, cl_int, gd_str, ia_str, cl_str, gd_agg, cl_agg, zmc, zmn, zg1, zg0, zgd, zmo, if_true, zs1, zs0, zlc, zln, zd1, zd0, zt1, zt0, zca, zna, Nat.reduceAdd, Nat.reduceLeDiff, Nat.reduceLT, Nat.zero_add, Bool.and_true, zft, if_false, and_self, reduceCtorEq, List.all_cons, List.all_nil, beq_self_eq_true, Nat.reduceMul, rng_1, ty_string, ty_api_Node, ty_api_VarDecl, st_api_VarDecl, sta_api_VarDecl, und_api_VarDecl, inf_api_VarDecl_eq, inf_api_VarDecl_size, inf_api_VarDecl_zero, any67, c10, hc, hap]
    with_reducible refine hR _ ?_
    clear hR R
    show X _ _ _ _
    refine X_ret ?_
    show ∃ d, resD _ _ _ = some d ∧ _ ∧ _
    simp only [resD, resAll, resOne, resTup, Try.results55, EVP, zg1, zg0, D.good, if_true, zmo]
    first | exact ⟨_, rfl, (by rw [show (vs.map dV) ++ [D.agg [.str t.name, .int .u8 3, .int .i64 0]] = (vs ++ [Vd.mk t.name 3 0]).map dV from by simp [dV]]; simp only [D.under, unders_id (f := dV) (fun _ _ => rfl)]), (by rw [show (vs.map dV) ++ [D.agg [.str t.name, .int .u8 3, .int .i64 0]] = (vs ++ [Vd.mk t.name 3 0]).map dV from by simp [dV], show innerV t i vs = vs ++ [Vd.mk t.name 3 0] from by simp_all [innerV]]; exact sl_own (f := dV) (fun _ => rfl) (by simp) _ rfl)⟩ | (exfalso; simp_all; done)
   ·intro b11
    have c11 := b11
    try simp only [ne_eq, beq_eq_false_iff_ne] at c11
    refine X_skip ?_
    show X _ _ _ _
    refine X_seq ?_
    refine X_rg fun R hR => ?_
    simp only [aops, astep, awant, aeff, aop, ev, St.put, zg1, zg0, zgd, zmo, if_true, zs1, zs0, b11]
    with_reducible refine hR _ ?_
    clear hR R
    show X _ _ _ _
    refine X_ret ?_
    show ∃ d, resD _ _ _ = some d ∧ _ ∧ _
    simp only [resD, resAll, resOne, resTup, Try.results55, EVP, zg1, zg0, D.good, if_true, zmo]
    first | exact ⟨_, rfl, (by exact sl_under (map_under (f := dV) (fun _ => rfl) _)), (by rw [show innerV t i vs = vs from by simp_all [innerV]]; exact sl_strip (map_strip (f := dV) (fun _ => rfl) _))⟩ | (exfalso; simp_all; done)
  ·intro b12
   have c12 := b12
   try simp only [ne_eq, beq_eq_false_iff_ne] at c12
   refine Y_end fun R hR => ?_
   simp only [inr_i64, Int.reduceLE, Int.reduceNeg, aops, astep, awant, aeff, aop, abin, ev, ofValue, St.put, zg1, zg0, zgd, zmo, Option.map_none, zbs, if_true, zs1, zs0, zft, if_false, and_self, bq_ft, b12]
   with_reducible refine hR _ ?_
   clear hR R
   show X _ _ _ _
   refine X_false (by simp only [ev, zg1, zg0, zgd]) ?_
   refine X_skip ?_
   show X _ _ _ _
   refine X_seq ?_
   refine X_rg fun R hR => ?_
   simp only [aops, astep, awant, aeff, aop, ev, St.put, zg1, zg0, zgd, zmo, if_true, zs1, zs0]
   with_reducible refine hR _ ?_
   clear hR R
   show X _ _ _ _
   refine X_ret ?_
   show ∃ d, resD _ _ _ = some d ∧ _ ∧ _
   simp only [resD, resAll, resOne, resTup, Try.results55, EVP, zg1, zg0, D.good, if_true, zmo]
   first | exact ⟨_, rfl, (by exact sl_under (map_under (f := dV) (fun _ => rfl) _)), (by rw [show innerV t i vs = vs from by simp_all [innerV]]; exact sl_strip (map_strip (f := dV) (fun _ => rfl) _))⟩ | (exfalso; simp_all; done)
end Go.Proofs.Ytjikokmhknnnoaa
