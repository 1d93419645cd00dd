/- The layer scope over data: small functions. -/
import Derived.Test.YtmglacjcefajlaaFi
namespace Go.Proofs.Ytmglacjcefajlaa
open Go.RowKit

theorem ty_api_Errno : tyOf Try.prog 41 = some { sz := 1, agg := false, flds := [], elem := none, zero := some [.int .i64 0], bytes := 8 } := by kernel_rfl
theorem ty_scope_Fault : tyOf Try.prog 60 = some { sz := 4, agg := true, flds := [(0, 1, false), (1, 1, false), (2, 1, false), (3, 1, false)], elem := none, zero := some [.int .i64 0, .slice .nil 0 [], .int .i64 0, .str ⟨#[]⟩], bytes := 56 } := by kernel_rfl
theorem ty_s_scope_Fault : tyOf Try.prog 34 = some { sz := 1, agg := false, flds := [], elem := some 60, zero := some [.slice .nil 0 []], bytes := 24 } := by kernel_rfl
theorem ty_func_int__s_int__string__api_Errno_ : tyOf Try.prog 61 = some { sz := 1, agg := false, flds := [], elem := none, zero := some [.nfn], bytes := 8 } := by kernel_rfl
noncomputable def fs_scope_Fault : Array Field := match Try.prog.underlying 60 with | some (.struct fs) => fs | _ => #[]
theorem st_scope_Fault : Try.prog.underlying 60 = some (.struct fs_scope_Fault) := by kernel_rfl
theorem sta_scope_Fault : (fs_scope_Fault.toList.all fun f => (Try.prog.info? f.type).isSome) = true := by kernel_rfl
theorem und_scope_Fault : Try.prog.underlying 34 = some (.slice 60) := by kernel_rfl
noncomputable def inf_scope_Fault : TypeInfo := (Try.prog.info? 60).getD default
theorem inf_scope_Fault_eq : Try.prog.info? 60 = some inf_scope_Fault := by kernel_rfl
theorem inf_scope_Fault_size : inf_scope_Fault.size = 4 := by kernel_rfl
theorem inf_scope_Fault_bytes : inf_scope_Fault.bytes = 56 := by kernel_rfl
theorem inf_scope_Fault_zero : inf_scope_Fault.zero.isSome = true := by kernel_rfl
theorem inf_scope_Fault_zc : (inf_scope_Fault.zero.map fun z => z.cells.size) = some 4 := by kernel_rfl
theorem dG_agg (p : Pg) : D.agg [.slice .imm (if (p.vars.map dV).isEmpty = true then 0 else 3) (p.vars.map dV), .slice .imm (if (p.procs.map dP).isEmpty = true then 0 else 6) (p.procs.map dP), .int .u8 p.main.kind, .int .i64 p.main.num, .str p.main.name, .slice .imm (if (p.main.kids.map dN).isEmpty = true then 0 else 4) (p.main.kids.map dN)] = dG p := rfl
theorem dG_cells (p : Pg) : (dG p).cells = [.slice .imm (if (p.vars.map dV).isEmpty = true then 0 else 3) (p.vars.map dV), .slice .imm (if (p.procs.map dP).isEmpty = true then 0 else 6) (p.procs.map dP), .int .u8 p.main.kind, .int .i64 p.main.num, .str p.main.name, .slice .imm (if (p.main.kids.map dN).isEmpty = true then 0 else 4) (p.main.kids.map dN)] := rfl
theorem dG_good (p : Pg) : (dG p).good = true := rfl
theorem dV_cells (v : Vd) : (dV v).cells = [.str v.name, .int .u8 v.kind, .int .i64 v.len] := rfl
theorem dV_isAgg (v : Vd) : (dV v).isAgg = true := rfl
theorem dV_good (v : Vd) : (dV v).good = true := rfl
theorem sl_pl {α : Type} {f : α → D} (h : ∀ m x, (f x).under m = true) (n : Nat) (l : List α) : ((sl n (l.map f)).under 0 && (sl n (l.map f)).good) = true := by
 rw [sl_under (map_under (h 0) l)]; rfl
theorem str_pl (s : ByteArray) : ((D.str s).under 0 && (D.str s).good) = true := rfl
theorem int_pl (k : IntKind) (n : Int) : ((D.int k n).under 0 && (D.int k n).good) = true := rfl
theorem dN_pl (t : Tr) : ((dN t).under 0 && (dN t).good) = true := by rw [dN_under, dN_good]; rfl
theorem dG_pl (t : Pg) : ((dG t).under 0 && (dG t).good) = true := by rw [dG_under]; rfl
theorem sl_ne {α : Type} {f : α → D} {l : List α} (h : l.length ≠ 0) : ((l.map f) = []) = False := by
 cases l with
 | nil => exact absurd rfl h
 | cons a r => simp
theorem sl_or (n : Nat) (l : List D) : ((if l.isEmpty = true then 0 else n) = n ∨ l = []) = True := by cases l <;> simp
theorem strips_id {α : Type} {f : α → D} (h : ∀ x, (f x).strip = f x) (l : List α) : D.strips (l.map f) = l.map f := by
 rw [D.strips_map, List.map_map]; exact List.map_congr_left fun x _ => h x
theorem unders_id {α : Type} {f : α → D} (h : ∀ m x, (f x).under m = true) (m : Nat) (l : List α) : D.unders m (l.map f) = true := by
 rw [D.unders_all, List.all_eq_true]; intro x hx; obtain ⟨y, _, rfl⟩ := List.mem_map.1 hx; exact h m y
set_option maxRecDepth 100000 in
set_option maxHeartbeats 4000000 in
theorem cloneI_fn1 (l : List Int) (h0 : l.length ≠ 0) (hl : l.length ≤ 1000000) : fn EV 34 [sl 1 (l.map dI)] = some (sl 1 (l.map dI)) := by
 have hn : (if (l.map dI).isEmpty = true then 0 else 1) = 1 := sl_n (j := 0) (by simp; omega)
 refine fn_Xs rfl Try.func34 rfl (by simp only [plain, List.all_cons, List.all_nil, sl_pl (f := dI) (fun _ _ => rfl), Bool.and_true]) (by cases l with | nil => exact absurd rfl h0 | cons a r => rfl) ?_
 simp only [zmc, zmn, sl_strip (map_strip (f := dI) (fun _ => rfl) _)]
 simp only [enterSt, Try.ntmps34, zlc, zln, Nat.reduceAdd, Nat.reduceSub, zr1, zr0, zca, zna]
 refine X_seq ?_
 refine X_rg fun R hR => ?_
 simp only [aops, astep, awant, aeff, aop, ev, ofValue, St.put, zgd, zmo, if_true, zs1, zs0, sl]
 with_reducible refine hR _ ?_
 clear hR R
 show X _ _ _ _
 refine X_seq ?_
 refine X_seq ?_
 refine X_rg fun R hR => ?_
 simp only [EVP, aops, astep, awant, aeff, aop, abin, ev, ofValue, St.put, zg1, zg0, zgd, zmo, if_true, zs1, zs0, if_false, reduceCtorEq, und_int, sl_ne h0]
 with_reducible refine hR _ ?_
 clear hR R
 show X _ _ _ _
 refine X_false (by simp only [ev, zg1, zg0, zgd]) ?_
 refine X_skip ?_
 show X _ _ _ _
 refine X_seq ?_
 have hap := fun fr => Acc.app (P := Try.prog) (σ := ⟨fr, [], 1, [0]⟩) (t := 40) (e := 3) (o := .own 0 3) (n := 1) (L := []) (o2 := .imm) (l2 := l.map dI) (.own (by simp)) und_int inf_int_eq inf_int_size (by omega) (by rw [inf_int_bytes]; omega) inf_int_zc (by simp; omega) (by rw [ne_eq, sl_ne h0]; simp)
 refine X_rg fun R hR => ?_
 simp only [EVP, aops, astep, awant, aeff, aop, abuild, ev, ofValue, St.put, zmn, zg1, zg0, zgd, zmo, if_true, zs1, zs0, zna, Nat.reduceAdd, Nat.reduceLeDiff, Nat.reduceLT, Nat.zero_add, and_self, List.all_nil, Nat.reduceMul, rng_0, und_int, inf_int_eq, inf_int_size, inf_int_zero, hap, hn]
 with_reducible refine hR _ ?_
 clear hR R
 show X _ _ _ _
 refine X_ret ?_
 show ∃ d, resD _ _ _ = some d ∧ _ ∧ _
 simp only [resD, resAll, resOne, resTup, Try.results34, EVP, zg1, zg0, D.good, if_true, zmo]
 refine ⟨_, rfl, ?_, ?_⟩
 ·simp only [D.under, unders_id (f := dI) (fun _ _ => rfl)]
 ·simp only [D.strip, strips_id (f := dI) (fun _ => rfl), Own.st, sl, hn]
theorem cloneI_fn (l : List Int) (hl : l.length ≤ 1000000) : fn EV 34 [sl 1 (l.map dI)] = some (sl 1 (l.map dI)) := by
 by_cases h0 : l.length = 0
 ·rw [List.length_eq_zero_iff] at h0
  subst h0
  exact fn_orc EV rfl rfl
 ·exact cloneI_fn1 l h0 hl
def cl (n : Nat) (l : List D) : D := .slice .clip (if l.isEmpty = true then 0 else n) l
set_option maxRecDepth 100000 in
set_option maxHeartbeats 4000000 in
theorem clipI_fn (l : List Int) (_hl : l.length ≤ 1000000) : fn EV 82 [sl 1 (l.map dI)] = some (cl 1 (l.map dI)) := by
 refine fn_Xs rfl Try.func82 rfl (by simp only [plain, List.all_cons, List.all_nil, sl_pl (f := dI) (fun _ _ => rfl), Bool.and_true]) (rfl) ?_
 simp only [zmc, zmn, sl_strip (map_strip (f := dI) (fun _ => rfl) _)]
 simp only [enterSt, Try.ntmps82, zlc, zln, Nat.reduceAdd, Nat.reduceSub, zr1, zr0, zca, zna]
 refine X_seq ?_
 refine X_rg fun R hR => ?_
 simp only [aops, astep, awant, aeff, aop, ev, ofValue, St.put, zgd, zmo, if_true, zs1, zs0, sl]
 with_reducible refine hR _ ?_
 clear hR R
 show X _ _ _ _
 refine X_seq ?_
 have tk : List.take l.length (l.map dI) = l.map dI := List.take_of_length_le (by simp)
 have hle : ((l.length : Int) ≤ (l.length : Int)) = True := by simp
 have hle0 : ((0 : Int) ≤ (l.length : Int)) = True := by simp
 refine X_rg fun R hR => ?_
 simp only [EVP, nat_to, aops, astep, awant, aeff, aop, idx, ev, St.put, aslice3, zg1, zg0, zgd, zmo, Option.map_none, if_true, zs1, zs0, zlm, zd0, and_self, zis, und_int, siz_int, inf_int_eq, zlm, sl_or, tk, hle, Nat.sub_zero, Nat.zero_le, nat_le]
 with_reducible refine hR _ ?_
 clear hR R
 show X _ _ _ _
 refine X_ret ?_
 show ∃ d, resD _ _ _ = some d ∧ _ ∧ _
 simp only [resD, resAll, resOne, resTup, Try.results82, EVP, zg1, zg0, D.good, if_true, zmo]
 refine ⟨_, rfl, ?_, ?_⟩
 ·simp only [D.under, unders_id (f := dI) (fun _ _ => rfl)]
 ·simp only [D.strip, strips_id (f := dI) (fun _ => rfl), Own.st, cl]; try (cases (l.map dI) <;> rfl)
set_option maxRecDepth 100000 in
set_option maxHeartbeats 4000000 in
theorem clipV_fn (l : List Vd) (_hl : l.length ≤ 1000000) : fn EV 83 [sl 3 (l.map dV)] = some (cl 3 (l.map dV)) := by
 refine fn_Xs rfl Try.func83 rfl (by simp only [plain, List.all_cons, List.all_nil, sl_pl (f := dV) (fun _ _ => rfl), Bool.and_true]) (rfl) ?_
 simp only [zmc, zmn, sl_strip (map_strip (f := dV) (fun _ => rfl) _)]
 simp only [enterSt, Try.ntmps83, zlc, zln, Nat.reduceAdd, Nat.reduceSub, zr1, zr0, zca, zna]
 refine X_seq ?_
 refine X_rg fun R hR => ?_
 simp only [aops, astep, awant, aeff, aop, ev, ofValue, St.put, zgd, zmo, if_true, zs1, zs0, sl]
 with_reducible refine hR _ ?_
 clear hR R
 show X _ _ _ _
 refine X_seq ?_
 have tk : List.take l.length (l.map dV) = l.map dV := List.take_of_length_le (by simp)
 have hle : ((l.length : Int) ≤ (l.length : Int)) = True := by simp
 have hle0 : ((0 : Int) ≤ (l.length : Int)) = True := by simp
 refine X_rg fun R hR => ?_
 simp only [EVP, nat_to, aops, astep, awant, aeff, aop, idx, ev, St.put, aslice3, zg1, zg0, zgd, zmo, Option.map_none, if_true, zs1, zs0, zlm, zd0, and_self, zis, und_api_VarDecl, siz_api_VarDecl, inf_api_VarDecl_eq, zlm, sl_or, tk, hle, Nat.sub_zero, Nat.zero_le, nat_le]
 with_reducible refine hR _ ?_
 clear hR R
 show X _ _ _ _
 refine X_ret ?_
 show ∃ d, resD _ _ _ = some d ∧ _ ∧ _
 simp only [resD, resAll, resOne, resTup, Try.results83, EVP, zg1, zg0, D.good, if_true, zmo]
 refine ⟨_, rfl, ?_, ?_⟩
 ·simp only [D.under, unders_id (f := dV) (fun _ _ => rfl)]
 ·simp only [D.strip, strips_id (f := dV) (fun _ => rfl), Own.st, cl]; try (cases (l.map dV) <;> rfl)
theorem app_clip {P : Program} {t e : TypeId} {i : TypeInfo} {sz : Nat} {σ : St} {o2 : Own} {l l2 : List D} (hu : P.underlying t = some (.slice e)) (hi : P.info? e = some i) (hs : i.size = sz) (hp : 0 < sz) (hb : i.bytes ≤ 4096) (hz : (i.zero.map fun z => z.cells.size) = some sz)
  (hl : l.length + l2.length ≤ 16777216) (hne : l2 ≠ []) : aappend P σ t (.slice .clip (if l.isEmpty = true then 0 else sz) l) (.slice o2 sz l2) = some (.slice (.own σ.nx e) sz (l ++ l2), { σ with nx := σ.nx + 1, lv := σ.nx :: σ.lv }) := by
 subst hs
 unfold aappend
 simp only [hu, hi]
 rw [if_neg hne, if_pos ⟨trivial, hp, hb, hz, hl⟩]
 cases l with
 | nil => simp
 | cons a r => simp
theorem dI_def (i : Int) : D.int .i64 i = dI i := rfl
def innerV (t : Tr) (i : Int) (vs : List Vd) : List Vd := if t.kind = 54 ∧ i = 1 then vs ++ [⟨t.name, 1, 0⟩] else if t.kind = 55 ∧ i = 0 then vs ++ [⟨t.name, 3, 0⟩] else vs
theorem sl_own {α : Type} {f : α → D} {sz : Nat} {l : List α} (h : ∀ x, (f x).strip = f x) (_hne : l ≠ []) (o : Own) (ho : o.st = .imm) : (D.slice o sz (l.map f)).strip = sl sz (l.map f) := by
 simp only [D.strip, strips_id h, ho, sl]
set_option maxRecDepth 100000 in
set_option maxHeartbeats 4000000 in
theorem child_fn (l : List Int) (i : Int) (hl : l.length ≤ 1000000) : fn EV 59 [sl 1 (l.map dI), .int .i64 i] = some (sl 1 ((l ++ [i]).map dI)) := by
 refine fn_Xs rfl Try.func59 rfl (by simp only [plain, List.all_cons, List.all_nil, sl_pl (f := dI) (fun _ _ => rfl), int_pl, Bool.and_true]) (rfl) ?_
 simp only [zmc, zmn, D.strip, sl_strip (map_strip (f := dI) (fun _ => rfl) _)]
 simp only [enterSt, Try.ntmps59, zlc, zln, Nat.reduceAdd, Nat.reduceSub, zr1, zr0, zca, zna]
 refine X_seq ?_
 refine X_rg fun R hR => ?_
 simp only [aops, astep, awant, aeff, aop, ev, ofValue, St.put, zgd, zmo, if_true, zs1, zs0, sl]
 with_reducible refine hR _ ?_
 clear hR R
 show X _ _ _ _
 refine X_seq ?_
 have hc := clipI_fn l hl
 simp only [sl, cl] at hc
 have hap := fun fr bx => app_clip (P := Try.prog) (σ := ⟨fr, bx, 1, [0]⟩) (t := 40) (e := 3) (o2 := .own 0 3) (sz := 1) (l := l.map dI) (l2 := [.int .i64 i]) und_int inf_int_eq inf_int_size (by omega) (by rw [inf_int_bytes]; omega) inf_int_zc (by simp; omega) (by simp)
 refine X_rg fun R hR => ?_
 simp only [EVP, aops, astep, awant, aeff, aop, abuild, ev, ofValue, St.put, pcall, gd_int, cl_int, zmc, zmn, zg1, zg0, zgd, zmo, if_true, zs1, zs0, zlc, zln, zca, zna, Nat.reduceAdd, Nat.reduceLeDiff, Nat.reduceLT, Nat.zero_add, Bool.and_true, and_self, List.all_cons, List.all_nil, beq_self_eq_true, Nat.reduceMul, rng_1, und_int, inf_int_eq, inf_int_size, inf_int_zero, any82, hc, hap]
 with_reducible refine hR _ ?_
 clear hR R
 show X _ _ _ _
 refine X_ret ?_
 show ∃ d, resD _ _ _ = some d ∧ _ ∧ _
 simp only [resD, resAll, resOne, resTup, Try.results59, EVP, zg1, zg0, D.good, if_true, zmo]
 refine ⟨_, rfl, ?_, ?_⟩
 ·simp only [D.under, dI_def, D.unders_all, List.all_append, List.all_cons, List.all_nil]; rw [← D.unders_all, unders_id (f := dI) (fun _ _ => rfl)]; rfl
 ·rw [show (l.map dI) ++ [D.int .i64 i] = (l ++ [i]).map dI from by simp [dI]]; exact sl_own (f := dI) (fun _ => rfl) (by simp) _ rfl
set_option maxRecDepth 100000 in
set_option maxHeartbeats 4000000 in
theorem inner_fn (t : Tr) (i : Int) (vs : List Vd) (hl : vs.length ≤ 1000000) : fn EV 61 [dN t, .int .i64 i, sl 3 (vs.map dV)] = some (sl 3 ((innerV t i vs).map dV)) := by
 refine fn_Xs rfl Try.func61 rfl (by simp only [plain, List.all_cons, List.all_nil, sl_pl (f := dV) (fun _ _ => rfl), int_pl, dN_pl, Bool.and_true]) (rfl) ?_
 simp only [zmc, zmn, D.strip, sl_strip (map_strip (f := dV) (fun _ => rfl) _), dN_strip]
 simp only [enterSt, Try.ntmps61, zlc, zln, Nat.reduceAdd, Nat.reduceSub, zr1, zr0, zca, zna]
 refine X_seq ?_
 refine X_rg fun R hR => ?_
 simp only [aops, astep, awant, aeff, aop, ev, ofValue, St.put, zg0, zgd, zmo, if_true, zs1, zs0, zln, zna, dN_cells, dN_good, sl]
 with_reducible refine hR _ ?_
 clear hR R
 show X _ _ _ _
 refine X_seq ?_
 refine X_block ?_
 refine X_seq ?_
 refine X_y ?_
 refine Y_k 4 fun R hR => ?_
 simp only [EVP, inr_u8, Int.reduceLE, aops, astep, awant, aeff, aop, abin, aint, mkD, ev, ofValue, St.put, ia_int, zg1, zg0, zgd, zmo, if_true, zs1, zs0, zlc, zln, zd0, zt1, zt0, Nat.reduceAdd, Nat.reduceLeDiff, Nat.zero_add, Nat.add_zero, zft, if_false, and_self, reduceCtorEq, ty_uint8, ty_api_Node]
 with_reducible refine hR _ ?_
 clear hR R
 simp only [zd1, zd0]
 refine Y_if 11 (by simp only [ev, zg1, zg0, zgd]; exact rfl) ?_ ?_
 ·intro b1
  have c1 := b1
  try simp only [beq_iff_eq] at c1
  refine Y_end fun R hR => ?_
  simp only [inr_i64, Int.reduceLE, Int.reduceNeg, aops, astep, awant, aeff, aop, abin, aint, ev, ofValue, St.put, zg1, zg0, zgd, zmo, zbs, if_true, zs1, zs0, and_self, beq_self_eq_true, c1]
  with_reducible refine hR _ ?_
  clear hR R
  show X _ _ _ _
  refine X_ite (by simp only [ev, zg1, zg0, zgd]; exact rfl) ?_ ?_
  ·intro b2
   have c2 := b2
   try simp only [beq_iff_eq] at c2
   refine X_seq ?_
   have hc := clipV_fn vs hl
   simp only [sl, cl] at hc
   have hap := fun fr bx => app_clip (P := Try.prog) (σ := ⟨fr, bx, 1, [0]⟩) (t := 22) (e := 54) (o2 := .own 0 54) (sz := 3) (l := vs.map dV) (l2 := [.agg [.str t.name, .int .u8 1, .int .i64 0]]) und_api_VarDecl inf_api_VarDecl_eq inf_api_VarDecl_size (by omega) (by rw [inf_api_VarDecl_bytes]; omega) inf_api_VarDecl_zc (by simp; omega) (by simp)
   refine X_rg fun R hR => ?_
   simp only [EVP, inr_u8, Int.reduceLE, aops, astep, awant, aeff, aop, mkD, afill, abuild, ev, ofValue, St.put, pcall, gd_int, cl_int, gd_str, ia_str, cl_str, gd_agg, cl_agg, zmc, zmn, zg1, zg0, zgd, zmo, if_true, zs1, zs0, zlc, zln, zd1, zd0, zt1, zt0, zca, zna, Nat.reduceAdd, Nat.reduceLeDiff, Nat.reduceLT, Nat.zero_add, Bool.and_true, zft, if_false, and_self, reduceCtorEq, List.all_cons, List.all_nil, beq_self_eq_true, Nat.reduceMul, rng_1, ty_string, ty_api_Node, ty_api_VarDecl, st_api_VarDecl, sta_api_VarDecl, und_api_VarDecl, inf_api_VarDecl_eq, inf_api_VarDecl_size, inf_api_VarDecl_zero, any83, c2, hc, hap]
   with_reducible refine hR _ ?_
   clear hR R
   show X _ _ _ _
   refine X_ret ?_
   show ∃ d, resD _ _ _ = some d ∧ _ ∧ _
   simp only [resD, resAll, resOne, resTup, Try.results61, EVP, zg1, zg0, D.good, if_true, zmo]
   first | exact ⟨_, rfl, (by rw [show (vs.map dV) ++ [D.agg [.str t.name, .int .u8 1, .int .i64 0]] = (vs ++ [Vd.mk t.name 1 0]).map dV from by simp [dV]]; simp only [D.under, unders_id (f := dV) (fun _ _ => rfl)]), (by rw [show (vs.map dV) ++ [D.agg [.str t.name, .int .u8 1, .int .i64 0]] = (vs ++ [Vd.mk t.name 1 0]).map dV from by simp [dV], show innerV t i vs = vs ++ [Vd.mk t.name 1 0] from by simp_all [innerV]]; exact sl_own (f := dV) (fun _ => rfl) (by simp) _ rfl)⟩ | (exfalso; simp_all; done)
  ·intro b3
   have c3 := b3
   try simp only [ne_eq, beq_eq_false_iff_ne] at c3
   refine X_seq ?_
   refine X_y ?_
   refine Y_k 4 fun R hR => ?_
   simp only [EVP, inr_u8, Int.reduceLE, aops, astep, awant, aeff, aop, abin, aint, mkD, ev, ofValue, St.put, ia_int, zg1, zg0, zgd, zmo, if_true, zs1, zs0, zlc, zln, zd0, zt1, zt0, Nat.reduceAdd, Nat.reduceLeDiff, Nat.zero_add, Nat.add_zero, zft, if_false, and_self, reduceCtorEq, Int.reduceBEq, ty_uint8, ty_api_Node, b3]
   with_reducible refine hR _ ?_
   clear hR R
   simp only [zd1, zd0]
   refine Y_if 26 (by simp only [ev, zg1, zg0, zgd]; exact rfl) ?_ ?_
   ·intro b4
    have c4 := b4
    try simp only [znt, znf, decide_eq_true_eq, decide_eq_false_iff_not, beq_iff_eq, Int.not_lt, Int.not_le, ge_iff_le, gt_iff_lt, bne_iff_ne, ne_eq, bne_eq_false_iff_eq, beq_eq_false_iff_ne, zat, zof] at c4
    refine Y_end fun R hR => ?_
    simp only [inr_i64, Int.reduceLE, Int.reduceNeg, aops, astep, awant, aeff, aop, abin, aint, ev, ofValue, St.put, zg1, zg0, zgd, zmo, zbs, if_true, zs1, zs0, and_self, beq_self_eq_true, b4]
    with_reducible refine hR _ ?_
    clear hR R
    show X _ _ _ _
    refine X_ite (by simp only [ev, zg1, zg0, zgd]; exact rfl) ?_ ?_
    ·intro b5
     have c5 := b5
     try simp only [beq_iff_eq] at c5
     refine X_seq ?_
     have hc := clipV_fn vs hl
     simp only [sl, cl] at hc
     have hap := fun fr bx => app_clip (P := Try.prog) (σ := ⟨fr, bx, 1, [0]⟩) (t := 22) (e := 54) (o2 := .own 0 54) (sz := 3) (l := vs.map dV) (l2 := [.agg [.str t.name, .int .u8 3, .int .i64 0]]) und_api_VarDecl inf_api_VarDecl_eq inf_api_VarDecl_size (by omega) (by rw [inf_api_VarDecl_bytes]; omega) inf_api_VarDecl_zc (by simp; omega) (by simp)
     refine X_rg fun R hR => ?_
     simp only [EVP, inr_u8, Int.reduceLE, aops, astep, awant, aeff, aop, mkD, afill, abuild, ev, ofValue, St.put, pcall, gd_int, cl_int, ia_str, gd_agg, cl_agg, zmc, zmn, zg1, zg0, zgd, zmo, if_true, zs1, zs0, zlc, zln, zd1, zd0, zt1, zt0, zca, zna, Nat.reduceAdd, Nat.reduceLeDiff, Nat.reduceLT, Nat.zero_add, Bool.and_true, if_false, and_self, reduceCtorEq, List.all_cons, List.all_nil, beq_self_eq_true, Nat.reduceMul, rng_1, ty_string, ty_api_Node, ty_api_VarDecl, st_api_VarDecl, sta_api_VarDecl, und_api_VarDecl, inf_api_VarDecl_eq, inf_api_VarDecl_size, inf_api_VarDecl_zero, any83, b4, c5, hc, hap]
     with_reducible refine hR _ ?_
     clear hR R
     show X _ _ _ _
     refine X_ret ?_
     show ∃ d, resD _ _ _ = some d ∧ _ ∧ _
     simp only [resD, resAll, resOne, resTup, Try.results61, EVP, zg1, zg0, D.good, if_true, zmo]
     first | exact ⟨_, rfl, (by rw [show (vs.map dV) ++ [D.agg [.str t.name, .int .u8 3, .int .i64 0]] = (vs ++ [Vd.mk t.name 3 0]).map dV from by simp [dV]]; simp only [D.under, unders_id (f := dV) (fun _ _ => rfl)]), (by rw [show (vs.map dV) ++ [D.agg [.str t.name, .int .u8 3, .int .i64 0]] = (vs ++ [Vd.mk t.name 3 0]).map dV from by simp [dV], show innerV t i vs = vs ++ [Vd.mk t.name 3 0] from by simp_all []]; exact sl_own (f := dV) (fun _ => rfl) (by simp) _ rfl)⟩ | (exfalso; simp_all; done)
    ·intro b6
     have c6 := b6
     try simp only [ne_eq, beq_eq_false_iff_ne] at c6
     refine X_skip ?_
     show X _ _ _ _
     refine X_seq ?_
     refine X_rg fun R hR => ?_
     simp only [aops, astep, awant, aeff, aop, ev, St.put, zg1, zg0, zgd, zmo, if_true, zs1, zs0, b4, b6]
     with_reducible refine hR _ ?_
     clear hR R
     show X _ _ _ _
     refine X_ret ?_
     show ∃ d, resD _ _ _ = some d ∧ _ ∧ _
     simp only [resD, resAll, resOne, resTup, Try.results61, EVP, zg1, zg0, D.good, if_true, zmo]
     first | exact ⟨_, rfl, (by exact sl_under (map_under (f := dV) (fun _ => rfl) _)), (by rw [show innerV t i vs = vs from by simp_all []]; exact sl_strip (map_strip (f := dV) (fun _ => rfl) _))⟩ | (exfalso; simp_all; done)
   ·intro b7
    have c7 := b7
    try simp only [] at c7
    refine Y_end fun R hR => ?_
    simp only [inr_i64, Int.reduceLE, Int.reduceNeg, aops, astep, awant, aeff, aop, abin, ev, ofValue, St.put, zg1, zg0, zgd, zmo, Option.map_none, zbs, if_true, zs1, zs0, zft, if_false, and_self, bq_ft]
    with_reducible refine hR _ ?_
    clear hR R
    show X _ _ _ _
    refine X_false (by simp only [ev, zg1, zg0, zgd]) ?_
    refine X_skip ?_
    show X _ _ _ _
    refine X_seq ?_
    refine X_rg fun R hR => ?_
    simp only [aops, astep, awant, aeff, aop, ev, St.put, zg1, zg0, zgd, zmo, if_true, zs1, zs0]
    with_reducible refine hR _ ?_
    clear hR R
    show X _ _ _ _
    refine X_ret ?_
    show ∃ d, resD _ _ _ = some d ∧ _ ∧ _
    simp only [resD, resAll, resOne, resTup, Try.results61, EVP, zg1, zg0, D.good, if_true, zmo]
    first | exact ⟨_, rfl, (by exact sl_under (map_under (f := dV) (fun _ => rfl) _)), (by rw [show innerV t i vs = vs from by simp_all [innerV]]; exact sl_strip (map_strip (f := dV) (fun _ => rfl) _))⟩ | (exfalso; simp_all; done)
 ·intro b8
  have c8 := b8
  try simp only [ne_eq, beq_eq_false_iff_ne] at c8
  refine Y_end fun R hR => ?_
  simp only [inr_i64, Int.reduceLE, Int.reduceNeg, aops, astep, awant, aeff, aop, abin, ev, ofValue, St.put, zg1, zg0, zgd, zmo, Option.map_none, zbs, if_true, zs1, zs0, zft, if_false, and_self, bq_ft, b8]
  with_reducible refine hR _ ?_
  clear hR R
  show X _ _ _ _
  refine X_false (by simp only [ev, zg1, zg0, zgd]) ?_
  refine X_seq ?_
  refine X_y ?_
  refine Y_k 4 fun R hR => ?_
  simp only [EVP, inr_u8, Int.reduceLE, aops, astep, awant, aeff, aop, abin, aint, mkD, ev, ofValue, St.put, ia_int, zg1, zg0, zgd, zmo, if_true, zs1, zs0, zlc, zln, zd0, zt1, zt0, Nat.reduceAdd, Nat.reduceLeDiff, Nat.zero_add, Nat.add_zero, zft, if_false, and_self, reduceCtorEq, ty_uint8, ty_api_Node]
  with_reducible refine hR _ ?_
  clear hR R
  simp only [zd1, zd0]
  refine Y_if 26 (by simp only [ev, zg1, zg0, zgd]; exact rfl) ?_ ?_
  ·intro b9
   have c9 := b9
   try simp only [beq_iff_eq] at c9
   refine Y_end fun R hR => ?_
   simp only [inr_i64, Int.reduceLE, Int.reduceNeg, aops, astep, awant, aeff, aop, abin, aint, ev, ofValue, St.put, zg1, zg0, zgd, zmo, zbs, if_true, zs1, zs0, and_self, beq_self_eq_true, c9]
   with_reducible refine hR _ ?_
   clear hR R
   show X _ _ _ _
   refine X_ite (by simp only [ev, zg1, zg0, zgd]; exact rfl) ?_ ?_
   ·intro b10
    have c10 := b10
    try simp only [beq_iff_eq] at c10
    refine X_seq ?_
    have hc := clipV_fn vs hl
    simp only [sl, cl] at hc
    have hap := fun fr bx => app_clip (P := Try.prog) (σ := ⟨fr, bx, 1, [0]⟩) (t := 22) (e := 54) (o2 := .own 0 54) (sz := 3) (l := vs.map dV) (l2 := [.agg [.str t.name, .int .u8 3, .int .i64 0]]) und_api_VarDecl inf_api_VarDecl_eq inf_api_VarDecl_size (by omega) (by rw [inf_api_VarDecl_bytes]; omega) inf_api_VarDecl_zc (by simp; omega) (by simp)
    refine X_rg fun R hR => ?_
    simp only [EVP, inr_u8, Int.reduceLE, aops, astep, awant, aeff, aop, mkD, afill, abuild, ev, ofValue, St.put, pcall, gd_int, cl_int, gd_str, ia_str, cl_str, gd_agg, cl_agg, zmc, zmn, zg1, zg0, zgd, zmo, if_true, zs1, zs0, zlc, zln, zd1, zd0, zt1, zt0, zca, zna, Nat.reduceAdd, Nat.reduceLeDiff, Nat.reduceLT, Nat.zero_add, Bool.and_true, zft, if_false, and_self, reduceCtorEq, List.all_cons, List.all_nil, beq_self_eq_true, Nat.reduceMul, rng_1, ty_string, ty_api_Node, ty_api_VarDecl, st_api_VarDecl, sta_api_VarDecl, und_api_VarDecl, inf_api_VarDecl_eq, inf_api_VarDecl_size, inf_api_VarDecl_zero, any83, c10, hc, hap]
    with_reducible refine hR _ ?_
    clear hR R
    show X _ _ _ _
    refine X_ret ?_
    show ∃ d, resD _ _ _ = some d ∧ _ ∧ _
    simp only [resD, resAll, resOne, resTup, Try.results61, EVP, zg1, zg0, D.good, if_true, zmo]
    first | exact ⟨_, rfl, (by rw [show (vs.map dV) ++ [D.agg [.str t.name, .int .u8 3, .int .i64 0]] = (vs ++ [Vd.mk t.name 3 0]).map dV from by simp [dV]]; simp only [D.under, unders_id (f := dV) (fun _ _ => rfl)]), (by rw [show (vs.map dV) ++ [D.agg [.str t.name, .int .u8 3, .int .i64 0]] = (vs ++ [Vd.mk t.name 3 0]).map dV from by simp [dV], show innerV t i vs = vs ++ [Vd.mk t.name 3 0] from by simp_all [innerV]]; exact sl_own (f := dV) (fun _ => rfl) (by simp) _ rfl)⟩ | (exfalso; simp_all; done)
   ·intro b11
    have c11 := b11
    try simp only [ne_eq, beq_eq_false_iff_ne] at c11
    refine X_skip ?_
    show X _ _ _ _
    refine X_seq ?_
    refine X_rg fun R hR => ?_
    simp only [aops, astep, awant, aeff, aop, ev, St.put, zg1, zg0, zgd, zmo, if_true, zs1, zs0, b11]
    with_reducible refine hR _ ?_
    clear hR R
    show X _ _ _ _
    refine X_ret ?_
    show ∃ d, resD _ _ _ = some d ∧ _ ∧ _
    simp only [resD, resAll, resOne, resTup, Try.results61, EVP, zg1, zg0, D.good, if_true, zmo]
    first | exact ⟨_, rfl, (by exact sl_under (map_under (f := dV) (fun _ => rfl) _)), (by rw [show innerV t i vs = vs from by simp_all [innerV]]; exact sl_strip (map_strip (f := dV) (fun _ => rfl) _))⟩ | (exfalso; simp_all; done)
  ·intro b12
   have c12 := b12
   try simp only [ne_eq, beq_eq_false_iff_ne] at c12
   refine Y_end fun R hR => ?_
   simp only [inr_i64, Int.reduceLE, Int.reduceNeg, aops, astep, awant, aeff, aop, abin, ev, ofValue, St.put, zg1, zg0, zgd, zmo, Option.map_none, zbs, if_true, zs1, zs0, zft, if_false, and_self, bq_ft, b12]
   with_reducible refine hR _ ?_
   clear hR R
   show X _ _ _ _
   refine X_false (by simp only [ev, zg1, zg0, zgd]) ?_
   refine X_skip ?_
   show X _ _ _ _
   refine X_seq ?_
   refine X_rg fun R hR => ?_
   simp only [aops, astep, awant, aeff, aop, ev, St.put, zg1, zg0, zgd, zmo, if_true, zs1, zs0]
   with_reducible refine hR _ ?_
   clear hR R
   show X _ _ _ _
   refine X_ret ?_
   show ∃ d, resD _ _ _ = some d ∧ _ ∧ _
   simp only [resD, resAll, resOne, resTup, Try.results61, EVP, zg1, zg0, D.good, if_true, zmo]
   first | exact ⟨_, rfl, (by exact sl_under (map_under (f := dV) (fun _ => rfl) _)), (by rw [show innerV t i vs = vs from by simp_all [innerV]]; exact sl_strip (map_strip (f := dV) (fun _ => rfl) _))⟩ | (exfalso; simp_all; done)
def freshE (vs : List Vd) (s : ByteArray) : Int := if (findN vs s vs.length).2 then 22 else 0
def useE (vs : List Vd) (s : ByteArray) (k : Int) : Int := if (findN vs s vs.length).2 then (if (findN vs s vs.length).1.kind = k then 0 else 7) else 6
def procI (p : Pg) (s : ByteArray) : Int := idxN p.procs s 0 p.procs.length
def prmN (p : Pg) (s : ByteArray) : List Vd := match p.procs[(procI p s).toNat]? with
 | some q => q.params
 | none => []
def faultE (p : Pg) (t : Tr) (vs : List Vd) : Int :=
 if t.kind = 2 then useE vs t.name 1 else if t.kind = 3 then useE vs t.name 2
 else if t.kind = 4 ∨ t.kind = 5 ∨ t.kind = 44 ∨ t.kind = 45 then useE vs t.name 3
 else if t.kind = 54 ∨ t.kind = 55 then freshE vs t.name
 else if t.kind = 50 ∨ t.kind = 51 then (if procI p t.name < 0 then 6 else if t.kids.length = (prmN p t.name).length then 0 else 7)
 else 0
def argE (p : Pg) (t : Tr) (i : Nat) (vs : List Vd) : Int := match t.kids[i]? with
 | none => 0
 | some c => if (findN vs c.name vs.length).2 then (if procI p t.name < 0 then 0 else if t.kids.length = (prmN p t.name).length then
   (match (prmN p t.name)[i]? with
    | some q => if (findN vs c.name vs.length).1.kind = q.kind ∧ (findN vs c.name vs.length).1.len = q.len then 0 else 7
    | none => 0) else 0) else 6
theorem idxN_in {l : List Pr} {s : ByteArray} : ∀ (n i : Nat), i + n ≤ l.length → idxN l s i n = -1 ∨ ∃ j, j < l.length ∧ idxN l s i n = (j : Int)
 | 0, i, _ => .inl rfl
 | n + 1, i, h => by
  have hi : i < l.length := by omega
  simp only [idxN, List.getElem?_eq_getElem hi]
  split
  ·exact .inr ⟨i, hi, rfl⟩
  ·exact idxN_in n (i + 1) (by omega)
theorem procI_in {p : Pg} {s : ByteArray} (h : ¬ procI p s < 0) : ∃ j, ∃ hj : j < p.procs.length, procI p s = (j : Int) ∧ prmN p s = p.procs[j].params := by
 rcases idxN_in (l := p.procs) (s := s) p.procs.length 0 (by omega) with q | ⟨j, hj, q⟩
 ·unfold procI at h; rw [q] at h; exact absurd (by decide) h
 ·refine ⟨j, hj, q, ?_⟩
  unfold prmN procI; rw [q]; simp [hj]
def prQ (p : Pg) (s : ByteArray) : Pr := (p.procs[(procI p s).toNat]?).getD ⟨⟨#[]⟩, [], .mk 0 0 ⟨#[]⟩ []⟩
theorem prmN_eq (p : Pg) (s : ByteArray) : prmN p s = (prQ p s).params := by
 unfold prmN prQ
 split
 ·rename_i q h; rw [h]; rfl
 ·rename_i h; rw [h]; rfl
theorem pq_1 {p : Pg} {s : ByteArray} (h : 0 ≤ procI p s) : (procI p s < (p.procs.length : Int)) = True := by
 obtain ⟨j, hj, e, _⟩ := procI_in (p := p) (s := s) (by omega)
 rw [e]; simp [hj]
theorem pq_2 {p : Pg} {s : ByteArray} (h : 0 ≤ procI p s) : ((if (p.procs.map dP).isEmpty = true then 0 else 6) = 6) = True := by
 obtain ⟨j, hj, e, _⟩ := procI_in (p := p) (s := s) (by omega)
 exact eq_true (sl_n (j := j) (by simpa using hj))
theorem pq_3 {p : Pg} {s : ByteArray} (h : 0 ≤ procI p s) : (p.procs.map dP)[(procI p s).toNat]? = some (dP (prQ p s)) := by
 obtain ⟨j, hj, e, _⟩ := procI_in (p := p) (s := s) (by omega)
 unfold prQ
 rw [e]; simp [hj]
set_option maxRecDepth 100000 in
set_option maxHeartbeats 4000000 in
theorem fresh_fn (vs : List Vd) (s : ByteArray) (hl : vs.length ≤ 1000000) : fn EV 35 [sl 3 (vs.map dV), .str s] = some (.int .i64 (freshE vs s)) := by
 refine fn_X rfl Try.func35 rfl (by simp only [plain, List.all_cons, List.all_nil, sl_pl (f := dV) (fun _ _ => rfl), str_pl, Bool.and_true]) (rfl) (rfl) (rfl) ?_
 simp only [zmc, zmn, D.strip, sl_strip (map_strip (f := dV) (fun _ => rfl) _)]
 simp only [enterSt, Try.ntmps35, zlc, zln, Nat.reduceAdd, Nat.reduceSub, zr1, zr0, zca, zna]
 refine X_seq ?_
 refine X_rg fun R hR => ?_
 simp only [inr_i64, Int.reduceLE, Int.reduceNeg, aops, astep, awant, aeff, aop, ev, ofValue, St.put, zgd, zmo, if_true, zs1, zs0, and_self, sl]
 with_reducible refine hR _ ?_
 clear hR R
 show X _ _ _ _
 refine X_seq ?_
 refine X_seq ?_
 have hF := find_fn vs s (by omega)
 simp only [sl] at hF
 refine X_rg fun R hR => ?_
 simp only [EVP, aops, astep, awant, aeff, aop, astore, ev, St.put, pcall, zmc, zmn, zg1, zg0, zgd, zmo, zbs, if_true, zs1, zs0, zlc, zln, zd1, zd0, zt0, zca, zna, Nat.reduceAdd, Nat.reduceLeDiff, Nat.zero_add, and_self, ty_api_VarDecl, any55, dV_cells, dV_good, hF]
 with_reducible refine hR _ ?_
 clear hR R
 show X _ _ _ _
 refine X_seq ?_
 refine X_rg fun R hR => ?_
 simp only [aops, astep, awant, aeff, aop, ev, St.put, zg1, zg0, zgd, zmo, if_true, zs1, zs0]
 with_reducible refine hR _ ?_
 clear hR R
 show X _ _ _ _
 refine X_ite (by simp only [ev, zg1, zg0, zgd]; exact rfl) ?_ ?_
 ·intro b1
  have c1 := b1
  try simp only [znt, znf, decide_eq_true_eq, decide_eq_false_iff_not, beq_iff_eq, Int.not_lt, Int.not_le, ge_iff_le, gt_iff_lt, bne_iff_ne, ne_eq, bne_eq_false_iff_eq, beq_eq_false_iff_ne, zat, zof] at c1
  refine X_seq ?_
  refine X_rg fun R hR => ?_
  simp only [inr_i64, Int.reduceLE, Int.reduceNeg, aops, astep, awant, aeff, aop, ev, ofValue, St.put, zgd, zmo, if_true, zs1, zs0, and_self, b1]
  with_reducible refine hR _ ?_
  clear hR R
  show X _ _ _ _
  refine X_ret ?_
  show resD _ _ _ = some _
  simp only [resD, resAll, resOne, resTup, Try.results35, EVP, zg1, zg0, D.good, if_true, zmo] <;> (first | (rfl; done) | (simp_all [freshE]; done) | (exfalso; simp_all; done))
 ·intro b2
  have c2 := b2
  try simp only [znt, znf, decide_eq_true_eq, decide_eq_false_iff_not, beq_iff_eq, Int.not_lt, Int.not_le, ge_iff_le, gt_iff_lt, bne_iff_ne, ne_eq, bne_eq_false_iff_eq, beq_eq_false_iff_ne, zat, zof] at c2
  refine X_skip ?_
  show X _ _ _ _
  refine X_seq ?_
  refine X_rg fun R hR => ?_
  simp only [inr_i64, Int.reduceLE, Int.reduceNeg, aops, astep, awant, aeff, aop, ev, ofValue, St.put, zgd, zmo, if_true, zs1, zs0, and_self, b2]
  with_reducible refine hR _ ?_
  clear hR R
  show X _ _ _ _
  refine X_ret ?_
  show resD _ _ _ = some _
  simp only [resD, resAll, resOne, resTup, Try.results35, EVP, zg1, zg0, D.good, if_true, zmo] <;> (first | (rfl; done) | (simp_all [freshE]; done) | (exfalso; simp_all; done))
set_option maxRecDepth 100000 in
set_option maxHeartbeats 4000000 in
theorem use_fn (vs : List Vd) (s : ByteArray) (k : Int) (hl : vs.length ≤ 1000000) : fn EV 81 [sl 3 (vs.map dV), .str s, .int .u8 k] = some (.int .i64 (useE vs s k)) := by
 refine fn_X rfl Try.func81 rfl (by simp only [plain, List.all_cons, List.all_nil, sl_pl (f := dV) (fun _ _ => rfl), str_pl, int_pl, Bool.and_true]) (rfl) (rfl) (rfl) ?_
 simp only [zmc, zmn, D.strip, sl_strip (map_strip (f := dV) (fun _ => rfl) _)]
 simp only [enterSt, Try.ntmps81, zlc, zln, Nat.reduceAdd, Nat.reduceSub, zr1, zr0, zca, zna]
 refine X_seq ?_
 refine X_rg fun R hR => ?_
 simp only [inr_i64, Int.reduceLE, Int.reduceNeg, aops, astep, awant, aeff, aop, ev, ofValue, St.put, zgd, zmo, if_true, zs1, zs0, and_self, sl]
 with_reducible refine hR _ ?_
 clear hR R
 show X _ _ _ _
 refine X_seq ?_
 have hF := find_fn vs s (by omega)
 simp only [sl] at hF
 refine X_rg fun R hR => ?_
 simp only [EVP, aops, astep, awant, aeff, aop, astore, ev, St.put, pcall, zmc, zmn, zg1, zg0, zgd, zmo, zbs, if_true, zs1, zs0, zlc, zln, zd1, zd0, zt0, zca, zna, Nat.reduceAdd, Nat.reduceLeDiff, Nat.zero_add, and_self, ty_api_VarDecl, any55, dV_cells, dV_good, hF]
 with_reducible refine hR _ ?_
 clear hR R
 show X _ _ _ _
 refine X_seq ?_
 refine X_block ?_
 refine X_seq ?_
 refine X_rg fun R hR => ?_
 simp only [aops, astep, awant, aeff, aop, ev, St.put, zg1, zg0, zgd, zmo, if_true, zs1, zs0]
 with_reducible refine hR _ ?_
 clear hR R
 show X _ _ _ _
 refine X_ite (by simp only [ev, zg1, zg0, zgd]; exact rfl) ?_ ?_
 ·intro b1
  have c1 := b1
  try simp only [znt] at c1
  refine X_seq ?_
  refine X_rg fun R hR => ?_
  simp only [inr_i64, Int.reduceLE, Int.reduceNeg, aops, astep, awant, aeff, aop, ev, ofValue, St.put, zgd, zmo, if_true, zs1, zs0, Bool.not_false, and_self, c1]
  with_reducible refine hR _ ?_
  clear hR R
  show X _ _ _ _
  refine X_ret ?_
  show resD _ _ _ = some _
  simp only [resD, resAll, resOne, resTup, Try.results81, EVP, zg1, zg0, D.good, if_true, zmo] <;> (first | (rfl; done) | (simp_all [useE]; done) | (exfalso; simp_all; done))
 ·intro b2
  have c2 := b2
  try simp only [znf] at c2
  refine X_seq ?_
  refine X_rg fun R hR => ?_
  simp only [EVP, aops, astep, awant, aeff, aop, abin, aint, mkD, ev, St.put, ia_int, zg1, zg0, zgd, zmo, if_true, zs1, zs0, zlc, zln, zd1, zd0, zt1, zt0, Nat.reduceAdd, Nat.reduceLeDiff, Nat.zero_add, Bool.not_true, zft, if_false, reduceCtorEq, ty_uint8, ty_api_VarDecl, c2]
  with_reducible refine hR _ ?_
  clear hR R
  show X _ _ _ _
  refine X_ite (by simp only [ev, zg1, zg0, zgd]; exact rfl) ?_ ?_
  ·intro b3
   have c3 := b3
   try simp only [bne_iff_ne, ne_eq] at c3
   refine X_seq ?_
   refine X_rg fun R hR => ?_
   simp only [inr_i64, Int.reduceLE, Int.reduceNeg, aops, astep, awant, aeff, aop, ev, ofValue, St.put, zgd, zmo, if_true, zs1, zs0, and_self, b3]
   with_reducible refine hR _ ?_
   clear hR R
   show X _ _ _ _
   refine X_ret ?_
   show resD _ _ _ = some _
   simp only [resD, resAll, resOne, resTup, Try.results81, EVP, zg1, zg0, D.good, if_true, zmo] <;> (first | (rfl; done) | (simp_all [useE]; done) | (exfalso; simp_all; done))
  ·intro b4
   have c4 := b4
   try simp only [bne_eq_false_iff_eq] at c4
   refine X_skip ?_
   show X _ _ _ _
   refine X_seq ?_
   refine X_rg fun R hR => ?_
   simp only [inr_i64, Int.reduceLE, Int.reduceNeg, aops, astep, awant, aeff, aop, ev, ofValue, St.put, zgd, zmo, if_true, zs1, zs0, and_self, bne_self_eq_false, c4]
   with_reducible refine hR _ ?_
   clear hR R
   show X _ _ _ _
   refine X_ret ?_
   show resD _ _ _ = some _
   simp only [resD, resAll, resOne, resTup, Try.results81, EVP, zg1, zg0, D.good, if_true, zmo] <;> (first | (rfl; done) | (simp_all [useE]; done) | (exfalso; simp_all; done))
set_option maxRecDepth 100000 in
set_option maxHeartbeats 4000000 in
theorem fault_fn (p : Pg) (t : Tr) (vs : List Vd) (hl : vs.length ≤ 1000000) (hp : p.procs.length ≤ 1000000) : fn EV 58 [dG p, dN t, sl 3 (vs.map dV)] = some (.int .i64 (faultE p t vs)) := by
 refine fn_X rfl Try.func58 rfl (by simp only [plain, List.all_cons, List.all_nil, sl_pl (f := dV) (fun _ _ => rfl), dN_pl, dG_pl, Bool.and_true]) (rfl) (rfl) (rfl) ?_
 simp only [zmc, zmn, sl_strip (map_strip (f := dV) (fun _ => rfl) _), dN_strip, dG_strip]
 simp only [enterSt, Try.ntmps58, zlc, zln, Nat.reduceAdd, Nat.reduceSub, zr1, zr0, zca, zna]
 refine X_seq ?_
 refine X_rg fun R hR => ?_
 simp only [inr_i64, Int.reduceLE, Int.reduceNeg, aops, astep, awant, aeff, aop, ev, ofValue, St.put, zg1, zg0, zgd, zmo, if_true, zs1, zs0, zlc, zln, zca, zna, Nat.zero_add, and_self, dN_cells, dN_good, sl, dG_cells, dG_good]
 with_reducible refine hR _ ?_
 clear hR R
 show X _ _ _ _
 refine X_seq ?_
 refine X_seq ?_
 refine X_rg fun R hR => ?_
 simp only [EVP, aops, astep, awant, aeff, aop, mkD, ev, St.put, ia_int, zg1, zg0, zgd, zmo, if_true, zs1, zs0, zlc, zln, zd0, zt1, zt0, Nat.reduceAdd, Nat.reduceLeDiff, Nat.zero_add, Nat.add_zero, zft, if_false, reduceCtorEq, ty_uint8, ty_api_Node]
 with_reducible refine hR _ ?_
 clear hR R
 show X _ _ _ _
 refine X_block ?_
 refine X_seq ?_
 refine X_rg fun R hR => ?_
 simp only [inr_u8, Int.reduceLE, aops, astep, awant, aeff, aop, abin, aint, ev, ofValue, St.put, zg1, zg0, zgd, zmo, if_true, zs1, zs0, and_self]
 with_reducible refine hR _ ?_
 clear hR R
 show X _ _ _ _
 refine X_ite (by simp only [ev, zg1, zg0, zgd]; exact rfl) ?_ ?_
 ·intro b1
  have c1 := b1
  try simp only [beq_iff_eq] at c1
  refine X_seq ?_
  have hU := use_fn vs t.name 1 hl
  simp only [sl] at hU
  refine X_rg fun R hR => ?_
  simp only [EVP, inr_u8, Int.reduceLE, aops, astep, awant, aeff, aop, mkD, ev, ofValue, St.put, pcall, ia_str, zmc, zmn, zg1, zg0, zgd, zmo, if_true, zs1, zs0, zlc, zln, zd1, zd0, zt1, zt0, zca, zna, Nat.reduceAdd, Nat.reduceLeDiff, Nat.zero_add, zft, if_false, and_self, reduceCtorEq, beq_self_eq_true, ty_string, ty_api_Node, any81, c1, hU]
  with_reducible refine hR _ ?_
  clear hR R
  show X _ _ _ _
  refine X_ret ?_
  show resD _ _ _ = some _
  simp only [resD, resAll, resOne, resTup, Try.results58, EVP, zg1, zg0, D.good, if_true, zmo] <;> (first | (rfl; done) | (simp_all [faultE]; done) | (simp_all [faultE]; omega; done) | (exfalso; simp_all; done))
 ·intro b2
  have c2 := b2
  try simp only [ne_eq, beq_eq_false_iff_ne] at c2
  refine X_seq ?_
  refine X_rg fun R hR => ?_
  simp only [inr_u8, Int.reduceLE, aops, astep, awant, aeff, aop, abin, aint, ev, ofValue, St.put, zg1, zg0, zgd, zmo, if_true, zs1, zs0, and_self, b2]
  with_reducible refine hR _ ?_
  clear hR R
  show X _ _ _ _
  refine X_ite (by simp only [ev, zg1, zg0, zgd]; exact rfl) ?_ ?_
  ·intro b3
   have c3 := b3
   try simp only [beq_iff_eq] at c3
   refine X_seq ?_
   have hU := use_fn vs t.name 2 hl
   simp only [sl] at hU
   refine X_rg fun R hR => ?_
   simp only [EVP, inr_u8, Int.reduceLE, aops, astep, awant, aeff, aop, mkD, ev, ofValue, St.put, pcall, ia_str, zmc, zmn, zg1, zg0, zgd, zmo, if_true, zs1, zs0, zlc, zln, zd1, zd0, zt1, zt0, zca, zna, Nat.reduceAdd, Nat.reduceLeDiff, Nat.zero_add, zft, if_false, and_self, reduceCtorEq, beq_self_eq_true, ty_string, ty_api_Node, any81, c3, hU]
   with_reducible refine hR _ ?_
   clear hR R
   show X _ _ _ _
   refine X_ret ?_
   show resD _ _ _ = some _
   simp only [resD, resAll, resOne, resTup, Try.results58, EVP, zg1, zg0, D.good, if_true, zmo] <;> (first | (rfl; done) | (simp_all [faultE]; done) | (simp_all [faultE]; omega; done) | (exfalso; simp_all; done))
  ·intro b4
   have c4 := b4
   try simp only [ne_eq, beq_eq_false_iff_ne] at c4
   refine X_seq ?_
   refine X_seq ?_
   refine X_rg fun R hR => ?_
   simp only [inr_u8, Int.reduceLE, aops, astep, awant, aeff, aop, abin, aint, ev, ofValue, St.put, zg1, zg0, zgd, zmo, if_true, zs1, zs0, and_self, b4]
   with_reducible refine hR _ ?_
   clear hR R
   show X _ _ _ _
   refine X_ite (by simp only [ev, zg1, zg0, zgd]; exact rfl) ?_ ?_
   ·intro b5
    have c5 := b5
    try simp only [beq_iff_eq] at c5
    refine X_skip ?_
    show X _ _ _ _
    refine X_true (by simp only [ev, zg1, zg0, zgd, beq_self_eq_true, c5]) ?_
    refine X_seq ?_
    have hU := use_fn vs t.name 3 hl
    simp only [sl] at hU
    refine X_rg fun R hR => ?_
    simp only [EVP, inr_u8, Int.reduceLE, aops, astep, awant, aeff, aop, mkD, ev, ofValue, St.put, pcall, ia_str, zmc, zmn, zg1, zg0, zgd, zmo, if_true, zs1, zs0, zlc, zln, zd1, zd0, zt1, zt0, zca, zna, Nat.reduceAdd, Nat.reduceLeDiff, Nat.zero_add, zft, if_false, and_self, reduceCtorEq, beq_self_eq_true, ty_string, ty_api_Node, any81, c5, hU]
    with_reducible refine hR _ ?_
    clear hR R
    show X _ _ _ _
    refine X_ret ?_
    show resD _ _ _ = some _
    simp only [resD, resAll, resOne, resTup, Try.results58, EVP, zg1, zg0, D.good, if_true, zmo] <;> (first | (rfl; done) | (simp_all [faultE]; done) | (simp_all [faultE]; omega; done) | (exfalso; simp_all; done))
   ·intro b6
    have c6 := b6
    try simp only [ne_eq, beq_eq_false_iff_ne] at c6
    refine X_seq ?_
    refine X_rg fun R hR => ?_
    simp only [inr_u8, Int.reduceLE, aops, astep, awant, aeff, aop, abin, aint, ev, ofValue, St.put, zg1, zg0, zgd, zmo, if_true, zs1, zs0, and_self, b6]
    with_reducible refine hR _ ?_
    clear hR R
    show X _ _ _ _
    refine X_ite (by simp only [ev, zg1, zg0, zgd]; exact rfl) ?_ ?_
    ·intro b7
     have c7 := b7
     try simp only [beq_iff_eq] at c7
     refine X_skip ?_
     show X _ _ _ _
     refine X_true (by simp only [ev, zg1, zg0, zgd, beq_self_eq_true, c7]) ?_
     refine X_seq ?_
     have hU := use_fn vs t.name 3 hl
     simp only [sl] at hU
     refine X_rg fun R hR => ?_
     simp only [EVP, inr_u8, Int.reduceLE, aops, astep, awant, aeff, aop, mkD, ev, ofValue, St.put, pcall, ia_str, zmc, zmn, zg1, zg0, zgd, zmo, if_true, zs1, zs0, zlc, zln, zd1, zd0, zt1, zt0, zca, zna, Nat.reduceAdd, Nat.reduceLeDiff, Nat.zero_add, zft, if_false, and_self, reduceCtorEq, beq_self_eq_true, ty_string, ty_api_Node, any81, c7, hU]
     with_reducible refine hR _ ?_
     clear hR R
     show X _ _ _ _
     refine X_ret ?_
     show resD _ _ _ = some _
     simp only [resD, resAll, resOne, resTup, Try.results58, EVP, zg1, zg0, D.good, if_true, zmo] <;> (first | (rfl; done) | (simp_all [faultE]; done) | (simp_all [faultE]; omega; done) | (exfalso; simp_all; done))
    ·intro b8
     have c8 := b8
     try simp only [ne_eq, beq_eq_false_iff_ne] at c8
     refine X_seq ?_
     refine X_rg fun R hR => ?_
     simp only [inr_u8, Int.reduceLE, aops, astep, awant, aeff, aop, abin, aint, ev, ofValue, St.put, zg1, zg0, zgd, zmo, if_true, zs1, zs0, and_self, b8]
     with_reducible refine hR _ ?_
     clear hR R
     show X _ _ _ _
     refine X_ite (by simp only [ev, zg1, zg0, zgd]; exact rfl) ?_ ?_
     ·intro b9
      have c9 := b9
      try simp only [beq_iff_eq] at c9
      refine X_skip ?_
      show X _ _ _ _
      refine X_true (by simp only [ev, zg1, zg0, zgd, beq_self_eq_true, c9]) ?_
      refine X_seq ?_
      have hU := use_fn vs t.name 3 hl
      simp only [sl] at hU
      refine X_rg fun R hR => ?_
      simp only [EVP, inr_u8, Int.reduceLE, aops, astep, awant, aeff, aop, mkD, ev, ofValue, St.put, pcall, ia_str, zmc, zmn, zg1, zg0, zgd, zmo, if_true, zs1, zs0, zlc, zln, zd1, zd0, zt1, zt0, zca, zna, Nat.reduceAdd, Nat.reduceLeDiff, Nat.zero_add, zft, if_false, and_self, reduceCtorEq, beq_self_eq_true, ty_string, ty_api_Node, any81, c9, hU]
      with_reducible refine hR _ ?_
      clear hR R
      show X _ _ _ _
      refine X_ret ?_
      show resD _ _ _ = some _
      simp only [resD, resAll, resOne, resTup, Try.results58, EVP, zg1, zg0, D.good, if_true, zmo] <;> (first | (rfl; done) | (simp_all [faultE]; done) | (simp_all [faultE]; omega; done) | (exfalso; simp_all; done))
     ·intro b10
      have c10 := b10
      try simp only [ne_eq, beq_eq_false_iff_ne] at c10
      refine X_rg fun R hR => ?_
      simp only [inr_u8, Int.reduceLE, aops, astep, awant, aeff, aop, abin, aint, ev, ofValue, St.put, zg1, zg0, zgd, zmo, if_true, zs1, zs0, and_self, b10]
      with_reducible refine hR _ ?_
      clear hR R
      show X _ _ _ _
      refine X_ite (by simp only [ev, zg1, zg0, zgd]; exact rfl) ?_ ?_
      ·intro b11
       have c11 := b11
       try simp only [beq_iff_eq] at c11
       refine X_seq ?_
       have hU := use_fn vs t.name 3 hl
       simp only [sl] at hU
       refine X_rg fun R hR => ?_
       simp only [EVP, inr_u8, Int.reduceLE, aops, astep, awant, aeff, aop, mkD, ev, ofValue, St.put, pcall, ia_str, zmc, zmn, zg1, zg0, zgd, zmo, if_true, zs1, zs0, zlc, zln, zd1, zd0, zt1, zt0, zca, zna, Nat.reduceAdd, Nat.reduceLeDiff, Nat.zero_add, zft, if_false, and_self, reduceCtorEq, beq_self_eq_true, ty_string, ty_api_Node, any81, c11, hU]
       with_reducible refine hR _ ?_
       clear hR R
       show X _ _ _ _
       refine X_ret ?_
       show resD _ _ _ = some _
       simp only [resD, resAll, resOne, resTup, Try.results58, EVP, zg1, zg0, D.good, if_true, zmo] <;> (first | (rfl; done) | (simp_all [faultE]; done) | (simp_all [faultE]; omega; done) | (exfalso; simp_all; done))
      ·intro b12
       have c12 := b12
       try simp only [ne_eq, beq_eq_false_iff_ne] at c12
       refine X_seq ?_
       refine X_seq ?_
       refine X_rg fun R hR => ?_
       simp only [inr_u8, Int.reduceLE, aops, astep, awant, aeff, aop, abin, aint, ev, ofValue, St.put, zg1, zg0, zgd, zmo, if_true, zs1, zs0, and_self, b12]
       with_reducible refine hR _ ?_
       clear hR R
       show X _ _ _ _
       refine X_ite (by simp only [ev, zg1, zg0, zgd]; exact rfl) ?_ ?_
       ·intro b13
        have c13 := b13
        try simp only [beq_iff_eq] at c13
        refine X_skip ?_
        show X _ _ _ _
        refine X_true (by simp only [ev, zg1, zg0, zgd, beq_self_eq_true, c13]) ?_
        refine X_seq ?_
        have hU := fresh_fn vs t.name hl
        simp only [sl] at hU
        refine X_rg fun R hR => ?_
        simp only [EVP, aops, astep, awant, aeff, aop, mkD, ev, St.put, pcall, ia_str, zmc, zmn, zg1, zg0, zgd, zmo, if_true, zs1, zs0, zlc, zln, zd1, zd0, zt1, zt0, zca, zna, Nat.reduceAdd, Nat.reduceLeDiff, Nat.zero_add, zft, if_false, reduceCtorEq, beq_self_eq_true, ty_string, ty_api_Node, any35, c13, hU]
        with_reducible refine hR _ ?_
        clear hR R
        show X _ _ _ _
        refine X_ret ?_
        show resD _ _ _ = some _
        simp only [resD, resAll, resOne, resTup, Try.results58, EVP, zg1, zg0, D.good, if_true, zmo] <;> (first | (rfl; done) | (simp_all [faultE]; done) | (simp_all [faultE]; omega; done) | (exfalso; simp_all; done))
       ·intro b14
        have c14 := b14
        try simp only [ne_eq, beq_eq_false_iff_ne] at c14
        refine X_rg fun R hR => ?_
        simp only [inr_u8, Int.reduceLE, aops, astep, awant, aeff, aop, abin, aint, ev, ofValue, St.put, zg1, zg0, zgd, zmo, if_true, zs1, zs0, and_self, b14]
        with_reducible refine hR _ ?_
        clear hR R
        show X _ _ _ _
        refine X_ite (by simp only [ev, zg1, zg0, zgd]; exact rfl) ?_ ?_
        ·intro b15
         have c15 := b15
         try simp only [beq_iff_eq] at c15
         refine X_seq ?_
         have hU := fresh_fn vs t.name hl
         simp only [sl] at hU
         refine X_rg fun R hR => ?_
         simp only [EVP, aops, astep, awant, aeff, aop, mkD, ev, St.put, pcall, ia_str, zmc, zmn, zg1, zg0, zgd, zmo, if_true, zs1, zs0, zlc, zln, zd1, zd0, zt1, zt0, zca, zna, Nat.reduceAdd, Nat.reduceLeDiff, Nat.zero_add, zft, if_false, reduceCtorEq, beq_self_eq_true, ty_string, ty_api_Node, any35, c15, hU]
         with_reducible refine hR _ ?_
         clear hR R
         show X _ _ _ _
         refine X_ret ?_
         show resD _ _ _ = some _
         simp only [resD, resAll, resOne, resTup, Try.results58, EVP, zg1, zg0, D.good, if_true, zmo] <;> (first | (rfl; done) | (simp_all [faultE]; done) | (simp_all [faultE]; omega; done) | (exfalso; simp_all; done))
        ·intro b16
         have c16 := b16
         try simp only [ne_eq, beq_eq_false_iff_ne] at c16
         refine X_seq ?_
         refine X_seq ?_
         refine X_rg fun R hR => ?_
         simp only [inr_u8, Int.reduceLE, aops, astep, awant, aeff, aop, abin, aint, ev, ofValue, St.put, zg1, zg0, zgd, zmo, if_true, zs1, zs0, and_self, b16]
         with_reducible refine hR _ ?_
         clear hR R
         show X _ _ _ _
         refine X_ite (by simp only [ev, zg1, zg0, zgd]; exact rfl) ?_ ?_
         ·intro b17
          have c17 := b17
          try simp only [beq_iff_eq] at c17
          refine X_skip ?_
          show X _ _ _ _
          refine X_true (by simp only [ev, zg1, zg0, zgd, beq_self_eq_true, c17]) ?_
          refine X_seq ?_
          have hP := proc_fn p t.name (by omega)
          have hP2 : idxN p.procs t.name 0 p.procs.length = procI p t.name := rfl
          rw [hP2] at hP
          refine X_rg fun R hR => ?_
          simp only [EVP, aops, astep, awant, aeff, aop, mkD, ev, St.put, pcall, ia_str, zmc, zmn, zg1, zg0, zgd, zmo, if_true, zs1, zs0, zlc, zln, zd1, zd0, zt1, zt0, zca, zna, Nat.reduceAdd, Nat.reduceLeDiff, Nat.zero_add, zft, if_false, reduceCtorEq, beq_self_eq_true, ty_string, ty_api_Node, ty_api_Program, any36, dG_agg, c17, hP]
          with_reducible refine hR _ ?_
          clear hR R
          show X _ _ _ _
          refine X_seq ?_
          refine X_seq ?_
          refine X_rg fun R hR => ?_
          simp only [inr_i64, Int.reduceLE, Int.reduceNeg, aops, astep, awant, aeff, aop, abin, aint, ev, ofValue, St.put, zg1, zg0, zgd, zmo, if_true, zs1, zs0, and_self]
          with_reducible refine hR _ ?_
          clear hR R
          show X _ _ _ _
          refine X_ite (by simp only [ev, zg1, zg0, zgd]; exact rfl) ?_ ?_
          ·intro b18
           have c18 := b18
           try simp only [decide_eq_true_eq] at c18
           refine X_seq ?_
           refine X_rg fun R hR => ?_
           simp only [inr_i64, Int.reduceLE, Int.reduceNeg, aops, astep, awant, aeff, aop, ev, ofValue, St.put, zgd, zmo, if_true, zs1, zs0, and_self, decide_true, c18]
           with_reducible refine hR _ ?_
           clear hR R
           show X _ _ _ _
           refine X_ret ?_
           show resD _ _ _ = some _
           simp only [resD, resAll, resOne, resTup, Try.results58, EVP, zg1, zg0, D.good, if_true, zmo] <;> (first | (rfl; done) | (simp_all [faultE]; done) | (simp_all [faultE]; omega; done) | (exfalso; simp_all; done))
          ·intro b19
           have c19 := b19
           try simp only [decide_eq_false_iff_not, Int.not_lt] at c19
           refine X_skip ?_
           show X _ _ _ _
           refine X_seq ?_
           obtain ⟨j, hj, hpj, hpp⟩ := procI_in (p := p) (s := t.name) (by first | assumption | omega)
           have hn1 : ((if (p.procs.map dP).isEmpty = true then 0 else 6) = 6) = True := eq_true (sl_n (j := j) (by simpa using hj))
           have e1 : (p.procs.map dP)[j]? = some (dP p.procs[j]) := by simp [hj]
           refine X_rg fun R hR => ?_
           simp only [EVP, nat_lt, nat_0, nat_to, aops, astep, awant, aeff, aop, abin, aint, mkD, ev, St.put, ia_slice, cl_slice, zg1, zg0, zgd, zmo, if_true, zs1, zs0, zlm, zlc, zln, zd1, zd0, zt1, zt0, Nat.reduceAdd, Nat.reduceLeDiff, Nat.zero_add, zft, if_false, and_self, reduceCtorEq, zis, ty_s_api_Node, ty_s_api_VarDecl, ty_s_api_Proc, ty_api_Node, ty_api_Proc, ty_api_Program, und_api_Node, und_api_VarDecl, und_api_Proc, siz_api_Proc, inf_api_Proc_eq, sl, dP, hpj, hj, hn1, e1]
           with_reducible refine hR _ ?_
           clear hR R
           show X _ _ _ _
           refine X_ite (by simp only [ev, zg1, zg0, zgd]; exact rfl) ?_ ?_
           ·intro b20
            have c20 := b20
            try simp only [bne_iff_ne, ne_eq] at c20
            refine X_seq ?_
            refine X_rg fun R hR => ?_
            simp only [inr_i64, Int.reduceLE, Int.reduceNeg, aops, astep, awant, aeff, aop, ev, ofValue, St.put, zgd, zmo, if_true, zs1, zs0, and_self, b20]
            with_reducible refine hR _ ?_
            clear hR R
            show X _ _ _ _
            refine X_ret ?_
            show resD _ _ _ = some _
            simp only [resD, resAll, resOne, resTup, Try.results58, EVP, zg1, zg0, D.good, if_true, zmo] <;> (first | (rfl; done) | (simp_all [faultE]; done) | (simp_all [faultE]; omega; done) | (exfalso; simp_all; done))
           ·intro b21
            have c21 := b21
            try simp only [bne_eq_false_iff_eq] at c21
            refine X_skip ?_
            show X _ _ _ _
            refine X_seq ?_
            refine X_rg fun R hR => ?_
            simp only [inr_i64, Int.reduceLE, Int.reduceNeg, aops, astep, awant, aeff, aop, ev, ofValue, St.put, zgd, zmo, if_true, zs1, zs0, and_self, bne_self_eq_false, c21]
            with_reducible refine hR _ ?_
            clear hR R
            show X _ _ _ _
            refine X_ret ?_
            show resD _ _ _ = some _
            simp only [resD, resAll, resOne, resTup, Try.results58, EVP, zg1, zg0, D.good, if_true, zmo] <;> (first | (rfl; done) | (simp_all [faultE]; done) | (simp_all [faultE]; omega; done) | (exfalso; simp_all; done))
         ·intro b22
          have c22 := b22
          try simp only [ne_eq, beq_eq_false_iff_ne] at c22
          refine X_rg fun R hR => ?_
          simp only [inr_u8, Int.reduceLE, aops, astep, awant, aeff, aop, abin, aint, ev, ofValue, St.put, zg1, zg0, zgd, zmo, if_true, zs1, zs0, and_self, b22]
          with_reducible refine hR _ ?_
          clear hR R
          show X _ _ _ _
          refine X_ite (by simp only [ev, zg1, zg0, zgd]; exact rfl) ?_ ?_
          ·intro b23
           have c23 := b23
           try simp only [beq_iff_eq] at c23
           refine X_seq ?_
           have hP := proc_fn p t.name (by omega)
           have hP2 : idxN p.procs t.name 0 p.procs.length = procI p t.name := rfl
           rw [hP2] at hP
           refine X_rg fun R hR => ?_
           simp only [EVP, aops, astep, awant, aeff, aop, mkD, ev, St.put, pcall, ia_str, zmc, zmn, zg1, zg0, zgd, zmo, if_true, zs1, zs0, zlc, zln, zd1, zd0, zt1, zt0, zca, zna, Nat.reduceAdd, Nat.reduceLeDiff, Nat.zero_add, zft, if_false, reduceCtorEq, beq_self_eq_true, ty_string, ty_api_Node, ty_api_Program, any36, dG_agg, c23, hP]
           with_reducible refine hR _ ?_
           clear hR R
           show X _ _ _ _
           refine X_seq ?_
           refine X_seq ?_
           refine X_rg fun R hR => ?_
           simp only [inr_i64, Int.reduceLE, Int.reduceNeg, aops, astep, awant, aeff, aop, abin, aint, ev, ofValue, St.put, zg1, zg0, zgd, zmo, if_true, zs1, zs0, and_self]
           with_reducible refine hR _ ?_
           clear hR R
           show X _ _ _ _
           refine X_ite (by simp only [ev, zg1, zg0, zgd]; exact rfl) ?_ ?_
           ·intro b24
            have c24 := b24
            try simp only [decide_eq_true_eq] at c24
            refine X_seq ?_
            refine X_rg fun R hR => ?_
            simp only [inr_i64, Int.reduceLE, Int.reduceNeg, aops, astep, awant, aeff, aop, ev, ofValue, St.put, zgd, zmo, if_true, zs1, zs0, and_self, decide_true, c24]
            with_reducible refine hR _ ?_
            clear hR R
            show X _ _ _ _
            refine X_ret ?_
            show resD _ _ _ = some _
            simp only [resD, resAll, resOne, resTup, Try.results58, EVP, zg1, zg0, D.good, if_true, zmo] <;> (first | (rfl; done) | (simp_all [faultE]; done) | (simp_all [faultE]; omega; done) | (exfalso; simp_all; done))
           ·intro b25
            have c25 := b25
            try simp only [decide_eq_false_iff_not, Int.not_lt] at c25
            refine X_skip ?_
            show X _ _ _ _
            refine X_seq ?_
            obtain ⟨j, hj, hpj, hpp⟩ := procI_in (p := p) (s := t.name) (by first | assumption | omega)
            have hn1 : ((if (p.procs.map dP).isEmpty = true then 0 else 6) = 6) = True := eq_true (sl_n (j := j) (by simpa using hj))
            have e1 : (p.procs.map dP)[j]? = some (dP p.procs[j]) := by simp [hj]
            refine X_rg fun R hR => ?_
            simp only [EVP, nat_lt, nat_0, nat_to, aops, astep, awant, aeff, aop, abin, aint, mkD, ev, St.put, ia_slice, cl_slice, zg1, zg0, zgd, zmo, if_true, zs1, zs0, zlm, zlc, zln, zd1, zd0, zt1, zt0, Nat.reduceAdd, Nat.reduceLeDiff, Nat.zero_add, zft, if_false, and_self, reduceCtorEq, zis, ty_s_api_Node, ty_s_api_VarDecl, ty_s_api_Proc, ty_api_Node, ty_api_Proc, ty_api_Program, und_api_Node, und_api_VarDecl, und_api_Proc, siz_api_Proc, inf_api_Proc_eq, sl, dP, hpj, hj, hn1, e1]
            with_reducible refine hR _ ?_
            clear hR R
            show X _ _ _ _
            refine X_ite (by simp only [ev, zg1, zg0, zgd]; exact rfl) ?_ ?_
            ·intro b26
             have c26 := b26
             try simp only [bne_iff_ne, ne_eq] at c26
             refine X_seq ?_
             refine X_rg fun R hR => ?_
             simp only [inr_i64, Int.reduceLE, Int.reduceNeg, aops, astep, awant, aeff, aop, ev, ofValue, St.put, zgd, zmo, if_true, zs1, zs0, and_self, b26]
             with_reducible refine hR _ ?_
             clear hR R
             show X _ _ _ _
             refine X_ret ?_
             show resD _ _ _ = some _
             simp only [resD, resAll, resOne, resTup, Try.results58, EVP, zg1, zg0, D.good, if_true, zmo] <;> (first | (rfl; done) | (simp_all [faultE]; done) | (simp_all [faultE]; omega; done) | (exfalso; simp_all; done))
            ·intro b27
             have c27 := b27
             try simp only [bne_eq_false_iff_eq] at c27
             refine X_skip ?_
             show X _ _ _ _
             refine X_seq ?_
             refine X_rg fun R hR => ?_
             simp only [inr_i64, Int.reduceLE, Int.reduceNeg, aops, astep, awant, aeff, aop, ev, ofValue, St.put, zgd, zmo, if_true, zs1, zs0, and_self, bne_self_eq_false, c27]
             with_reducible refine hR _ ?_
             clear hR R
             show X _ _ _ _
             refine X_ret ?_
             show resD _ _ _ = some _
             simp only [resD, resAll, resOne, resTup, Try.results58, EVP, zg1, zg0, D.good, if_true, zmo] <;> (first | (rfl; done) | (simp_all [faultE]; done) | (simp_all [faultE]; omega; done) | (exfalso; simp_all; done))
          ·intro b28
           have c28 := b28
           try simp only [ne_eq, beq_eq_false_iff_ne] at c28
           refine X_skip ?_
           show X _ _ _ _
           refine X_seq ?_
           refine X_rg fun R hR => ?_
           simp only [inr_i64, Int.reduceLE, Int.reduceNeg, aops, astep, awant, aeff, aop, ev, ofValue, St.put, zgd, zmo, if_true, zs1, zs0, and_self, b28]
           with_reducible refine hR _ ?_
           clear hR R
           show X _ _ _ _
           refine X_ret ?_
           show resD _ _ _ = some _
           simp only [resD, resAll, resOne, resTup, Try.results58, EVP, zg1, zg0, D.good, if_true, zmo] <;> (first | (rfl; done) | (simp_all [faultE]; done) | (simp_all [faultE]; omega; done) | (exfalso; simp_all; done))
set_option maxRecDepth 100000 in
set_option maxHeartbeats 4000000 in
theorem arg_fn (p : Pg) (t : Tr) (i : Nat) (vs : List Vd) (hi : i < t.kids.length) (hl : vs.length ≤ 1000000) (hp : p.procs.length ≤ 1000000) : fn EV 60 [dG p, dN t, .int .i64 i, sl 3 (vs.map dV)] = some (.int .i64 (argE p t i vs)) := by
 refine fn_X rfl Try.func60 rfl (by simp only [plain, List.all_cons, List.all_nil, sl_pl (f := dV) (fun _ _ => rfl), int_pl, dN_pl, dG_pl, Bool.and_true]) (rfl) (rfl) (rfl) ?_
 simp only [zmc, zmn, D.strip, sl_strip (map_strip (f := dV) (fun _ => rfl) _), dN_strip, dG_strip]
 simp only [enterSt, Try.ntmps60, zlc, zln, Nat.reduceAdd, Nat.reduceSub, zr1, zr0, zca, zna]
 refine X_seq ?_
 refine X_rg fun R hR => ?_
 simp only [inr_i64, Int.reduceLE, Int.reduceNeg, aops, astep, awant, aeff, aop, ev, ofValue, St.put, zg1, zg0, zgd, zmo, if_true, zs1, zs0, zlc, zln, zca, zna, Nat.zero_add, and_self, dN_cells, dN_good, sl, dG_cells, dG_good]
 with_reducible refine hR _ ?_
 clear hR R
 show X _ _ _ _
 refine X_seq ?_
 have hF := find_fn vs t.kids[i].name (by omega)
 simp only [sl] at hF
 have hk1 : ((if (t.kids.map dN).isEmpty = true then 0 else 4) = 4) = True := eq_true (sl_n (j := i) (by simpa using hi))
 have ek : (t.kids.map dN)[i]? = some (.agg [.int .u8 t.kids[i].kind, .int .i64 t.kids[i].num, .str t.kids[i].name, sl 4 (t.kids[i].kids.map dN)]) := by rw [show D.agg _ = dN t.kids[i] from (dN_eq _).symm]; simp [hi]
 refine X_rg fun R hR => ?_
 simp only [EVP, nat_lt, nat_0, nat_to, aops, astep, awant, aeff, aop, mkD, astore, ev, St.put, pcall, ia_str, cl_str, ia_slice, zmc, zmn, zg1, zg0, zgd, zmo, zbs, if_true, zs1, zs0, zlm, zlc, zln, zd1, zd0, zt1, zt0, zca, zna, Nat.reduceAdd, Nat.reduceLeDiff, Nat.zero_add, zft, if_false, and_self, reduceCtorEq, zis, ty_string, ty_s_api_Node, ty_api_Node, ty_api_VarDecl, und_api_Node, siz_api_Node, inf_api_Node_eq, any55, sl, dV_cells, dV_good, hF, hk1, ek, hi]
 with_reducible refine hR _ ?_
 clear hR R
 show X _ _ _ _
 refine X_seq ?_
 refine X_seq ?_
 refine X_rg fun R hR => ?_
 simp only [aops, astep, awant, aeff, aop, ev, St.put, zg1, zg0, zgd, zmo, if_true, zs1, zs0]
 with_reducible refine hR _ ?_
 clear hR R
 show X _ _ _ _
 refine X_ite (by simp only [ev, zg1, zg0, zgd]; exact rfl) ?_ ?_
 ·intro b1
  have c1 := b1
  try simp only [znt] at c1
  refine X_seq ?_
  refine X_rg fun R hR => ?_
  simp only [inr_i64, Int.reduceLE, Int.reduceNeg, aops, astep, awant, aeff, aop, ev, ofValue, St.put, zgd, zmo, if_true, zs1, zs0, Bool.not_false, and_self, c1]
  with_reducible refine hR _ ?_
  clear hR R
  show X _ _ _ _
  refine X_ret ?_
  show resD _ _ _ = some _
  simp only [resD, resAll, resOne, resTup, Try.results60, EVP, zg1, zg0, D.good, if_true, zmo] <;> (first | (rfl; done) | (simp_all [argE]; done) | (simp_all [argE, prmN_eq]; omega; done) | (exfalso; simp_all; done))
 ·intro b2
  have c2 := b2
  try simp only [znf] at c2
  refine X_skip ?_
  show X _ _ _ _
  refine X_seq ?_
  have hP := proc_fn p t.name (by omega)
  have hP2 : idxN p.procs t.name 0 p.procs.length = procI p t.name := rfl
  rw [hP2] at hP
  refine X_rg fun R hR => ?_
  simp only [EVP, aops, astep, awant, aeff, aop, mkD, ev, St.put, pcall, ia_str, zmc, zmn, zg1, zg0, zgd, zmo, if_true, zs1, zs0, zlc, zln, zd1, zd0, zt1, zt0, zca, zna, Nat.reduceAdd, Nat.reduceLeDiff, Nat.zero_add, Bool.not_true, zft, if_false, reduceCtorEq, ty_string, ty_api_Node, ty_api_Program, any36, dG_agg, c2, hP]
  with_reducible refine hR _ ?_
  clear hR R
  show X _ _ _ _
  refine X_seq ?_
  refine X_seq ?_
  have pq2 : 0 ≤ procI p t.name → _ := fun h => pq_2 (p := p) (s := t.name) h
  refine X_y ?_
  refine Y_k 3 fun R hR => ?_
  simp only [EVP, inr_i64, Int.reduceLE, Int.reduceNeg, aops, astep, awant, aeff, aop, abin, aint, ev, ofValue, St.put, zg1, zg0, zgd, zmo, if_true, zs1, zs0, zt1, zt0, and_self]
  with_reducible refine hR _ ?_
  clear hR R
  simp only [zd1, zd0]
  refine Y_if 32 (by simp only [ev, zg1, zg0, zgd]; exact rfl) ?_ ?_
  ·intro b3
   have c3 := b3
   try simp only [decide_eq_true_eq] at c3
   refine Y_end fun R hR => ?_
   simp only [EVP, aops, astep, awant, aeff, aop, abin, ev, ofValue, St.put, zg1, zg0, zgd, zmo, Option.map_none, zbs, if_true, zs1, zs0, Nat.zero_add, zft, if_false, reduceCtorEq, decide_true, bq_tf, ty_s_api_Node, ty_s_api_VarDecl, ty_s_api_Proc, ty_api_Node, ty_api_Proc, ty_api_Program, und_api_Node, und_api_VarDecl, und_api_Proc, c3]
   with_reducible refine hR _ ?_
   clear hR R
   show X _ _ _ _
   refine X_true (by simp only [ev, zg1, zg0, zgd]) ?_
   refine X_seq ?_
   refine X_rg fun R hR => ?_
   simp only [inr_i64, Int.reduceLE, Int.reduceNeg, aops, astep, awant, aeff, aop, ev, ofValue, St.put, zgd, zmo, if_true, zs1, zs0, and_self]
   with_reducible refine hR _ ?_
   clear hR R
   show X _ _ _ _
   refine X_ret ?_
   show resD _ _ _ = some _
   simp only [resD, resAll, resOne, resTup, Try.results60, EVP, zg1, zg0, D.good, if_true, zmo] <;> (first | (rfl; done) | (simp_all [argE]; done) | (simp_all [argE, prmN_eq]; omega; done) | (exfalso; simp_all; done))
  ·intro b4
   have c4 := b4
   try simp only [decide_eq_false_iff_not, Int.not_lt] at c4
   refine Y_end fun R hR => ?_
   simp only [EVP, aops, astep, awant, aeff, aop, abin, aint, mkD, ev, ofValue, St.put, ia_slice, cl_slice, zg1, zg0, zgd, zmo, zbs, if_true, zs1, zs0, zlm, zlc, zln, zd1, zd0, zt1, zt0, Nat.reduceAdd, Nat.reduceLeDiff, Nat.zero_add, zft, if_false, and_self, reduceCtorEq, beq_self_eq_true, zis, ty_s_api_Node, ty_s_api_VarDecl, ty_s_api_Proc, ty_api_Node, ty_api_Proc, ty_api_Program, und_api_Node, und_api_VarDecl, und_api_Proc, siz_api_Proc, inf_api_Proc_eq, sl, dP, b4, c4, pq_1, pq2, pq_3]
   with_reducible refine hR _ ?_
   clear hR R
   show X _ _ _ _
   refine X_ite (by simp only [ev, zg1, zg0, zgd]; exact rfl) ?_ ?_
   ·intro b5
    have c5 := b5
    try simp only [bne_iff_ne, ne_eq] at c5
    refine X_seq ?_
    refine X_rg fun R hR => ?_
    simp only [inr_i64, Int.reduceLE, Int.reduceNeg, aops, astep, awant, aeff, aop, ev, ofValue, St.put, zgd, zmo, if_true, zs1, zs0, and_self, b5]
    with_reducible refine hR _ ?_
    clear hR R
    show X _ _ _ _
    refine X_ret ?_
    show resD _ _ _ = some _
    simp only [resD, resAll, resOne, resTup, Try.results60, EVP, zg1, zg0, D.good, if_true, zmo] <;> (first | (rfl; done) | (simp_all [argE, prmN_eq]; done) | (simp_all [argE, prmN_eq]; omega; done) | (exfalso; simp_all; done))
   ·intro b6
    have c6 := b6
    try simp only [bne_eq_false_iff_eq] at c6
    refine X_skip ?_
    show X _ _ _ _
    refine X_seq ?_
    refine X_seq ?_
    have hi2 : i < (prQ p t.name).params.length := by first | omega | (simp_all; omega)
    have hn2 : ((if ((prQ p t.name).params.map dV).isEmpty = true then 0 else 3) = 3) = True := eq_true (sl_n (j := i) (by simpa using hi2))
    have e2 : ((prQ p t.name).params.map dV)[i]? = some (dV (prQ p t.name).params[i]) := by simp [hi2]
    refine X_rg fun R hR => ?_
    simp only [EVP, nat_lt, nat_0, nat_to, aops, astep, awant, aeff, aop, mkD, astore, ev, St.put, ia_slice, cl_slice, zg1, zg0, zgd, zmo, zbs, if_true, zs1, zs0, zlm, zlc, zln, zd1, zd0, zt1, zt0, zca, zna, Nat.reduceAdd, Nat.reduceLeDiff, Nat.zero_add, zft, if_false, and_self, reduceCtorEq, bne_self_eq_false, zis, ty_s_api_VarDecl, ty_s_api_Proc, ty_api_VarDecl, ty_api_Proc, ty_api_Program, und_api_VarDecl, siz_api_VarDecl, inf_api_VarDecl_eq, und_api_Proc, siz_api_Proc, inf_api_Proc_eq, sl, dP, dV_cells, dV_good, dV_isAgg, c4, c6, pq_1, pq2, pq_3, hi2, hn2, e2]
    with_reducible refine hR _ ?_
    clear hR R
    show X _ _ _ _
    refine X_seq ?_
    refine X_y ?_
    refine Y_k 6 fun R hR => ?_
    simp only [EVP, aops, astep, awant, aeff, aop, abin, aint, mkD, ev, St.put, ia_int, zg1, zg0, zgd, zmo, if_true, zs1, zs0, zlc, zln, zd1, zd0, zt1, zt0, Nat.reduceAdd, Nat.reduceLeDiff, Nat.zero_add, zft, if_false, reduceCtorEq, ty_uint8, ty_api_VarDecl]
    with_reducible refine hR _ ?_
    clear hR R
    simp only [zd1, zd0]
    refine Y_if 59 (by simp only [ev, zg1, zg0, zgd]; exact rfl) ?_ ?_
    ·intro b7
     have c7 := b7
     try simp only [bne_iff_ne, ne_eq] at c7
     refine Y_end fun R hR => ?_
     simp only [EVP, aops, astep, awant, aeff, aop, abin, ev, ofValue, St.put, zg1, zg0, zgd, zmo, Option.map_none, zbs, if_true, zs1, zs0, Nat.zero_add, zft, if_false, reduceCtorEq, bq_tf, ty_int, ty_api_VarDecl, b7]
     with_reducible refine hR _ ?_
     clear hR R
     show X _ _ _ _
     refine X_true (by simp only [ev, zg1, zg0, zgd]) ?_
     refine X_seq ?_
     refine X_rg fun R hR => ?_
     simp only [inr_i64, Int.reduceLE, Int.reduceNeg, aops, astep, awant, aeff, aop, ev, ofValue, St.put, zgd, zmo, if_true, zs1, zs0, and_self]
     with_reducible refine hR _ ?_
     clear hR R
     show X _ _ _ _
     refine X_ret ?_
     show resD _ _ _ = some _
     simp only [resD, resAll, resOne, resTup, Try.results60, EVP, zg1, zg0, D.good, if_true, zmo] <;> (first | (rfl; done) | (simp_all [argE, prmN_eq]; done) | (simp_all [argE, prmN_eq]; omega; done) | (exfalso; simp_all; done))
    ·intro b8
     have c8 := b8
     try simp only [bne_eq_false_iff_eq] at c8
     refine Y_end fun R hR => ?_
     simp only [EVP, aops, astep, awant, aeff, aop, abin, aint, mkD, ev, ofValue, St.put, ia_int, zg1, zg0, zgd, zmo, zbs, if_true, zs1, zs0, zlc, zln, zd1, zd0, zt1, zt0, Nat.reduceAdd, Nat.reduceLeDiff, Nat.zero_add, zft, if_false, reduceCtorEq, beq_self_eq_true, bne_self_eq_false, ty_int, ty_api_VarDecl, c8]
     with_reducible refine hR _ ?_
     clear hR R
     show X _ _ _ _
     refine X_ite (by simp only [ev, zg1, zg0, zgd]; exact rfl) ?_ ?_
     ·intro b9
      have c9 := b9
      try simp only [bne_iff_ne, ne_eq] at c9
      refine X_seq ?_
      refine X_rg fun R hR => ?_
      simp only [inr_i64, Int.reduceLE, Int.reduceNeg, aops, astep, awant, aeff, aop, ev, ofValue, St.put, zgd, zmo, if_true, zs1, zs0, and_self, b9]
      with_reducible refine hR _ ?_
      clear hR R
      show X _ _ _ _
      refine X_ret ?_
      show resD _ _ _ = some _
      simp only [resD, resAll, resOne, resTup, Try.results60, EVP, zg1, zg0, D.good, if_true, zmo] <;> (first | (rfl; done) | (simp_all [argE, prmN_eq]; done) | (simp_all [argE, prmN_eq]; omega; done) | (exfalso; simp_all; done))
     ·intro b10
      have c10 := b10
      try simp only [bne_eq_false_iff_eq] at c10
      refine X_skip ?_
      show X _ _ _ _
      refine X_seq ?_
      refine X_rg fun R hR => ?_
      simp only [inr_i64, Int.reduceLE, Int.reduceNeg, aops, astep, awant, aeff, aop, ev, ofValue, St.put, zgd, zmo, if_true, zs1, zs0, and_self, bne_self_eq_false, c10]
      with_reducible refine hR _ ?_
      clear hR R
      show X _ _ _ _
      refine X_ret ?_
      show resD _ _ _ = some _
      simp only [resD, resAll, resOne, resTup, Try.results60, EVP, zg1, zg0, D.good, if_true, zmo] <;> (first | (rfl; done) | (simp_all [argE, prmN_eq]; done) | (simp_all [argE, prmN_eq]; omega; done) | (exfalso; simp_all; done))

end Go.Proofs.Ytmglacjcefajlaa
