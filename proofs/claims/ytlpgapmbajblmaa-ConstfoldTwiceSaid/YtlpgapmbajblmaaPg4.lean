/- The reference's Program over data. -/
import Derived.Test.YtlpgapmbajblmaaPg3
import Derived.Test.YtlpgapmbajblmaaPg2
namespace Go.Proofs.Ytlpgapmbajblmaa
open Go.RowKit

/-- a copy of a slice in a row of one's own -/
theorem dup_app {P : Program} {t e : TypeId} {i : TypeInfo} {sz : Nat} (nx : Nat) (lv : List Nat) (hu : P.underlying t = some (.slice e)) (hi : P.info? e = some i) (hs : i.size = sz) (hp : 0 < sz) (hb : i.bytes ≤ 4096) (hz : (i.zero.map fun z => z.cells.size) = some sz) (l : List D) (hl : l.length ≤ 16777216) :
  ∃ o' nx' lv', (∀ fr bx, aappend P ⟨fr, bx, nx + 1, nx :: lv⟩ t (.slice (.own nx e) sz []) (.slice .imm (if l.isEmpty = true then 0 else sz) l) = some (.slice o' sz l, ⟨fr, bx, nx', lv'⟩)) ∧ Keep nx lv nx' lv' ∧ o'.st = .imm := by
 have h0 : Acc e sz (.own nx e) sz [] (nx :: lv) := .own List.mem_cons_self
 cases l with
 | nil => exact ⟨.own nx e, nx + 1, nx :: lv, fun fr bx => Acc.app0 hu hi, ⟨by omega, fun s h1 h2 => List.mem_cons_of_mem _ h2⟩, rfl⟩
 | cons a r =>
  refine ⟨.own (nx + 1) e, nx + 2, (nx + 1) :: Own.cut (.own nx e) (nx :: lv), fun fr bx => Acc.app (σ := ⟨fr, bx, nx + 1, nx :: lv⟩) h0 hu hi hs hp hb hz (by simpa using hl) (by simp), ⟨by omega, fun s h1 h2 => ?_⟩, rfl⟩
  refine List.mem_cons_of_mem _ ?_
  simp only [Own.cut, List.mem_filter]
  exact ⟨List.mem_cons_of_mem _ h2, by simp; omega⟩
/-- data that will read as these procedures -/
structure LisG (M : List D) (L : List Pr) : Prop where
 s : M.map D.strip = L.map dP
 u : D.unders 0 M = true
theorem LisG.len {M : List D} {L : List Pr} (h : LisG M L) : M.length = L.length := by have := congrArg List.length h.s; simpa using this
theorem LisG.snoc {M : List D} {L : List Pr} (h : LisG M L) {d : D} {p : Pr} (h1 : d.strip = dP p) (h2 : d.under 0 = true) : LisG (M ++ [d]) (L ++ [p]) := by
 refine ⟨by simp [h.s, h1], ?_⟩
 have := h.u
 rw [D.unders_all] at this ⊢
 rw [List.all_append, this]; simp [h2]
theorem row_strip {o : Own} {n sz : Nat} {l : List D} (ho : o.st = .imm) (hn : n = sz) (hl : l.map D.strip = l) : (D.slice o n l).strip = sl sz l := by
 simp only [D.strip, ho, D.strips_map, hl, hn, sl]
theorem dV_map (l : List Vd) : (l.map dV).map D.strip = l.map dV := by rw [List.map_map]; rfl
def rewB (v : Bool) (t : Tr) : Tr := if v then bodyT t else t
set_option maxRecDepth 100000 in
set_option maxHeartbeats 4000000 in
theorem rprog_at (p : Pg) (v : Bool) (ho : PgOk p) (hb : bigP p = false) (hv : validB p = v) : fn EV 32 [dG p] = some (dG (mapG (rewB v) p)) := by
 refine fn_Xs rfl Try.func32 rfl (by simp only [plain, List.all_cons, List.all_nil, dG_pl, Bool.and_true]) (rfl) ?_
 simp only [zmc, zmn, dG_strip]
 simp only [enterSt, Try.ntmps32, zlc, zln, Nat.reduceAdd, Nat.reduceSub, zr1, zr0, zca, zna]
 refine X_seq ?_
 refine X_rg fun R hR => ?_
 simp only [EVP, aops, astep, awant, aeff, ev, St.put, zg0, zgd, zmo, zbs, if_true, zs1, zs0, zlc, zln, zca, zna, Nat.zero_add, ty_api_Program, dG_cells, dG_good]
 with_reducible refine hR _ ?_
 clear hR R
 show X _ _ _ _
 refine X_seq ?_
 obtain ⟨ov, nx0, lv0, hapv, _, hov⟩ := dup_app (P := Try.prog) (t := 45) 0 [] und_api_VarDecl inf_api_VarDecl_eq inf_api_VarDecl_size (by omega) (by rw [inf_api_VarDecl_bytes]; omega) inf_api_VarDecl_zc (p.vars.map dV) (by rw [zlm]; have := ho.v; omega)
 refine X_rg fun R hR => ?_
 simp only [EVP, aops, astep, awant, aeff, aop, mkD, afill, abuild, astore, ev, ofValue, St.put, gd_agg, cl_agg, gd_slice, ia_slice, cl_slice, zmc, zmn, zg1, zg0, zgd, zmo, zbs, if_true, zs1, zs0, zlc, zln, zd1, zd0, zt1, zt0, zca, zna, Nat.reduceAdd, Nat.reduceLeDiff, Nat.reduceLT, Nat.zero_add, Nat.add_zero, zft, if_false, and_self, reduceCtorEq, List.all_nil, Nat.reduceMul, rng_0, ty_s_api_VarDecl, ty_api_Program, st_api_Program, sta_api_Program, und_api_VarDecl, inf_api_VarDecl_eq, inf_api_VarDecl_size, inf_api_VarDecl_zero, hapv]
 with_reducible refine hR _ ?_
 clear hR R
 show X _ _ _ _
 refine X_seq ?_
 have hV : fn EV _ _ = _ := rvalid_fn p hb
 rw [hv] at hV
 refine X_rg fun R hR => ?_
 simp only [EVP, aops, astep, awant, aeff, aop, mkD, ev, St.put, pcall, zmc, zmn, zg1, zg0, zgd, zmo, if_true, zs1, zs0, zlc, zln, zd0, zt1, zt0, zca, zna, Nat.reduceAdd, Nat.reduceLeDiff, Nat.zero_add, ty_api_Program, any57, dG_agg, hV]
 with_reducible refine hR _ ?_
 clear hR R
 show X _ _ _ _
 refine X_seq ?_
 refine X_seq ?_
 refine X_rg fun R hR => ?_
 simp only [inr_i64, Int.reduceLE, Int.reduceNeg, aops, astep, awant, aeff, aop, ev, ofValue, St.put, zgd, zmo, if_true, zs1, zs0, and_self]
 with_reducible refine hR _ ?_
 clear hR R
 show X _ _ _ _
 refine X_block ?_
 refine X_loop (fun m σ => ∃ (i : Nat) (r : List (List D)) (o : Own) (n : Nat) (M : List D) (nx : Nat) (lv : List Nat), σ = ⟨[slotOf σ 0, .ptr 0 0, .ptr 1 0, .ptr 2 0, .bool v, .int .i64 i, slotOf σ 6, slotOf σ 7, slotOf σ 8, slotOf σ 9, slotOf σ 10, slotOf σ 11, slotOf σ 12, slotOf σ 13, slotOf σ 14, slotOf σ 15, slotOf σ 16, slotOf σ 17, slotOf σ 18, slotOf σ 19, slotOf σ 20, slotOf σ 21, slotOf σ 22, slotOf σ 23, slotOf σ 24, slotOf σ 25, slotOf σ 26, slotOf σ 27, slotOf σ 28, slotOf σ 29, slotOf σ 30, slotOf σ 31, slotOf σ 32, slotOf σ 33, slotOf σ 34, slotOf σ 35, slotOf σ 36, slotOf σ 37, slotOf σ 38, slotOf σ 39, slotOf σ 40, slotOf σ 41, slotOf σ 42, slotOf σ 43, slotOf σ 44, slotOf σ 45, slotOf σ 46, slotOf σ 47], [.slice .imm (if (p.vars.map dV).isEmpty = true then 0 else 3) (p.vars.map dV), .slice .imm (if (p.procs.map dP).isEmpty = true then 0 else 6) (p.procs.map dP), .int .u8 p.main.kind, .int .i64 p.main.num, .str p.main.name, .slice .imm (if (p.main.kids.map dN).isEmpty = true then 0 else 4) (p.main.kids.map dN)] :: [.slice .nil 0 [], .slice .nil 0 [], .int .u8 0, .int .i64 0, .str ⟨#[]⟩, .slice .nil 0 []] :: [.slice ov 3 (p.vars.map dV), .slice o n M, .int .u8 0, .int .i64 0, .str ⟨#[]⟩, .slice .nil 0 []] :: r, nx, lv⟩ ∧ m = p.procs.length - i ∧ i ≤ p.procs.length ∧ Hid (AccB 53 6 o n M nx lv) ∧ Hid (LisG M ((mapG (rewB v) p).procs.take i))) ?_ (p.procs.length) _ ?_
 rotate_left
 ·exact ⟨0, [], .nil, 0, [], _, _, rfl, rfl, Nat.zero_le _, Lib.hid (.nil _ _ _ _), Lib.hid ⟨rfl, rfl⟩⟩
 rintro m σ ⟨i, r, o, n, M, nx, lv, hσ, rfl, hi, hacc, hM⟩
 generalize slotOf σ = x at hσ
 subst hσ
 refine X_seq ?_
 refine X_seq ?_
 refine X_rg fun R hR => ?_
 simp only [EVP, nat_lt, aops, astep, awant, aeff, aop, abin, aint, mkD, ev, St.put, ia_slice, zg1, zg0, zgd, zmo, if_true, zs1, zs0, zlm, zlc, zln, zd1, zd0, zt1, zt0, Nat.reduceAdd, Nat.reduceLeDiff, Nat.zero_add, zft, if_false, reduceCtorEq, ty_s_api_Proc, ty_api_Program, und_api_Proc]
 with_reducible refine hR _ ?_
 clear hR R
 show X _ _ _ _
 refine X_ite (by simp only [ev, zg1, zg0, zgd]; exact rfl) ?_ ?_
 ·intro b1
  have c1 := b1
  try simp only [decide_eq_true_eq] at c1
  refine X_skip ?_
  show X _ _ _ _
  refine X_seq ?_
  refine X_block ?_
  refine X_seq ?_
  have hlt : i < p.procs.length := by first | assumption | omega
  have hn1 : ((if (p.procs.map dP).isEmpty = true then 0 else 6) = 6) = True := eq_true (sl_n (j := i) (by simpa using hlt))
  have e1 : (p.procs.map dP)[i]? = some (dP p.procs[i]) := by simp [hlt]
  refine X_rg fun R hR => ?_
  simp only [EVP, app_get0, app_set0, nat_lt, nat_0, nat_to, aops, astep, awant, aeff, aop, mkD, astore, ev, St.put, ia_slice, zg1, zg0, zgd, zmo, zbs, if_true, zs1, zs0, zlm, zlc, zln, zd1, zd0, zt1, zt0, zca, zna, Nat.reduceAdd, Nat.reduceLeDiff, Nat.zero_add, zft, if_false, and_self, reduceCtorEq, decide_true, zis, ty_s_api_Proc, ty_api_Proc, ty_api_Program, und_api_Proc, siz_api_Proc, inf_api_Proc_eq, dP_cells, dP_good, dP_isAgg, hlt, hn1, e1, app_get0, app_set0, zg0, zs0, zg1, zs1, zlc, zln]
  with_reducible refine hR _ ?_
  clear hR R
  show X _ _ _ _
  have hpi := ho.pp p.procs[i] (List.getElem_mem hlt)
  have hF := folded_fn p.procs[i].body v hpi.2
  have hF : fn EV _ _ = some (dN (rewB v p.procs[i].body)) := hF
  obtain ⟨o1, nx1, lv1, hap1, hkp1, ho1⟩ := dup_app (P := Try.prog) (t := 45) nx lv und_api_VarDecl inf_api_VarDecl_eq inf_api_VarDecl_size (by omega) (by rw [inf_api_VarDecl_bytes]; omega) inf_api_VarDecl_zc (p.procs[i].params.map dV) (by rw [zlm]; omega)
  have hML : M.length ≤ 1000000 := by have h8 := hM.out.len; have h9 := ho.q; rw [h8]; simp only [mapG, List.length_take, zlm]; omega
  obtain ⟨lv2, hacc2, hap2⟩ := (hacc.out.keep hkp1).app1 (P := Try.prog) (t := 46) und_api_Proc inf_api_Proc_eq inf_api_Proc_size (by omega) (by rw [inf_api_Proc_bytes]; omega) inf_api_Proc_zc (.agg [.str p.procs[i].name, .slice o1 3 (p.procs[i].params.map dV), .int .u8 (rewB v p.procs[i].body).kind, .int .i64 (rewB v p.procs[i].body).num, .str (rewB v p.procs[i].body).name, sl 4 ((rewB v p.procs[i].body).kids.map dN)]) (by omega)
  simp only [sl] at hap2
  have hlen : r.length + 1 + 1 + 1 = r.length + 3 := rfl
  refine X_rg fun R hR => ?_
  simp only [EVP, app_get0, aops, astep, awant, aeff, aop, mkD, afill, abuild, astore, ev, ofValue, St.put, pcall, gd_str, ia_str, cl_str, gd_agg, cl_agg, gd_slice, ia_slice, cl_slice, zmc, zmn, zg1, zg0, zgd, zmo, if_true, zs1, zs0, zlc, zln, zd1, zd0, zt1, zt0, zca, zna, Nat.reduceAdd, Nat.reduceLeDiff, Nat.reduceLT, Nat.zero_add, Nat.add_zero, Bool.and_true, zft, if_false, and_self, reduceCtorEq, List.all_cons, List.all_nil, beq_self_eq_true, Nat.reduceMul, rng_0, rng_1, ty_string, ty_s_api_VarDecl, ty_s_api_Proc, ty_api_Node, ty_api_Proc, ty_api_Program, st_api_Proc, sta_api_Proc, und_api_VarDecl, inf_api_VarDecl_eq, inf_api_VarDecl_size, inf_api_VarDecl_zero, und_api_Proc, inf_api_Proc_eq, inf_api_Proc_size, inf_api_Proc_zero, any58, dN_agg, dN_cells, dN_good, sl, hF, hap1, hap2, app_get0, zg0, zs0, zg1, zs1, zlc, zln]
  with_reducible refine hR _ ?_
  clear hR R
  show X _ _ _ _
  have hbig : i < 9223372036854775807 := by have := ho.q; omega
  refine X_rg fun R hR => ?_
  simp only [inr_i64, Int.reduceLE, Int.reduceNeg, aops, astep, awant, aeff, aop, abin, aint, ev, ofValue, St.put, zg1, zg0, zgd, zmo, if_true, zs1, zs0, and_self, nat_succ hbig]
  with_reducible refine hR _ ?_
  clear hR R
  show ∃ m, m < _ ∧ _
  refine ⟨p.procs.length - (i + 1), by omega, i + 1, _, _, _, _, _, _, rfl, rfl, by omega, Lib.hid hacc2, Lib.hid ?_⟩
  rw [List.take_succ_eq_append_getElem (show i < (mapG (rewB v) p).procs.length from by simp only [mapG, zlm]; exact hlt)]
  refine hM.out.snoc ?_ ?_
  ·have hsk : (D.slice .imm (if ((rewB v p.procs[i].body).kids.map dN).isEmpty = true then 0 else 4) ((rewB v p.procs[i].body).kids.map dN)).strip = sl 4 ((rewB v p.procs[i].body).kids.map dN) := sl_strip (map_strip dN_strip _)
   simp only [D.strip, D.strips] at hsk ⊢
   rw [show (Own.st o1) = .imm from ho1, D.strips_map, dV_map, hsk]
   simp only [mapG, List.getElem_map]
   rfl
  ·simp only [D.under, D.unders, unders_id (f := dV) (fun _ _ => rfl), unders_id dN_under, Bool.and_self]
 ·intro b2
  have c2 := b2
  try simp only [decide_eq_false_iff_not] at c2
  refine X_exit ?_
  show X _ _ _ _
  refine X_seq ?_
  have hFm := folded_fn p.main v ho.m
  have hFm : fn EV _ _ = some (dN (rewB v p.main)) := hFm
  refine X_rg fun R hR => ?_
  simp only [EVP, aops, astep, awant, aeff, aop, mkD, astore, ev, St.put, pcall, zmc, zmn, zg1, zg0, zgd, zmo, if_true, zs1, zs0, zlc, zln, zd1, zd0, zt1, zt0, zca, zna, Nat.reduceAdd, Nat.reduceLeDiff, Nat.zero_add, if_false, and_self, reduceCtorEq, ty_api_Node, ty_api_Program, any58, dN_agg, dN_cells, dN_good, sl, b2, hFm]
  with_reducible refine hR _ ?_
  clear hR R
  show X _ _ _ _
  refine X_seq ?_
  refine X_rg fun R hR => ?_
  simp only [EVP, aops, astep, awant, aeff, aop, mkD, astore, ev, St.put, gd_agg, cl_agg, zg1, zg0, zgd, zmo, if_true, zs1, zs0, zlc, zln, zd1, zd0, zt1, zt0, zca, zna, Nat.reduceAdd, Nat.reduceLeDiff, Nat.zero_add, and_self, ty_api_Program]
  with_reducible refine hR _ ?_
  clear hR R
  show X _ _ _ _
  refine X_ret ?_
  show ∃ d, resD _ _ _ = some d ∧ _ ∧ _
  refine ⟨_, by simp only [resD, resAll, resOne, resTup, Try.results32, EVP, mkD, ty_api_Program, zg1, zg0, zd0, zt1, zt0, zlc, zln, Nat.reduceAdd, Nat.reduceLeDiff, Nat.zero_add, if_true, zmo]; exact rfl, ?_, ?_⟩
  ·simp only [D.under, D.unders, unders_id (f := dV) (fun _ _ => rfl), unders_id dN_under, hM.out.u, Bool.and_self]
  ·have hil : i = p.procs.length := by omega
   have hT : (mapG (rewB v) p).procs.take i = (mapG (rewB v) p).procs := by rw [hil]; exact List.take_of_length_le (by simp only [mapG, zlm]; omega)
   have hst := hacc.out.a.strip
   rw [hM.out.s, hT] at hst
   have hsv : (D.slice ov 3 (p.vars.map dV)).strip = sl 3 (p.vars.map dV) := row_strip hov rfl (dV_map _)
   have hsk : (D.slice .imm (if ((rewB v p.main).kids.map dN).isEmpty = true then 0 else 4) ((rewB v p.main).kids.map dN)).strip = sl 4 ((rewB v p.main).kids.map dN) := sl_strip (map_strip dN_strip _)
   simp only [D.strip, D.strips] at hst hsv hsk ⊢
   rw [hst, hsv, hsk]
   rfl

end Go.Proofs.Ytlpgapmbajblmaa
