/- The law CheckerLocal: the closure. -/
import Derived.Test.YtmglacjcefajlaaSo9
import Derived.Test.YtmglacjcefajlaaLo9
namespace Go.Proofs.Ytmglacjcefajlaa
open Go.RowKit

theorem acc_node {o : Own} {n : Nat} {c : List Tr} {lv : List Nat} (ha : Acc 26 4 o n (c.map dN) lv) : (D.slice o n (c.map dN)).strip = sl 4 (c.map dN) := by
 have h1 : (c.map dN).map D.strip = c.map dN := by rw [List.map_map]; exact List.map_congr_left fun x _ => dN_strip x
 rw [ha.strip, h1]; rfl
/-- a call of a program whose main block's row is the caller's own -/
theorem call_withM {k : Nat} {d : D} {p : Pg} {c : List Tr} (h : fn EV k [dG (withM p c)] = some d) {o : Own} {n : Nat} (hst : (D.slice o n (c.map dN)).strip = sl 4 (c.map dN)) : fn EV k [.agg [.slice .imm (if (p.vars.map dV).isEmpty = true then 0 else 3) (p.vars.map dV), .slice .imm (if (p.procs.map dP).isEmpty = true then 0 else 6) (p.procs.map dP), .int .u8 57, .int .i64 0, .str ⟨#[]⟩, .slice o n (c.map dN)]] = some d := by
 rw [← h]
 refine fn_strip ?_ (by simp only [plain, List.all_cons, List.all_nil, dG_pl, Bool.and_true]) ?_
 ·have h1 := sl_under (n := 3) (map_under (dV_under 0) p.vars)
  have h2 := sl_under (n := 6) (map_under (dP_under 0) p.procs)
  simp only [sl] at h1 h2
  simp only [plain, List.all_cons, List.all_nil, D.under, D.unders, Bool.and_true, unders_id (f := dN) dN_under]
  simp only [D.under] at h1 h2
  rw [h1, h2]; rfl
 ·simp only [zmc, zmn, dG_strip]
  have h1 : ∀ A B x y z C : D, (D.agg [A, B, x, y, z, C]).strip = .agg [A.strip, B.strip, x.strip, y.strip, z.strip, C.strip] := fun _ _ _ _ _ _ => by simp only [D.strip, D.strips]
  have h2 := sl_strip (n := 3) (map_strip dV_strip p.vars)
  have h3 := sl_strip (n := 6) (map_strip dP_strip p.procs)
  simp only [sl] at h2 h3
  rw [h1, hst, h2, h3]
  rfl
theorem dFt_isAgg (x : Ft) : (dFt x).isAgg = true := rfl
/-- an accumulator whose stamp is younger than what was there -/
structure AccK (nx0 : Nat) (lv0 : List Nat) (e : TypeId) (sz : Nat) (o : Own) (n : Nat) (L : List D) (nx : Nat) (lv : List Nat) : Prop where
 a : AccB e sz o n L nx lv
 k : Keep nx0 lv0 nx lv
 s : ∀ s e', o = .own s e' → nx0 ≤ s
theorem AccK.nil (e : TypeId) (sz nx : Nat) (lv : List Nat) : AccK nx lv e sz .nil 0 [] nx lv := ⟨.nil _ _ _ _, ⟨Nat.le_refl _, fun _ _ h => h⟩, fun s e' h => by cases h⟩
theorem AccK.app1 {P : Program} {t e : TypeId} {i : TypeInfo} {sz : Nat} {o : Own} {n : Nat} {L : List D} {nx nx0 : Nat} {lv lv0 : List Nat} (h : AccK nx0 lv0 e sz o n L nx lv) (hu : P.underlying t = some (.slice e)) (hi : P.info? e = some i) (hs : i.size = sz) (hp : 0 < sz) (hb : i.bytes ≤ 4096) (hz : (i.zero.map fun z => z.cells.size) = some sz) (x : D)
  (hl : L.length + 1 ≤ 16777216) : ∃ lv', AccK nx0 lv0 e sz (.own (nx + 1) e) sz (L ++ [x]) (nx + 1 + 1) lv' ∧ ∀ fr bx, aappend P ⟨fr, bx, nx + 1, nx :: lv⟩ t (.slice o n L) (.slice (.own nx e) sz [x]) = some (.slice (.own (nx + 1) e) sz (L ++ [x]), ⟨fr, bx, nx + 1 + 1, lv'⟩) := by
 have ha : Acc e sz o n L (nx :: lv) := h.a.a.more nx
 have hk := h.k.l
 refine ⟨(nx + 1) :: o.cut (nx :: lv), ⟨.own List.mem_cons_self (by omega), ⟨by omega, fun s hs hm => ?_⟩, fun s e' q => by cases q; omega⟩, fun fr bx => Acc.app (σ := ⟨fr, bx, nx + 1, nx :: lv⟩) ha hu hi hs hp hb hz (by simpa using hl) (by simp)⟩
 have hm2 := h.k.k s hs hm
 refine List.mem_cons_of_mem _ ?_
 cases o with
 | own st e' =>
  have h3 := h.s st e' rfl
  simp only [Own.cut, List.mem_filter]
  exact ⟨List.mem_cons_of_mem _ hm2, by simp; omega⟩
 | _ => exact List.mem_cons_of_mem _ hm2
theorem Acc.n4 {e : TypeId} {sz : Nat} {o : Own} {n : Nat} {L : List D} {lv : List Nat} (h : Acc e sz o n L lv) (hn : L ≠ []) : n = sz := by
 rcases h with ⟨_, q, _⟩ | ⟨_, _, _, q⟩
 ·exact absurd q hn
 ·exact q
/-- one element ahead of a slice -/
theorem cons_app {P : Program} {t e : TypeId} {i : TypeInfo} {sz : Nat} (nx : Nat) (lv : List Nat) (hu : P.underlying t = some (.slice e)) (hi : P.info? e = some i) (hs : i.size = sz) (hp : 0 < sz) (hb : i.bytes ≤ 4096) (hz : (i.zero.map fun z => z.cells.size) = some sz) (x : D) (l : List D) (hl : 1 + l.length ≤ 16777216) :
  ∃ o' nx' lv', (∀ fr bx, aappend P ⟨fr, bx, nx + 1, nx :: lv⟩ t (.slice (.own nx e) sz [x]) (.slice .imm sz l) = some (.slice o' sz (x :: l), ⟨fr, bx, nx', lv'⟩)) ∧ Keep nx lv nx' lv' ∧ o'.st = .imm := by
 have h0 : Acc e sz (.own nx e) sz [x] (nx :: lv) := .own List.mem_cons_self
 cases l with
 | nil => exact ⟨.own nx e, nx + 1, nx :: lv, fun fr bx => Acc.app0 hu hi, ⟨by omega, fun s h1 h2 => List.mem_cons_of_mem _ h2⟩, rfl⟩
 | cons a r =>
  refine ⟨.own (nx + 1) e, nx + 2, (nx + 1) :: Own.cut (.own nx e) (nx :: lv), fun fr bx => Acc.app (σ := ⟨fr, bx, nx + 1, nx :: lv⟩) h0 hu hi hs hp hb hz (by simpa [Nat.add_comm] using hl) (by simp), ⟨by omega, fun s h1 h2 => ?_⟩, rfl⟩
  refine List.mem_cons_of_mem _ ?_
  simp only [Own.cut, List.mem_filter]
  exact ⟨List.mem_cons_of_mem _ h2, by simp; omega⟩
theorem mid_get {α : Type} (r : List α) (a : α) (r2 : List α) (x : α) (l : List α) : (r ++ a :: (r2 ++ x :: l))[(r ++ a :: r2).length]? = some x := by
 rw [show r ++ a :: (r2 ++ x :: l) = (r ++ a :: r2) ++ x :: l by simp, app_get0]; rfl
theorem mid_set {α : Type} (r : List α) (a : α) (r2 : List α) (x : α) (l : List α) (y : α) : (r ++ a :: (r2 ++ x :: l)).set (r ++ a :: r2).length y = r ++ a :: (r2 ++ y :: l) := by
 rw [show r ++ a :: (r2 ++ x :: l) = (r ++ a :: r2) ++ x :: l by simp, app_set0]; simp
theorem node_st {c : List Tr} {n4 : Nat} (h : c ≠ [] → n4 = 4) : (D.slice .imm n4 (c.map dN)).strip = sl 4 (c.map dN) := by
 simp only [D.strip, Own.st, strips_id (f := dN) dN_strip, sl]
 cases c with
 | nil => rfl
 | cons a r => rw [h (by simp)]
set_option maxRecDepth 100000 in
set_option maxHeartbeats 4000000 in
theorem part_ex (p : Pg) (hv : validB p = true) (hno : checkF p = []) (c : List Tr) (hs : c.Sublist p.main.kids) (n4 : Nat) (hn4 : c ≠ [] → n4 = 4) (B : List (List D)) (b : Nat) (nx : Nat) (lv : List Nat) (hb : B[b]? = some [.slice .imm (if (p.vars.map dV).isEmpty = true then 0 else 3) (p.vars.map dV), .slice .imm (if (p.procs.map dP).isEmpty = true then 0 else 6) (p.procs.map dP), .int .u8 p.main.kind, .int .i64 p.main.num, .str p.main.name, .slice .imm (if (p.main.kids.map dN).isEmpty = true then 0 else 4) (p.main.kids.map dN)]) (hfr : B.all (D.unders B.length) = true) :
  ∃ d B' nx' lv', (∀ fr, cal EV 19 [.slice .imm n4 (c.map dN), .ptr b 0] ⟨fr, B, nx, lv⟩ = some (d, ⟨fr, B', nx', lv'⟩)) ∧ (fun d B' nx' lv' => B' = B ∧ ∃ o n, d = .slice o n ((kidsF (-1) 0 c).map dFt) ∧ AccK nx lv 43 4 o n ((kidsF (-1) 0 c).map dFt) nx' lv') d B' nx' lv' := by
 have hsn : ∀ l, (B ++ l)[b]? = some [.slice .imm (if (p.vars.map dV).isEmpty = true then 0 else 3) (p.vars.map dV), .slice .imm (if (p.procs.map dP).isEmpty = true then 0 else 6) (p.procs.map dP), .int .u8 p.main.kind, .int .i64 p.main.num, .str p.main.name, .slice .imm (if (p.main.kids.map dN).isEmpty = true then 0 else 4) (p.main.kids.map dN)] := fun l => snoc_get hb l
 have hcb := (chk_bd (withM p c)).1
 refine cal_XE rfl Try.func19 rfl (by simp [plain, D.under]) ?_
 simp only [enterSt, Try.ntmps19, zlc, zln, Nat.reduceAdd, Nat.reduceSub, zr1, zr0, zca, zna]
 refine X_seq ?_
 refine X_rc fun R hR => ?_
 simp only [aops, astep, awant, aeff, aop, ev, ofValue, St.put, zgd, zmo, if_true, zs1, zs0]
 with_reducible refine hR _ ?_
 clear hR R
 show X _ _ _ _
 refine X_seq ?_
 refine X_rc fun R hR => ?_
 simp only [EVP, app_get0, app_set0, aops, astep, awant, aeff, aop, mkD, astore, ev, St.put, zg1, zg0, zgd, zmo, zbs, if_true, zs1, zs0, zlc, zln, zd1, zd0, zt1, zt0, zca, zna, Nat.reduceAdd, Nat.reduceLeDiff, Nat.zero_add, and_self, ty_api_Program, dG_agg, dG_cells, dG_good, app_get0, app_set0, zg0, zs0, hb]
 with_reducible refine hR _ ?_
 clear hR R
 show X _ _ _ _
 refine X_seq ?_
 refine X_rc fun R hR => ?_
 simp only [EVP, inr_u8, Int.reduceLE, app_get0, app_set0, aops, astep, awant, aeff, aop, afill, astore, ev, ofValue, St.put, gd_int, cl_int, gd_agg, cl_agg, gd_slice, cl_slice, zmc, zmn, zg1, zg0, zgd, zmo, if_true, zs1, zs0, zlc, zln, zd1, zd0, zt1, zt0, zca, zna, Nat.reduceAdd, Nat.reduceLeDiff, Nat.zero_add, if_false, and_self, reduceCtorEq, ty_api_Node, ty_api_Program, st_api_Node, sta_api_Node, app_get0, app_set0, zg0, zs0]
 with_reducible refine hR _ ?_
 clear hR R
 show X _ _ _ _
 refine X_seq ?_
 refine X_rc fun R hR => ?_
 simp only [aops, astep, awant, aeff, aop, ev, ofValue, St.put, zgd, zmo, if_true, zs1, zs0]
 with_reducible refine hR _ ?_
 clear hR R
 show X _ _ _ _
 refine X_seq ?_
 refine X_seq ?_
 have hcw := call_withM (chk_fn (withM p c)) (node_st hn4)
 simp only [sl] at hcw
 have hcc := cal_pure hcw
 refine X_rc fun R hR => ?_
 simp only [EVP, inr_i64, Int.reduceLE, Int.reduceNeg, app_get0, aops, astep, awant, aeff, aop, mkD, ev, ofValue, St.put, zmc, zmn, zg1, zg0, zgd, zmo, if_true, zs1, zs0, zlm, zlc, zln, zd0, zt1, zt0, zca, zna, Nat.reduceAdd, Nat.reduceLeDiff, Nat.zero_add, and_self, ty_api_Program, und_checker_Rejection, any13, hcc, app_get0, zg0, zs0]
 with_reducible refine hR _ ?_
 clear hR R
 show X _ _ _ _
 refine X_block ?_
 refine X_loop (fun m σ => ∃ (i : Nat) (r : List (List D)) (o : Own) (n : Nat) (F : List Ft) (nx1 : Nat) (lv1 : List Nat), σ = ⟨[slotOf σ 0, slotOf σ 1, slotOf σ 2, slotOf σ 3, slotOf σ 4, .slice o n (F.map dFt), slotOf σ 6, slotOf σ 7, slotOf σ 8, slotOf σ 9, slotOf σ 10, slotOf σ 11, slotOf σ 12, .slice .imm (if ((chkF (withM p c)).map dFt).isEmpty = true then 0 else 4) ((chkF (withM p c)).map dFt), .int .i64 (chkF (withM p c)).length, .int .i64 i, slotOf σ 16, slotOf σ 17, slotOf σ 18, slotOf σ 19, slotOf σ 20, slotOf σ 21, slotOf σ 22, slotOf σ 23, slotOf σ 24, slotOf σ 25, slotOf σ 26, slotOf σ 27], (B ++ [.slice .imm (if (p.vars.map dV).isEmpty = true then 0 else 3) (p.vars.map dV), .slice .imm (if (p.procs.map dP).isEmpty = true then 0 else 6) (p.procs.map dP), .int .u8 57, .int .i64 0, .str ⟨#[]⟩, .slice .imm n4 (c.map dN)] :: r), nx1, lv1⟩ ∧ m = (chkF (withM p c)).length - i ∧ i ≤ (chkF (withM p c)).length ∧ Hid (AccK nx lv 43 4 o n (F.map dFt) nx1 lv1) ∧ Hid (F = ((chkF (withM p c)).take i).filter (fun f => f.proc == -1)) ∧ F.length ≤ i) ?_ ((chkF (withM p c)).length) _ ?_
 rotate_left
 ·exact ⟨0, [], .nil, 0, [], nx, lv, rfl, rfl, Nat.zero_le _, Lib.hid (.nil _ _ _ _), Lib.hid rfl, Nat.le_refl _⟩
 rintro m σ ⟨i, r, o, n, F, nx1, lv1, hσ, rfl, hi, ha, hFF, hl⟩
 generalize slotOf σ = x at hσ
 subst hσ
 refine X_seq ?_
 refine X_rc fun R hR => ?_
 simp only [nat_lt, aops, astep, awant, aeff, aop, abin, aint, ev, St.put, zg1, zg0, zgd, zmo, if_true, zs1, zs0]
 with_reducible refine hR _ ?_
 clear hR R
 show X _ _ _ _
 refine X_seq ?_
 refine X_ite (by simp only [ev, zg1, zg0, zgd]; exact rfl) ?_ ?_
 ·intro b1
  have c1 := b1
  try simp only [decide_eq_true_eq] at c1
  refine X_skip ?_
  show X _ _ _ _
  refine X_seq ?_
  refine X_block ?_
  refine X_seq ?_
  have hlt : i < (chkF (withM p c)).length := by first | assumption | omega
  have hn1 : ((if ((chkF (withM p c)).map dFt).isEmpty = true then 0 else 4) = 4) = True := eq_true (sl_n (j := i) (by simpa using hlt))
  have e1 : ((chkF (withM p c)).map dFt)[i]? = some (dFt (chkF (withM p c))[i]) := by simp [hlt]
  refine X_rc fun R hR => ?_
  simp only [EVP, nat_lt, nat_0, nat_to, aops, astep, awant, aeff, aop, astore, ev, St.put, zg1, zg0, zgd, zmo, zbs, if_true, zs1, zs0, zlm, zlc, zln, zd1, zd0, zt0, zca, zna, zaa, Nat.reduceAdd, Nat.reduceLeDiff, Nat.zero_add, and_self, decide_true, zis, ty_checker_Rejection, und_checker_Rejection, siz_checker_Rejection, inf_checker_Rejection_eq, dFt_cells, dFt_good, dFt_isAgg, hlt, hn1, e1, zg0, zs0, mid_get, mid_set]
  with_reducible refine hR _ ?_
  clear hR R
  show X _ _ _ _
  refine X_seq ?_
  refine X_rc fun R hR => ?_
  simp only [EVP, inr_i64, Int.reduceLE, Int.reduceNeg, aops, astep, awant, aeff, aop, abin, aint, mkD, ev, ofValue, St.put, ia_int, zg1, zg0, zgd, zmo, if_true, zs1, zs0, zlc, zln, zd0, zt1, zt0, Nat.reduceAdd, Nat.reduceLeDiff, Nat.zero_add, Nat.add_zero, zft, if_false, and_self, reduceCtorEq, ty_int, ty_checker_Rejection, zg0, zs0, mid_get]
  with_reducible refine hR _ ?_
  clear hR R
  show X _ _ _ _
  refine X_ite (by simp only [ev, zg1, zg0, zgd]; exact rfl) ?_ ?_
  ·intro b2
   have c2 := b2
   try simp only [beq_iff_eq] at c2
   obtain ⟨lv2, hacc, hap⟩ := ha.out.app1 (P := Try.prog) (t := 31) und_checker_Rejection inf_checker_Rejection_eq inf_checker_Rejection_size (by omega) (by rw [inf_checker_Rejection_bytes]; omega) inf_checker_Rejection_zc (dFt (chkF (withM p c))[i]) (by simp; omega)
   refine X_rc fun R hR => ?_
   simp only [EVP, Int.reduceNeg, aops, astep, awant, aeff, aop, mkD, abuild, ev, ofValue, St.put, zmc, zmn, zg1, zg0, zgd, zmo, if_true, zs1, zs0, zlc, zln, zd0, zt1, zt0, Nat.reduceAdd, Nat.reduceLeDiff, Nat.reduceLT, Nat.zero_add, Bool.and_true, and_self, List.all_cons, List.all_nil, beq_self_eq_true, Nat.reduceMul, rng_1, ty_checker_Rejection, und_checker_Rejection, inf_checker_Rejection_eq, inf_checker_Rejection_size, inf_checker_Rejection_zero, dFt_cells, dFt_agg, dFt_good, b2, hap, zg0, zs0, mid_get]
   with_reducible refine hR _ ?_
   clear hR R
   show X _ _ _ _
   have hbig : i < 9223372036854775807 := by omega
   refine X_rc fun R hR => ?_
   simp only [inr_i64, Int.reduceLE, Int.reduceNeg, aops, astep, awant, aeff, aop, abin, aint, ev, ofValue, St.put, zg1, zg0, zgd, zmo, if_true, zs1, zs0, and_self, nat_succ hbig]
   with_reducible refine hR _ ?_
   clear hR R
   show ∃ m, m < _ ∧ _
   have hpr : ((chkF (withM p c))[i].proc == -1) = true := by first | assumption | (simp_all; done)
   exact ⟨(chkF (withM p c)).length - (i + 1), by omega, i + 1, _, _, _, F ++ [(chkF (withM p c))[i]], _, _, by rw [List.map_append]; rfl, rfl, by omega, Lib.hid (by rw [List.map_append]; exact hacc), Lib.hid (by rw [hFF.out, List.take_succ_eq_append_getElem hlt, List.filter_append]; congr 1; simp [hpr]), by rw [zla]; simp; omega⟩
  ·intro b3
   have c3 := b3
   try simp only [ne_eq, beq_eq_false_iff_ne] at c3
   refine X_skip ?_
   show X _ _ _ _
   have hbig : i < 9223372036854775807 := by omega
   refine X_rc fun R hR => ?_
   simp only [inr_i64, Int.reduceLE, Int.reduceNeg, aops, astep, awant, aeff, aop, abin, aint, ev, ofValue, St.put, zg1, zg0, zgd, zmo, if_true, zs1, zs0, and_self, b3, nat_succ hbig]
   with_reducible refine hR _ ?_
   clear hR R
   show ∃ m, m < _ ∧ _
   have hpr : ((chkF (withM p c))[i].proc == -1) = false := by first | assumption | (simp_all; done)
   exact ⟨(chkF (withM p c)).length - (i + 1), by omega, i + 1, _, o, n, F, nx1, lv1, rfl, rfl, by omega, ha, Lib.hid (by rw [hFF.out, List.take_succ_eq_append_getElem hlt, List.filter_append]; simp [hpr]), by omega⟩
 ·intro b4
  have c4 := b4
  try simp only [decide_eq_false_iff_not] at c4
  refine X_exit ?_
  show X _ _ _ _
  refine X_seq ?_
  refine X_rc fun R hR => ?_
  simp only [aops, astep, awant, aeff, aop, ev, St.put, zg1, zg0, zgd, zmo, if_true, zs1, zs0, b4]
  with_reducible refine hR _ ?_
  clear hR R
  show X _ _ _ _
  refine X_ret ?_
  show _ ∧ _
  have hT : F = kidsF (-1) 0 c := by rw [hFF.out, List.take_of_length_le (by omega), part_eq hv hno hs]
  refine ⟨by first | exact .inl rfl | exact .inr rfl, _, by simp only [resD, resAll, resOne, resTup, Try.results19, EVP, zg1, zg0, D.good, if_true, zmo]; exact rfl, ?_, ?_, ?_, ?_, ?_⟩
  ·simp only [D.under, unders_id (f := dFt) dFt_under]
  ·simp
  ·first | exact hfr | (rw [List.take_left' rfl]; exact hfr)
  ·rw [List.take_left' rfl]
  ·exact ⟨o, n, by rw [← hT], by rw [← hT]; exact ha.out⟩

end Go.Proofs.Ytmglacjcefajlaa
