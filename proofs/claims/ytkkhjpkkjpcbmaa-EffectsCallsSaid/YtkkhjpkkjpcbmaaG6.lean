/- all; the search of the law EffectsReach. -/
import Derived.Test.YtkkhjpkkjpcbmaaG5
namespace Go.Proofs.Ytkkhjpkkjpcbmaa
open Go.RowKit

def smallP (p : Pg) : Bool := !(decide ((p.procs.length : Int) > 8) || !fewB p.main) && p.procs.all fun f => fewB f.body
theorem all_sml {p : Pg} (h : smallP p = true) : Sml p ∧ p.procs.length ≤ 8 := by
 simp only [smallP, zat, znt, zof, decide_eq_false_iff_not, znf, List.all_eq_true] at h
 obtain ⟨⟨h1, h2⟩, h3⟩ := h
 have := few_sz h2
 exact ⟨⟨by omega, by omega, fun f hf => by have := few_sz (h3 f hf); omega⟩, by omega⟩
set_option maxRecDepth 100000 in
set_option maxHeartbeats 4000000 in
theorem all_fn (p : Pg) : fn EV 24 [dG p] = some (.bool (smallP p)) := by
 refine fn_X rfl Try.func24 rfl (by simp only [plain, List.all_cons, List.all_nil, dG_pl, Bool.and_true]) (rfl) (rfl) (rfl) ?_
 simp only [zmc, zmn, dG_strip]
 simp only [enterSt, Try.ntmps24, zlc, zln, Nat.reduceAdd, Nat.reduceSub, zr1, zr0, zca, zna]
 refine X_seq ?_
 refine X_rg fun R hR => ?_
 simp only [aops, astep, awant, aeff, aop, ev, ofValue, St.put, zg0, zgd, zmo, if_true, zs1, zs0, zln, zna, dG_cells, dG_good]
 with_reducible refine hR _ ?_
 clear hR R
 show X _ _ _ _
 refine X_seq ?_
 refine X_seq ?_
 have f1 := few_fn p.main
 refine X_y ?_
 refine Y_k 5 fun R hR => ?_
 simp only [EVP, inr_i64, Int.reduceLE, Int.reduceNeg, aops, astep, awant, aeff, aop, abin, aint, mkD, ev, ofValue, St.put, ia_slice, zg1, zg0, zgd, zmo, if_true, zs1, zs0, zlm, zlc, zln, zd1, zd0, zt1, zt0, Nat.reduceAdd, Nat.reduceLeDiff, Nat.zero_add, zft, if_false, and_self, reduceCtorEq, ty_s_api_Proc, ty_api_Program, und_api_Proc]
 with_reducible refine hR _ ?_
 clear hR R
 simp only [zd1, zd0]
 refine Y_if 9 (by simp only [ev, zg1, zg0, zgd]; exact rfl) ?_ ?_
 ·intro b1
  have c1 := b1
  try simp only [decide_eq_true_eq, gt_iff_lt] at c1
  refine Y_end fun R hR => ?_
  simp only [EVP, aops, astep, awant, aeff, aop, ev, ofValue, St.put, pcall, zmc, zmn, zg1, zg0, zgd, zmo, Option.map_none, zbs, if_true, zs1, zs0, zca, zna, Nat.zero_add, zft, if_false, reduceCtorEq, bq_tf, ty_api_Node, ty_api_Program, any12, b1]
  with_reducible refine hR _ ?_
  clear hR R
  show X _ _ _ _
  refine X_true (by simp only [ev, zg1, zg0, zgd]) ?_
  refine X_seq ?_
  refine X_rg fun R hR => ?_
  simp only [aops, astep, awant, aeff, aop, ev, ofValue, St.put, zgd, zmo, if_true, zs1, zs0]
  with_reducible refine hR _ ?_
  clear hR R
  show X _ _ _ _
  refine X_ret ?_
  show resD _ _ _ = some _
  simp only [resD, resAll, resOne, resTup, Try.results24, EVP, zg1, zg0, D.good, if_true, zmo]
  first | (simp [smallP, b1]; done) | (simp_all [smallP]; done) | (exfalso; simp_all; done)
 ·intro b2
  have c2 := b2
  try simp only [decide_eq_false_iff_not, Int.not_lt, gt_iff_lt] at c2
  refine Y_end fun R hR => ?_
  simp only [EVP, aops, astep, awant, aeff, aop, mkD, ev, ofValue, St.put, pcall, zmc, zmn, zg1, zg0, zgd, zmo, zbs, if_true, zs1, zs0, zlc, zln, zd1, zd0, zt1, zt0, zca, zna, Nat.reduceAdd, Nat.reduceLeDiff, Nat.zero_add, zft, if_false, reduceCtorEq, beq_self_eq_true, ty_api_Node, ty_api_Program, any12, dN_agg, b2, f1]
  with_reducible refine hR _ ?_
  clear hR R
  show X _ _ _ _
  refine X_ite (by simp only [ev, zg1, zg0, zgd]; exact rfl) ?_ ?_
  ·intro b3
   have c3 := b3
   try simp only [znt] at c3
   refine X_seq ?_
   refine X_rg fun R hR => ?_
   simp only [aops, astep, awant, aeff, aop, ev, ofValue, St.put, zgd, zmo, if_true, zs1, zs0, b3]
   with_reducible refine hR _ ?_
   clear hR R
   show X _ _ _ _
   refine X_ret ?_
   show resD _ _ _ = some _
   simp only [resD, resAll, resOne, resTup, Try.results24, EVP, zg1, zg0, D.good, if_true, zmo]
   first | (simp [smallP, b2, b3]; done) | (simp_all [smallP]; done) | (exfalso; simp_all; done)
  ·intro b4
   have c4 := b4
   try simp only [znf] at c4
   refine X_skip ?_
   show X _ _ _ _
   refine X_seq ?_
   refine X_seq ?_
   refine X_rg fun R hR => ?_
   simp only [EVP, inr_i64, Int.reduceLE, Int.reduceNeg, aops, astep, awant, aeff, aop, mkD, ev, ofValue, St.put, ia_slice, zg1, zg0, zgd, zmo, if_true, zs1, zs0, zlm, zlc, zln, zd1, zd0, zt1, zt0, Nat.reduceAdd, Nat.reduceLeDiff, Nat.zero_add, zft, if_false, and_self, reduceCtorEq, ty_s_api_Proc, ty_api_Program, und_api_Proc, b4]
   with_reducible refine hR _ ?_
   clear hR R
   show X _ _ _ _
   refine X_block ?_
   refine X_loop (fun m σ => ∃ (i : Nat) (r : List (List D)), σ = ⟨[slotOf σ 0, .ptr 0 0, slotOf σ 2, slotOf σ 3, slotOf σ 4, slotOf σ 5, slotOf σ 6, slotOf σ 7, slotOf σ 8, slotOf σ 9, slotOf σ 10, slotOf σ 11, slotOf σ 12, slotOf σ 13, slotOf σ 14, slotOf σ 15, .slice .imm (if (p.procs.map dP).isEmpty = true then 0 else 6) (p.procs.map dP), .int .i64 p.procs.length, .int .i64 i, slotOf σ 19, slotOf σ 20, slotOf σ 21, slotOf σ 22, slotOf σ 23, slotOf σ 24, slotOf σ 25, slotOf σ 26], [.slice .imm (if (p.vars.map dV).isEmpty = true then 0 else 3) (p.vars.map dV), .slice .imm (if (p.procs.map dP).isEmpty = true then 0 else 6) (p.procs.map dP), .int .u8 p.main.kind, .int .i64 p.main.num, .str p.main.name, .slice .imm (if (p.main.kids.map dN).isEmpty = true then 0 else 4) (p.main.kids.map dN)] :: r, 0, []⟩ ∧ m = p.procs.length - i ∧ i ≤ p.procs.length ∧ Hid (smallP p = (p.procs.drop i).all fun f => fewB f.body)) ?_ (p.procs.length) _ ?_
   rotate_left
   ·have ha : smallP p = p.procs.all fun f => fewB f.body := by first | (simp_all [smallP]; done) | (unfold smallP; simp [b2, b4]; done)
    exact ⟨0, _, rfl, rfl, Nat.zero_le _, Lib.hid ha⟩
   rintro m σ ⟨i, r, hσ, rfl, hi, hf⟩
   generalize slotOf σ = x at hσ
   subst hσ
   refine X_seq ?_
   refine X_rg fun R hR => ?_
   simp only [nat_lt, aops, astep, awant, aeff, aop, abin, aint, ev, St.put, zg1, zg0, zgd, zmo, if_true, zs1, zs0]
   with_reducible refine hR _ ?_
   clear hR R
   show X _ _ _ _
   refine X_seq ?_
   refine X_ite (by simp only [ev, zg1, zg0, zgd]; exact rfl) ?_ ?_
   ·intro b5
    have c5 := b5
    try simp only [decide_eq_true_eq] at c5
    refine X_skip ?_
    show X _ _ _ _
    refine X_seq ?_
    refine X_block ?_
    refine X_seq ?_
    have hlt : i < p.procs.length := by first | assumption | omega | simp_all
    have hn1 := idx_n (f := dP) (n := 6) hlt
    have e1 : (p.procs.map dP)[i]? = some (.agg [.str p.procs[i].name, .slice .imm (if (p.procs[i].params.map dV).isEmpty = true then 0 else 3) (p.procs[i].params.map dV), .int .u8 p.procs[i].body.kind, .int .i64 p.procs[i].body.num, .str p.procs[i].body.name, .slice .imm (if (p.procs[i].body.kids.map dN).isEmpty = true then 0 else 4) (p.procs[i].body.kids.map dN)]) := by rw [List.getElem?_map, List.getElem?_eq_getElem hlt]; rfl
    refine X_rg fun R hR => ?_
    simp only [EVP, app_get0, app_set0, nat_lt, nat_0, nat_to, aops, astep, awant, aeff, aop, astore, ev, St.put, gd_agg, ia_agg, cl_agg, zg1, zg0, zgd, zmo, zbs, if_true, zs1, zs0, zlm, zlc, zln, zd1, zd0, zt0, zca, zna, Nat.reduceAdd, Nat.reduceLeDiff, Nat.zero_add, and_self, decide_true, zis, ty_api_Proc, und_api_Proc, siz_api_Proc, inf_api_Proc_eq, hlt, hn1, e1]
    with_reducible refine hR _ ?_
    clear hR R
    show X _ _ _ _
    refine X_seq ?_
    have f2 := few_fn p.procs[i].body
    refine X_rg fun R hR => ?_
    simp only [EVP, app_get0, aops, astep, awant, aeff, aop, mkD, ev, St.put, pcall, zmc, zmn, zg1, zg0, zgd, zmo, if_true, zs1, zs0, zlc, zln, zd1, zd0, zt1, zt0, zca, zna, Nat.reduceAdd, Nat.reduceLeDiff, Nat.zero_add, if_false, reduceCtorEq, ty_api_Node, ty_api_Proc, any12, dN_agg, f2]
    with_reducible refine hR _ ?_
    clear hR R
    show X _ _ _ _
    refine X_ite (by simp only [ev, zg1, zg0, zgd]; exact rfl) ?_ ?_
    ·intro b6
     have c6 := b6
     try simp only [znt] at c6
     refine X_seq ?_
     refine X_rg fun R hR => ?_
     simp only [aops, astep, awant, aeff, aop, ev, ofValue, St.put, zgd, zmo, if_true, zs1, zs0, b6]
     with_reducible refine hR _ ?_
     clear hR R
     show X _ _ _ _
     refine X_ret ?_
     show resD _ _ _ = some _
     simp only [resD, resAll, resOne, resTup, Try.results24, EVP, zg1, zg0, D.good, if_true, zmo]
     rw [hf.out, List.drop_eq_getElem_cons hlt, List.all_cons]
     first | (simp_all; done) | (exfalso; simp_all; done)
    ·intro b7
     have c7 := b7
     try simp only [znf] at c7
     refine X_skip ?_
     show X _ _ _ _
     have hbig : i < 9223372036854775807 := by omega
     refine X_rg fun R hR => ?_
     simp only [inr_i64, Int.reduceLE, Int.reduceNeg, aops, astep, awant, aeff, aop, abin, aint, ev, ofValue, St.put, zg1, zg0, zgd, zmo, if_true, zs1, zs0, and_self, b7, nat_succ hbig]
     with_reducible refine hR _ ?_
     clear hR R
     show ∃ m, m < _ ∧ _
     exact ⟨p.procs.length - (i + 1), by omega, i + 1, _, rfl, rfl, by omega, Lib.hid (by rw [hf.out, List.drop_eq_getElem_cons hlt, List.all_cons]; simp_all)⟩
   ·intro b8
    have c8 := b8
    try simp only [decide_eq_false_iff_not] at c8
    refine X_exit ?_
    show X _ _ _ _
    refine X_seq ?_
    refine X_rg fun R hR => ?_
    simp only [aops, astep, awant, aeff, aop, ev, ofValue, St.put, zgd, zmo, if_true, zs1, zs0, b8]
    with_reducible refine hR _ ?_
    clear hR R
    show X _ _ _ _
    refine X_ret ?_
    show resD _ _ _ = some _
    simp only [resD, resAll, resOne, resTup, Try.results24, EVP, zg1, zg0, D.good, if_true, zmo]
    rw [hf.out, List.drop_of_length_le (by first | omega | (simp_all; done))]; rfl
set_option maxRecDepth 100000 in
set_option maxHeartbeats 4000000 in
theorem vis_cal {p : Pg} (hs : Sml p) : ∀ (N : Nat) (i : Int) (B : List (List D)) (nx : Nat) (lv : List Nat) (V : List Int), B[0]? = some [.slice .imm (if (p.vars.map dV).isEmpty = true then 0 else 3) (p.vars.map dV), .slice .imm (if (p.procs.map dP).isEmpty = true then 0 else 6) (p.procs.map dP), .int .u8 p.main.kind, .int .i64 p.main.num, .str p.main.name, .slice .imm (if (p.main.kids.map dN).isEmpty = true then 0 else 4) (p.main.kids.map dN)] → B[1]? = some (iD V) → B[2]? = some [.mref 1] → B[3]? = some [.fn 29 [.ptr 0 0, .ptr 2 0, .ptr 3 0]] → UnB B → InN p.procs.length V → p.procs.length + 1 ≤ V.length + N →
  ∃ d B' nx' lv', (∀ fr, cal EVg 29 [.int .i64 i, .ptr 0 0, .ptr 2 0, .ptr 3 0] ⟨fr, B, nx, lv⟩ = some (d, ⟨fr, B', nx', lv'⟩)) ∧ d = .tup [] ∧ B' = B.set 1 (iD (visitR (clF p) N i V)) := by
 intro N
 induction N with
 | zero => intro i B nx lv V _ _ _ _ _ hV hN; exact absurd hV.len (by omega)
 | succ N IH =>
 intro i B nx lv V h0 h1 h2 h3 hu hV hN
 refine cal_XE (Φ := fun d B' _ _ => d = .tup [] ∧ B' = B.set 1 (iD (visitR (clF p) (N + 1) i V))) rfl Try.func29 rfl (by simp [plain, D.under]) ?_
 simp only [enterSt, Try.ntmps29, zlc, zln, Nat.reduceAdd, Nat.reduceSub, zr1, zr0, zca, zna]
 refine X_seq ?_
 have hC := calls_fn p hs i
 simp only [sl] at hC
 refine X_rg fun R hR => ?_
 simp only [EVgP, inr_i64, Int.reduceLE, Int.reduceNeg, aops, astep, awant, aeff, aop, mkD, ev, ofValue, St.put, pcall, zmc, zmn, zg1, zg0, zgd, zmo, if_true, zs1, zs0, zlm, zlc, zln, zd0, zt1, zt0, zca, zna, Nat.reduceAdd, Nat.reduceLeDiff, Nat.zero_add, and_self, ty_api_Program, und_int, any25, dG_agg, hC, h0]
 with_reducible refine hR _ ?_
 clear hR R
 show X _ _ _ _
 refine X_block ?_
 refine X_loop (fun mm σ => ∃ (m : Nat) (V2 : List Int) (B2 : List (List D)) (nx2 : Nat) (lv2 : List Nat), σ = ⟨[slotOf σ 0, .ptr 0 0, .ptr 2 0, .ptr 3 0, slotOf σ 4, slotOf σ 5, slotOf σ 6, slotOf σ 7, slotOf σ 8, .slice .imm (if ((clF p i).map dI).isEmpty = true then 0 else 1) ((clF p i).map dI), .int .i64 (clF p i).length, .int .i64 m, slotOf σ 12, slotOf σ 13, slotOf σ 14, slotOf σ 15, slotOf σ 16, slotOf σ 17, slotOf σ 18, slotOf σ 19, slotOf σ 20, slotOf σ 21, slotOf σ 22, slotOf σ 23, slotOf σ 24], B2, nx2, lv2⟩ ∧ mm = (clF p i).length - m ∧ m ≤ (clF p i).length ∧ Hid (Bx B 1 V2 [] B2) ∧ Hid (Left (clF p) p.procs.length V V2) ∧ Hid (loopV (visitR (clF p) N) ((clF p i).drop m) V2 = visitR (clF p) (N + 1) i V)) ?_ ((clF p i).length) _ ?_
 rotate_left
 ·exact ⟨0, V, B, nx, lv, rfl, rfl, Nat.zero_le _, Lib.hid (Bx.start h1), Lib.hid (.refl hV), Lib.hid rfl⟩
 rintro mm σ ⟨m, V2, B2, nx2, lv2, hσ, rfl, hm, hB2, hV2, hf⟩
 generalize slotOf σ = x at hσ
 subst hσ
 have hl5 : 3 < B.length := (List.getElem?_eq_some_iff.1 h3).1
 have g1 := hB2.out.inf (by omega)
 have g0 := hB2.out.in0 h0 (by omega)
 have g2 := hB2.out.in0 h2 (by omega)
 have g3 := hB2.out.in0 h3 (by omega)
 refine X_seq ?_
 refine X_rg fun R hR => ?_
 simp only [nat_lt, aops, astep, awant, aeff, aop, abin, aint, ev, St.put, zg1, zg0, zgd, zmo, if_true, zs1, zs0]
 with_reducible refine hR _ ?_
 clear hR R
 show X _ _ _ _
 refine X_seq ?_
 refine X_ite (by simp only [ev, zg1, zg0, zgd]; exact rfl) ?_ ?_
 ·intro b1
  have c1 := b1
  try simp only [decide_eq_true_eq] at c1
  refine X_skip ?_
  show X _ _ _ _
  refine X_seq ?_
  refine X_block ?_
  refine X_seq ?_
  have hlt : m < (clF p i).length := by first | assumption | omega | simp_all
  have hn1 := idx_n (f := dI) (n := 1) hlt
  have e1 : ((clF p i).map dI)[m]? = some (.int .i64 (clF p i)[m]) := by rw [List.getElem?_map, List.getElem?_eq_getElem hlt]; rfl
  have hin := clF_in p i _ (List.getElem_mem hlt)
  refine X_rg fun R hR => ?_
  simp only [EVgP, nat_lt, nat_0, nat_to, aops, astep, awant, aeff, aop, ev, St.put, ia_int, cl_int, zg1, zg0, zgd, zmo, if_true, zs1, zs0, zlm, zlc, zln, Nat.zero_add, and_self, decide_true, zis, ty_int, und_int, siz_int, inf_int_eq, hlt, hn1, e1]
  with_reducible refine hR _ ?_
  clear hR R
  show X _ _ _ _
  refine X_seq ?_
  have hlk := look_i 1 V2 (clF p i)[m] (fun j => B2[j]?) g1
  refine X_rg fun R hR => ?_
  simp only [EVgP, aops, astep, awant, aeff, aop, mkD, ev, St.put, ia_mref, zg1, zg0, zgd, zmo, if_true, zs1, zs0, zlc, zln, zd0, zt1, zt0, Nat.reduceLeDiff, Nat.zero_add, zft, if_false, g2, hlk, ty_mib]
  with_reducible refine hR _ ?_
  clear hR R
  show X _ _ _ _
  refine X_ite (by simp only [ev, zg1, zg0, zgd]; exact rfl) ?_ ?_
  ·intro b2
   have c2 := b2
   try simp only [znt, decide_eq_false_iff_not] at c2
   refine X_seq ?_
   have hpn := hs.n
   have hvl := hV2.out.i.len
   have hsm := fun fr => set_i 1 V2 (clF p i)[m] (by omega) ⟨fr, B2, nx2, lv2⟩ g1
   refine X_rg fun R hR => ?_
   simp only [EVgP, aops, astep, awant, aeff, aop, mkD, ev, ofValue, St.put, ia_mref, zg1, zg0, zgd, zmo, if_true, zs1, zs0, zlc, zln, zd0, zt1, zt0, Nat.reduceLeDiff, Nat.zero_add, zft, if_false, b2, g2, hsm, ty_mib]
   with_reducible refine hR _ ?_
   clear hR R
   show X _ _ _ _
   have hB3 := hB2.out.set (by omega) (addI V2 (clF p i)[m])
   have hnm : (clF p i)[m] ∉ V2 := by first | assumption | (simp_all; done)
   have hal := addI_new hnm
   obtain ⟨_, B4, nx4, lv4, hc4, rfl, hB4⟩ := IH (clF p i)[m] (B2.set 1 (iD (addI V2 (clF p i)[m]))) nx2 lv2 (addI V2 (clF p i)[m]) (hB3.in0 h0 (by omega)) (hB3.inf (by omega)) (hB3.in0 h2 (by omega)) (hB3.in0 h3 (by omega)) (hB3.un hu) (hV2.out.i.add hin) (by have := hV2.out.l; omega)
   have hB5 := hB3.set (by omega) (visitR (clF p) N (clF p i)[m] (addI V2 (clF p i)[m]))
   rw [← hB4] at hB5
   have g3b := hB3.in0 h3 (by omega)
   refine X_rc fun R hR => ?_
   simp only [EVgP, aops, astep, awant, aeff, aop, mkD, ev, St.put, ia_fn, zmc, zmn, zg1, zg0, zgd, zmo, if_true, zs1, zs0, zlc, zln, zd0, zt1, zt0, zca, zna, Nat.reduceLeDiff, Nat.zero_add, zft, if_false, g3b, hc4, ty_fI, any29]
   with_reducible refine hR _ ?_
   clear hR R
   show X _ _ _ _
   have hpn := hs.n
   have hll := clF_len p i
   have hbig : m < 9223372036854775807 := by omega
   refine X_rg fun R hR => ?_
   simp only [inr_i64, Int.reduceLE, Int.reduceNeg, aops, astep, awant, aeff, aop, abin, aint, ev, ofValue, St.put, zg1, zg0, zgd, zmo, if_true, zs1, zs0, and_self, nat_succ hbig]
   with_reducible refine hR _ ?_
   clear hR R
   show ∃ m, m < _ ∧ _
   have hq := hf.out
   rw [List.drop_eq_getElem_cons hlt] at hq
   unfold loopV at hq
   rw [if_neg hnm] at hq
   exact ⟨(clF p i).length - (m + 1), by omega, m + 1, visitR (clF p) N (clF p i)[m] (addI V2 (clF p i)[m]), B4, nx4, lv4, rfl, rfl, by omega, Lib.hid hB5, Lib.hid ((hV2.out.trans (Left.add hV2.out.i hin)).trans (visitR_left (clF_in p) N _ _ (hV2.out.i.add hin))), Lib.hid hq⟩
  ·intro b3
   have c3 := b3
   try simp only [znf, decide_eq_true_eq] at c3
   refine X_skip ?_
   show X _ _ _ _
   have hpn := hs.n
   have hll := clF_len p i
   have hbig : m < 9223372036854775807 := by omega
   refine X_rg fun R hR => ?_
   simp only [inr_i64, Int.reduceLE, Int.reduceNeg, aops, astep, awant, aeff, aop, abin, aint, ev, ofValue, St.put, zg1, zg0, zgd, zmo, if_true, zs1, zs0, and_self, b3, nat_succ hbig]
   with_reducible refine hR _ ?_
   clear hR R
   show ∃ m, m < _ ∧ _
   have hq := hf.out
   rw [List.drop_eq_getElem_cons hlt] at hq
   unfold loopV at hq
   have hmm : (clF p i)[m] ∈ V2 := by first | assumption | (simp_all; done)
   rw [if_pos hmm] at hq
   exact ⟨(clF p i).length - (m + 1), by omega, m + 1, V2, B2, nx2, lv2, rfl, rfl, by omega, Lib.hid hB2.out, Lib.hid hV2.out, Lib.hid hq⟩
 ·intro b4
  have c4 := b4
  try simp only [decide_eq_false_iff_not] at c4
  refine X_exit ?_
  have hq := hf.out
  rw [List.drop_of_length_le (by first | omega | (simp_all; omega))] at hq
  unfold loopV at hq
  rw [← hq]
  refine ⟨.inl rfl, .tup [], rfl, rfl, ?_, ?_, rfl, hB2.out.cut⟩
  ·show B.length ≤ B2.length; rw [hB2.out.len]; omega
  ·rw [hB2.out.cut]; have := unB_set hu 1 V2; unfold UnB at this; rw [List.length_set] at this; exact this
theorem unB4v (p : Pg) (A : List Int) : UnB [[.slice .imm (if (p.vars.map dV).isEmpty = true then 0 else 3) (p.vars.map dV), .slice .imm (if (p.procs.map dP).isEmpty = true then 0 else 6) (p.procs.map dP), .int .u8 p.main.kind, .int .i64 p.main.num, .str p.main.name, .slice .imm (if (p.main.kids.map dN).isEmpty = true then 0 else 4) (p.main.kids.map dN)], iD A, [.mref 1], [.fn 29 [.ptr 0 0, .ptr 2 0, .ptr 3 0]]] := by
 unfold UnB
 rw [List.all_eq_true]
 intro x hx
 simp only [List.mem_cons, List.not_mem_nil, or_false] at hx
 rcases hx with rfl | rfl | rfl | rfl
 ·exact dG_under _ p
 ·exact iD_under _ A
 ·rfl
 ·rfl
theorem awake_g : fn EVg 11 [] = some (.bool true) := by_up awake_e
theorem all_g (p : Pg) : fn EVg 24 [dG p] = some (.bool (smallP p)) := by_up (fn_more (all_fn p))

end Go.Proofs.Ytkkhjpkkjpcbmaa
