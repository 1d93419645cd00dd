/- The law ScopeLocal: its walk where there are no faults. -/
import Derived.Test.YtjikokmhknnnoaaL5
namespace Go.Proofs.Ytjikokmhknnnoaa
open Go.RowKit

set_option maxRecDepth 100000 in
set_option maxHeartbeats 8000000 in
theorem lawL_z (p : Pg) (k : Int) (hk0 : 0 ≤ k) (hk1 : k ≤ 255) (hsb : smallB p = true) (hd : p.main.depth ≤ 78) (hm : mentB un7 p.main = false) (hf : hasV p.vars un7 = false) (hz9 : checkF p = []) : PContract Try.prog 11 [dG p, .int .u8 k] (.bool true) := by
 obtain ⟨hvd, hp6, hv20, hm80⟩ := small_valid hsb
 have hblk : blockB p.main = true := by have h := hvd; simp only [validB, bodyB, zat] at h; exact h.2.2
 have hvw := valid_wrap hvd un7_name hm80 hd
 have hMW := check_wrap (s := un7) (b := un7) hf hm (block_w un7_ne p.main hblk)
 obtain ⟨q10, q20⟩ := checkF_bd hvw
 obtain ⟨q1L, q2L⟩ := checkF_bd hvd
 have hprM0 := checkF_proc hvw
 obtain ⟨M, hM⟩ : ∃ M, checkF (wrapP un7 p) = M := ⟨_, rfl⟩
 obtain ⟨L, hL⟩ : ∃ L, checkF p = L := ⟨_, rfl⟩
 rw [hM] at q10 q20 hprM0 hMW
 rw [hL] at q1L q2L hMW
 have hlm : M.length = L.length := by rw [hMW, zlm]
 have hB0 : ([[.slice .imm (if (p.vars.map dV).isEmpty = true then 0 else 3) (p.vars.map dV), .slice .imm (if (p.procs.map dP).isEmpty = true then 0 else 6) (p.procs.map dP), .int .u8 p.main.kind, .int .i64 p.main.num, .str p.main.name, .slice .imm (if (p.main.kids.map dN).isEmpty = true then 0 else 4) (p.main.kids.map dN)], [.str (findN p.vars un7 p.vars.length).1.name, .int .u8 (findN p.vars un7 p.vars.length).1.kind, .int .i64 (findN p.vars un7 p.vars.length).1.len], [.slice .imm (if (p.vars.map dV).isEmpty = true then 0 else 3) (p.vars.map dV), .slice .imm (if (p.procs.map dP).isEmpty = true then 0 else 6) (p.procs.map dP), .int .u8 p.main.kind, .int .i64 p.main.num, .str p.main.name, .slice .imm (if (p.main.kids.map dN).isEmpty = true then 0 else 4) (p.main.kids.map dN)], [.int .u8 54, .int .i64 0, .str un7, .slice (.own 0 28) 4 [.agg [.int .u8 1, .int .i64 0, .str ⟨#[]⟩, .slice .imm 0 []], .agg [.int .u8 p.main.kind, .int .i64 p.main.num, .str p.main.name, .slice .imm (if (p.main.kids.map dN).isEmpty = true then 0 else 4) (p.main.kids.map dN)], .agg [.int .u8 1, .int .i64 0, .str ⟨#[]⟩, .slice .imm 0 []]]]] : List (List D)).all (D.unders 4) = true := by
  have h1 : D.unders 4 [.slice .imm (if (p.vars.map dV).isEmpty = true then 0 else 3) (p.vars.map dV), .slice .imm (if (p.procs.map dP).isEmpty = true then 0 else 6) (p.procs.map dP), .int .u8 p.main.kind, .int .i64 p.main.num, .str p.main.name, .slice .imm (if (p.main.kids.map dN).isEmpty = true then 0 else 4) (p.main.kids.map dN)] = true := dG_under 4 p
  have h2 : D.unders 4 [.int .u8 54, .int .i64 0, .str un7, .slice (.own 0 28) 4 [.agg [.int .u8 1, .int .i64 0, .str ⟨#[]⟩, .slice .imm 0 []], .agg [.int .u8 p.main.kind, .int .i64 p.main.num, .str p.main.name, .slice .imm (if (p.main.kids.map dN).isEmpty = true then 0 else 4) (p.main.kids.map dN)], .agg [.int .u8 1, .int .i64 0, .str ⟨#[]⟩, .slice .imm 0 []]]] = true := by have h := nW_under p un7 0 4; rw [nW, ← dN_agg p.main] at h; exact h
  have h3 : D.unders 4 [.str (findN p.vars un7 p.vars.length).1.name, .int .u8 (findN p.vars un7 p.vars.length).1.kind, .int .i64 (findN p.vars un7 p.vars.length).1.len] = true := rfl
  rw [List.all_cons, List.all_cons, List.all_cons, List.all_cons, h1, h2, h3]; rfl
 have hL0 : L = [] := by rw [← hL]; exact hz9
 have hM0 : M = [] := by rw [hMW, hL0]; rfl
 subst hL0
 subst hM0
 have hc1 : ∀ fr, caZ p 18 [.agg [.slice .imm (if (p.vars.map dV).isEmpty = true then 0 else 3) (p.vars.map dV), .slice .imm (if (p.procs.map dP).isEmpty = true then 0 else 6) (p.procs.map dP), .int .u8 p.main.kind, .int .i64 p.main.num, .str p.main.name, .slice .imm (if (p.main.kids.map dN).isEmpty = true then 0 else 4) (p.main.kids.map dN)]] ⟨fr, [[.slice .imm (if (p.vars.map dV).isEmpty = true then 0 else 3) (p.vars.map dV), .slice .imm (if (p.procs.map dP).isEmpty = true then 0 else 6) (p.procs.map dP), .int .u8 p.main.kind, .int .i64 p.main.num, .str p.main.name, .slice .imm (if (p.main.kids.map dN).isEmpty = true then 0 else 4) (p.main.kids.map dN)], [.str (findN p.vars un7 p.vars.length).1.name, .int .u8 (findN p.vars un7 p.vars.length).1.kind, .int .i64 (findN p.vars un7 p.vars.length).1.len], [.slice .imm (if (p.vars.map dV).isEmpty = true then 0 else 3) (p.vars.map dV), .slice .imm (if (p.procs.map dP).isEmpty = true then 0 else 6) (p.procs.map dP), .int .u8 57, .int .i64 0, .str ⟨#[]⟩, .bsl 3 0 4 1], [.int .u8 54, .int .i64 0, .str un7, .slice (.own 0 28) 4 [.agg [.int .u8 1, .int .i64 0, .str ⟨#[]⟩, .slice .imm 0 []], .agg [.int .u8 p.main.kind, .int .i64 p.main.num, .str p.main.name, .slice .imm (if (p.main.kids.map dN).isEmpty = true then 0 else 4) (p.main.kids.map dN)], .agg [.int .u8 1, .int .i64 0, .str ⟨#[]⟩, .slice .imm 0 []]]]], 1, [0]⟩ = some (.slice .imm 0 [], ⟨fr, [.slice .imm (if (p.vars.map dV).isEmpty = true then 0 else 3) (p.vars.map dV), .slice .imm (if (p.procs.map dP).isEmpty = true then 0 else 6) (p.procs.map dP), .int .u8 p.main.kind, .int .i64 p.main.num, .str p.main.name, .slice .imm (if (p.main.kids.map dN).isEmpty = true then 0 else 4) (p.main.kids.map dN)] :: [.str (findN p.vars un7 p.vars.length).1.name, .int .u8 (findN p.vars un7 p.vars.length).1.kind, .int .i64 (findN p.vars un7 p.vars.length).1.len] :: [.slice .imm (if (p.vars.map dV).isEmpty = true then 0 else 3) (p.vars.map dV), .slice .imm (if (p.procs.map dP).isEmpty = true then 0 else 6) (p.procs.map dP), .int .u8 57, .int .i64 0, .str ⟨#[]⟩, .bsl 3 0 4 1] :: [.int .u8 54, .int .i64 0, .str un7, .slice (.own 0 28) 4 [.agg [.int .u8 1, .int .i64 0, .str ⟨#[]⟩, .slice .imm 0 []], .agg [.int .u8 p.main.kind, .int .i64 p.main.num, .str p.main.name, .slice .imm (if (p.main.kids.map dN).isEmpty = true then 0 else 4) (p.main.kids.map dN)], .agg [.int .u8 1, .int .i64 0, .str ⟨#[]⟩, .slice .imm 0 []]]] :: [], 1, [0]⟩) := fun fr => by
  have hk := check_fn p
  rw [if_pos hvd, hL] at hk
  exact caZ_1 hk _
 have hc2 : ∀ fr, caZ p 18 [.agg [.slice .imm (if (p.vars.map dV).isEmpty = true then 0 else 3) (p.vars.map dV), .slice .imm (if (p.procs.map dP).isEmpty = true then 0 else 6) (p.procs.map dP), .int .u8 57, .int .i64 0, .str ⟨#[]⟩, .bsl 3 0 4 1]] ⟨fr, [.slice .imm (if (p.vars.map dV).isEmpty = true then 0 else 3) (p.vars.map dV), .slice .imm (if (p.procs.map dP).isEmpty = true then 0 else 6) (p.procs.map dP), .int .u8 p.main.kind, .int .i64 p.main.num, .str p.main.name, .slice .imm (if (p.main.kids.map dN).isEmpty = true then 0 else 4) (p.main.kids.map dN)] :: [.str (findN p.vars un7 p.vars.length).1.name, .int .u8 (findN p.vars un7 p.vars.length).1.kind, .int .i64 (findN p.vars un7 p.vars.length).1.len] :: [.slice .imm (if (p.vars.map dV).isEmpty = true then 0 else 3) (p.vars.map dV), .slice .imm (if (p.procs.map dP).isEmpty = true then 0 else 6) (p.procs.map dP), .int .u8 57, .int .i64 0, .str ⟨#[]⟩, .bsl 3 0 4 1] :: [.int .u8 54, .int .i64 0, .str un7, .slice (.own 0 28) 4 [.agg [.int .u8 1, .int .i64 0, .str ⟨#[]⟩, .slice .imm 0 []], .agg [.int .u8 p.main.kind, .int .i64 p.main.num, .str p.main.name, .slice .imm (if (p.main.kids.map dN).isEmpty = true then 0 else 4) (p.main.kids.map dN)], .agg [.int .u8 1, .int .i64 0, .str ⟨#[]⟩, .slice .imm 0 []]]] :: [], 1, [0]⟩ = some (.slice .imm 0 [], ⟨fr, [.slice .imm (if (p.vars.map dV).isEmpty = true then 0 else 3) (p.vars.map dV), .slice .imm (if (p.procs.map dP).isEmpty = true then 0 else 6) (p.procs.map dP), .int .u8 p.main.kind, .int .i64 p.main.num, .str p.main.name, .slice .imm (if (p.main.kids.map dN).isEmpty = true then 0 else 4) (p.main.kids.map dN)] :: [.str (findN p.vars un7 p.vars.length).1.name, .int .u8 (findN p.vars un7 p.vars.length).1.kind, .int .i64 (findN p.vars un7 p.vars.length).1.len] :: [.slice .imm (if (p.vars.map dV).isEmpty = true then 0 else 3) (p.vars.map dV), .slice .imm (if (p.procs.map dP).isEmpty = true then 0 else 6) (p.procs.map dP), .int .u8 57, .int .i64 0, .str ⟨#[]⟩, .bsl 3 0 4 1] :: [.int .u8 54, .int .i64 0, .str un7, .slice (.own 0 28) 4 [.agg [.int .u8 1, .int .i64 0, .str ⟨#[]⟩, .slice .imm 0 []], .agg [.int .u8 p.main.kind, .int .i64 p.main.num, .str p.main.name, .slice .imm (if (p.main.kids.map dN).isEmpty = true then 0 else 4) (p.main.kids.map dN)], .agg [.int .u8 1, .int .i64 0, .str ⟨#[]⟩, .slice .imm 0 []]]] :: [], 1, [0]⟩) := fun fr => by
  have h := caZ_2 (p := p) (s := 0) (fr := fr) (B := [[.slice .imm (if (p.vars.map dV).isEmpty = true then 0 else 3) (p.vars.map dV), .slice .imm (if (p.procs.map dP).isEmpty = true then 0 else 6) (p.procs.map dP), .int .u8 p.main.kind, .int .i64 p.main.num, .str p.main.name, .slice .imm (if (p.main.kids.map dN).isEmpty = true then 0 else 4) (p.main.kids.map dN)], [.str (findN p.vars un7 p.vars.length).1.name, .int .u8 (findN p.vars un7 p.vars.length).1.kind, .int .i64 (findN p.vars un7 p.vars.length).1.len], [.slice .imm (if (p.vars.map dV).isEmpty = true then 0 else 3) (p.vars.map dV), .slice .imm (if (p.procs.map dP).isEmpty = true then 0 else 6) (p.procs.map dP), .int .u8 57, .int .i64 0, .str ⟨#[]⟩, .bsl 3 0 4 1], [.int .u8 54, .int .i64 0, .str un7, .slice (.own 0 28) 4 [.agg [.int .u8 1, .int .i64 0, .str ⟨#[]⟩, .slice .imm 0 []], .agg [.int .u8 p.main.kind, .int .i64 p.main.num, .str p.main.name, .slice .imm (if (p.main.kids.map dN).isEmpty = true then 0 else 4) (p.main.kids.map dN)], .agg [.int .u8 1, .int .i64 0, .str ⟨#[]⟩, .slice .imm 0 []]]]]) (nx := 1) (lv := [0]) (by rw [nW, ← dN_agg p.main]; rfl)
  rw [hM] at h
  exact h
 have heq := equal_fn [] (by simp) (fun f hf => absurd hf (by simp))
 simp only [sl, zmn, List.isEmpty_nil, if_true] at heq
 clear hMW hlm hM hL hz9 q10 q20 q1L q2L hprM0
 refine S_pure (f := _) Try.func11 rfl (by show (((dG p).under 0 && (dG p).good) && (((D.int .u8 k).under 0 && (D.int .u8 k).good) && true)) = true; rw [dG_pl]; rfl) (by show [(dG p).strip, (D.int .u8 k).strip] = _; rw [dG_strip]; rfl) ?_
 simp only [enterSt, Try.ntmps11, zlc, zln, Nat.reduceAdd, Nat.reduceSub, zr1, zr0, zca, zna]
 refine S_seq ?_
 refine S_of_X EV_ok (by kernel_rfl) ?_
 refine X_rg fun R hR => ?_
 simp only [aops, astep, awant, aeff, aop, ev, ofValue, St.put, zg0, zgd, zmo, if_true, zs1, zs0, zln, zna, dG_cells, dG_good]
 with_reducible refine hR _ ?_
 clear hR R
 show S _ _ _ _ _
 refine S_seq ?_
 refine S_seq ?_
 refine S_of_X EV_ok (by kernel_rfl) ?_
 refine X_rg fun R hR => ?_
 simp only [EVP, aops, astep, awant, aeff, aop, ev, St.put, pcall, zmn, zg1, zg0, zgd, zmo, if_true, zs1, zs0, zna, Bool.not_true, any12, awake_ok]
 with_reducible refine hR _ ?_
 clear hR R
 show S _ _ _ _ _
 refine S_false (by simp only [ev, zg1, zg0, zgd]) ?_
 refine S_skip ?_
 show S _ _ _ _ _
 refine S_seq ?_
 refine S_seq ?_
 have hsm := small_fn p
 rw [if_pos hsb] at hsm
 have hdp := o_ast_Depth p.main (by have := (valid_bd hvd).2.2.2.2; omega)
 have hd1 : decide ((p.main.depth : Int) > 78) = false := by simp; omega
 have hd2 : decide (78 < (p.main.depth : Int)) = false := by simp; omega
 have hd3 : decide (78 < p.main.depth) = false := by simp; omega
 have hme := ment_fn un7 p.main.size p.main (Nat.le_refl _) (by omega)
 rw [hm] at hme
 refine S_of_X EV_ok (by kernel_rfl) ?_
 refine X_rg fun R hR => ?_
 simp only [EVP, inr_i64, Int.reduceLE, Int.reduceNeg, aops, astep, awant, aeff, aop, abin, aint, mkD, ev, ofValue, St.put, pcall, zmc, zmn, zg1, zg0, zgd, zmo, zbs, if_true, zs1, zs0, zlc, zln, zd1, zd0, zt1, zt0, zca, zna, Nat.reduceAdd, Nat.reduceLeDiff, Nat.zero_add, zft, if_false, and_self, reduceCtorEq, beq_self_eq_true, Int.reduceBEq, ty_api_Node, ty_api_Program, any19, any22, any36, dN_agg, dG_agg, hsm, es7, hdp, hd1, hme]
 with_reducible refine hR _ ?_
 clear hR R
 show S _ _ _ _ _
 refine S_false (by simp only [ev, zg1, zg0, zgd]) ?_
 refine S_skip ?_
 show S _ _ _ _ _
 refine S_seq ?_
 refine S_seq ?_
 have hfi := find_fn p.vars un7 (by omega)
 rw [hasV_eq, hf] at hfi
 simp only [sl] at hfi
 refine S_of_X EV_ok (by kernel_rfl) ?_
 refine X_rg fun R hR => ?_
 simp only [EVP, aops, astep, awant, aeff, aop, mkD, astore, ev, ofValue, St.put, pcall, ia_slice, zmc, zmn, zg1, zg0, zgd, zmo, zbs, if_true, zs1, zs0, zlc, zln, zd1, zd0, zt1, zt0, zca, zna, Nat.reduceAdd, Nat.reduceLeDiff, Nat.zero_add, Nat.add_zero, zft, if_false, and_self, reduceCtorEq, ty_s_api_VarDecl, ty_api_VarDecl, ty_api_Program, any13, dV_good, dV_cells, hfi, es7]
 with_reducible refine hR _ ?_
 clear hR R
 show S _ _ _ _ _
 refine S_seq ?_
 refine S_of_X EV_ok (by kernel_rfl) ?_
 refine X_rg fun R hR => ?_
 simp only [aops, astep, awant, aeff, aop, ev, St.put, zg1, zg0, zgd, zmo, if_true, zs1, zs0]
 with_reducible refine hR _ ?_
 clear hR R
 show S _ _ _ _ _
 refine S_false (by simp only [ev, zg1, zg0, zgd]) ?_
 refine S_skip ?_
 show S _ _ _ _ _
 refine S_seq ?_
 refine S_of_X EV_ok (by kernel_rfl) ?_
 refine X_rg fun R hR => ?_
 simp only [EVP, aops, astep, awant, aeff, aop, mkD, astore, ev, St.put, zg1, zg0, zgd, zmo, zbs, if_true, zs1, zs0, zlc, zln, zd1, zd0, zt1, zt0, zca, zna, Nat.reduceAdd, Nat.reduceLeDiff, Nat.zero_add, and_self, ty_api_Program, dG_agg, dG_cells, dG_good]
 with_reducible refine hR _ ?_
 clear hR R
 show S _ _ _ _ _
 refine S_seq ?_
 refine l9 rfl rfl rfl rfl rfl rfl hB0 ?_
 show S _ _ _ _ _
 refine S_seq ?_
 refine l10 (l := .slice .imm 0 []) (m := .slice .imm 0 []) (tl := []) (caZ_ok hvw) rfl rfl rfl rfl rfl rfl hc1 hc2 ?_
 show S _ _ _ _ _
 refine S_seq ?_
 refine S_seq ?_
 refine S_of_X EV_ok (by kernel_rfl) ?_
 refine X_rg fun R hR => ?_
 simp only [inr_i64, Int.reduceLE, Int.reduceNeg, aops, astep, awant, aeff, aop, ev, ofValue, St.put, zgd, zmo, if_true, zs1, zs0, and_self, dN_agg, dG_agg]
 with_reducible refine hR _ ?_
 clear hR R
 show S _ _ _ _ _
 refine S_block ?_
 refine S_loop (fun m σ => σ = ⟨[slotOf σ 0, .int .u8 k, .ptr 0 0, slotOf σ 3, slotOf σ 4, slotOf σ 5, slotOf σ 6, .ptr 2 0, .slice .imm 0 [], .slice .imm 0 [], .int .i64 0, slotOf σ 11, slotOf σ 12, slotOf σ 13, slotOf σ 14, slotOf σ 15, slotOf σ 16, slotOf σ 17, slotOf σ 18, slotOf σ 19, slotOf σ 20, slotOf σ 21, slotOf σ 22, slotOf σ 23, slotOf σ 24, slotOf σ 25, slotOf σ 26, slotOf σ 27, slotOf σ 28, slotOf σ 29, slotOf σ 30, slotOf σ 31, slotOf σ 32, slotOf σ 33, slotOf σ 34, slotOf σ 35, slotOf σ 36, slotOf σ 37, slotOf σ 38, slotOf σ 39, slotOf σ 40, slotOf σ 41, slotOf σ 42, slotOf σ 43, slotOf σ 44, slotOf σ 45, slotOf σ 46, slotOf σ 47, .bsl 3 0 4 1, .agg [.int .u8 57, .int .i64 0, .str ⟨#[]⟩, .bsl 3 0 4 1], slotOf σ 50, slotOf σ 51, slotOf σ 52, .agg [.slice .imm (if (p.vars.map dV).isEmpty = true then 0 else 3) (p.vars.map dV), .slice .imm (if (p.procs.map dP).isEmpty = true then 0 else 6) (p.procs.map dP), .int .u8 57, .int .i64 0, .str ⟨#[]⟩, .bsl 3 0 4 1], slotOf σ 54, slotOf σ 55, slotOf σ 56, slotOf σ 57, slotOf σ 58, slotOf σ 59, slotOf σ 60, slotOf σ 61, slotOf σ 62, slotOf σ 63, slotOf σ 64, slotOf σ 65, slotOf σ 66, slotOf σ 67, slotOf σ 68, slotOf σ 69, slotOf σ 70, slotOf σ 71, slotOf σ 72, slotOf σ 73, slotOf σ 74, slotOf σ 75, slotOf σ 76, slotOf σ 77, slotOf σ 78, slotOf σ 79, slotOf σ 80, slotOf σ 81, slotOf σ 82, slotOf σ 83, slotOf σ 84, slotOf σ 85, slotOf σ 86, slotOf σ 87, slotOf σ 88, slotOf σ 89, slotOf σ 90, slotOf σ 91, slotOf σ 92, slotOf σ 93, slotOf σ 94, slotOf σ 95, slotOf σ 96, slotOf σ 97, slotOf σ 98, slotOf σ 99, slotOf σ 100, slotOf σ 101, slotOf σ 102, slotOf σ 103, slotOf σ 104, slotOf σ 105, slotOf σ 106, slotOf σ 107, slotOf σ 108, slotOf σ 109, slotOf σ 110, slotOf σ 111, slotOf σ 112, slotOf σ 113, slotOf σ 114, slotOf σ 115, slotOf σ 116, slotOf σ 117, slotOf σ 118, slotOf σ 119, slotOf σ 120, slotOf σ 121, slotOf σ 122, slotOf σ 123, slotOf σ 124, slotOf σ 125, slotOf σ 126, slotOf σ 127, slotOf σ 128, slotOf σ 129, slotOf σ 130, slotOf σ 131, slotOf σ 132, slotOf σ 133, slotOf σ 134, slotOf σ 135, slotOf σ 136, slotOf σ 137, slotOf σ 138, slotOf σ 139, slotOf σ 140, slotOf σ 141, slotOf σ 142, slotOf σ 143, slotOf σ 144, slotOf σ 145, slotOf σ 146, slotOf σ 147, slotOf σ 148, slotOf σ 149, slotOf σ 150, slotOf σ 151, slotOf σ 152, slotOf σ 153, slotOf σ 154, slotOf σ 155, slotOf σ 156, slotOf σ 157, slotOf σ 158, slotOf σ 159, slotOf σ 160, slotOf σ 161, slotOf σ 162, slotOf σ 163, slotOf σ 164, slotOf σ 165, slotOf σ 166, slotOf σ 167, slotOf σ 168, slotOf σ 169, slotOf σ 170, slotOf σ 171, slotOf σ 172, slotOf σ 173, slotOf σ 174, slotOf σ 175, slotOf σ 176, slotOf σ 177, slotOf σ 178, slotOf σ 179, slotOf σ 180], [[.slice .imm (if (p.vars.map dV).isEmpty = true then 0 else 3) (p.vars.map dV), .slice .imm (if (p.procs.map dP).isEmpty = true then 0 else 6) (p.procs.map dP), .int .u8 p.main.kind, .int .i64 p.main.num, .str p.main.name, .slice .imm (if (p.main.kids.map dN).isEmpty = true then 0 else 4) (p.main.kids.map dN)], [.str (findN p.vars un7 p.vars.length).1.name, .int .u8 (findN p.vars un7 p.vars.length).1.kind, .int .i64 (findN p.vars un7 p.vars.length).1.len], [.slice .imm (if (p.vars.map dV).isEmpty = true then 0 else 3) (p.vars.map dV), .slice .imm (if (p.procs.map dP).isEmpty = true then 0 else 6) (p.procs.map dP), .int .u8 57, .int .i64 0, .str ⟨#[]⟩, .bsl 3 0 4 1], [.int .u8 54, .int .i64 0, .str un7, .slice (.own 0 28) 4 [.agg [.int .u8 1, .int .i64 0, .str ⟨#[]⟩, .slice .imm 0 []], dN p.main, .agg [.int .u8 1, .int .i64 0, .str ⟨#[]⟩, .slice .imm 0 []]]]], 1, [0]⟩ ∧ m = 0 ∧ ∀ t, sk t = false → BK3 0 (slotOf σ t)) ?_ (0) ?_
 rotate_left
 ·exact ⟨rfl, rfl, (BKL.slot (by repeat first | exact .nil _ | apply BKL.skip rfl | apply BKL.cons (BK3.a rfl rfl) | apply BKL.cons (BK3.a (by first | (simp only [D.avoid, D.avoids, dN_avoid, dG_avoid, dVs_avoid, Bool.and_self]; done) | (simp only [D.avoid, D.avoids, dN_avoid, dG_avoid, dVs_avoid, dPs_avoid, dNs_avoid2, dFts_avoid, dIs_avoid, Bool.and_self, Bool.and_true, Bool.true_and]; decide)) (by first | (simp only [D.avoid, D.avoids, dN_avoid, dG_avoid, dVs_avoid, Bool.and_self]; done) | (simp only [D.avoid, D.avoids, dN_avoid, dG_avoid, dVs_avoid, dPs_avoid, dNs_avoid2, dFts_avoid, dIs_avoid, Bool.and_self, Bool.and_true, Bool.true_and]; decide)))))⟩
 rintro m σ ⟨hσ, rfl, hx⟩
 generalize slotOf σ = x at hσ hx
 subst hσ
 refine S_seq ?_
 refine S_seq ?_
 have hz0 : ((0 : Int) < ((0 : Nat) : Int)) = False := by simp
 refine S_of_X EV_ok (by kernel_rfl) ?_
 refine X_rg fun R hR => ?_
 simp only [EVP, aops, astep, awant, aeff, aop, abin, aint, ev, St.put, zg1, zg0, zgd, zmo, if_true, zs1, zs0, zln, decide_false, und_scope_Fault, hz0]
 with_reducible refine hR _ ?_
 clear hR R
 show S _ _ _ _ _
 refine S_false (by simp only [ev, zg1, zg0, zgd]) ?_
 refine S_exit ?_
 show S _ _ _ _ _
 refine S_seq ?_
 refine S_seq ?_
 have hav : ∀ t, sk t = false → (x t).avoid 3 = true := fun t h => (hx t h).2
 refine S_of_X EV_ok (by kernel_rfl) ?_
 refine X_rg fun R hR => ?_
 simp only [EVP, inr_i64, Int.reduceLE, Int.reduceNeg, aops, astep, awant, aeff, aop, abin, aint, ev, ofValue, St.put, pcall, zmc, zmn, zg1, zg0, zgd, zmo, if_true, zs1, zs0, zca, zna, and_self, bne_self_eq_false, any27, heq]
 with_reducible refine hR _ ?_
 clear hR R
 show S _ _ _ _ _
 refine S_false (by simp only [ev, zg1, zg0, zgd]) ?_
 refine S_skip ?_
 show S _ _ _ _ _
 refine S_seq ?_
 refine S_seq ?_
 refine S_of_X EV_ok (by kernel_rfl) ?_
 refine X_rg fun R hR => ?_
 simp only [EVP, inr_i64, Int.reduceLE, Int.reduceNeg, aops, astep, awant, aeff, aop, abin, aint, mkD, ev, ofValue, St.put, ia_slice, zg1, zg0, zgd, zmo, if_true, zs1, zs0, zlm, zlc, zln, zd0, zt1, zt0, Nat.reduceAdd, Nat.reduceLeDiff, Nat.zero_add, Nat.add_zero, zft, if_false, and_self, reduceCtorEq, ty_s_api_VarDecl, ty_api_Program, und_api_VarDecl]
 with_reducible refine hR _ ?_
 clear hR R
 show S _ _ _ _ _
 refine S_ite (by simp only [ev, zg1, zg0, zgd]; exact rfl) ?_ ?_
 ·intro b1
  have c1 := b1
  try simp only [beq_iff_eq] at c1
  refine S_seq ?_
  refine S_of_X EV_ok (by kernel_rfl) ?_
  refine X_rg fun R hR => ?_
  simp only [aops, astep, awant, aeff, aop, ev, ofValue, St.put, zgd, zmo, if_true, zs1, zs0, b1]
  with_reducible refine hR _ ?_
  clear hR R
  show S _ _ _ _ _
  refine S_ret ?_
  refine ⟨.inr rfl, .bool true, ?_, rfl, rfl⟩
  simp only [resD, resAll, resOne, resTup, Try.results11, zg1, zg0, D.good, if_true, zmo]
 ·intro b2
  have c2 := b2
  try simp only [ne_eq, beq_eq_false_iff_ne] at c2
  refine S_skip ?_
  show S _ _ _ _ _
  refine S_seq ?_
  have hv0 : 0 < p.vars.length := by
   rcases Nat.eq_zero_or_pos p.vars.length with h | h
   ·exfalso; simp_all
   ·exact h
  have hj0 : k.toNat % p.vars.length < p.vars.length := Nat.mod_lt _ hv0
  have hkc := u8_conv hk0 hk1
  have htm := tmod_nat hk0 p.vars.length
  have hn3 : ((if (p.vars.map dV).isEmpty = true then 0 else 3) = 3) = True := eq_true (sl_n (j := 0) (by simpa using hv0))
  have hnn := name_at hvd hj0
  have hhas := has_at hj0
  have ej : (p.vars.map dV)[k.toNat % p.vars.length]? = some (.agg [.str p.vars[k.toNat % p.vars.length].name, .int .u8 p.vars[k.toNat % p.vars.length].kind, .int .i64 p.vars[k.toNat % p.vars.length].len]) := by simp [hj0, dV]
  have hz : ((p.vars.length : Int) = 0) = False := eq_false (by omega)
  obtain ⟨nm, hnm⟩ : ∃ nm, p.vars[k.toNat % p.vars.length].name = nm := ⟨_, rfl⟩
  rw [hnm] at hnn hhas ej
  have hvn := valid_wrap hvd hnn hm80 hd
  have htw := check_twice hhas
  obtain ⟨r1, r2⟩ := checkF_bd hvn
  have hck := ch_fn hvn (gQ_strip p nm 0) (gQ_pl p nm 0)
  have hvi := vis_any (wrapP nm p) p.procs.length [0, 1] (by simp)
  rw [if_pos hvn, vis_wrapA] at hvi
  obtain ⟨M2, hM2⟩ : ∃ M2, checkF (wrapP nm p) = M2 := ⟨_, rfl⟩
  rw [hM2] at htw r1 r2 hck
  have hM2n : M2 ≠ [] := fun e => by rw [e] at htw; cases htw
  have hs2 : sl 4 (M2.map dFt) = .slice .imm 4 (M2.map dFt) := by unfold sl; rw [if_neg (by simpa using hM2n)]
  rw [hs2] at hck
  simp only [gQ, nW, sl] at hck
  refine S_of_X EV_ok (by kernel_rfl) ?_
  refine X_rg fun R hR => ?_
  simp only [EVP, nat_lt, nat_0, nat_to, aops, astep, awant, aeff, aop, abin, aint, mkD, ev, St.put, ia_str, cl_str, ia_slice, zg1, zg0, zgd, zmo, if_true, zs1, zs0, zlm, zlc, zln, zd0, zt1, zt0, Nat.reduceAdd, Nat.reduceLeDiff, Nat.zero_add, Nat.add_zero, zft, if_false, and_self, reduceCtorEq, zis, ty_string, ty_s_api_VarDecl, ty_api_VarDecl, ty_api_Program, und_api_VarDecl, siz_api_VarDecl, inf_api_VarDecl_eq, und_int', und_uint8', b2, hkc, htm, hn3, ej, hz, hj0]
  with_reducible refine hR _ ?_
  clear hR R
  show S _ _ _ _ _
  refine S_seq ?_
  have h01 : ((0 : Int) < ((1 : Nat) : Int)) = True := eq_true (by decide)
  have h0t : Int.toNat 0 = 0 := rfl
  refine S_ls ?_
  refine LS_ops EV_ok 5 (by kernel_rfl) fun R hR => ?_
  simp only [EVP, inr_i64, Int.reduceLE, Int.reduceNeg, aops, astep, awant, aeff, aop, mkD, ev, ofValue, St.put, ia_bsl, zg1, zg0, zgd, zmo, if_true, zs1, zs0, zlc, zln, zd1, zd0, zt1, zt0, Nat.reduceAdd, Nat.reduceLeDiff, Nat.reduceLT, Nat.zero_add, Nat.add_zero, zft, if_false, and_self, reduceCtorEq, zis, ty_s_api_Node, ty_api_Node, ty_api_Program, und_api_Node, siz_api_Node, inf_api_Node_eq, h01, h0t, Nat.zero_mul, Nat.zero_add, siz_api_Node]
  with_reducible refine hR _ ?_
  clear hR R
  simp only [zd1, zd0]
  refine LS_field (i := 3) (off := 0) (ln := 0) (off' := 2) rfl rfl rfl (by simp only [EVP, aop, zg1, zg0, Nat.zero_add, if_false, reduceCtorEq, ty_api_Node]; try rfl) ?_
  simp only [St.put, zs1, zs0]
  refine LS_ops EV_ok 1 (by kernel_rfl) fun R hR => ?_
  simp only [EVP, aops, astep, awant, aeff, astore, ev, St.put, gd_str, cl_str, zg1, zg0, zgd, zmo, if_true, zs1, zs0, zlc, zln, zd1, zd0, zt1, zt0, zca, zna, Nat.reduceAdd, Nat.reduceLeDiff, Nat.zero_add, and_self, ty_string]
  with_reducible refine hR _ ?_
  clear hR R
  simp only [zd1, zd0]
  refine LS_nil ?_
  show S _ _ _ _ _
  refine S_seq ?_
  have hr3 : Fz 3 [.int .u8 54, .int .i64 0, .str nm, .slice (.own 0 28) 4 [.agg [.int .u8 1, .int .i64 0, .str ⟨#[]⟩, .slice .imm 0 []], dN p.main, .agg [.int .u8 1, .int .i64 0, .str ⟨#[]⟩, .slice .imm 0 []]]] (.bsl 3 0 4 1) (.slice .imm 4 [.agg [.int .u8 54, .int .i64 0, .str nm, .slice (.own 0 28) 4 [.agg [.int .u8 1, .int .i64 0, .str ⟨#[]⟩, .slice .imm 0 []], dN p.main, .agg [.int .u8 1, .int .i64 0, .str ⟨#[]⟩, .slice .imm 0 []]]]]) := .bsl 0 4 1 [.agg [.int .u8 54, .int .i64 0, .str nm, .slice (.own 0 28) 4 [.agg [.int .u8 1, .int .i64 0, .str ⟨#[]⟩, .slice .imm 0 []], dN p.main, .agg [.int .u8 1, .int .i64 0, .str ⟨#[]⟩, .slice .imm 0 []]]]] rfl (by omega) (fun j hj => by
   have : j = 0 := by simpa using hj
   subst this; rfl) (by simp)
  have hr0 : Fz 3 [.int .u8 54, .int .i64 0, .str nm, .slice (.own 0 28) 4 [.agg [.int .u8 1, .int .i64 0, .str ⟨#[]⟩, .slice .imm 0 []], dN p.main, .agg [.int .u8 1, .int .i64 0, .str ⟨#[]⟩, .slice .imm 0 []]]] (.bsl 3 0 0 0) (.elem (.agg [.int .u8 54, .int .i64 0, .str nm, .slice (.own 0 28) 4 [.agg [.int .u8 1, .int .i64 0, .str ⟨#[]⟩, .slice .imm 0 []], dN p.main, .agg [.int .u8 1, .int .i64 0, .str ⟨#[]⟩, .slice .imm 0 []]]])) := .bpt 0 0 4 _ rfl (by simp)
  have hr2 : Fz 3 [.int .u8 54, .int .i64 0, .str nm, .slice (.own 0 28) 4 [.agg [.int .u8 1, .int .i64 0, .str ⟨#[]⟩, .slice .imm 0 []], dN p.main, .agg [.int .u8 1, .int .i64 0, .str ⟨#[]⟩, .slice .imm 0 []]]] (.bsl 3 2 0 0) (.elem (.str nm)) := .bpt 2 0 1 _ rfl (by simp)
  apply S_freeze (i := 3) (t0 := 48) (d0 := .bsl 3 0 4 1) (cs := [.int .u8 54, .int .i64 0, .str nm, .slice (.own 0 28) 4 [.agg [.int .u8 1, .int .i64 0, .str ⟨#[]⟩, .slice .imm 0 []], dN p.main, .agg [.int .u8 1, .int .i64 0, .str ⟨#[]⟩, .slice .imm 0 []]]]) (Nat.zero_le _) rfl (.inr ⟨_, _, _, rfl⟩) rfl (nW_avoid p nm 0 3)
  ·dsimp only
   repeat first
     | exact .nil
     | apply FzL.cons (.keep _ rfl)
     | apply FzL.cons (.keep _ (hav _ rfl))
     | apply FzL.cons hr3
     | apply FzL.cons hr0
     | apply FzL.cons hr2
     | apply FzL.cons (.keep _ (by first | (simp only [D.avoid, D.avoids, dVs_avoid, dPs_avoid, Bool.and_true, Bool.true_and]; done) | (simp only [D.avoid, D.avoids, dVs_avoid, dPs_avoid, Bool.and_true, Bool.true_and]; decide)))
     | apply FzL.cons (FzL.agg (.cons (.keep _ rfl) (.cons (.keep _ rfl) (.cons (.keep _ rfl) (.cons hr3 .nil)))))
     | apply FzL.cons (FzL.agg (.cons (.keep _ (by first | (simp only [D.avoid, dVs_avoid]; done) | (simp only [D.avoid, D.avoids, dN_avoid, dG_avoid, dVs_avoid, dPs_avoid, dNs_avoid2, dFts_avoid, dIs_avoid, Bool.and_self, Bool.and_true, Bool.true_and]; decide))) (.cons (.keep _ (by first | (simp only [D.avoid, dPs_avoid]; done) | (simp only [D.avoid, D.avoids, dN_avoid, dG_avoid, dVs_avoid, dPs_avoid, dNs_avoid2, dFts_avoid, dIs_avoid, Bool.and_self, Bool.and_true, Bool.true_and]; decide))) (.cons (.keep _ rfl) (.cons (.keep _ rfl) (.cons (.keep _ rfl) (.cons hr3 .nil)))))))
  ·dsimp only
   repeat first
     | exact .nil _
     | apply FzB.self (c' := []) rfl
     | apply FzB.keep rfl
     | apply FzB.keep (by first | (simp only [D.avoid, D.avoids, dVs_avoid, dPs_avoid, dNs_avoid2, Bool.and_self, Bool.and_true, Bool.true_and]; done) | (simp only [D.avoid, D.avoids, dVs_avoid, dPs_avoid, Bool.and_true, Bool.true_and]; decide))
     | apply FzB.turn (t0 := 7) (off := 0) (.cons (.keep _ (by first | (simp only [D.avoid, dVs_avoid]; done) | (simp only [D.avoid, D.avoids, dN_avoid, dG_avoid, dVs_avoid, dPs_avoid, dNs_avoid2, dFts_avoid, dIs_avoid, Bool.and_self, Bool.and_true, Bool.true_and]; decide))) (.cons (.keep _ (by first | (simp only [D.avoid, dPs_avoid]; done) | (simp only [D.avoid, D.avoids, dN_avoid, dG_avoid, dVs_avoid, dPs_avoid, dNs_avoid2, dFts_avoid, dIs_avoid, Bool.and_self, Bool.and_true, Bool.true_and]; decide))) (.cons (.keep _ rfl) (.cons (.keep _ rfl) (.cons (.keep _ rfl) (.cons hr3 .nil)))))) rfl
  show S _ _ _ _ _
  refine S_of_X EV_ok (by kernel_rfl) ?_
  refine X_rg fun R hR => ?_
  simp only [aops, astep, awant, aeff, aop, ev, ofValue, St.put, zgd, zmo, if_true, zs1, zs0]
  with_reducible refine hR _ ?_
  clear hR R
  show S _ _ _ _ _
  refine S_seq ?_
  refine S_of_X EV_ok (by kernel_rfl) ?_
  refine X_rg fun R hR => ?_
  simp only [EVP, aops, astep, awant, aeff, aop, mkD, ev, St.put, pcall, zmc, zmn, zg1, zg0, zgd, zmo, if_true, zs1, zs0, zlc, zln, zd0, zt1, zt0, zca, zna, Nat.reduceAdd, Nat.reduceLeDiff, Nat.zero_add, ty_api_Program, any18, hck]
  with_reducible refine hR _ ?_
  clear hR R
  show S _ _ _ _ _
  refine S_seq ?_
  refine S_seq ?_
  refine S_of_X EV_ok (by kernel_rfl) ?_
  refine X_rg fun R hR => ?_
  simp only [inr_i64, Int.reduceLE, Int.reduceNeg, aops, astep, awant, aeff, aop, ev, ofValue, St.put, zgd, zmo, if_true, zs1, zs0, and_self]
  with_reducible refine hR _ ?_
  clear hR R
  show S _ _ _ _ _
  refine S_block ?_
  refine S_loop (fun m σ => ∃ (j : Nat) (r : List (List D)) (nx : Nat) (lv : List Nat), σ = ⟨[slotOf σ 0, .int .u8 k, .ptr 0 0, slotOf σ 3, slotOf σ 4, slotOf σ 5, slotOf σ 6, .ptr 2 0, slotOf σ 8, .slice .imm 4 (M2.map dFt), slotOf σ 10, .str nm, .bool ((M2.take j).any (twB p.procs.length nm)), .int .i64 j, slotOf σ 14, slotOf σ 15, slotOf σ 16, slotOf σ 17, slotOf σ 18, slotOf σ 19, slotOf σ 20, slotOf σ 21, slotOf σ 22, slotOf σ 23, slotOf σ 24, slotOf σ 25, slotOf σ 26, slotOf σ 27, slotOf σ 28, slotOf σ 29, slotOf σ 30, slotOf σ 31, slotOf σ 32, slotOf σ 33, slotOf σ 34, slotOf σ 35, slotOf σ 36, slotOf σ 37, slotOf σ 38, slotOf σ 39, slotOf σ 40, slotOf σ 41, slotOf σ 42, slotOf σ 43, slotOf σ 44, slotOf σ 45, slotOf σ 46, slotOf σ 47, slotOf σ 48, slotOf σ 49, slotOf σ 50, slotOf σ 51, slotOf σ 52, slotOf σ 53, slotOf σ 54, slotOf σ 55, slotOf σ 56, slotOf σ 57, slotOf σ 58, slotOf σ 59, slotOf σ 60, slotOf σ 61, slotOf σ 62, slotOf σ 63, slotOf σ 64, slotOf σ 65, slotOf σ 66, slotOf σ 67, slotOf σ 68, slotOf σ 69, slotOf σ 70, slotOf σ 71, slotOf σ 72, slotOf σ 73, slotOf σ 74, slotOf σ 75, slotOf σ 76, slotOf σ 77, slotOf σ 78, slotOf σ 79, slotOf σ 80, slotOf σ 81, slotOf σ 82, slotOf σ 83, slotOf σ 84, slotOf σ 85, slotOf σ 86, slotOf σ 87, slotOf σ 88, slotOf σ 89, slotOf σ 90, slotOf σ 91, slotOf σ 92, slotOf σ 93, slotOf σ 94, slotOf σ 95, slotOf σ 96, slotOf σ 97, slotOf σ 98, slotOf σ 99, slotOf σ 100, slotOf σ 101, slotOf σ 102, slotOf σ 103, slotOf σ 104, slotOf σ 105, slotOf σ 106, slotOf σ 107, slotOf σ 108, slotOf σ 109, slotOf σ 110, slotOf σ 111, slotOf σ 112, slotOf σ 113, slotOf σ 114, slotOf σ 115, slotOf σ 116, slotOf σ 117, slotOf σ 118, slotOf σ 119, slotOf σ 120, slotOf σ 121, slotOf σ 122, slotOf σ 123, slotOf σ 124, slotOf σ 125, slotOf σ 126, slotOf σ 127, slotOf σ 128, slotOf σ 129, slotOf σ 130, slotOf σ 131, slotOf σ 132, slotOf σ 133, slotOf σ 134, slotOf σ 135, slotOf σ 136, slotOf σ 137, slotOf σ 138, slotOf σ 139, slotOf σ 140, slotOf σ 141, slotOf σ 142, slotOf σ 143, slotOf σ 144, slotOf σ 145, slotOf σ 146, slotOf σ 147, slotOf σ 148, slotOf σ 149, slotOf σ 150, slotOf σ 151, slotOf σ 152, slotOf σ 153, slotOf σ 154, slotOf σ 155, slotOf σ 156, slotOf σ 157, slotOf σ 158, slotOf σ 159, slotOf σ 160, slotOf σ 161, slotOf σ 162, slotOf σ 163, slotOf σ 164, slotOf σ 165, slotOf σ 166, slotOf σ 167, slotOf σ 168, slotOf σ 169, slotOf σ 170, slotOf σ 171, slotOf σ 172, slotOf σ 173, slotOf σ 174, slotOf σ 175, slotOf σ 176, slotOf σ 177, slotOf σ 178, slotOf σ 179, slotOf σ 180], [.slice .imm (if (p.vars.map dV).isEmpty = true then 0 else 3) (p.vars.map dV), .slice .imm (if (p.procs.map dP).isEmpty = true then 0 else 6) (p.procs.map dP), .int .u8 p.main.kind, .int .i64 p.main.num, .str p.main.name, .slice .imm (if (p.main.kids.map dN).isEmpty = true then 0 else 4) (p.main.kids.map dN)] :: [.str (findN p.vars un7 p.vars.length).1.name, .int .u8 (findN p.vars un7 p.vars.length).1.kind, .int .i64 (findN p.vars un7 p.vars.length).1.len] :: [.slice .imm (if (p.vars.map dV).isEmpty = true then 0 else 3) (p.vars.map dV), .slice .imm (if (p.procs.map dP).isEmpty = true then 0 else 6) (p.procs.map dP), .int .u8 57, .int .i64 0, .str ⟨#[]⟩, .slice .imm 4 [.agg [.int .u8 54, .int .i64 0, .str nm, .slice (.own 0 28) 4 [.agg [.int .u8 1, .int .i64 0, .str ⟨#[]⟩, .slice .imm 0 []], dN p.main, .agg [.int .u8 1, .int .i64 0, .str ⟨#[]⟩, .slice .imm 0 []]]]]] :: r, nx, lv⟩ ∧ m = M2.length - j ∧ j ≤ M2.length) ?_ (M2.length) ?_
  rotate_left
  ·exact ⟨0, _, _, _, rfl, rfl, Nat.zero_le _⟩
  rintro m σ ⟨j, r, nx, lv, hσ, rfl, hj⟩
  generalize slotOf σ = x at hσ
  subst hσ
  refine S_seq ?_
  refine S_seq ?_
  refine S_of_X EV_ok (by kernel_rfl) ?_
  refine X_rg fun R hR => ?_
  simp only [EVP, nat_lt, aops, astep, awant, aeff, aop, abin, aint, ev, St.put, zg1, zg0, zgd, zmo, if_true, zs1, zs0, zlm, und_scope_Fault]
  with_reducible refine hR _ ?_
  clear hR R
  show S _ _ _ _ _
  refine S_ite (by simp only [ev, zg1, zg0, zgd]; exact rfl) ?_ ?_
  ·intro b3
   have c3 := b3
   try simp only [decide_eq_true_eq] at c3
   refine S_skip ?_
   show S _ _ _ _ _
   refine S_seq ?_
   refine S_block ?_
   have hlt : j < M2.length := by first | assumption | omega
   have hjl : ((j : Int) < (M2.length : Int)) = True := eq_true (by omega)
   have hn4 : True := trivial
   have e2 : (M2.map dFt)[j]? = some (.agg [.int .i64 M2[j].proc, .slice .imm (if (M2[j].path.map dI).isEmpty = true then 0 else 1) (M2[j].path.map dI), .int .i64 M2[j].err, .str M2[j].name]) := by simp [hlt, dFt, sl]
   have hii := ints_own M2[j].path [0] (.own nx 3) rfl (by simp) (by have := r2 _ (List.getElem_mem hlt); omega)
   simp only [sl, zmc, zmn, dI] at hii
   refine S_of_X EV_ok (by kernel_rfl) ?_
   refine X_y ?_
   refine Y_k 2 fun R hR => ?_
   simp only [EVP, aops, astep, awant, aeff, aop, ev, St.put, zg1, zg0, zgd, zmo, if_true, zs1, zs0, zt1, zt0, decide_true, hlt]
   with_reducible refine hR _ ?_
   clear hR R
   simp only [zd1, zd0]
   refine Y_if 115 (by simp only [ev, zg1, zg0, zgd]; exact rfl) ?_ ?_
   ·intro b4
    have c4 := b4
    try simp only [znt, znf, decide_eq_true_eq, decide_eq_false_iff_not, beq_iff_eq, Int.not_lt, Int.not_le, ge_iff_le, gt_iff_lt, bne_iff_ne, ne_eq, bne_eq_false_iff_eq, beq_eq_false_iff_ne, zat, zof] at c4
    refine Y_end fun R hR => ?_
    simp only [EVP, inr_i64, Int.reduceLE, Int.reduceNeg, aops, astep, awant, aeff, aop, abin, abuild, ev, ofValue, St.put, pcall, gd_int, cl_int, zmc, zmn, zg1, zg0, zgd, zmo, Option.map_none, zbs, if_true, zs1, zs0, zlc, zln, zca, zna, Nat.reduceLeDiff, Nat.reduceLT, Nat.zero_add, Bool.and_true, zft, if_false, and_self, reduceCtorEq, List.all_cons, List.all_nil, beq_self_eq_true, Nat.reduceMul, rng_1, bq_tf, ty_int, ty_string, ty_s_int, ty_s_api_Proc, ty_api_Program, und_int, inf_int_eq, inf_int_size, inf_int_zero, und_api_Proc, ty_api_Errno, ty_scope_Fault, und_scope_Fault, any24, b4]
    with_reducible refine hR _ ?_
    clear hR R
    show S _ _ _ _ _
    have hbig : j < 9223372036854775807 := by omega
    refine S_of_X EV_ok (by kernel_rfl) ?_
    refine X_rg fun R hR => ?_
    simp only [inr_i64, Int.reduceLE, Int.reduceNeg, aops, astep, awant, aeff, aop, abin, aint, ev, ofValue, St.put, zg1, zg0, zgd, zmo, if_true, zs1, zs0, and_self, nat_succ hbig]
    with_reducible refine hR _ ?_
    clear hR R
    show ∃ m, m < _ ∧ _
    have hst : (M2.take (j + 1)).any (twB p.procs.length nm) = true := by
     rw [any_take hlt]
     unfold twB at *
     first | (simp_all; done) | (simp [*]; done)
    exact ⟨M2.length - (j + 1), by omega, j + 1, _, _, _, by rw [hst]; rfl, rfl, by omega⟩
   ·intro b5
    have c5 := b5
    try simp only [znt, znf, decide_eq_true_eq, decide_eq_false_iff_not, beq_iff_eq, Int.not_lt, Int.not_le, ge_iff_le, gt_iff_lt, bne_iff_ne, ne_eq, bne_eq_false_iff_eq, beq_eq_false_iff_ne, zat, zof] at c5
    refine Y_k 10 fun R hR => ?_
    simp only [EVP, nat_0, nat_to, aops, astep, awant, aeff, aop, abin, aint, mkD, ev, St.put, ia_int, cl_int, ia_slice, zg1, zg0, zgd, zmo, zbs, if_true, zs1, zs0, zlm, zlc, zln, zd1, zd0, zt1, zt0, Nat.reduceAdd, Nat.reduceLeDiff, Nat.zero_add, zft, if_false, and_self, reduceCtorEq, beq_self_eq_true, zis, ty_int, ty_s_api_Proc, ty_api_Program, und_api_Proc, ty_scope_Fault, und_scope_Fault, siz_scope_Fault, inf_scope_Fault_eq, b5, hjl, e2]
    with_reducible refine hR _ ?_
    clear hR R
    simp only [zd1, zd0]
    refine Y_if 125 (by simp only [ev, zg1, zg0, zgd]; exact rfl) ?_ ?_
    ·intro b6
     have c6 := b6
     try simp only [beq_iff_eq] at c6
     refine Y_k 8 fun R hR => ?_
     simp only [EVP, inr_i64, Int.reduceLE, Int.reduceNeg, nat_0, nat_to, aops, astep, awant, aeff, aop, abin, aint, ev, ofValue, St.put, ia_int, cl_int, zg1, zg0, zgd, zmo, zbs, if_true, zs1, zs0, zlm, zlc, zln, zd1, zd0, zt1, zt0, Nat.reduceAdd, Nat.reduceLeDiff, Nat.zero_add, zft, if_false, and_self, reduceCtorEq, beq_self_eq_true, zis, ty_api_Errno, ty_scope_Fault, und_scope_Fault, siz_scope_Fault, inf_scope_Fault_eq, b6, hjl, e2]
     with_reducible refine hR _ ?_
     clear hR R
     simp only [zd1, zd0]
     refine Y_if 133 (by simp only [ev, zg1, zg0, zgd]; exact rfl) ?_ ?_
     ·intro b7
      have c7 := b7
      try simp only [beq_iff_eq] at c7
      refine Y_k 9 fun R hR => ?_
      simp only [EVP, inr_i64, Int.reduceLE, Int.reduceNeg, nat_0, nat_to, aops, astep, awant, aeff, aop, abuild, ev, ofValue, St.put, pcall, gd_int, cl_int, ia_slice, cl_slice, zmc, zmn, zg1, zg0, zgd, zmo, zbs, if_true, zs1, zs0, zlm, zlc, zln, zd1, zd0, zt1, zt0, zca, zna, Nat.reduceAdd, Nat.reduceLeDiff, Nat.reduceLT, Nat.zero_add, Bool.and_true, zft, if_false, and_self, reduceCtorEq, List.all_cons, List.all_nil, beq_self_eq_true, zis, Nat.reduceMul, rng_1, ty_s_int, und_int, inf_int_eq, inf_int_size, inf_int_zero, ty_scope_Fault, und_scope_Fault, siz_scope_Fault, inf_scope_Fault_eq, any24, b7, hjl, e2, hii]
      with_reducible refine hR _ ?_
      clear hR R
      simp only [zd1, zd0]
      refine Y_if 142 (by simp only [ev, zg1, zg0, zgd]; exact rfl) ?_ ?_
      ·intro b8
       have c8 := b8
       try simp only [decide_eq_true_eq] at c8
       refine Y_end fun R hR => ?_
       simp only [EVP, nat_0, nat_to, aops, astep, awant, aeff, aop, abin, astr, ev, ofValue, St.put, ia_str, cl_str, zg1, zg0, zgd, zmo, zbs, if_true, zs1, zs0, zlm, zlc, zln, zd1, zd0, zt1, zt0, Nat.reduceAdd, Nat.reduceLeDiff, Nat.zero_add, zft, if_false, and_self, reduceCtorEq, beq_self_eq_true, zis, ty_string, ty_scope_Fault, und_scope_Fault, siz_scope_Fault, inf_scope_Fault_eq, b8, hjl, e2]
       with_reducible refine hR _ ?_
       clear hR R
       show S _ _ _ _ _
       have hbig : j < 9223372036854775807 := by omega
       refine S_of_X EV_ok (by kernel_rfl) ?_
       refine X_rg fun R hR => ?_
       simp only [inr_i64, Int.reduceLE, Int.reduceNeg, aops, astep, awant, aeff, aop, abin, aint, ev, ofValue, St.put, zg1, zg0, zgd, zmo, if_true, zs1, zs0, and_self, nat_succ hbig]
       with_reducible refine hR _ ?_
       clear hR R
       show ∃ m, m < _ ∧ _
       have hst : (M2.take (j + 1)).any (twB p.procs.length nm) = (M2[j].name.toList == nm.toList) := by
        rw [any_take hlt]
        unfold twB at *
        first | (simp_all; done) | (simp [*]; done)
       exact ⟨M2.length - (j + 1), by omega, j + 1, _, _, _, by rw [hst]; rfl, rfl, by omega⟩
      ·intro b9
       have c9 := b9
       try simp only [decide_eq_false_iff_not] at c9
       refine Y_end fun R hR => ?_
       simp only [EVP, aops, astep, awant, aeff, aop, abin, ev, ofValue, St.put, zg1, zg0, zgd, zmo, Option.map_none, zbs, if_true, zs1, zs0, zft, if_false, reduceCtorEq, beq_self_eq_true, bq_ft, ty_string, ty_scope_Fault, und_scope_Fault, b9]
       with_reducible refine hR _ ?_
       clear hR R
       show S _ _ _ _ _
       have hbig : j < 9223372036854775807 := by omega
       refine S_of_X EV_ok (by kernel_rfl) ?_
       refine X_rg fun R hR => ?_
       simp only [inr_i64, Int.reduceLE, Int.reduceNeg, aops, astep, awant, aeff, aop, abin, aint, ev, ofValue, St.put, zg1, zg0, zgd, zmo, if_true, zs1, zs0, and_self, nat_succ hbig]
       with_reducible refine hR _ ?_
       clear hR R
       show ∃ m, m < _ ∧ _
       have hst : (M2.take (j + 1)).any (twB p.procs.length nm) = false := by
        rw [any_take hlt]
        unfold twB at *
        first | (simp_all; done) | (simp [*]; done)
       exact ⟨M2.length - (j + 1), by omega, j + 1, _, _, _, by rw [hst]; rfl, rfl, by omega⟩
     ·intro b10
      have c10 := b10
      try simp only [ne_eq, beq_eq_false_iff_ne] at c10
      refine Y_end fun R hR => ?_
      simp only [EVP, inr_i64, Int.reduceLE, Int.reduceNeg, aops, astep, awant, aeff, aop, abin, abuild, ev, ofValue, St.put, pcall, gd_int, cl_int, zmc, zmn, zg1, zg0, zgd, zmo, Option.map_none, zbs, if_true, zs1, zs0, zlc, zln, zca, zna, Nat.reduceLeDiff, Nat.reduceLT, Nat.zero_add, Bool.and_true, zft, if_false, and_self, reduceCtorEq, List.all_cons, List.all_nil, beq_self_eq_true, Nat.reduceMul, rng_1, bq_ft, ty_string, ty_s_int, und_int, inf_int_eq, inf_int_size, inf_int_zero, ty_scope_Fault, und_scope_Fault, any24, b10]
      with_reducible refine hR _ ?_
      clear hR R
      show S _ _ _ _ _
      have hbig : j < 9223372036854775807 := by omega
      refine S_of_X EV_ok (by kernel_rfl) ?_
      refine X_rg fun R hR => ?_
      simp only [inr_i64, Int.reduceLE, Int.reduceNeg, aops, astep, awant, aeff, aop, abin, aint, ev, ofValue, St.put, zg1, zg0, zgd, zmo, if_true, zs1, zs0, and_self, nat_succ hbig]
      with_reducible refine hR _ ?_
      clear hR R
      show ∃ m, m < _ ∧ _
      have hst : (M2.take (j + 1)).any (twB p.procs.length nm) = false := by
       rw [any_take hlt]
       unfold twB at *
       first | (simp_all; done) | (simp [*]; done)
      exact ⟨M2.length - (j + 1), by omega, j + 1, _, _, _, by rw [hst]; rfl, rfl, by omega⟩
    ·intro b11
     have c11 := b11
     try simp only [ne_eq, beq_eq_false_iff_ne] at c11
     refine Y_end fun R hR => ?_
     simp only [EVP, inr_i64, Int.reduceLE, Int.reduceNeg, aops, astep, awant, aeff, aop, abin, abuild, ev, ofValue, St.put, pcall, gd_int, cl_int, zmc, zmn, zg1, zg0, zgd, zmo, Option.map_none, zbs, if_true, zs1, zs0, zlc, zln, zca, zna, Nat.reduceLeDiff, Nat.reduceLT, Nat.zero_add, Bool.and_true, zft, if_false, and_self, reduceCtorEq, List.all_cons, List.all_nil, beq_self_eq_true, Nat.reduceMul, rng_1, bq_ft, ty_string, ty_s_int, und_int, inf_int_eq, inf_int_size, inf_int_zero, ty_api_Errno, ty_scope_Fault, und_scope_Fault, any24, b11]
     with_reducible refine hR _ ?_
     clear hR R
     show S _ _ _ _ _
     have hbig : j < 9223372036854775807 := by omega
     refine S_of_X EV_ok (by kernel_rfl) ?_
     refine X_rg fun R hR => ?_
     simp only [inr_i64, Int.reduceLE, Int.reduceNeg, aops, astep, awant, aeff, aop, abin, aint, ev, ofValue, St.put, zg1, zg0, zgd, zmo, if_true, zs1, zs0, and_self, nat_succ hbig]
     with_reducible refine hR _ ?_
     clear hR R
     show ∃ m, m < _ ∧ _
     have hst : (M2.take (j + 1)).any (twB p.procs.length nm) = false := by
      rw [any_take hlt]
      unfold twB at *
      first | (simp_all; done) | (simp [*]; done)
     exact ⟨M2.length - (j + 1), by omega, j + 1, _, _, _, by rw [hst]; rfl, rfl, by omega⟩
  ·intro b12
   have c12 := b12
   try simp only [decide_eq_false_iff_not] at c12
   refine S_exit ?_
   show S _ _ _ _ _
   refine S_seq ?_
   have hjq : j = M2.length := by first | omega | (simp_all; omega)
   subst hjq
   rw [show (M2.take M2.length).any (twB p.procs.length nm) = true from by rw [List.take_length]; exact htw]
   have hcu := hvi.un (args := [.agg [.slice .imm (if (p.vars.map dV).isEmpty = true then 0 else 3) (p.vars.map dV), .slice .imm (if (p.procs.map dP).isEmpty = true then 0 else 6) (p.procs.map dP), .int .u8 57, .int .i64 0, .str ⟨#[]⟩, .slice .imm 4 [.agg [.int .u8 54, .int .i64 0, .str nm, .slice (.own 0 28) 4 [.agg [.int .u8 1, .int .i64 0, .str ⟨#[]⟩, .slice .imm 0 []], dN p.main, .agg [.int .u8 1, .int .i64 0, .str ⟨#[]⟩, .slice .imm 0 []]]]]], .int .i64 p.procs.length, .slice (.own nx 3) 1 [.int .i64 0, .int .i64 1]]) (by
    have h := gQ_pl p nm 0
    simp only [plain, List.all_cons, List.all_nil, Bool.and_true]
    show (((gQ p nm 0).under 0 && (gQ p nm 0).good) && _) = true
    rw [h]; rfl) (by
    show [(gQ p nm 0).strip, (D.int .i64 p.procs.length).strip, (D.slice (.own nx 3) 1 [.int .i64 0, .int .i64 1]).strip] = _
    rw [gQ_strip]; rfl)
   have hvc := pcOne_eq 33 [.agg [.slice .imm (if (p.vars.map dV).isEmpty = true then 0 else 3) (p.vars.map dV), .slice .imm (if (p.procs.map dP).isEmpty = true then 0 else 6) (p.procs.map dP), .int .u8 57, .int .i64 0, .str ⟨#[]⟩, .slice .imm 4 [.agg [.int .u8 54, .int .i64 0, .str nm, .slice (.own 0 28) 4 [.agg [.int .u8 1, .int .i64 0, .str ⟨#[]⟩, .slice .imm 0 []], dN p.main, .agg [.int .u8 1, .int .i64 0, .str ⟨#[]⟩, .slice .imm 0 []]]]]], .int .i64 p.procs.length, .slice (.own nx 3) 1 [.int .i64 0, .int .i64 1]] (.tup [sl 3 ((p.vars ++ [(⟨nm, 1, 0⟩ : Vd)]).map dV), .int .i64 0])
   simp only [sl] at hvc
   refine S_rg (CaOk.one hcu) (by kernel_rfl) fun R hR => ?_
   simp only [inr_i64, Int.reduceLE, Int.reduceNeg, aops, astep, awant, aeff, aop, mkD, abuild, ev, ofValue, St.put, pcall, gd_int, cl_int, ia_slice, zmc, zmn, zg1, zg0, zgd, zmo, if_true, zs1, zs0, zlm, zlc, zln, zd1, zd0, zt1, zt0, zca, zna, Nat.reduceAdd, Nat.reduceLeDiff, Nat.reduceLT, Nat.zero_add, Bool.and_true, zft, if_false, and_self, reduceCtorEq, List.all_cons, List.all_nil, beq_self_eq_true, Nat.reduceMul, rng_2, ty_s_api_Proc, ty_api_Program, und_int, inf_int_eq, inf_int_size, inf_int_zero, und_api_Proc, any33, sl, b12, hvc, any33]
   with_reducible refine hR _ ?_
   clear hR R
   show S _ _ _ _ _
   refine S_seq ?_
   have hfin := find_fn (p.vars ++ [(⟨nm, 1, 0⟩ : Vd)]) nm (by simp; omega)
   rw [findN_app, if_pos (by simp)] at hfin
   simp only [sl] at hfin
   refine S_of_X EV_ok (by kernel_rfl) ?_
   refine X_rg fun R hR => ?_
   simp only [EVP, app_get0, app_set0, aops, astep, awant, aeff, aop, astore, ev, St.put, pcall, zmc, zmn, zg1, zg0, zgd, zmo, zbs, if_true, zs1, zs0, zlc, zln, zd1, zd0, zt0, zca, zna, Nat.reduceAdd, Nat.reduceLeDiff, Nat.zero_add, and_self, ty_api_VarDecl, any13, dV_good, dV_cells, hfin]
   with_reducible refine hR _ ?_
   clear hR R
   show S _ _ _ _ _
   refine S_seq ?_
   have hve := vd_eq (⟨nm, 1, 0⟩ : Vd)
   simp only at hve
   refine S_of_X EV_ok (by kernel_rfl) ?_
   refine X_rg fun R hR => ?_
   simp only [EVP, inr_i64, inr_u8, Int.reduceLE, Int.reduceNeg, app_get0, aops, astep, awant, aeff, aop, abin, aint, mkD, afill, ev, ofValue, St.put, gd_int, cl_int, gd_str, cl_str, zmc, zmn, zg1, zg0, zgd, zmo, zbs, if_true, zs1, zs0, zlc, zln, zd1, zd0, zt1, zt0, zca, zna, Nat.reduceAdd, Nat.reduceLeDiff, Nat.zero_add, and_self, beq_self_eq_true, ty_api_VarDecl, st_api_VarDecl, sta_api_VarDecl, hve, q34a, q34b, beq_self_eq_true, dV]
   with_reducible refine hR _ ?_
   clear hR R
   show S _ _ _ _ _
   refine S_ret ?_
   refine ⟨.inr rfl, .bool true, ?_, rfl, rfl⟩
   simp only [resD, resAll, resOne, resTup, Try.results11, zg1, zg0, D.good, if_true, zmo]

end Go.Proofs.Ytjikokmhknnnoaa
