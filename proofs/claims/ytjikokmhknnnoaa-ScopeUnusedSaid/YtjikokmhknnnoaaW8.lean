/- The law ScopeUnused: its walk. -/
import Derived.Test.YtjikokmhknnnoaaW7
import Derived.Test.YtjikokmhknnnoaaW5
import Derived.Test.YtjikokmhknnnoaaW4
import Derived.Test.YtjikokmhknnnoaaDh
namespace Go.Proofs.Ytjikokmhknnnoaa
open Go.RowKit

mutual
theorem dN_avoid (i : Nat) : ∀ t : Tr, (dN t).avoid i = true
  | .mk k n s c => by simp only [dN, D.avoid, D.avoids, dNs_avoid i c, Bool.and_true]
theorem dNs_avoid (i : Nat) : ∀ c : List Tr, D.avoids i (dNs c) = true
  | [] => rfl
  | t :: r => by simp only [dNs, D.avoids, dN_avoid i t, dNs_avoid i r, Bool.and_true]
end
theorem map_avoid {α : Type} {f : α → D} {i : Nat} (h : ∀ x, (f x).avoid i = true) (l : List α) : D.avoids i (l.map f) = true := by
  rw [D.avoids_all, List.all_eq_true]; intro x hx; obtain ⟨y, _, rfl⟩ := List.mem_map.1 hx; exact h y
theorem dNs_avoid2 (i : Nat) (c : List Tr) : D.avoids i (c.map dN) = true := map_avoid (dN_avoid i) c
theorem dVs_avoid (i : Nat) (c : List Vd) : D.avoids i (c.map dV) = true := map_avoid (fun _ => rfl) c
theorem dP_avoid (i : Nat) (p : Pr) : (dP p).avoid i = true := by simp only [dP, D.avoid, D.avoids, sl, dVs_avoid, dNs_avoid2, Bool.and_self]
theorem dPs_avoid (i : Nat) (c : List Pr) : D.avoids i (c.map dP) = true := map_avoid (dP_avoid i) c
theorem dG_avoid (i : Nat) (p : Pg) : (dG p).avoid i = true := by simp only [dG, D.avoid, D.avoids, sl, dVs_avoid, dPs_avoid, dNs_avoid2, Bool.and_self]
theorem inf_api_Proc_size : inf_api_Proc.size = 6 := by kernel_rfl
theorem inf_api_Proc_bytes : inf_api_Proc.bytes = 96 := by kernel_rfl
theorem inf_api_Proc_zero : inf_api_Proc.zero.isSome = true := by kernel_rfl
theorem inf_api_Proc_zc : (inf_api_Proc.zero.map fun z => z.cells.size) = some 6 := by kernel_rfl
noncomputable def fs_api_Proc : Array Field := match Try.prog.underlying 32 with | some (.struct fs) => fs | _ => #[]
theorem st_api_Proc : Try.prog.underlying 32 = some (.struct fs_api_Proc) := by kernel_rfl
theorem sta_api_Proc : (fs_api_Proc.toList.all fun f => (Try.prog.info? f.type).isSome) = true := by kernel_rfl
theorem avoids_app {i : Nat} {l m : List D} (h1 : D.avoids i l = true) (h2 : D.avoids i m = true) : D.avoids i (l ++ m) = true := by
  rw [D.avoids_all, List.all_eq_true] at *
  intro x hx
  rcases List.mem_append.1 hx with q | q
  · exact h1 x q
  · exact h2 x q
theorem dPU_avoid (i : Nat) (c : List Pr) : D.avoids i (c.map dP ++ [UP]) = true := avoids_app (dPs_avoid i c) rfl
theorem dVU_avoid (i : Nat) (c : List Vd) : D.avoids i (c.map dV ++ [UV]) = true := avoids_app (dVs_avoid i c) rfl
theorem dFt_avoid (i : Nat) (f : Ft) : (dFt f).avoid i = true := by
  have h : D.avoids i (f.path.map dI) = true := map_avoid (fun _ => rfl) _
  simp only [dFt, D.avoid, D.avoids, sl, h, Bool.and_self]
theorem dFts_avoid (i : Nat) (c : List Ft) : D.avoids i (c.map dFt) = true := map_avoid (dFt_avoid i) c
set_option maxRecDepth 100000 in
set_option maxHeartbeats 8000000 in
theorem law8_y (p : Pg) (hsb : smallB p = true) (hp : procI p un8 < 0) (hm : mentB un8 p.main = false) (hc : callsB p un8 = false) (hf : hasV p.vars un8 = false) (hne : checkF (addP un8 p) ≠ []) : PContract Try.prog 6 [dG p] (.bool true) := by
  obtain ⟨hvd, hp6, hv20, hm80⟩ := small_valid hsb
  have esz : (if (ByteArray.mk #[117, 110, 117, 115, 101, 100, 56]).size ≤ 9223372036854775807 then some (D.str (ByteArray.mk #[117, 110, 117, 115, 101, 100, 56])) else none) = some (D.str un8) := if_pos (by simp [ByteArray.size])
  have hq8 : ∀ q ∈ p.procs, q.body.size ≤ 1000000 := fun q hq => by have := ((valid_bd hvd).2.2.1 q hq).2.1; omega
  have hvP := validB_addP hsb
  have hvV := validB_addV hsb
  obtain ⟨hcm, hcp⟩ := calls_off hc
  obtain ⟨hML0, hlm0⟩ := check_addP hp hcm hcp
  have hblk : blockB p.main = true := by have h := hvd; simp only [validB, bodyB, Bool.and_eq_true] at h; exact h.2.2
  have hLV := check_addV (s := un8) hf hm (block_w un8_ne p.main hblk)
  have hprM0 := checkF_proc hvP
  have hprL0 := checkF_proc hvd
  obtain ⟨q10, q20⟩ := checkF_bd hvd
  obtain ⟨M, hM⟩ : ∃ M, checkF (addP un8 p) = M := ⟨_, rfl⟩
  obtain ⟨L, hL⟩ : ∃ L, checkF p = L := ⟨_, rfl⟩
  have hMne : M ≠ [] := by rw [← hM]; exact hne
  have hlm : M.length = L.length := by rw [← hM, ← hL]; exact hlm0
  have hLne : L ≠ [] := fun q => hMne (List.eq_nil_of_length_eq_zero (by rw [hlm, q]; rfl))
  have hML : M.map (backF p.procs.length) = L := by rw [← hM, ← hL]; exact hML0
  have hprM : ∀ f ∈ M, -1 ≤ f.proc ∧ f.proc ≤ 64 := by rw [← hM]; exact hprM0
  have hsL : sl 4 (L.map dFt) = .slice .imm 4 (L.map dFt) := by unfold sl; rw [if_neg (by simpa using hLne)]
  have hc1 : ∀ σ, chCa p 18 [dG p] σ = some (.slice .imm 4 (L.map dFt), σ) := fun σ => by rw [ch_1 hvd, hL, hsL]
  have hc2 : ∀ (s e : Nat) (σ : St), chCa p 18 [gP p s e] σ = some (.bsl σ.bx.length 0 4 M.length, { σ with bx := σ.bx ++ [cF M] }) := fun s e σ => by rw [ch_2, ← hM, cF_eq]
  have hc3 : ∀ (s e : Nat) (σ : St), chCa p 18 [gV p s e] σ = some (.slice .imm 4 (L.map dFt), σ) := fun s e σ => by rw [ch_3 s e hvV, hLV, hL, hsL]
  have heq := equal_fn L (by rw [← hL]; exact q10) (fun f hf => ⟨by have := q20 f (by rw [hL]; exact hf); omega, wrap_small (hprL0 f (by rw [hL]; exact hf)).1 (hprL0 f (by rw [hL]; exact hf)).2⟩)
  rw [hsL] at heq
  have hQU : D.avoids 4 (p.procs.map dP ++ [D.agg [.str un8, .slice .nil 0 [], .int .u8 57, .int .i64 0, .str ⟨#[]⟩, .slice .imm 0 []]]) = true := dPU_avoid 4 _
  have hVU : D.avoids 4 (p.vars.map dV ++ [D.agg [.str un8, .int .u8 3, .int .i64 0]]) = true := dVU_avoid 4 _
  have hLF : D.avoids 4 (L.map dFt) = true := dFts_avoid 4 _
  have hlen : ((p.procs.map dP ++ [D.agg [.str un8, .slice .nil 0 [], .int .u8 57, .int .i64 0, .str ⟨#[]⟩, .slice .imm 0 []]]).length : Int) = (p.procs.length : Int) + 1 := by simp
  have hML9 : M.length ≤ 1000000 := by rw [hlm, ← hL]; exact q10
  refine S_pure (f := _) Try.func6 rfl (by show (((dG p).under 0 && (dG p).good) && true) = true; rw [dG_pl]; rfl) (by show [(dG p).strip] = _; rw [dG_strip]) ?_
  simp only [enterSt, Try.ntmps6, List.length_cons, List.length_nil, Nat.reduceAdd, Nat.reduceSub, List.replicate_succ, List.replicate_zero, List.cons_append, List.nil_append]
  refine S_seq ?_
  refine S_of_X EV_ok (by kernel_rfl) ?_
  refine X_rg fun R hR => ?_
  simp only [aops, astep, awant, aeff, aop, ev, ofValue, St.put, List.getElem?_cons_zero, Option.getD_some, Option.map_some, if_true, List.set_cons_succ, List.set_cons_zero, List.length_nil, List.nil_append, dG_cells, dG_good]
  with_reducible refine hR _ ?_
  clear hR R
  show S _ _ _ _ _
  refine S_seq ?_
  refine S_seq ?_
  refine S_of_X EV_ok (by kernel_rfl) ?_
  refine X_rg fun R hR => ?_
  simp only [EVP, aops, astep, awant, aeff, aop, ev, St.put, pcall, List.map_nil, List.getElem?_cons_succ, List.getElem?_cons_zero, Option.getD_some, Option.map_some, if_true, List.set_cons_succ, List.set_cons_zero, List.nil_append, Bool.not_true, any12, awake_ok]
  with_reducible refine hR _ ?_
  clear hR R
  show S _ _ _ _ _
  refine S_false (by simp only [ev, List.getElem?_cons_succ, List.getElem?_cons_zero, Option.getD_some]) ?_
  refine S_skip ?_
  show S _ _ _ _ _
  refine S_seq ?_
  refine S_seq ?_
  have hsm := small_fn p
  rw [if_pos hsb] at hsm
  have hpr := proc_fn p un8 (by omega)
  rw [show idxN p.procs un8 0 p.procs.length = procI p un8 from rfl] at hpr
  have hd1 : decide (0 ≤ procI p un8) = false := by simp; omega
  have hd2 : decide (procI p un8 ≥ 0) = false := by simp; omega
  have hme := ment_fn un8 p.main.size p.main (Nat.le_refl _) (by omega)
  rw [hm] at hme
  have hca := calls_fn p un8 (by omega) (by omega) hq8
  rw [hc, if_neg (by decide)] at hca
  refine S_of_X EV_ok (by kernel_rfl) ?_
  refine X_rg fun R hR => ?_
  simp only [EVP, inr_i64, Int.reduceLE, Int.reduceNeg, aops, astep, awant, aeff, aop, abin, aint, mkD, ev, ofValue, St.put, pcall, List.map_cons, List.map_nil, List.getElem?_cons_succ, List.getElem?_cons_zero, Option.getD_some, Option.map_some, Option.bind_some, if_true, List.set_cons_succ, List.set_cons_zero, List.length_cons, List.length_nil, List.drop_succ_cons, List.drop_zero, List.take_succ_cons, List.take_zero, List.cons_append, List.nil_append, Nat.reduceAdd, Nat.reduceLeDiff, Nat.zero_add, Bool.false_eq_true, if_false, and_self, reduceCtorEq, beq_self_eq_true, Int.reduceBEq, ty_api_Node, ty_api_Program, any15, any19, any22, any25, dN_agg, dG_agg, hsm, esz, hpr, hd1, hme, hca]
  with_reducible refine hR _ ?_
  clear hR R
  show S _ _ _ _ _
  refine S_false (by simp only [ev, List.getElem?_cons_succ, List.getElem?_cons_zero, Option.getD_some]) ?_
  refine S_skip ?_
  show S _ _ _ _ _
  refine S_seq ?_
  refine S_seq ?_
  have hfi := find_fn p.vars un8 (by omega)
  rw [hasV_eq, hf] at hfi
  simp only [sl] at hfi
  refine S_of_X EV_ok (by kernel_rfl) ?_
  refine X_rg fun R hR => ?_
  simp only [EVP, aops, astep, awant, aeff, aop, mkD, astore, ev, ofValue, St.put, pcall, ia_slice, List.map_cons, List.map_nil, List.getElem?_cons_succ, List.getElem?_cons_zero, Option.getD_some, Option.map_some, Option.bind_some, if_true, List.set_cons_succ, List.set_cons_zero, List.length_cons, List.length_nil, List.drop_succ_cons, List.drop_zero, List.take_succ_cons, List.take_zero, List.cons_append, List.nil_append, Nat.reduceAdd, Nat.reduceLeDiff, Nat.zero_add, Nat.add_zero, Bool.false_eq_true, if_false, and_self, reduceCtorEq, ty_s_api_VarDecl, ty_api_VarDecl, ty_api_Program, any13, dV_good, dV_cells, hfi, esz]
  with_reducible refine hR _ ?_
  clear hR R
  show S _ _ _ _ _
  refine S_seq ?_
  refine S_of_X EV_ok (by kernel_rfl) ?_
  refine X_rg fun R hR => ?_
  simp only [aops, astep, awant, aeff, aop, ev, St.put, List.getElem?_cons_succ, List.getElem?_cons_zero, Option.getD_some, Option.map_some, if_true, List.set_cons_succ, List.set_cons_zero]
  with_reducible refine hR _ ?_
  clear hR R
  show S _ _ _ _ _
  refine S_false (by simp only [ev, List.getElem?_cons_succ, List.getElem?_cons_zero, Option.getD_some]) ?_
  refine S_skip ?_
  show S _ _ _ _ _
  refine S_seq ?_
  refine S_of_X EV_ok (by kernel_rfl) ?_
  refine X_rg fun R hR => ?_
  simp only [EVP, aops, astep, awant, aeff, aop, mkD, astore, ev, St.put, List.getElem?_cons_succ, List.getElem?_cons_zero, Option.getD_some, Option.map_some, Option.bind_some, if_true, List.set_cons_succ, List.set_cons_zero, List.length_cons, List.length_nil, List.drop_succ_cons, List.drop_zero, List.take_succ_cons, List.take_zero, List.cons_append, List.nil_append, Nat.reduceAdd, Nat.reduceLeDiff, Nat.zero_add, and_self, ty_api_Program, dG_agg, dG_cells, dG_good]
  with_reducible refine hR _ ?_
  clear hR R
  show S _ _ _ _ _
  refine S_seq ?_
  obtain ⟨s1, n1, l1, hs1, hap1⟩ := app_gen (P := Try.prog) (t := 25) (e := 32) (nx := 1) (lv := [0]) (st := 0) (by simp) ([]) (p.procs.map dP) .imm (if (p.procs.map dP).isEmpty = true then 0 else 6) und_api_Proc inf_api_Proc_eq inf_api_Proc_size (by omega) (by rw [inf_api_Proc_bytes]; omega) inf_api_Proc_zc (by simp; omega) (fun h => if_neg (by simpa using h))
  simp only [List.nil_append] at hap1
  obtain ⟨s2, n2, l2, hs2, hap2⟩ := app_gen (P := Try.prog) (t := 25) (e := 32) (nx := n1 + 1) (lv := n1 :: l1) (st := s1) (by simp [hs1]) (p.procs.map dP) ([D.agg [.str un8, .slice .nil 0 [], .int .u8 57, .int .i64 0, .str ⟨#[]⟩, .slice .imm 0 []]]) (.own n1 32) (6) und_api_Proc inf_api_Proc_eq inf_api_Proc_size (by omega) (by rw [inf_api_Proc_bytes]; omega) inf_api_Proc_zc (by simp; omega) (fun _ => rfl)
  refine S_of_X EV_ok (by kernel_rfl) ?_
  refine X_rg fun R hR => ?_
  simp only [EVP, aops, astep, awant, aeff, aop, mkD, afill, abuild, astore, ev, ofValue, St.put, pcall, gd_str, cl_str, gd_agg, cl_agg, gd_slice, ia_slice, cl_slice, List.map_cons, List.map_nil, List.getElem?_cons_succ, List.getElem?_cons_zero, Option.getD_some, Option.map_some, if_true, List.set_cons_succ, List.set_cons_zero, List.length_cons, List.length_nil, List.drop_succ_cons, List.drop_zero, List.take_succ_cons, List.take_zero, List.cons_append, List.nil_append, Nat.reduceAdd, Nat.reduceLeDiff, Nat.reduceLT, Nat.zero_add, Bool.and_true, Bool.false_eq_true, if_false, and_self, reduceCtorEq, List.all_cons, List.all_nil, beq_self_eq_true, Nat.reduceMul, rng_0, rng_1, ty_s_api_Proc, ty_api_Proc, ty_api_Program, st_api_Proc, sta_api_Proc, und_api_Proc, inf_api_Proc_eq, inf_api_Proc_size, inf_api_Proc_zero, any26, hap1, hap2, block_fn, esz, inf_api_Proc_size]
  with_reducible refine hR _ ?_
  clear hR R
  show S _ _ _ _ _
  refine S_seq ?_
  obtain ⟨s3, n3, l3, hs3, hap3⟩ := app_gen (P := Try.prog) (t := 22) (e := 34) (nx := n2 + 1) (lv := n2 :: l2) (st := n2) (by simp) ([]) (p.vars.map dV) .imm (if (p.vars.map dV).isEmpty = true then 0 else 3) und_api_VarDecl inf_api_VarDecl_eq inf_api_VarDecl_size (by omega) (by rw [inf_api_VarDecl_bytes]; omega) inf_api_VarDecl_zc (by simp; omega) (fun h => if_neg (by simpa using h))
  simp only [List.nil_append] at hap3
  obtain ⟨s4, n4, l4, hs4, hap4⟩ := app_gen (P := Try.prog) (t := 22) (e := 34) (nx := n3 + 1) (lv := n3 :: l3) (st := s3) (by simp [hs3]) (p.vars.map dV) ([D.agg [.str un8, .int .u8 3, .int .i64 0]]) (.own n3 34) (3) und_api_VarDecl inf_api_VarDecl_eq inf_api_VarDecl_size (by omega) (by rw [inf_api_VarDecl_bytes]; omega) inf_api_VarDecl_zc (by simp; omega) (fun _ => rfl)
  refine S_of_X EV_ok (by kernel_rfl) ?_
  refine X_rg fun R hR => ?_
  simp only [EVP, inr_u8, Int.reduceLE, aops, astep, awant, aeff, aop, mkD, afill, abuild, astore, ev, ofValue, St.put, gd_int, cl_int, gd_str, cl_str, gd_agg, cl_agg, gd_slice, ia_slice, cl_slice, List.map_cons, List.map_nil, List.getElem?_cons_succ, List.getElem?_cons_zero, Option.getD_some, Option.map_some, if_true, List.set_cons_succ, List.set_cons_zero, List.length_cons, List.length_nil, List.drop_succ_cons, List.drop_zero, List.take_succ_cons, List.take_zero, List.cons_append, List.nil_append, Nat.reduceAdd, Nat.reduceLeDiff, Nat.reduceLT, Nat.zero_add, Nat.add_zero, Bool.and_true, Bool.false_eq_true, if_false, and_self, reduceCtorEq, List.all_cons, List.all_nil, beq_self_eq_true, Nat.reduceMul, rng_0, rng_1, ty_s_api_VarDecl, ty_api_VarDecl, ty_api_Program, st_api_VarDecl, sta_api_VarDecl, und_api_VarDecl, inf_api_VarDecl_eq, inf_api_VarDecl_size, inf_api_VarDecl_zero, hap3, hap4, esz, inf_api_VarDecl_size]
  with_reducible refine hR _ ?_
  clear hR R
  show S _ _ _ _ _
  refine S_seq ?_
  refine r11 (chCa_ok hsb hne) (l := .slice .imm 4 (L.map dFt)) (n := .slice .imm 4 (L.map dFt)) (len := M.length) (cs := cF M) hc1 (hc2 s2 32) (hc3 s4 34) ?_
  show S _ _ _ _ _
  refine S_seq ?_
  refine S_seq ?_
  refine S_of_X EV_ok (by kernel_rfl) ?_
  refine X_rg fun R hR => ?_
  simp only [inr_i64, Int.reduceLE, Int.reduceNeg, aops, astep, awant, aeff, aop, ev, ofValue, St.put, Option.getD_some, Option.map_some, if_true, List.set_cons_succ, List.set_cons_zero, and_self, dG_agg]
  with_reducible refine hR _ ?_
  clear hR R
  show S _ _ _ _ _
  refine S_block ?_
  refine S_loop (fun m σ => ∃ (j : Nat) (nx : Nat) (lv : List Nat), σ = ⟨[slotOf σ 0, .ptr 0 0, slotOf σ 2, slotOf σ 3, slotOf σ 4, .ptr 2 0, .ptr 3 0, .slice .imm 4 (L.map dFt), .bsl 4 0 4 M.length, .slice .imm 4 (L.map dFt), .int .i64 j, slotOf σ 11, slotOf σ 12, slotOf σ 13, slotOf σ 14, slotOf σ 15, slotOf σ 16, slotOf σ 17, slotOf σ 18, slotOf σ 19, slotOf σ 20, slotOf σ 21, slotOf σ 22, slotOf σ 23, slotOf σ 24, slotOf σ 25, slotOf σ 26, slotOf σ 27, slotOf σ 28, slotOf σ 29, slotOf σ 30, slotOf σ 31, slotOf σ 32, slotOf σ 33, slotOf σ 34, slotOf σ 35, slotOf σ 36, slotOf σ 37, slotOf σ 38, slotOf σ 39, slotOf σ 40, slotOf σ 41, slotOf σ 42, slotOf σ 43, slotOf σ 44, slotOf σ 45, slotOf σ 46, slotOf σ 47, slotOf σ 48, slotOf σ 49, slotOf σ 50, slotOf σ 51, slotOf σ 52, slotOf σ 53, slotOf σ 54, slotOf σ 55, slotOf σ 56, slotOf σ 57, slotOf σ 58, slotOf σ 59, slotOf σ 60, slotOf σ 61, slotOf σ 62, slotOf σ 63, slotOf σ 64, slotOf σ 65, slotOf σ 66, slotOf σ 67, slotOf σ 68, slotOf σ 69, slotOf σ 70, slotOf σ 71, slotOf σ 72, slotOf σ 73, slotOf σ 74, slotOf σ 75, slotOf σ 76, slotOf σ 77, slotOf σ 78, slotOf σ 79, slotOf σ 80, slotOf σ 81, slotOf σ 82, slotOf σ 83, slotOf σ 84, slotOf σ 85, slotOf σ 86, slotOf σ 87, slotOf σ 88, slotOf σ 89, slotOf σ 90, slotOf σ 91, slotOf σ 92, slotOf σ 93, slotOf σ 94, slotOf σ 95], [[.slice .imm (if (p.vars.map dV).isEmpty = true then 0 else 3) (p.vars.map dV), .slice .imm (if (p.procs.map dP).isEmpty = true then 0 else 6) (p.procs.map dP), .int .u8 p.main.kind, .int .i64 p.main.num, .str p.main.name, .slice .imm (if (p.main.kids.map dN).isEmpty = true then 0 else 4) (p.main.kids.map dN)], [.str (findN p.vars un8 p.vars.length).1.name, .int .u8 (findN p.vars un8 p.vars.length).1.kind, .int .i64 (findN p.vars un8 p.vars.length).1.len], [.slice .imm (if (p.vars.map dV).isEmpty = true then 0 else 3) (p.vars.map dV), .slice (.own s2 32) 6 (p.procs.map dP ++ [D.agg [.str un8, .slice .nil 0 [], .int .u8 57, .int .i64 0, .str ⟨#[]⟩, .slice .imm 0 []]]), .int .u8 p.main.kind, .int .i64 p.main.num, .str p.main.name, .slice .imm (if (p.main.kids.map dN).isEmpty = true then 0 else 4) (p.main.kids.map dN)], [.slice (.own s4 34) 3 (p.vars.map dV ++ [D.agg [.str un8, .int .u8 3, .int .i64 0]]), .slice .imm (if (p.procs.map dP).isEmpty = true then 0 else 6) (p.procs.map dP), .int .u8 p.main.kind, .int .i64 p.main.num, .str p.main.name, .slice .imm (if (p.main.kids.map dN).isEmpty = true then 0 else 4) (p.main.kids.map dN)], cF (bkK p.procs.length M j)], nx, lv⟩ ∧ m = M.length - j ∧ j ≤ M.length ∧ ∀ t, BF 4 M.length (slotOf σ t)) ?_ (M.length) ?_
  rotate_left
  · exact ⟨0, _, _, rfl, rfl, Nat.zero_le _, (BFL.slot (by repeat first | exact .nil | apply BFL.cons (.inl rfl) | apply BFL.cons (.inr (.inl rfl)) | apply BFL.cons (.inl (dG_avoid _ _)) | apply BFL.cons (.inl (dN_avoid _ _)) | apply BFL.cons (.inl (by (simp only [D.avoid, D.avoids, dVs_avoid, dPs_avoid, dNs_avoid2, hQU, hVU, hLF, Bool.and_self]; done)))))⟩
  rintro m σ ⟨j, nx, lv, hσ, rfl, hj, hx⟩
  generalize slotOf σ = x at hσ hx
  subst hσ
  refine S_seq ?_
  refine S_seq ?_
  refine S_of_X EV_ok (by kernel_rfl) ?_
  refine X_rg fun R hR => ?_
  simp only [EVP, nat_lt, aops, astep, awant, aeff, aop, abin, aint, ev, St.put, List.getElem?_cons_succ, List.getElem?_cons_zero, Option.getD_some, Option.map_some, if_true, List.set_cons_succ, List.set_cons_zero, Nat.reduceLT, und_scope_Fault]
  with_reducible refine hR _ ?_
  clear hR R
  show S _ _ _ _ _
  refine S_ite (by simp only [ev, List.getElem?_cons_succ, List.getElem?_cons_zero, Option.getD_some]; exact rfl) ?_ ?_
  · intro b1
    have c1 := b1
    try simp only [decide_eq_true_eq] at c1
    refine S_skip ?_
    show S _ _ _ _ _
    refine S_seq ?_
    refine S_block ?_
    refine S_seq ?_
    have hjl : ((j : Int) < (M.length : Int)) = True := eq_true (by omega)
    have hlt : j < M.length := by first | assumption | omega
    have hjl0 : (0 ≤ (j : Int)) = True := eq_true (by omega)
    have hjn : ((j : Int)).toNat = j := Int.toNat_natCast j
    have hkl : j < (bkK p.procs.length M j).length := by rw [bkK_len]; exact hlt
    have hget := cF_get hkl
    rw [bkK_at hlt hkl] at hget
    have hle : (j * 4 + 1 ≤ (cF (bkK p.procs.length M j)).length) = True := eq_true (by rw [cF_len, bkK_len]; omega)
    try simp only [b1]
    refine S_calm EV_ok 9 (by simp only [List.length_cons, List.length_nil]; omega) (by kernel_rfl) ?_
    simp only [List.take_succ_cons, List.take_zero, List.drop_succ_cons, List.drop_zero]
    refine CS_op rfl fun R hR => ?_
    simp only [aeff, aop, ev, List.getElem?_cons_succ, List.getElem?_cons_zero, Option.getD_some, Option.map_some]
    with_reducible refine hR _ ?_
    clear hR R
    simp only [List.set_cons_succ, List.set_cons_zero]
    refine CS_op rfl fun R hR => ?_
    simp only [aeff, aop, ev, List.getElem?_cons_succ, List.getElem?_cons_zero, Option.getD_some, Option.map_some]
    with_reducible refine hR _ ?_
    clear hR R
    simp only [List.set_cons_succ, List.set_cons_zero]
    refine CS_op rfl fun R hR => ?_
    simp only [EVP, aeff, aop, ev, List.getElem?_cons_succ, List.getElem?_cons_zero, Option.getD_some, Option.map_some, if_true, Nat.reduceLT, Nat.zero_add, and_self, Option.isSome_some, und_scope_Fault, siz_scope_Fault, inf_scope_Fault_eq, hjl, hjl0, hjn, Nat.zero_add, siz_scope_Fault]
    with_reducible refine hR _ ?_
    clear hR R
    simp only [List.set_cons_succ, List.set_cons_zero]
    refine CS_field (i := 4) (off := j * 4) (ln := 0) (off' := j * 4) rfl rfl rfl (by simp only [EVP, aop, List.getElem?_cons_zero, Nat.add_zero, if_false, reduceCtorEq, ty_scope_Fault]; try rfl) ?_
    simp only [List.set_cons_succ, List.set_cons_zero]
    refine CS_load (i := 4) (off := j * 4) (ln := 0) rfl rfl rfl fun R hR => ?_
    simp only [EVP, aop, mkD, ia_int, List.getElem?_cons_succ, List.getElem?_cons_zero, if_true, Bool.false_eq_true, if_false, ty_int, hget, hle]
    with_reducible refine hR _ ?_
    clear hR R
    simp only [List.set_cons_succ, List.set_cons_zero]
    refine CS_op rfl fun R hR => ?_
    simp only [EVP, aeff, aop, ev, List.getElem?_cons_succ, List.getElem?_cons_zero, Option.getD_some, Option.map_some, Nat.zero_add, if_false, reduceCtorEq, ty_api_Program]
    with_reducible refine hR _ ?_
    clear hR R
    simp only [List.set_cons_succ, List.set_cons_zero]
    refine CS_op rfl fun R hR => ?_
    simp only [EVP, aeff, aop, mkD, ev, ia_slice, List.getElem?_cons_succ, List.getElem?_cons_zero, Option.getD_some, Option.map_some, if_true, List.length_cons, List.length_nil, List.drop_succ_cons, List.drop_zero, List.take_succ_cons, List.take_zero, Nat.reduceAdd, Nat.reduceLeDiff, Nat.zero_add, Bool.false_eq_true, if_false, ty_s_api_Proc]
    with_reducible refine hR _ ?_
    clear hR R
    simp only [List.set_cons_succ, List.set_cons_zero]
    refine CS_op rfl fun R hR => ?_
    simp only [EVP, aeff, aop, ev, List.getElem?_cons_succ, List.getElem?_cons_zero, Option.getD_some, Option.map_some, und_api_Proc, hlen]
    with_reducible refine hR _ ?_
    clear hR R
    simp only [List.set_cons_succ, List.set_cons_zero]
    refine CS_op rfl fun R hR => ?_
    simp only [aeff, aop, abin, aint, ev, List.getElem?_cons_succ, List.getElem?_cons_zero, Option.getD_some, Option.map_some, if_true]
    with_reducible refine hR _ ?_
    clear hR R
    simp only [List.set_cons_succ, List.set_cons_zero]
    refine CS_nil ?_
    refine LS_nil ?_
    dsimp only
    show S _ _ _ _ _
    refine S_ite (by simp only [ev, List.getElem?_cons_succ, List.getElem?_cons_zero, Option.getD_some]; exact rfl) ?_ ?_
    · intro b2
      have c2 := b2
      try simp only [beq_iff_eq] at c2
      have hset := cF_set (bkK p.procs.length M j) j hkl (M[j].proc - 1)
      have hyes : (M[j].proc == (p.procs.length : Int) + 1) = true := by first | assumption | (simp_all; done)
      have h9 : (⟨M[j].proc - 1, (bkK p.procs.length M j)[j].path, (bkK p.procs.length M j)[j].err, (bkK p.procs.length M j)[j].name⟩ : Ft) = backF p.procs.length M[j] := by rw [bkK_at hlt hkl, backF_yes hyes]
      rw [h9, bkK_step hlt] at hset
      have hpm := hprM _ (List.getElem_mem hlt)
      have hye2 : M[j].proc = (p.procs.length : Int) + 1 := by simpa using hyes
      have hwr : IntKind.i64.wrap (M[j].proc - 1) = M[j].proc - 1 := wrap_small (by omega) (by omega)
      refine S_ls ?_
      refine LS_ops EV_ok 3 (by kernel_rfl) fun R hR => ?_
      simp only [EVP, aops, astep, awant, aeff, aop, ev, St.put, List.getElem?_cons_succ, List.getElem?_cons_zero, Option.getD_some, Option.map_some, if_true, List.set_cons_succ, List.set_cons_zero, List.take_succ_cons, List.take_zero, Nat.reduceLT, Nat.zero_add, and_self, Option.isSome_some, und_scope_Fault, siz_scope_Fault, inf_scope_Fault_eq, b2, hjl, hjl0, hjn, Nat.zero_add, siz_scope_Fault]
      with_reducible refine hR _ ?_
      clear hR R
      simp only [List.drop_succ_cons, List.drop_zero]
      refine LS_field (i := 4) (off := j * 4) (ln := 0) (off' := j * 4) rfl rfl rfl (by simp only [EVP, aop, List.getElem?_cons_zero, Nat.add_zero, if_false, reduceCtorEq, ty_scope_Fault]; try rfl) ?_
      simp only [St.put, List.set_cons_succ, List.set_cons_zero]
      refine LS_load (i := 4) (off := j * 4) (ln := 0) rfl rfl rfl fun R hR => ?_
      simp only [EVP, aop, mkD, ia_int, List.getElem?_cons_succ, List.getElem?_cons_zero, if_true, Bool.false_eq_true, if_false, ty_int, hget, hle]
      with_reducible refine hR _ ?_
      clear hR R
      simp only [St.put, List.set_cons_succ, List.set_cons_zero]
      refine LS_ops EV_ok 2 (by kernel_rfl) fun R hR => ?_
      simp only [EVP, inr_i64, Int.reduceLE, Int.reduceNeg, aops, astep, awant, aeff, aop, abin, aint, ev, ofValue, St.put, List.getElem?_cons_succ, List.getElem?_cons_zero, Option.getD_some, Option.map_some, if_true, List.set_cons_succ, List.set_cons_zero, List.take_succ_cons, List.take_zero, Nat.reduceLT, Nat.zero_add, and_self, Option.isSome_some, und_scope_Fault, siz_scope_Fault, inf_scope_Fault_eq, hjl, hjl0, hjn, Nat.zero_add, siz_scope_Fault, hwr]
      with_reducible refine hR _ ?_
      clear hR R
      simp only [List.drop_succ_cons, List.drop_zero]
      refine LS_field (i := 4) (off := j * 4) (ln := 0) (off' := j * 4) rfl rfl rfl (by simp only [EVP, aop, List.getElem?_cons_zero, Nat.add_zero, if_false, reduceCtorEq, ty_scope_Fault]; try rfl) ?_
      simp only [St.put, List.set_cons_succ, List.set_cons_zero]
      refine LS_ops EV_ok 1 (by kernel_rfl) fun R hR => ?_
      simp only [EVP, aops, astep, awant, aeff, astore, ev, St.put, gd_int, cl_int, List.getElem?_cons_succ, List.getElem?_cons_zero, Option.getD_some, Option.map_some, if_true, List.set_cons_succ, List.set_cons_zero, List.length_cons, List.length_nil, List.take_succ_cons, List.take_zero, List.cons_append, List.nil_append, List.append_assoc, Nat.zero_add, and_self, ty_int, hset, hle, List.cons_append, List.nil_append, List.append_assoc]
      with_reducible refine hR _ ?_
      clear hR R
      simp only [List.drop_succ_cons, List.drop_zero]
      refine LS_nil ?_
      show S _ _ _ _ _
      have hbig : j < 9223372036854775807 := by omega
      refine S_of_X EV_ok (by kernel_rfl) ?_
      refine X_rg fun R hR => ?_
      simp only [inr_i64, Int.reduceLE, Int.reduceNeg, aops, astep, awant, aeff, aop, abin, aint, ev, ofValue, St.put, List.getElem?_cons_succ, List.getElem?_cons_zero, Option.getD_some, Option.map_some, if_true, List.set_cons_succ, List.set_cons_zero, and_self, nat_succ hbig]
      with_reducible refine hR _ ?_
      clear hR R
      show ∃ m, m < _ ∧ _
      exact ⟨M.length - (j + 1), by omega, j + 1, _, _, rfl, rfl, by omega, (BFL.slot (by repeat first | exact .nil | apply BFL.cons (.inl rfl) | apply BFL.cons (hx _) | apply BFL.cons (.inr (.inl rfl)) | apply BFL.cons (.inr (.inr ⟨j, hlt, rfl⟩)) | apply BFL.cons (.inl (dG_avoid _ _)) | apply BFL.cons (.inl (dN_avoid _ _)) | apply BFL.cons (.inl (by (simp only [D.avoid, hQU, hLF]; done)))))⟩
    · intro b3
      have c3 := b3
      try simp only [ne_eq, beq_eq_false_iff_ne] at c3
      refine S_skip ?_
      show S _ _ _ _ _
      have hbig : j < 9223372036854775807 := by omega
      refine S_of_X EV_ok (by kernel_rfl) ?_
      refine X_rg fun R hR => ?_
      simp only [inr_i64, Int.reduceLE, Int.reduceNeg, aops, astep, awant, aeff, aop, abin, aint, ev, ofValue, St.put, List.getElem?_cons_succ, List.getElem?_cons_zero, Option.getD_some, Option.map_some, if_true, List.set_cons_succ, List.set_cons_zero, and_self, b3, nat_succ hbig]
      with_reducible refine hR _ ?_
      clear hR R
      show ∃ m, m < _ ∧ _
      have hno : (M[j].proc == (p.procs.length : Int) + 1) = false := by first | assumption | (simp_all; done)
      have hsame := bkK_no hlt hno
      exact ⟨M.length - (j + 1), by omega, j + 1, _, _, by rw [hsame]; rfl, rfl, by omega, (BFL.slot (by repeat first | exact .nil | apply BFL.cons (.inl rfl) | apply BFL.cons (hx _) | apply BFL.cons (.inr (.inl rfl)) | apply BFL.cons (.inr (.inr ⟨j, hlt, rfl⟩)) | apply BFL.cons (.inl (dG_avoid _ _)) | apply BFL.cons (.inl (dN_avoid _ _)) | apply BFL.cons (.inl (by (simp only [D.avoid, hQU, hLF]; done)))))⟩
  · intro b4
    have c4 := b4
    try simp only [decide_eq_false_iff_not] at c4
    refine S_exit ?_
    show S _ _ _ _ _
    refine S_seq ?_
    have hjq : j = M.length := by first | omega | (simp_all; omega)
    subst hjq
    rw [bkK_all, hML]
    have hx2 : ∀ t, ∃ d, Fz 4 (cF L) (x t) d := fun t => BF.fz (by rw [← hlm]; exact hx t)
    obtain ⟨y, hy⟩ := Classical.axiomOfChoice hx2
    have hrow : Fz 4 (cF L) (.bsl 4 0 4 M.length) (.slice .imm 4 (L.map dFt)) := Fz.row rfl (by simp [hlm]) (by omega) (dFt_len L)
    apply S_freeze (i := 4) (t0 := 8) (d0 := .bsl 4 0 4 M.length) (cs := cF L) (Nat.zero_le _) rfl (.inr ⟨_, _, _, rfl⟩) rfl (cF_av 4 _)
    · dsimp only
      repeat first
          | exact .nil
          | apply FzL.cons (.keep _ rfl)
          | apply FzL.cons (hy _)
          | apply FzL.cons hrow
          | apply FzL.cons (.keep _ (by (simp only [D.avoid, hLF]; done)))
    · dsimp only
      repeat first
          | exact .nil _
          | apply FzB.self (c' := []) rfl
          | apply FzB.keep rfl
          | apply FzB.keep (by (simp only [D.avoid, D.avoids, dVs_avoid, dPs_avoid, dNs_avoid2, hQU, hVU, Bool.and_self]; done))
    show S _ _ _ _ _
    refine S_of_X EV_ok (by kernel_rfl) ?_
    refine X_rg fun R hR => ?_
    simp only [EVP, inr_i64, Int.reduceLE, Int.reduceNeg, aops, astep, awant, aeff, aop, abin, aint, ev, ofValue, St.put, pcall, List.map_cons, List.map_nil, List.getElem?_cons_succ, List.getElem?_cons_zero, Option.getD_some, Option.map_some, Option.bind_some, if_true, List.set_cons_succ, List.set_cons_zero, List.cons_append, List.nil_append, and_self, beq_self_eq_true, any27, b4, heq]
    with_reducible refine hR _ ?_
    clear hR R
    show S _ _ _ _ _
    refine S_ret ?_
    refine ⟨.inr rfl, .bool true, ?_, rfl, rfl⟩
    simp only [resD, resAll, resOne, resTup, Try.results6, List.getElem?_cons_succ, List.getElem?_cons_zero, D.good, if_true, Option.map_some]

end Go.Proofs.Ytjikokmhknnnoaa
