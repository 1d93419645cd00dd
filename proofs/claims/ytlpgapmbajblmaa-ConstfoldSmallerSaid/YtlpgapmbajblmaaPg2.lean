/- constfold.Program: its contract. -/
import Derived.Test.YtlpgapmbajblmaaPg
import Derived.Test.YtlpgapmbajblmaaAmZ
namespace Go.Proofs.Ytlpgapmbajblmaa
open Go.RowKit

mutual
theorem dN_avoid (i : Nat) : ∀ t : Tr, (dN t).avoid i = true
 | .mk k n s c => by simp only [dN, D.avoid, D.avoids, dNs_avoid i c, Bool.and_true]
theorem dNs_avoid (i : Nat) : ∀ c : List Tr, D.avoids i (dNs c) = true
 | [] => rfl
 | t :: r => by simp only [dNs, D.avoids, dN_avoid i t, dNs_avoid i r, Bool.and_true]
end
theorem map_avoid {α : Type} {f : α → D} {i : Nat} (h : ∀ x, (f x).avoid i = true) (l : List α) : D.avoids i (l.map f) = true := by
 rw [D.avoids_all, List.all_eq_true]; intro x hx; obtain ⟨y, _, rfl⟩ := List.mem_map.1 hx; exact h y
theorem dNs_avoid2 (i : Nat) (c : List Tr) : D.avoids i (c.map dN) = true := map_avoid (dN_avoid i) c
theorem dVs_avoid (i : Nat) (c : List Vd) : D.avoids i (c.map dV) = true := map_avoid (fun _ => rfl) c
theorem dP_avoid (i : Nat) (p : Pr) : (dP p).avoid i = true := by simp only [dP, D.avoid, D.avoids, sl, dVs_avoid, dNs_avoid2, Bool.and_self]
theorem dPs_avoid (i : Nat) (c : List Pr) : D.avoids i (c.map dP) = true := map_avoid (dP_avoid i) c
theorem dG_avoid (i : Nat) (p : Pg) : (dG p).avoid i = true := by simp only [dG, D.avoid, D.avoids, sl, dVs_avoid, dPs_avoid, dNs_avoid2, Bool.and_self]
/-- within the bounds of the contract -/
structure PgOk (p : Pg) : Prop where
 v : p.vars.length ≤ 1000000
 q : p.procs.length ≤ 1000000
 m : p.main.size ≤ 1000000
 pp : ∀ f ∈ p.procs, f.params.length ≤ 1000000 ∧ f.body.size ≤ 1000000
/-- a program with all bodies rewritten -/
def mapG (h : Tr → Tr) (p : Pg) : Pg := ⟨p.vars, p.procs.map (fun f => ⟨f.name, f.params, h f.body⟩), h p.main⟩
def progT (p : Pg) : Pg := if validB p then mapG stmtT p else p
theorem mapG_id (p : Pg) : mapG (fun t => t) p = p := by
 cases p with
 | mk v q m =>
  simp only [mapG]
  congr 1
  have : ∀ l : List Pr, l.map (fun f => (⟨f.name, f.params, f.body⟩ : Pr)) = l := fun l => by
   induction l with
   | nil => rfl
   | cons a r ih => simp only [zmc, ih]
  exact this q
theorem valid_main {p : Pg} (h : validB p = true) : catK p.main := by
 simp only [validB, bodyB, zat] at h
 exact ⟨2, by rw [cat2]; exact h.2.2⟩
theorem valid_proc {p : Pg} (h : validB p = true) {f : Pr} (hf : f ∈ p.procs) : catK f.body := by
 simp only [validB, zat] at h
 have h1 := List.all_eq_true.1 h.1.2 f hf
 simp only [procB, bodyB, zat] at h1
 exact ⟨2, by rw [cat2]; exact h1.2.2⟩
set_option maxRecDepth 100000 in
set_option maxHeartbeats 4000000 in
theorem prog_yes (p : Pg) (ho : PgOk p) (hv : validB p = true) : PContract Try.prog 31 [dG p] (dG (mapG stmtT p)) := by
 refine S_pure (f := _) Try.func31 rfl (by rw [List.all_cons, List.all_nil, dG_under]; rfl) (by show [(dG p).strip] = _; rw [dG_strip]) ?_
 simp only [enterSt, Try.ntmps31, zlc, zln, Nat.reduceAdd, Nat.reduceSub, zr1, zr0, zca, zna]
 refine S_seq ?_
 refine S_of_X EV_ok (by kernel_rfl) ?_
 refine X_rg fun R hR => ?_
 simp only [EVP, aops, astep, awant, aeff, ev, St.put, zg0, zgd, zmo, zbs, if_true, zs1, zs0, zlc, zln, zca, zna, Nat.zero_add, ty_api_Program, dG_cells, dG_good]
 with_reducible refine hR _ ?_
 clear hR R
 show S _ _ _ _ _
 refine S_seq ?_
 refine S_of_X EV_ok (by kernel_rfl) ?_
 refine X_rg fun R hR => ?_
 simp only [EVP, aops, astep, awant, aeff, astore, ev, St.put, gd_fn, cl_fn, zg1, zg0, zgd, zmo, zbs, if_true, zs1, zs0, zlc, zln, zd1, zd0, zt0, zca, zna, Nat.reduceAdd, Nat.reduceLeDiff, Nat.zero_add, and_self, ty_func_api_Node__api_Node]
 with_reducible refine hR _ ?_
 clear hR R
 show S _ _ _ _ _
 refine S_seq ?_
 refine S_seq ?_
 have hV := valid_fn p
 rw [hv] at hV
 refine S_of_X EV_ok (by kernel_rfl) ?_
 refine X_rg fun R hR => ?_
 simp only [EVP, aops, astep, awant, aeff, aop, mkD, ev, St.put, pcall, zmc, zmn, zg1, zg0, zgd, zmo, if_true, zs1, zs0, zlc, zln, zd0, zt1, zt0, zca, zna, Nat.reduceAdd, Nat.reduceLeDiff, Nat.zero_add, ty_api_Program, any33, dG_agg, hV]
 with_reducible refine hR _ ?_
 clear hR R
 show S _ _ _ _ _
 refine S_true (by simp only [ev, zg1, zg0, zgd]) ?_
 refine S_of_X EV_ok (by kernel_rfl) ?_
 refine X_rg fun R hR => ?_
 simp only [EVP, aops, astep, awant, aeff, astore, ev, St.put, gd_fn, cl_fn, zg1, zg0, zgd, zmo, if_true, zs1, zs0, zlc, zln, zd1, zd0, zt0, zca, zna, Nat.reduceLeDiff, Nat.zero_add, and_self, ty_func_api_Node__api_Node]
 with_reducible refine hR _ ?_
 clear hR R
 show S _ _ _ _ _
 refine S_seq ?_
 apply S_freeze (i := 2) (t0 := 3) (d0 := .ptr 2 0) (Nat.zero_le _) rfl (.inl ⟨_, rfl⟩) rfl rfl
 ·dsimp only
  repeat first
    | exact .nil
    | apply FzL.cons (.keep _ rfl)
    | apply FzL.cons (.keep _ (dG_avoid _ _))
    | apply FzL.cons (Fz.ptr 0 1 (.fn 53 []) rfl (Nat.le_refl _))
 ·dsimp only
  repeat first
    | exact .nil _
    | apply FzB.self (c' := []) rfl
    | apply FzB.keep (by (simp only [D.avoid, D.avoids, dVs_avoid, dPs_avoid, dNs_avoid2, Bool.and_self]; done))
    | apply FzB.keep rfl
 show S _ _ _ _ _
 have hC := cloneV_fn p.vars ho.v
 have hE := (eachPP any56 (.elem (.fn 53 [])) rfl rfl p.procs (fun f => dP ⟨f.name, f.params, stmtT f.body⟩) ho.q (fun f hf => pr1_fn any53 f (stmtT f.body) (ho.pp f hf).1 (stmt_fn f.body (ho.pp f hf).2 (valid_proc hv hf))) (fun _ => rfl) (fun _ => rfl) (fun _ => dP_strip _) (fun _ => dP_under 0 _)).trans (congrArg some (congrArg (sl 6) (show _ = (mapG stmtT p).procs.map dP from by simp only [mapG, List.map_map]; rfl)))
 have hM := stmt_fn p.main ho.m (valid_main hv)
 simp only [sl] at hC hE
 refine S_of_X EV_ok (by kernel_rfl) ?_
 refine X_rg fun R hR => ?_
 simp only [EVP, aops, astep, awant, aeff, aop, mkD, afill, astore, ev, ofValue, St.put, pcall, gd_agg, cl_agg, gd_slice, ia_slice, cl_slice, gd_elem, ia_elem, ia_fn, cl_fn, zmc, zmn, zg1, zg0, zgd, zmo, if_true, zs1, zs0, zlc, zln, zd1, zd0, zt1, zt0, zca, zna, Nat.reduceAdd, Nat.reduceLeDiff, Nat.zero_add, Nat.add_zero, Bool.and_true, Bool.not_false, zft, if_false, and_self, reduceCtorEq, List.all_cons, List.all_nil, Array.isEmpty_empty, ty_s_api_VarDecl, ty_s_api_Proc, ty_api_Node, ty_api_Program, st_api_Program, sta_api_Program, ty_func_api_Node__api_Node, any53, any54, any55, dN_agg, dN_cells, dN_good, sl, hC, hE, hM]
 with_reducible refine hR _ ?_
 clear hR R
 show S _ _ _ _ _
 refine S_ret ?_
 refine ⟨.inr rfl, dG (mapG stmtT p), ?_, dG_under 0 _, dG_strip _⟩
 simp only [resD, resAll, resOne, resTup, Try.results31, mkD, ty_api_Program, zg1, zg0, zd0, zt1, zt0, zlc, zln, Nat.reduceAdd, Nat.reduceLeDiff, Nat.zero_add, if_true, zmo]; try rfl
set_option maxRecDepth 100000 in
set_option maxHeartbeats 4000000 in
theorem prog_no (p : Pg) (ho : PgOk p) (hv : validB p = false) : PContract Try.prog 31 [dG p] (dG (mapG (fun t => t) p)) := by
 refine S_pure (f := _) Try.func31 rfl (by rw [List.all_cons, List.all_nil, dG_under]; rfl) (by show [(dG p).strip] = _; rw [dG_strip]) ?_
 simp only [enterSt, Try.ntmps31, zlc, zln, Nat.reduceAdd, Nat.reduceSub, zr1, zr0, zca, zna]
 refine S_seq ?_
 refine S_of_X EV_ok (by kernel_rfl) ?_
 refine X_rg fun R hR => ?_
 simp only [EVP, aops, astep, awant, aeff, ev, St.put, zg0, zgd, zmo, zbs, if_true, zs1, zs0, zlc, zln, zca, zna, Nat.zero_add, ty_api_Program, dG_cells, dG_good]
 with_reducible refine hR _ ?_
 clear hR R
 show S _ _ _ _ _
 refine S_seq ?_
 refine S_of_X EV_ok (by kernel_rfl) ?_
 refine X_rg fun R hR => ?_
 simp only [EVP, aops, astep, awant, aeff, astore, ev, St.put, gd_fn, cl_fn, zg1, zg0, zgd, zmo, zbs, if_true, zs1, zs0, zlc, zln, zd1, zd0, zt0, zca, zna, Nat.reduceAdd, Nat.reduceLeDiff, Nat.zero_add, and_self, ty_func_api_Node__api_Node]
 with_reducible refine hR _ ?_
 clear hR R
 show S _ _ _ _ _
 refine S_seq ?_
 refine S_seq ?_
 have hV := valid_fn p
 rw [hv] at hV
 refine S_of_X EV_ok (by kernel_rfl) ?_
 refine X_rg fun R hR => ?_
 simp only [EVP, aops, astep, awant, aeff, aop, mkD, ev, St.put, pcall, zmc, zmn, zg1, zg0, zgd, zmo, if_true, zs1, zs0, zlc, zln, zd0, zt1, zt0, zca, zna, Nat.reduceAdd, Nat.reduceLeDiff, Nat.zero_add, ty_api_Program, any33, dG_agg, hV]
 with_reducible refine hR _ ?_
 clear hR R
 show S _ _ _ _ _
 refine S_false (by simp only [ev, zg1, zg0, zgd]) ?_
 refine S_skip ?_
 show S _ _ _ _ _
 refine S_seq ?_
 apply S_freeze (i := 2) (t0 := 3) (d0 := .ptr 2 0) (Nat.zero_le _) rfl (.inl ⟨_, rfl⟩) rfl rfl
 ·dsimp only
  repeat first
    | exact .nil
    | apply FzL.cons (.keep _ rfl)
    | apply FzL.cons (.keep _ (dG_avoid _ _))
    | apply FzL.cons (Fz.ptr 0 1 (.fn 40 []) rfl (Nat.le_refl _))
 ·dsimp only
  repeat first
    | exact .nil _
    | apply FzB.self (c' := []) rfl
    | apply FzB.keep (by (simp only [D.avoid, D.avoids, dVs_avoid, dPs_avoid, dNs_avoid2, Bool.and_self]; done))
    | apply FzB.keep rfl
 show S _ _ _ _ _
 have hC := cloneV_fn p.vars ho.v
 have hE := (eachPP any56 (.elem (.fn 40 [])) rfl rfl p.procs (fun f => dP ⟨f.name, f.params, (fun t => t) f.body⟩) ho.q (fun f hf => pr1_fn any40 f ((fun t => t) f.body) (ho.pp f hf).1 (o_ast_Clone f.body (ho.pp f hf).2)) (fun _ => rfl) (fun _ => rfl) (fun _ => dP_strip _) (fun _ => dP_under 0 _)).trans (congrArg some (congrArg (sl 6) (show _ = (mapG (fun t => t) p).procs.map dP from by simp only [mapG, List.map_map]; rfl)))
 have hM := o_ast_Clone p.main ho.m
 simp only [sl] at hC hE
 refine S_of_X EV_ok (by kernel_rfl) ?_
 refine X_rg fun R hR => ?_
 simp only [EVP, aops, astep, awant, aeff, aop, mkD, afill, astore, ev, ofValue, St.put, pcall, gd_agg, cl_agg, gd_slice, ia_slice, cl_slice, gd_elem, ia_elem, ia_fn, cl_fn, zmc, zmn, zg1, zg0, zgd, zmo, if_true, zs1, zs0, zlc, zln, zd1, zd0, zt1, zt0, zca, zna, Nat.reduceAdd, Nat.reduceLeDiff, Nat.zero_add, Nat.add_zero, Bool.and_true, Bool.not_false, zft, if_false, and_self, reduceCtorEq, List.all_cons, List.all_nil, Array.isEmpty_empty, ty_s_api_VarDecl, ty_s_api_Proc, ty_api_Node, ty_api_Program, st_api_Program, sta_api_Program, ty_func_api_Node__api_Node, any40, any54, any55, dN_agg, dN_cells, dN_good, sl, hC, hE, hM]
 with_reducible refine hR _ ?_
 clear hR R
 show S _ _ _ _ _
 refine S_ret ?_
 refine ⟨.inr rfl, dG (mapG (fun t => t) p), ?_, dG_under 0 _, dG_strip _⟩
 simp only [resD, resAll, resOne, resTup, Try.results31, mkD, ty_api_Program, zg1, zg0, zd0, zt1, zt0, zlc, zln, Nat.reduceAdd, Nat.reduceLeDiff, Nat.zero_add, if_true, zmo]; try rfl
theorem prog_any (p : Pg) (ho : PgOk p) : PContract Try.prog 31 [dG p] (dG (progT p)) := by
 unfold progT
 cases hv : validB p with
 | true => exact prog_yes p ho hv
 | false =>
  have := prog_no p ho hv
  rw [mapG_id] at this
  simpa using this

end Go.Proofs.Ytlpgapmbajblmaa
