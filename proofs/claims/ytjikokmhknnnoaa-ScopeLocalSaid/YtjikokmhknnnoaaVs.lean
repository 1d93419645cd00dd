/- A region that draws its order and stores into a variable that it finds. Over any program. -/
import Derived.Test.YtjikokmhknnnoaaAmZ
import Derived.Test.YtjikokmhknnnoaaSc2
namespace Go.Proofs.Ytjikokmhknnnoaa
open Go.RowKit

section
variable {fl : Array Oper → Nat → Oper → Bool} {P : Program} {base : Nat} {w0 : World} {ok0 : Gh} {pc : Nat → List D → Option D} {call : Nat → List D → St → Option (D × St)} {ops : Array Oper} {c : Nat} {g0 : Gh} {a0 : Act} {w1 : World} {σ σc σ' : St} {ro : Option Nat} {n : Nat} {Q : Exit → Act → World → Prop}
theorem draw_wpV {id i0 : Nat} (hlt : i0 < σ.bx.length) (hp : ∀ o ty t x, ops[c]? = some o → o.op = .store ty (.tmp t) x → ev σc.fr (.tmp t) = .ptr i0 0) (hap : Apart i0 σc.fr (ops.toList.take c))
    (hm : P.follows .mixedOrders = true) (hpc : PCallOk P pc) (hcall : CallOk P base w0 ok0 call) (hok : drawOkF floatV ops c = true) (hc : c ≤ ops.size) (hrel : Rel P base w0 ok0 g0 σ a0 w1)
    (h1 : aops P (pcall pc) ops.toList (ops.toList.take c) σ = some σc) (h2 : aops P call ops.toList (ops.toList.drop c) σc = some σ')
    (hQ : ∀ a' w' g', Rel P base w0 ok0 g' σ' a' w' → Ext g0 w1 g' w' → a'.defers = a0.defers → Q .normal a' w') : (Code.region id ops true).wpIn (fence ro) n P Q a0 w1 :=
  draw_wpF (fl := floatV) (fun _ _ _ _ _ T e1 e2 _ o ho hfl _ => ⟨i0, .ext T hok hc hfl (by rw [e1]; exact hlt) (fun ty t x q => by rw [e2]; exact hp o ty t x ho q) (by rw [e2]; exact hap)⟩) hm hpc hcall hok hc hrel h1 h2 hQ
end

def notAt (i : Nat) : D → Bool
 | .ptr j _ => j != i
 | _ => true
def ldT (l : List Oper) : List Nat := l.filterMap fun o => match o.op with
 | .load _ (.tmp r) => some r
 | _ => none
def stT (ops : List Oper) (c : Nat) : Option Nat := match ops[c]? with
 | some o => (match o.op with
  | .store _ (.tmp t) _ => some t
  | _ => none)
 | none => none
theorem apart_of {i : Nat} {fr : List D} {l : List Oper} {ts : List Nat} (h1 : ldT l = ts) (h2 : (ts.all fun r => notAt i (ev fr (.tmp r))) = true) : Apart i fr l := by
 intro o ho t r off hop e
 have hm : r ∈ ts := by rw [← h1]; exact List.mem_filterMap.2 ⟨o, ho, by rw [hop]⟩
 have := List.all_eq_true.1 h2 r hm
 rw [e] at this
 simp [notAt] at this
theorem S_dv {E : Env} (hE : E.Ok) {ca : Nat → List D → St → Option (D × St)} (hca : CaOk E.P ca) {B id : Nat} {ops : List Oper} {σ : St} {Q : Ex → St → Prop} (c i t : Nat) (ts : List Nat) (hc : c ≤ ops.length) (hok : drawOkF floatV ops.toArray c = true) (hlt : i < σ.bx.length) (hst : stT ops c = some t) (hld : ldT (ops.take c) = ts)
  (h : ∀ R : Option St → Prop, (∀ σ1, ev σ1.fr (.tmp t) = .ptr i 0 → (ts.all fun r => notAt i (ev σ1.fr (.tmp r))) = true → (∀ R' : Option St → Prop, (∀ σ', Q .normal σ' → R' (some σ')) → R' (aops E.P ca ops (ops.drop c) σ1)) → R (some σ1)) → R (aops E.P (pcall (fn E)) ops (ops.take c) σ)) : S E.P B (.region id ops.toArray true) σ Q := by
 obtain ⟨σ1, h1, h2, h3, h4⟩ := h (fun o => ∃ σ1, o = some σ1 ∧ ev σ1.fr (.tmp t) = .ptr i 0 ∧ (ts.all fun r => notAt i (ev σ1.fr (.tmp r))) = true ∧ ∃ σ', aops E.P ca ops (ops.drop c) σ1 = some σ' ∧ Q .normal σ') fun σ1 q1 q2 hq => ⟨σ1, rfl, q1, q2, hq (fun o => ∃ σ', o = some σ' ∧ Q .normal σ') fun σ' q => ⟨σ', rfl, q⟩⟩
 obtain ⟨σ', h5, hq⟩ := h4
 intro base w0 ok0 gs ws ds T g a w hβ hsz hrel hext hmk hT
 have hp : PCallOk E.P (fn E) := fun k args d h => fn_sound E hE h
 refine draw_wpV (c := c) (i0 := i) hlt (fun o ty t' x ho hop => ?_) (apart_of (by simpa using hld) h3) hE.mixed hp (hca _ _ _) hok (by simpa using hc) hrel (by simpa using h1) (by simpa using h5) (fun a' w' g' q1 q2 q3 => hT .normal σ' a' w' g' hq q1 (hext.trans q2) (hmk.trans q2 hsz (.of_eq q3)))
 have : t' = t := by
  unfold stT at hst
  rw [show ops[c]? = some o from by simpa using ho] at hst
  simp only [hop, Option.some.injEq] at hst
  exact hst
 subst this
 exact h2
end Go.Proofs.Ytjikokmhknnnoaa

/- Brought in from another claim of the seat. -/
namespace Go.Proofs.Ytjikokmhknnnoaa
open Go.RowKit

theorem any54 : (Try.prog.funcs[54]?).any (fun fn => fn.body.isSome && fn.name != "runtime.NumGoroutine") = true := by kernel_rfl
set_option maxRecDepth 100000 in
set_option maxHeartbeats 4000000 in
theorem cloneV_fn1 (l : List Vd) (h0 : l.length ≠ 0) (hl : l.length ≤ 1000000) : fn EV 54 [sl 3 (l.map dV)] = some (sl 3 (l.map dV)) := by
 have hn : (if (l.map dV).isEmpty = true then 0 else 3) = 3 := sl_n (j := 0) (by simp; omega)
 refine fn_Xs rfl Try.func54 rfl (by simp only [plain, List.all_cons, List.all_nil, sl_pl (f := dV) (fun _ _ => rfl), Bool.and_true]) (by cases l with | nil => exact absurd rfl h0 | cons a r => rfl) ?_
 simp only [zmc, zmn, sl_strip (map_strip (f := dV) (fun _ => rfl) _)]
 simp only [enterSt, Try.ntmps54, zlc, zln, Nat.reduceAdd, Nat.reduceSub, zr1, zr0, zca, zna]
 refine X_seq ?_
 refine X_rg fun R hR => ?_
 simp only [aops, astep, awant, aeff, aop, ev, ofValue, St.put, zgd, zmo, if_true, zs1, zs0, sl]
 with_reducible refine hR _ ?_
 clear hR R
 show X _ _ _ _
 refine X_seq ?_
 refine X_seq ?_
 refine X_rg fun R hR => ?_
 simp only [EVP, aops, astep, awant, aeff, aop, abin, ev, ofValue, St.put, zg1, zg0, zgd, zmo, if_true, zs1, zs0, if_false, reduceCtorEq, und_api_VarDecl, sl_ne h0]
 with_reducible refine hR _ ?_
 clear hR R
 show X _ _ _ _
 refine X_false (by simp only [ev, zg1, zg0, zgd]) ?_
 refine X_skip ?_
 show X _ _ _ _
 refine X_seq ?_
 have hap := fun fr => Acc.app (P := Try.prog) (σ := ⟨fr, [], 1, [0]⟩) (t := 22) (e := 34) (o := .own 0 34) (n := 3) (L := []) (o2 := .imm) (l2 := l.map dV) (.own (by simp)) und_api_VarDecl inf_api_VarDecl_eq inf_api_VarDecl_size (by omega) (by rw [inf_api_VarDecl_bytes]; omega) inf_api_VarDecl_zc (by simp; omega) (by rw [ne_eq, sl_ne h0]; simp)
 refine X_rg fun R hR => ?_
 simp only [EVP, aops, astep, awant, aeff, aop, abuild, ev, ofValue, St.put, zmn, zg1, zg0, zgd, zmo, if_true, zs1, zs0, zna, Nat.reduceAdd, Nat.reduceLeDiff, Nat.reduceLT, Nat.zero_add, and_self, List.all_nil, Nat.reduceMul, rng_0, und_api_VarDecl, inf_api_VarDecl_eq, inf_api_VarDecl_size, inf_api_VarDecl_zero, hap, hn]
 with_reducible refine hR _ ?_
 clear hR R
 show X _ _ _ _
 refine X_ret ?_
 show ∃ d, resD _ _ _ = some d ∧ _ ∧ _
 simp only [resD, resAll, resOne, resTup, Try.results54, EVP, zg1, zg0, D.good, if_true, zmo]
 refine ⟨_, rfl, ?_, ?_⟩
 ·simp only [D.under, unders_id (f := dV) (fun _ _ => rfl)]
 ·simp only [D.strip, strips_id (f := dV) (fun _ => rfl), Own.st, sl, hn]
theorem cloneV_fn (l : List Vd) (hl : l.length ≤ 1000000) : fn EV 54 [sl 3 (l.map dV)] = some (sl 3 (l.map dV)) := by
 by_cases h0 : l.length = 0
 ·rw [List.length_eq_zero_iff] at h0
  subst h0
  exact fn_orc EV rfl rfl
 ·exact cloneV_fn1 l h0 hl

end Go.Proofs.Ytjikokmhknnnoaa

/- scope.Visible. -/
namespace Go.Proofs.Ytjikokmhknnnoaa
open Go.RowKit


/-- the declarations that are visible at the end of a path -/
def visW : List Int → Tr → List Vd → Option (List Vd)
 | [], _, vs => some vs
 | i :: r, t, vs => if 0 ≤ i then (match t.kids[i.toNat]? with
  | some k => visW r k (innerV t i vs)
  | none => none) else none
theorem visW_in {i : Int} {j : Nat} {r : List Int} {t : Tr} {vs : List Vd} (e : i = (j : Int)) (hj : j < t.kids.length) : visW (i :: r) t vs = visW r t.kids[j] (innerV t i vs) := by
 subst e
 rw [visW, if_pos (by omega), Int.toNat_natCast, List.getElem?_eq_getElem hj]
theorem visW_neg {i : Int} {r : List Int} {t : Tr} {vs : List Vd} (h : i < 0) : visW (i :: r) t vs = none := by rw [visW, if_neg (by omega)]
theorem visW_big {i : Int} {r : List Int} {t : Tr} {vs : List Vd} (h : (t.kids.length : Int) ≤ i) : visW (i :: r) t vs = none := by
 rw [visW, List.getElem?_eq_none (by omega)]
 split <;> rfl
theorem visW_drop (l : List Int) (j : Nat) (hj : j < l.length) (t : Tr) (vs : List Vd) : visW (l.drop j) t vs = visW (l[j] :: l.drop (j + 1)) t vs := by rw [List.drop_eq_getElem_cons hj]
theorem innerV_le (t : Tr) (i : Int) (vs : List Vd) : (innerV t i vs).length ≤ vs.length + 1 := by unfold innerV; split <;> (try split) <;> simp
/-- the body of a procedure, or the main block -/
def bdT (p : Pg) (q : Int) : Tr := if h : 0 ≤ q ∧ q < (p.procs.length : Int) then (p.procs[q.toNat]'(by omega)).body else p.main
def bdV (p : Pg) (q : Int) : List Vd := if h : 0 ≤ q ∧ q < (p.procs.length : Int) then (p.procs[q.toNat]'(by omega)).params else p.vars
def visD (e : Int) : Option (List Vd) → D
 | some l => .tup [sl 3 (l.map dV), .int .i64 0]
 | none => .tup [sl 3 (([] : List Vd).map dV), .int .i64 e]
/-- what Visible answers for a valid program -/
def visA (p : Pg) (q : Int) (path : List Int) : D := if 0 ≤ q ∧ q ≤ (p.procs.length : Int) then visD 21 (visW path (bdT p q) (bdV p q)) else visD 2 none
theorem visD_u (e : Int) (o : Option (List Vd)) : (visD e o).under 0 = true := by
 cases o with
 | none => rfl
 | some l => simp only [visD, D.under, D.unders, sl_under (map_under (f := dV) (fun _ => rfl) l), Bool.and_true]
theorem visD_s (e : Int) (o : Option (List Vd)) : (visD e o).strip = visD e o := by
 cases o with
 | none => rfl
 | some l => simp only [visD, D.strip, D.strips, sl_strip (map_strip (f := dV) (fun _ => rfl) l)]
set_option maxRecDepth 100000 in
set_option maxHeartbeats 4000000 in
theorem vis_bad (p : Pg) (q : Int) (path : List Int) (hv : validB p = false) : PContract Try.prog 33 [dG p, .int .i64 q, sl 1 (path.map dI)] (visD 3 none) := by
 refine S_pure (f := _) Try.func33 rfl (by show (((dG p).under 0 && (dG p).good) && (((D.int .i64 q).under 0 && (D.int .i64 q).good) && (((sl 1 (path.map dI)).under 0 && (sl 1 (path.map dI)).good) && true))) = true; rw [dG_pl, int_pl, sl_pl (f := dI) (fun _ _ => rfl)]; rfl) (by show [(dG p).strip, (D.int .i64 q).strip, (sl 1 (path.map dI)).strip] = _; rw [dG_strip, sl_strip (map_strip (f := dI) (fun _ => rfl) _)]; rfl) ?_
 simp only [enterSt, Try.ntmps33, zlc, zln, Nat.reduceAdd, Nat.reduceSub, zr1, zr0, zca, zna]
 refine S_seq ?_
 refine S_of_X EV_ok (by kernel_rfl) ?_
 refine X_rg fun R hR => ?_
 simp only [inr_i64, Int.reduceLE, Int.reduceNeg, aops, astep, awant, aeff, aop, ev, ofValue, St.put, zg0, zgd, zmo, if_true, zs1, zs0, zln, zna, and_self, sl, dG_cells, dG_good]
 with_reducible refine hR _ ?_
 clear hR R
 show S _ _ _ _ _
 refine S_seq ?_
 refine S_seq ?_
 have hva := valid_fn p
 rw [hv] at hva
 refine S_of_X EV_ok (by kernel_rfl) ?_
 refine X_rg fun R hR => ?_
 simp only [EVP, aops, astep, awant, aeff, aop, mkD, ev, St.put, pcall, zmc, zmn, zg1, zg0, zgd, zmo, if_true, zs1, zs0, zlc, zln, zd0, zt1, zt0, zca, zna, Nat.reduceAdd, Nat.reduceLeDiff, Nat.zero_add, Bool.not_false, ty_api_Program, any17, dG_agg, hva]
 with_reducible refine hR _ ?_
 clear hR R
 show S _ _ _ _ _
 refine S_true (by simp only [ev, zg1, zg0, zgd]) ?_
 refine S_seq ?_
 refine S_of_X EV_ok (by kernel_rfl) ?_
 refine X_rg fun R hR => ?_
 simp only [inr_i64, Int.reduceLE, Int.reduceNeg, aops, astep, awant, aeff, aop, ev, ofValue, St.put, zgd, zmo, if_true, zs1, zs0, and_self]
 with_reducible refine hR _ ?_
 clear hR R
 show S _ _ _ _ _
 refine S_ret ?_
 refine ⟨.inr rfl, .tup [.slice .nil 0 [], .int .i64 3], ?_, rfl, rfl⟩
 simp only [resD, resAll, resOne, resTup, Try.results33, zg1, zg0, D.good, if_true, zmo]
set_option maxRecDepth 100000 in
set_option maxHeartbeats 4000000 in
theorem vis_neg (p : Pg) (q : Int) (path : List Int) (hv : validB p = true) (h : q < 0) : PContract Try.prog 33 [dG p, .int .i64 q, sl 1 (path.map dI)] (visD 2 none) := by
 refine S_pure (f := _) Try.func33 rfl (by show (((dG p).under 0 && (dG p).good) && (((D.int .i64 q).under 0 && (D.int .i64 q).good) && (((sl 1 (path.map dI)).under 0 && (sl 1 (path.map dI)).good) && true))) = true; rw [dG_pl, int_pl, sl_pl (f := dI) (fun _ _ => rfl)]; rfl) (by show [(dG p).strip, (D.int .i64 q).strip, (sl 1 (path.map dI)).strip] = _; rw [dG_strip, sl_strip (map_strip (f := dI) (fun _ => rfl) _)]; rfl) ?_
 simp only [enterSt, Try.ntmps33, zlc, zln, Nat.reduceAdd, Nat.reduceSub, zr1, zr0, zca, zna]
 refine S_seq ?_
 refine S_of_X EV_ok (by kernel_rfl) ?_
 refine X_rg fun R hR => ?_
 simp only [inr_i64, Int.reduceLE, Int.reduceNeg, aops, astep, awant, aeff, aop, ev, ofValue, St.put, zg0, zgd, zmo, if_true, zs1, zs0, zln, zna, and_self, sl, dG_cells, dG_good]
 with_reducible refine hR _ ?_
 clear hR R
 show S _ _ _ _ _
 refine S_seq ?_
 refine S_seq ?_
 have hva := valid_fn p
 rw [hv] at hva
 refine S_of_X EV_ok (by kernel_rfl) ?_
 refine X_rg fun R hR => ?_
 simp only [EVP, aops, astep, awant, aeff, aop, mkD, ev, St.put, pcall, zmc, zmn, zg1, zg0, zgd, zmo, if_true, zs1, zs0, zlc, zln, zd0, zt1, zt0, zca, zna, Nat.reduceAdd, Nat.reduceLeDiff, Nat.zero_add, Bool.not_true, ty_api_Program, any17, dG_agg, hva]
 with_reducible refine hR _ ?_
 clear hR R
 show S _ _ _ _ _
 refine S_false (by simp only [ev, zg1, zg0, zgd]) ?_
 refine S_skip ?_
 show S _ _ _ _ _
 refine S_seq ?_
 refine S_seq ?_
 have hlt0 : decide (q < 0) = true := by simp; omega
 refine S_of_X EV_ok (by kernel_rfl) ?_
 refine X_rg fun R hR => ?_
 simp only [EVP, inr_i64, Int.reduceLE, Int.reduceNeg, aops, astep, awant, aeff, aop, abin, aint, ev, ofValue, St.put, zg1, zg0, zgd, zmo, Option.map_none, zbs, if_true, zs1, zs0, Nat.zero_add, zft, if_false, and_self, reduceCtorEq, bq_tf, ty_s_api_Proc, ty_api_Program, und_api_Proc, hlt0]
 with_reducible refine hR _ ?_
 clear hR R
 show S _ _ _ _ _
 refine S_true (by simp only [ev, zg1, zg0, zgd]) ?_
 refine S_seq ?_
 refine S_of_X EV_ok (by kernel_rfl) ?_
 refine X_rg fun R hR => ?_
 simp only [inr_i64, Int.reduceLE, Int.reduceNeg, aops, astep, awant, aeff, aop, ev, ofValue, St.put, zgd, zmo, if_true, zs1, zs0, and_self]
 with_reducible refine hR _ ?_
 clear hR R
 show S _ _ _ _ _
 refine S_ret ?_
 refine ⟨.inr rfl, .tup [.slice .nil 0 [], .int .i64 2], ?_, rfl, rfl⟩
 simp only [resD, resAll, resOne, resTup, Try.results33, zg1, zg0, D.good, if_true, zmo]
set_option maxRecDepth 100000 in
set_option maxHeartbeats 4000000 in
theorem vis_far (p : Pg) (q : Int) (path : List Int) (hv : validB p = true) (h : (p.procs.length : Int) < q) : PContract Try.prog 33 [dG p, .int .i64 q, sl 1 (path.map dI)] (visD 2 none) := by
 refine S_pure (f := _) Try.func33 rfl (by show (((dG p).under 0 && (dG p).good) && (((D.int .i64 q).under 0 && (D.int .i64 q).good) && (((sl 1 (path.map dI)).under 0 && (sl 1 (path.map dI)).good) && true))) = true; rw [dG_pl, int_pl, sl_pl (f := dI) (fun _ _ => rfl)]; rfl) (by show [(dG p).strip, (D.int .i64 q).strip, (sl 1 (path.map dI)).strip] = _; rw [dG_strip, sl_strip (map_strip (f := dI) (fun _ => rfl) _)]; rfl) ?_
 simp only [enterSt, Try.ntmps33, zlc, zln, Nat.reduceAdd, Nat.reduceSub, zr1, zr0, zca, zna]
 refine S_seq ?_
 refine S_of_X EV_ok (by kernel_rfl) ?_
 refine X_rg fun R hR => ?_
 simp only [inr_i64, Int.reduceLE, Int.reduceNeg, aops, astep, awant, aeff, aop, ev, ofValue, St.put, zg0, zgd, zmo, if_true, zs1, zs0, zln, zna, and_self, sl, dG_cells, dG_good]
 with_reducible refine hR _ ?_
 clear hR R
 show S _ _ _ _ _
 refine S_seq ?_
 refine S_seq ?_
 have hva := valid_fn p
 rw [hv] at hva
 refine S_of_X EV_ok (by kernel_rfl) ?_
 refine X_rg fun R hR => ?_
 simp only [EVP, aops, astep, awant, aeff, aop, mkD, ev, St.put, pcall, zmc, zmn, zg1, zg0, zgd, zmo, if_true, zs1, zs0, zlc, zln, zd0, zt1, zt0, zca, zna, Nat.reduceAdd, Nat.reduceLeDiff, Nat.zero_add, Bool.not_true, ty_api_Program, any17, dG_agg, hva]
 with_reducible refine hR _ ?_
 clear hR R
 show S _ _ _ _ _
 refine S_false (by simp only [ev, zg1, zg0, zgd]) ?_
 refine S_skip ?_
 show S _ _ _ _ _
 refine S_seq ?_
 refine S_seq ?_
 have hlt0 : decide (q < 0) = false := by simp; omega
 have hgt0 : decide (q > (p.procs.length : Int)) = true := by simp; omega
 refine S_of_X EV_ok (by kernel_rfl) ?_
 refine X_rg fun R hR => ?_
 simp only [EVP, inr_i64, Int.reduceLE, Int.reduceNeg, aops, astep, awant, aeff, aop, abin, aint, mkD, ev, ofValue, St.put, ia_slice, zg1, zg0, zgd, zmo, zbs, if_true, zs1, zs0, zlm, zlc, zln, zd1, zd0, zt1, zt0, Nat.reduceAdd, Nat.reduceLeDiff, Nat.zero_add, zft, if_false, and_self, reduceCtorEq, beq_self_eq_true, ty_s_api_Proc, ty_api_Program, und_api_Proc, hlt0, hgt0]
 with_reducible refine hR _ ?_
 clear hR R
 show S _ _ _ _ _
 refine S_true (by simp only [ev, zg1, zg0, zgd]) ?_
 refine S_seq ?_
 refine S_of_X EV_ok (by kernel_rfl) ?_
 refine X_rg fun R hR => ?_
 simp only [inr_i64, Int.reduceLE, Int.reduceNeg, aops, astep, awant, aeff, aop, ev, ofValue, St.put, zgd, zmo, if_true, zs1, zs0, and_self]
 with_reducible refine hR _ ?_
 clear hR R
 show S _ _ _ _ _
 refine S_ret ?_
 refine ⟨.inr rfl, .tup [.slice .nil 0 [], .int .i64 2], ?_, rfl, rfl⟩
 simp only [resD, resAll, resOne, resTup, Try.results33, zg1, zg0, D.good, if_true, zmo]
set_option maxRecDepth 100000 in
set_option maxHeartbeats 4000000 in
theorem visV_proc (p : Pg) (k : Nat) (path : List Int) (hv : validB p = true) (hk : k < p.procs.length) (hpl : path.length ≤ 100000) : PContract Try.prog 33 [dG p, .int .i64 (k : Int), sl 1 (path.map dI)] (visD 21 (visW path (p.procs[k].body) (p.procs[k].params))) := by
 obtain ⟨bv, bp, bq, bm, _⟩ := valid_bd hv
 obtain ⟨bq1, bq2, _⟩ := bq p.procs[k] (List.getElem_mem hk)
 refine S_pure (f := _) Try.func33 rfl (by show (((dG p).under 0 && (dG p).good) && (((D.int .i64 (k : Int)).under 0 && (D.int .i64 (k : Int)).good) && (((sl 1 (path.map dI)).under 0 && (sl 1 (path.map dI)).good) && true))) = true; rw [dG_pl, int_pl, sl_pl (f := dI) (fun _ _ => rfl)]; rfl) (by show [(dG p).strip, (D.int .i64 (k : Int)).strip, (sl 1 (path.map dI)).strip] = _; rw [dG_strip, sl_strip (map_strip (f := dI) (fun _ => rfl) _)]; rfl) ?_
 simp only [enterSt, Try.ntmps33, zlc, zln, Nat.reduceAdd, Nat.reduceSub, zr1, zr0, zca, zna]
 refine S_seq ?_
 refine S_of_X EV_ok (by kernel_rfl) ?_
 refine X_rg fun R hR => ?_
 simp only [inr_i64, Int.reduceLE, Int.reduceNeg, aops, astep, awant, aeff, aop, ev, ofValue, St.put, zg0, zgd, zmo, if_true, zs1, zs0, zln, zna, and_self, sl, sl, dG_cells, dG_good]
 with_reducible refine hR _ ?_
 clear hR R
 show S _ _ _ _ _
 refine S_seq ?_
 refine S_seq ?_
 have hva := valid_fn p
 rw [hv] at hva
 refine S_of_X EV_ok (by kernel_rfl) ?_
 refine X_rg fun R hR => ?_
 simp only [EVP, aops, astep, awant, aeff, aop, mkD, ev, St.put, pcall, zmc, zmn, zg1, zg0, zgd, zmo, if_true, zs1, zs0, zlc, zln, zd0, zt1, zt0, zca, zna, Nat.reduceAdd, Nat.reduceLeDiff, Nat.zero_add, Bool.not_true, ty_api_Program, any17, dG_agg, hva]
 with_reducible refine hR _ ?_
 clear hR R
 show S _ _ _ _ _
 refine S_false (by simp only [ev, zg1, zg0, zgd]) ?_
 refine S_skip ?_
 show S _ _ _ _ _
 refine S_seq ?_
 refine S_seq ?_
 have hlt0 : decide ((k : Int) < 0) = false := by simp; try omega
 have hgt0 : decide ((k : Int) > (p.procs.length : Int)) = false := by simp; try omega
 have hgt9 : decide (p.procs.length < k) = false := by simp; try omega
 refine S_of_X EV_ok (by kernel_rfl) ?_
 refine X_rg fun R hR => ?_
 simp only [EVP, inr_i64, Int.reduceLE, Int.reduceNeg, nat_lt, aops, astep, awant, aeff, aop, abin, aint, mkD, ev, ofValue, St.put, ia_slice, zg1, zg0, zgd, zmo, zbs, if_true, zs1, zs0, zlm, zlc, zln, zd1, zd0, zt1, zt0, Nat.reduceAdd, Nat.reduceLeDiff, Nat.zero_add, zft, if_false, and_self, reduceCtorEq, beq_self_eq_true, ty_s_api_Proc, ty_api_Program, und_api_Proc, hlt0, hgt9]
 with_reducible refine hR _ ?_
 clear hR R
 show S _ _ _ _ _
 refine S_false (by simp only [ev, zg1, zg0, zgd]) ?_
 refine S_skip ?_
 show S _ _ _ _ _
 refine S_seq ?_
 refine S_of_X EV_ok (by kernel_rfl) ?_
 refine X_rg fun R hR => ?_
 simp only [EVP, aops, astep, awant, aeff, aop, mkD, astore, ev, St.put, ia_slice, zg1, zg0, zgd, zmo, zbs, if_true, zs1, zs0, zlc, zln, zd1, zd0, zt1, zt0, zca, zna, Nat.reduceAdd, Nat.reduceLeDiff, Nat.zero_add, Nat.add_zero, zft, if_false, and_self, reduceCtorEq, ty_s_api_VarDecl, ty_api_Node, ty_api_Program, sl, dN_agg, dN_cells, dN_good, sl]
 with_reducible refine hR _ ?_
 clear hR R
 show S _ _ _ _ _
 refine S_seq ?_
 refine S_seq ?_
 have hlt1 : decide ((k : Int) < (p.procs.length : Int)) = true := by simp; try omega
 have hlt9 : decide (k < p.procs.length) = true := by simp; try omega
 refine S_of_X EV_ok (by kernel_rfl) ?_
 refine X_rg fun R hR => ?_
 simp only [EVP, nat_lt, aops, astep, awant, aeff, aop, abin, aint, mkD, ev, St.put, ia_slice, zg1, zg0, zgd, zmo, if_true, zs1, zs0, zlm, zlc, zln, zd1, zd0, zt1, zt0, Nat.reduceAdd, Nat.reduceLeDiff, Nat.zero_add, zft, if_false, reduceCtorEq, ty_s_api_Proc, ty_api_Program, und_api_Proc, hlt9]
 with_reducible refine hR _ ?_
 clear hR R
 show S _ _ _ _ _
 refine S_true (by simp only [ev, zg1, zg0, zgd]) ?_
 have hkn : ((k : Int)).toNat = k := Int.toNat_natCast k
 have hk0 : (0 ≤ (k : Int)) = True := eq_true (by omega)
 have hkl : ((k : Int) < (p.procs.length : Int)) = True := eq_true (by omega)
 have hn6 : ((if (p.procs.map dP).isEmpty = true then 0 else 6) = 6) = True := eq_true (sl_n (j := k) (by simpa using hk))
 have e6 : (p.procs.map dP)[k]? = some (dP p.procs[k]) := by simp [hk]
 refine S_dv EV_ok (CaOk.cal EV_ok) 12 1 8 [33, 37, 39, 43] (by simp only [zlc, zln]; omega) (by kernel_rfl) (by simp only [zlc]; omega) rfl rfl fun R hR => ?_
 simp only [EVP, aops, astep, awant, aeff, aop, mkD, ev, St.put, ia_slice, cl_slice, zg1, zg0, zgd, zmo, if_true, zs1, zs0, zlm, zlc, zln, zd1, zd0, zt1, zt0, Nat.reduceAdd, Nat.reduceLeDiff, Nat.zero_add, zft, if_false, and_self, reduceCtorEq, zis, ty_s_api_VarDecl, ty_s_api_Proc, ty_api_Node, ty_api_Proc, ty_api_Program, und_api_Proc, siz_api_Proc, inf_api_Proc_eq, sl, dN_agg, dN_cells, dN_isAgg, sl, dP, hkn, hk0, hkl, hn6, e6]
 with_reducible refine hR _ ?_ ?_ ?_
 ·rfl
 ·rfl
 clear hR R
 intro R hR
 simp only [EVP, aops, astep, awant, aeff, aop, astore, ev, St.put, zg1, zg0, zgd, zmo, if_true, zs1, zs0, zlc, zln, zd1, zd0, zt0, zca, zna, Nat.reduceAdd, Nat.reduceLeDiff, Nat.zero_add, and_self, ty_api_Node, sl, dN_cells, dN_good, sl]
 with_reducible refine hR _ ?_
 clear hR R
 show S _ _ _ _ _
 refine S_seq ?_
 have hcl := cloneV_fn p.procs[k].params (by omega)
 simp only [sl] at hcl
 refine S_of_X EV_ok (by kernel_rfl) ?_
 refine X_rg fun R hR => ?_
 simp only [EVP, aops, astep, awant, aeff, aop, ev, St.put, pcall, zmc, zmn, zg1, zg0, zgd, zmo, if_true, zs1, zs0, zca, zna, any54, hcl]
 with_reducible refine hR _ ?_
 clear hR R
 show S _ _ _ _ _
 refine S_seq ?_
 refine S_seq ?_
 refine S_of_X EV_ok (by kernel_rfl) ?_
 refine X_rg fun R hR => ?_
 simp only [EVP, inr_i64, Int.reduceLE, Int.reduceNeg, aops, astep, awant, aeff, aop, ev, ofValue, St.put, zg1, zg0, zgd, zmo, if_true, zs1, zs0, zlm, and_self, und_int]
 with_reducible refine hR _ ?_
 clear hR R
 show S _ _ _ _ _
 refine S_block ?_
 refine S_loop (fun m σ => ∃ (j : Nat) (t : Tr) (vs : List Vd), σ = ⟨[slotOf σ 0, slotOf σ 1, .slice .imm (if (path.map dI).isEmpty = true then 0 else 1) (path.map dI), .ptr 0 0, slotOf σ 4, slotOf σ 5, slotOf σ 6, slotOf σ 7, .ptr 1 0, .slice .imm (if (vs.map dV).isEmpty = true then 0 else 3) (vs.map dV), slotOf σ 10, slotOf σ 11, slotOf σ 12, slotOf σ 13, slotOf σ 14, slotOf σ 15, slotOf σ 16, slotOf σ 17, slotOf σ 18, slotOf σ 19, slotOf σ 20, slotOf σ 21, slotOf σ 22, slotOf σ 23, slotOf σ 24, slotOf σ 25, slotOf σ 26, slotOf σ 27, slotOf σ 28, slotOf σ 29, slotOf σ 30, slotOf σ 31, slotOf σ 32, slotOf σ 33, slotOf σ 34, slotOf σ 35, slotOf σ 36, slotOf σ 37, slotOf σ 38, slotOf σ 39, slotOf σ 40, slotOf σ 41, slotOf σ 42, slotOf σ 43, slotOf σ 44, slotOf σ 45, slotOf σ 46, .slice .imm (if (path.map dI).isEmpty = true then 0 else 1) (path.map dI), .int .i64 path.length, .int .i64 j, slotOf σ 50, slotOf σ 51, slotOf σ 52, slotOf σ 53, slotOf σ 54, slotOf σ 55, slotOf σ 56, slotOf σ 57, slotOf σ 58, slotOf σ 59, slotOf σ 60, slotOf σ 61, slotOf σ 62, slotOf σ 63, slotOf σ 64, slotOf σ 65, slotOf σ 66, slotOf σ 67, slotOf σ 68, slotOf σ 69, slotOf σ 70, slotOf σ 71, slotOf σ 72], [[.slice .imm (if (p.vars.map dV).isEmpty = true then 0 else 3) (p.vars.map dV), .slice .imm (if (p.procs.map dP).isEmpty = true then 0 else 6) (p.procs.map dP), .int .u8 p.main.kind, .int .i64 p.main.num, .str p.main.name, .slice .imm (if (p.main.kids.map dN).isEmpty = true then 0 else 4) (p.main.kids.map dN)], [.int .u8 t.kind, .int .i64 t.num, .str t.name, .slice .imm (if (t.kids.map dN).isEmpty = true then 0 else 4) (t.kids.map dN)]], 0, []⟩ ∧ m = path.length - j ∧ j ≤ path.length ∧ Hid (visW (path.drop j) t vs = visW path (p.procs[k].body) (p.procs[k].params)) ∧ vs.length ≤ 64 + j) ?_ (path.length) ?_
 rotate_left
 ·exact ⟨0, p.procs[k].body, p.procs[k].params, rfl, rfl, Nat.zero_le _, Lib.hid rfl, by omega⟩
 rintro m σ ⟨j, t, vs, hσ, rfl, hj, hW, hvl⟩
 generalize slotOf σ = x at hσ
 subst hσ
 refine S_seq ?_
 refine S_of_X EV_ok (by kernel_rfl) ?_
 refine X_rg fun R hR => ?_
 simp only [nat_lt, aops, astep, awant, aeff, aop, abin, aint, ev, St.put, zg1, zg0, zgd, zmo, if_true, zs1, zs0]
 with_reducible refine hR _ ?_
 clear hR R
 show S _ _ _ _ _
 refine S_seq ?_
 refine S_ite (by simp only [ev, zg1, zg0, zgd]; exact rfl) ?_ ?_
 ·intro b1
  have c1 := b1
  try simp only [decide_eq_true_eq] at c1
  refine S_skip ?_
  show S _ _ _ _ _
  refine S_seq ?_
  refine S_block ?_
  refine S_seq ?_
  have hjl : j < path.length := by first | assumption | omega
  have hn1 : ((if (path.map dI).isEmpty = true then 0 else 1) = 1) = True := eq_true (sl_n (j := j) (by simpa using hjl))
  have ej : (path.map dI)[j]? = some (.int .i64 path[j]) := by simp [dI, hjl]
  refine S_of_X EV_ok (by kernel_rfl) ?_
  refine X_rg fun R hR => ?_
  simp only [EVP, nat_lt, nat_0, nat_to, aops, astep, awant, aeff, aop, ev, St.put, ia_int, cl_int, zg1, zg0, zgd, zmo, if_true, zs1, zs0, zlm, zlc, zln, Nat.zero_add, and_self, decide_true, zis, ty_int, und_int, siz_int, inf_int_eq, hjl, hn1, ej]
  with_reducible refine hR _ ?_
  clear hR R
  show S _ _ _ _ _
  refine S_seq ?_
  refine S_seq ?_
  refine S_of_X EV_ok (by kernel_rfl) ?_
  refine X_y ?_
  refine Y_k 3 fun R hR => ?_
  simp only [EVP, inr_i64, Int.reduceLE, Int.reduceNeg, aops, astep, awant, aeff, aop, abin, aint, ev, ofValue, St.put, zg1, zg0, zgd, zmo, if_true, zs1, zs0, zt1, zt0, and_self]
  with_reducible refine hR _ ?_
  clear hR R
  simp only [zd1, zd0]
  refine Y_if 55 (by simp only [ev, zg1, zg0, zgd]; exact rfl) ?_ ?_
  ·intro b2
   have c2 := b2
   try simp only [decide_eq_true_eq] at c2
   refine Y_end fun R hR => ?_
   simp only [EVP, aops, astep, awant, aeff, aop, abin, ev, ofValue, St.put, zg1, zg0, zgd, zmo, Option.map_none, zbs, if_true, zs1, zs0, Nat.zero_add, zft, if_false, reduceCtorEq, bq_tf, ty_s_api_Node, ty_api_Node, und_api_Node, b2]
   with_reducible refine hR _ ?_
   clear hR R
   show S _ _ _ _ _
   refine S_true (by simp only [ev, zg1, zg0, zgd]) ?_
   refine S_seq ?_
   refine S_of_X EV_ok (by kernel_rfl) ?_
   refine X_rg fun R hR => ?_
   simp only [inr_i64, Int.reduceLE, Int.reduceNeg, aops, astep, awant, aeff, aop, ev, ofValue, St.put, zgd, zmo, if_true, zs1, zs0, and_self]
   with_reducible refine hR _ ?_
   clear hR R
   show S _ _ _ _ _
   refine S_ret ?_
   refine ⟨.inr rfl, .tup [.slice .nil 0 [], .int .i64 21], ?_, rfl, ?_⟩
   ·simp only [resD, resAll, resOne, resTup, Try.results33, zg1, zg0, D.good, if_true, zmo]
   ·have h1 := hW.out; rw [visW_drop path j hjl] at h1; rw [← h1]; rw [visW_neg (by assumption)]; rfl
  ·intro b3
   have c3 := b3
   try simp only [decide_eq_false_iff_not, Int.not_lt] at c3
   refine Y_end fun R hR => ?_
   simp only [EVP, aops, astep, awant, aeff, aop, abin, aint, mkD, ev, ofValue, St.put, ia_slice, zg1, zg0, zgd, zmo, zbs, if_true, zs1, zs0, zlm, zlc, zln, zd1, zd0, zt1, zt0, Nat.reduceAdd, Nat.reduceLeDiff, Nat.zero_add, zft, if_false, reduceCtorEq, beq_self_eq_true, ty_s_api_Node, ty_api_Node, und_api_Node, b3]
   with_reducible refine hR _ ?_
   clear hR R
   show S _ _ _ _ _
   refine S_ite (by simp only [ev, zg1, zg0, zgd]; exact rfl) ?_ ?_
   ·intro b4
    have c4 := b4
    try simp only [decide_eq_true_eq, ge_iff_le] at c4
    refine S_seq ?_
    refine S_of_X EV_ok (by kernel_rfl) ?_
    refine X_rg fun R hR => ?_
    simp only [inr_i64, Int.reduceLE, Int.reduceNeg, aops, astep, awant, aeff, aop, ev, ofValue, St.put, zgd, zmo, if_true, zs1, zs0, and_self, b4]
    with_reducible refine hR _ ?_
    clear hR R
    show S _ _ _ _ _
    refine S_ret ?_
    refine ⟨.inr rfl, .tup [.slice .nil 0 [], .int .i64 21], ?_, rfl, ?_⟩
    ·simp only [resD, resAll, resOne, resTup, Try.results33, zg1, zg0, D.good, if_true, zmo]
    ·have h1 := hW.out; rw [visW_drop path j hjl] at h1; rw [← h1]; rw [visW_big (by assumption)]; rfl
   ·intro b5
    have c5 := b5
    try simp only [decide_eq_false_iff_not, Int.not_le, ge_iff_le] at c5
    refine S_skip ?_
    show S _ _ _ _ _
    refine S_seq ?_
    have hin := inner_fn t path[j] vs (by omega)
    simp only [sl] at hin
    refine S_of_X EV_ok (by kernel_rfl) ?_
    refine X_rg fun R hR => ?_
    simp only [EVP, aops, astep, awant, aeff, aop, mkD, ev, St.put, pcall, zmc, zmn, zg1, zg0, zgd, zmo, if_true, zs1, zs0, zlc, zln, zd0, zt1, zt0, zca, zna, Nat.reduceAdd, Nat.reduceLeDiff, Nat.zero_add, ty_api_Node, any55, dN_agg, b5, hin]
    with_reducible refine hR _ ?_
    clear hR R
    show S _ _ _ _ _
    obtain ⟨m, hm⟩ : ∃ m : Nat, path[j] = (m : Int) := ⟨path[j].toNat, by first | (simp_all; done) | (simp_all; omega)⟩
    have hml : m < t.kids.length := by first | (simp_all; done) | (simp_all; omega)
    have hmn : ((m : Int)).toNat = m := Int.toNat_natCast m
    have hm0 : (0 ≤ (m : Int)) = True := eq_true (by omega)
    have hmk : ((m : Int) < (t.kids.length : Int)) = True := eq_true (by omega)
    have hn4 : ((if (t.kids.map dN).isEmpty = true then 0 else 4) = 4) = True := eq_true (sl_n (j := m) (by simpa using hml))
    have em : (t.kids.map dN)[m]? = some (.agg [.int .u8 t.kids[m].kind, .int .i64 t.kids[m].num, .str t.kids[m].name, sl 4 (t.kids[m].kids.map dN)]) := by rw [show D.agg _ = dN t.kids[m] from (dN_eq _).symm]; simp [hml]
    refine S_of_X EV_ok (by kernel_rfl) ?_
    refine X_rg fun R hR => ?_
    simp only [EVP, aops, astep, awant, aeff, aop, mkD, astore, ev, St.put, ia_slice, zg1, zg0, zgd, zmo, if_true, zs1, zs0, zlm, zlc, zln, zd1, zd0, zt1, zt0, zca, zna, Nat.reduceAdd, Nat.reduceLeDiff, Nat.zero_add, zft, if_false, and_self, reduceCtorEq, zis, ty_s_api_Node, ty_api_Node, und_api_Node, siz_api_Node, inf_api_Node_eq, sl, dN_agg, dN_cells, dN_isAgg, dN_good, sl, hm, hmn, hm0, hmk, hn4, em]
    with_reducible refine hR _ ?_
    clear hR R
    show S _ _ _ _ _
    have hbig : j < 9223372036854775807 := by omega
    refine S_of_X EV_ok (by kernel_rfl) ?_
    refine X_rg fun R hR => ?_
    simp only [inr_i64, Int.reduceLE, Int.reduceNeg, aops, astep, awant, aeff, aop, abin, aint, ev, ofValue, St.put, zg1, zg0, zgd, zmo, if_true, zs1, zs0, and_self, nat_succ hbig]
    with_reducible refine hR _ ?_
    clear hR R
    show ∃ m, m < _ ∧ _
    have hil := innerV_le t path[j] vs
    exact ⟨path.length - (j + 1), by omega, j + 1, t.kids[m], innerV t (m : Int) vs, rfl, rfl, by omega, Lib.hid (by have h1 := hW.out; rw [visW_drop path j hjl, visW_in hm hml, hm] at h1; exact h1), by rw [hm] at hil; omega⟩
 ·intro b6
  have c6 := b6
  try simp only [decide_eq_false_iff_not] at c6
  refine S_exit ?_
  show S _ _ _ _ _
  refine S_seq ?_
  refine S_of_X EV_ok (by kernel_rfl) ?_
  refine X_rg fun R hR => ?_
  simp only [inr_i64, Int.reduceLE, Int.reduceNeg, aops, astep, awant, aeff, aop, ev, ofValue, St.put, zg1, zg0, zgd, zmo, if_true, zs1, zs0, and_self, b6]
  with_reducible refine hR _ ?_
  clear hR R
  show S _ _ _ _ _
  refine S_ret ?_
  refine ⟨.inr rfl, .tup [sl 3 (vs.map dV), .int .i64 0], ?_, ?_, ?_⟩
  ·simp only [resD, resAll, resOne, resTup, Try.results33, zg1, zg0, D.good, if_true, zmo]; try simp only [sl]
  ·exact visD_u 0 (some vs)
  ·have h1 := hW.out; rw [List.drop_of_length_le (by simp_all; try omega), visW] at h1; rw [← h1]; exact visD_s 0 (some vs)
set_option maxRecDepth 100000 in
set_option maxHeartbeats 4000000 in
theorem vis_main (p : Pg) (path : List Int) (hv : validB p = true) (hpl : path.length ≤ 100000) : PContract Try.prog 33 [dG p, .int .i64 (p.procs.length : Int), sl 1 (path.map dI)] (visD 21 (visW path (p.main) (p.vars))) := by
 obtain ⟨bv, bp, bq, bm, _⟩ := valid_bd hv
 obtain ⟨k, hkk⟩ : ∃ k, k = p.procs.length := ⟨_, rfl⟩
 rw [← hkk]
 refine S_pure (f := _) Try.func33 rfl (by show (((dG p).under 0 && (dG p).good) && (((D.int .i64 (k : Int)).under 0 && (D.int .i64 (k : Int)).good) && (((sl 1 (path.map dI)).under 0 && (sl 1 (path.map dI)).good) && true))) = true; rw [dG_pl, int_pl, sl_pl (f := dI) (fun _ _ => rfl)]; rfl) (by show [(dG p).strip, (D.int .i64 (k : Int)).strip, (sl 1 (path.map dI)).strip] = _; rw [dG_strip, sl_strip (map_strip (f := dI) (fun _ => rfl) _)]; rfl) ?_
 simp only [enterSt, Try.ntmps33, zlc, zln, Nat.reduceAdd, Nat.reduceSub, zr1, zr0, zca, zna]
 refine S_seq ?_
 refine S_of_X EV_ok (by kernel_rfl) ?_
 refine X_rg fun R hR => ?_
 simp only [inr_i64, Int.reduceLE, Int.reduceNeg, aops, astep, awant, aeff, aop, ev, ofValue, St.put, zg0, zgd, zmo, if_true, zs1, zs0, zln, zna, and_self, sl, sl, dG_cells, dG_good]
 with_reducible refine hR _ ?_
 clear hR R
 show S _ _ _ _ _
 refine S_seq ?_
 refine S_seq ?_
 have hva := valid_fn p
 rw [hv] at hva
 refine S_of_X EV_ok (by kernel_rfl) ?_
 refine X_rg fun R hR => ?_
 simp only [EVP, aops, astep, awant, aeff, aop, mkD, ev, St.put, pcall, zmc, zmn, zg1, zg0, zgd, zmo, if_true, zs1, zs0, zlc, zln, zd0, zt1, zt0, zca, zna, Nat.reduceAdd, Nat.reduceLeDiff, Nat.zero_add, Bool.not_true, ty_api_Program, any17, dG_agg, hva]
 with_reducible refine hR _ ?_
 clear hR R
 show S _ _ _ _ _
 refine S_false (by simp only [ev, zg1, zg0, zgd]) ?_
 refine S_skip ?_
 show S _ _ _ _ _
 refine S_seq ?_
 refine S_seq ?_
 have hlt0 : decide ((k : Int) < 0) = false := by simp; try omega
 have hgt0 : decide ((k : Int) > (p.procs.length : Int)) = false := by simp; try omega
 have hgt9 : decide (p.procs.length < k) = false := by simp; try omega
 refine S_of_X EV_ok (by kernel_rfl) ?_
 refine X_rg fun R hR => ?_
 simp only [EVP, inr_i64, Int.reduceLE, Int.reduceNeg, nat_lt, aops, astep, awant, aeff, aop, abin, aint, mkD, ev, ofValue, St.put, ia_slice, zg1, zg0, zgd, zmo, zbs, if_true, zs1, zs0, zlm, zlc, zln, zd1, zd0, zt1, zt0, Nat.reduceAdd, Nat.reduceLeDiff, Nat.zero_add, zft, if_false, and_self, reduceCtorEq, beq_self_eq_true, ty_s_api_Proc, ty_api_Program, und_api_Proc, hlt0, hgt9]
 with_reducible refine hR _ ?_
 clear hR R
 show S _ _ _ _ _
 refine S_false (by simp only [ev, zg1, zg0, zgd]) ?_
 refine S_skip ?_
 show S _ _ _ _ _
 refine S_seq ?_
 refine S_of_X EV_ok (by kernel_rfl) ?_
 refine X_rg fun R hR => ?_
 simp only [EVP, aops, astep, awant, aeff, aop, mkD, astore, ev, St.put, ia_slice, zg1, zg0, zgd, zmo, zbs, if_true, zs1, zs0, zlc, zln, zd1, zd0, zt1, zt0, zca, zna, Nat.reduceAdd, Nat.reduceLeDiff, Nat.zero_add, Nat.add_zero, zft, if_false, and_self, reduceCtorEq, ty_s_api_VarDecl, ty_api_Node, ty_api_Program, sl, dN_agg, dN_cells, dN_good, sl]
 with_reducible refine hR _ ?_
 clear hR R
 show S _ _ _ _ _
 refine S_seq ?_
 refine S_seq ?_
 have hlt1 : decide ((k : Int) < (p.procs.length : Int)) = false := by simp; try omega
 have hlt9 : decide (k < p.procs.length) = false := by simp; try omega
 refine S_of_X EV_ok (by kernel_rfl) ?_
 refine X_rg fun R hR => ?_
 simp only [EVP, nat_lt, aops, astep, awant, aeff, aop, abin, aint, mkD, ev, St.put, ia_slice, zg1, zg0, zgd, zmo, if_true, zs1, zs0, zlm, zlc, zln, zd1, zd0, zt1, zt0, Nat.reduceAdd, Nat.reduceLeDiff, Nat.zero_add, zft, if_false, reduceCtorEq, ty_s_api_Proc, ty_api_Program, und_api_Proc, hlt9]
 with_reducible refine hR _ ?_
 clear hR R
 show S _ _ _ _ _
 refine S_false (by simp only [ev, zg1, zg0, zgd]) ?_
 refine S_skip ?_
 show S _ _ _ _ _
 refine S_seq ?_
 have hcl := cloneV_fn p.vars (by omega)
 simp only [sl] at hcl
 refine S_of_X EV_ok (by kernel_rfl) ?_
 refine X_rg fun R hR => ?_
 simp only [EVP, aops, astep, awant, aeff, aop, ev, St.put, pcall, zmc, zmn, zg1, zg0, zgd, zmo, if_true, zs1, zs0, zca, zna, any54, hcl]
 with_reducible refine hR _ ?_
 clear hR R
 show S _ _ _ _ _
 refine S_seq ?_
 refine S_seq ?_
 refine S_of_X EV_ok (by kernel_rfl) ?_
 refine X_rg fun R hR => ?_
 simp only [EVP, inr_i64, Int.reduceLE, Int.reduceNeg, aops, astep, awant, aeff, aop, ev, ofValue, St.put, zg1, zg0, zgd, zmo, if_true, zs1, zs0, zlm, and_self, und_int]
 with_reducible refine hR _ ?_
 clear hR R
 show S _ _ _ _ _
 refine S_block ?_
 refine S_loop (fun m σ => ∃ (j : Nat) (t : Tr) (vs : List Vd), σ = ⟨[slotOf σ 0, slotOf σ 1, .slice .imm (if (path.map dI).isEmpty = true then 0 else 1) (path.map dI), .ptr 0 0, slotOf σ 4, slotOf σ 5, slotOf σ 6, slotOf σ 7, .ptr 1 0, .slice .imm (if (vs.map dV).isEmpty = true then 0 else 3) (vs.map dV), slotOf σ 10, slotOf σ 11, slotOf σ 12, slotOf σ 13, slotOf σ 14, slotOf σ 15, slotOf σ 16, slotOf σ 17, slotOf σ 18, slotOf σ 19, slotOf σ 20, slotOf σ 21, slotOf σ 22, slotOf σ 23, slotOf σ 24, slotOf σ 25, slotOf σ 26, slotOf σ 27, slotOf σ 28, slotOf σ 29, slotOf σ 30, slotOf σ 31, slotOf σ 32, slotOf σ 33, slotOf σ 34, slotOf σ 35, slotOf σ 36, slotOf σ 37, slotOf σ 38, slotOf σ 39, slotOf σ 40, slotOf σ 41, slotOf σ 42, slotOf σ 43, slotOf σ 44, slotOf σ 45, slotOf σ 46, .slice .imm (if (path.map dI).isEmpty = true then 0 else 1) (path.map dI), .int .i64 path.length, .int .i64 j, slotOf σ 50, slotOf σ 51, slotOf σ 52, slotOf σ 53, slotOf σ 54, slotOf σ 55, slotOf σ 56, slotOf σ 57, slotOf σ 58, slotOf σ 59, slotOf σ 60, slotOf σ 61, slotOf σ 62, slotOf σ 63, slotOf σ 64, slotOf σ 65, slotOf σ 66, slotOf σ 67, slotOf σ 68, slotOf σ 69, slotOf σ 70, slotOf σ 71, slotOf σ 72], [[.slice .imm (if (p.vars.map dV).isEmpty = true then 0 else 3) (p.vars.map dV), .slice .imm (if (p.procs.map dP).isEmpty = true then 0 else 6) (p.procs.map dP), .int .u8 p.main.kind, .int .i64 p.main.num, .str p.main.name, .slice .imm (if (p.main.kids.map dN).isEmpty = true then 0 else 4) (p.main.kids.map dN)], [.int .u8 t.kind, .int .i64 t.num, .str t.name, .slice .imm (if (t.kids.map dN).isEmpty = true then 0 else 4) (t.kids.map dN)]], 0, []⟩ ∧ m = path.length - j ∧ j ≤ path.length ∧ Hid (visW (path.drop j) t vs = visW path (p.main) (p.vars)) ∧ vs.length ≤ 64 + j) ?_ (path.length) ?_
 rotate_left
 ·exact ⟨0, p.main, p.vars, rfl, rfl, Nat.zero_le _, Lib.hid rfl, by omega⟩
 rintro m σ ⟨j, t, vs, hσ, rfl, hj, hW, hvl⟩
 generalize slotOf σ = x at hσ
 subst hσ
 refine S_seq ?_
 refine S_of_X EV_ok (by kernel_rfl) ?_
 refine X_rg fun R hR => ?_
 simp only [nat_lt, aops, astep, awant, aeff, aop, abin, aint, ev, St.put, zg1, zg0, zgd, zmo, if_true, zs1, zs0]
 with_reducible refine hR _ ?_
 clear hR R
 show S _ _ _ _ _
 refine S_seq ?_
 refine S_ite (by simp only [ev, zg1, zg0, zgd]; exact rfl) ?_ ?_
 ·intro b1
  have c1 := b1
  try simp only [decide_eq_true_eq] at c1
  refine S_skip ?_
  show S _ _ _ _ _
  refine S_seq ?_
  refine S_block ?_
  refine S_seq ?_
  have hjl : j < path.length := by first | assumption | omega
  have hn1 : ((if (path.map dI).isEmpty = true then 0 else 1) = 1) = True := eq_true (sl_n (j := j) (by simpa using hjl))
  have ej : (path.map dI)[j]? = some (.int .i64 path[j]) := by simp [dI, hjl]
  refine S_of_X EV_ok (by kernel_rfl) ?_
  refine X_rg fun R hR => ?_
  simp only [EVP, nat_lt, nat_0, nat_to, aops, astep, awant, aeff, aop, ev, St.put, ia_int, cl_int, zg1, zg0, zgd, zmo, if_true, zs1, zs0, zlm, zlc, zln, Nat.zero_add, and_self, decide_true, zis, ty_int, und_int, siz_int, inf_int_eq, hjl, hn1, ej]
  with_reducible refine hR _ ?_
  clear hR R
  show S _ _ _ _ _
  refine S_seq ?_
  refine S_seq ?_
  refine S_of_X EV_ok (by kernel_rfl) ?_
  refine X_y ?_
  refine Y_k 3 fun R hR => ?_
  simp only [EVP, inr_i64, Int.reduceLE, Int.reduceNeg, aops, astep, awant, aeff, aop, abin, aint, ev, ofValue, St.put, zg1, zg0, zgd, zmo, if_true, zs1, zs0, zt1, zt0, and_self]
  with_reducible refine hR _ ?_
  clear hR R
  simp only [zd1, zd0]
  refine Y_if 55 (by simp only [ev, zg1, zg0, zgd]; exact rfl) ?_ ?_
  ·intro b2
   have c2 := b2
   try simp only [decide_eq_true_eq] at c2
   refine Y_end fun R hR => ?_
   simp only [EVP, aops, astep, awant, aeff, aop, abin, ev, ofValue, St.put, zg1, zg0, zgd, zmo, Option.map_none, zbs, if_true, zs1, zs0, Nat.zero_add, zft, if_false, reduceCtorEq, bq_tf, ty_s_api_Node, ty_api_Node, und_api_Node, b2]
   with_reducible refine hR _ ?_
   clear hR R
   show S _ _ _ _ _
   refine S_true (by simp only [ev, zg1, zg0, zgd]) ?_
   refine S_seq ?_
   refine S_of_X EV_ok (by kernel_rfl) ?_
   refine X_rg fun R hR => ?_
   simp only [inr_i64, Int.reduceLE, Int.reduceNeg, aops, astep, awant, aeff, aop, ev, ofValue, St.put, zgd, zmo, if_true, zs1, zs0, and_self]
   with_reducible refine hR _ ?_
   clear hR R
   show S _ _ _ _ _
   refine S_ret ?_
   refine ⟨.inr rfl, .tup [.slice .nil 0 [], .int .i64 21], ?_, rfl, ?_⟩
   ·simp only [resD, resAll, resOne, resTup, Try.results33, zg1, zg0, D.good, if_true, zmo]
   ·have h1 := hW.out; rw [visW_drop path j hjl] at h1; rw [← h1]; rw [visW_neg (by assumption)]; rfl
  ·intro b3
   have c3 := b3
   try simp only [decide_eq_false_iff_not, Int.not_lt] at c3
   refine Y_end fun R hR => ?_
   simp only [EVP, aops, astep, awant, aeff, aop, abin, aint, mkD, ev, ofValue, St.put, ia_slice, zg1, zg0, zgd, zmo, zbs, if_true, zs1, zs0, zlm, zlc, zln, zd1, zd0, zt1, zt0, Nat.reduceAdd, Nat.reduceLeDiff, Nat.zero_add, zft, if_false, reduceCtorEq, beq_self_eq_true, ty_s_api_Node, ty_api_Node, und_api_Node, b3]
   with_reducible refine hR _ ?_
   clear hR R
   show S _ _ _ _ _
   refine S_ite (by simp only [ev, zg1, zg0, zgd]; exact rfl) ?_ ?_
   ·intro b4
    have c4 := b4
    try simp only [decide_eq_true_eq, ge_iff_le] at c4
    refine S_seq ?_
    refine S_of_X EV_ok (by kernel_rfl) ?_
    refine X_rg fun R hR => ?_
    simp only [inr_i64, Int.reduceLE, Int.reduceNeg, aops, astep, awant, aeff, aop, ev, ofValue, St.put, zgd, zmo, if_true, zs1, zs0, and_self, b4]
    with_reducible refine hR _ ?_
    clear hR R
    show S _ _ _ _ _
    refine S_ret ?_
    refine ⟨.inr rfl, .tup [.slice .nil 0 [], .int .i64 21], ?_, rfl, ?_⟩
    ·simp only [resD, resAll, resOne, resTup, Try.results33, zg1, zg0, D.good, if_true, zmo]
    ·have h1 := hW.out; rw [visW_drop path j hjl] at h1; rw [← h1]; rw [visW_big (by assumption)]; rfl
   ·intro b5
    have c5 := b5
    try simp only [decide_eq_false_iff_not, Int.not_le, ge_iff_le] at c5
    refine S_skip ?_
    show S _ _ _ _ _
    refine S_seq ?_
    have hin := inner_fn t path[j] vs (by omega)
    simp only [sl] at hin
    refine S_of_X EV_ok (by kernel_rfl) ?_
    refine X_rg fun R hR => ?_
    simp only [EVP, aops, astep, awant, aeff, aop, mkD, ev, St.put, pcall, zmc, zmn, zg1, zg0, zgd, zmo, if_true, zs1, zs0, zlc, zln, zd0, zt1, zt0, zca, zna, Nat.reduceAdd, Nat.reduceLeDiff, Nat.zero_add, ty_api_Node, any55, dN_agg, b5, hin]
    with_reducible refine hR _ ?_
    clear hR R
    show S _ _ _ _ _
    obtain ⟨m, hm⟩ : ∃ m : Nat, path[j] = (m : Int) := ⟨path[j].toNat, by first | (simp_all; done) | (simp_all; omega)⟩
    have hml : m < t.kids.length := by first | (simp_all; done) | (simp_all; omega)
    have hmn : ((m : Int)).toNat = m := Int.toNat_natCast m
    have hm0 : (0 ≤ (m : Int)) = True := eq_true (by omega)
    have hmk : ((m : Int) < (t.kids.length : Int)) = True := eq_true (by omega)
    have hn4 : ((if (t.kids.map dN).isEmpty = true then 0 else 4) = 4) = True := eq_true (sl_n (j := m) (by simpa using hml))
    have em : (t.kids.map dN)[m]? = some (.agg [.int .u8 t.kids[m].kind, .int .i64 t.kids[m].num, .str t.kids[m].name, sl 4 (t.kids[m].kids.map dN)]) := by rw [show D.agg _ = dN t.kids[m] from (dN_eq _).symm]; simp [hml]
    refine S_of_X EV_ok (by kernel_rfl) ?_
    refine X_rg fun R hR => ?_
    simp only [EVP, aops, astep, awant, aeff, aop, mkD, astore, ev, St.put, ia_slice, zg1, zg0, zgd, zmo, if_true, zs1, zs0, zlm, zlc, zln, zd1, zd0, zt1, zt0, zca, zna, Nat.reduceAdd, Nat.reduceLeDiff, Nat.zero_add, zft, if_false, and_self, reduceCtorEq, zis, ty_s_api_Node, ty_api_Node, und_api_Node, siz_api_Node, inf_api_Node_eq, sl, dN_agg, dN_cells, dN_isAgg, dN_good, sl, hm, hmn, hm0, hmk, hn4, em]
    with_reducible refine hR _ ?_
    clear hR R
    show S _ _ _ _ _
    have hbig : j < 9223372036854775807 := by omega
    refine S_of_X EV_ok (by kernel_rfl) ?_
    refine X_rg fun R hR => ?_
    simp only [inr_i64, Int.reduceLE, Int.reduceNeg, aops, astep, awant, aeff, aop, abin, aint, ev, ofValue, St.put, zg1, zg0, zgd, zmo, if_true, zs1, zs0, and_self, nat_succ hbig]
    with_reducible refine hR _ ?_
    clear hR R
    show ∃ m, m < _ ∧ _
    have hil := innerV_le t path[j] vs
    exact ⟨path.length - (j + 1), by omega, j + 1, t.kids[m], innerV t (m : Int) vs, rfl, rfl, by omega, Lib.hid (by have h1 := hW.out; rw [visW_drop path j hjl, visW_in hm hml, hm] at h1; exact h1), by rw [hm] at hil; omega⟩
 ·intro b6
  have c6 := b6
  try simp only [decide_eq_false_iff_not] at c6
  refine S_exit ?_
  show S _ _ _ _ _
  refine S_seq ?_
  refine S_of_X EV_ok (by kernel_rfl) ?_
  refine X_rg fun R hR => ?_
  simp only [inr_i64, Int.reduceLE, Int.reduceNeg, aops, astep, awant, aeff, aop, ev, ofValue, St.put, zg1, zg0, zgd, zmo, if_true, zs1, zs0, and_self, b6]
  with_reducible refine hR _ ?_
  clear hR R
  show S _ _ _ _ _
  refine S_ret ?_
  refine ⟨.inr rfl, .tup [sl 3 (vs.map dV), .int .i64 0], ?_, ?_, ?_⟩
  ·simp only [resD, resAll, resOne, resTup, Try.results33, zg1, zg0, D.good, if_true, zmo]; try simp only [sl]
  ·exact visD_u 0 (some vs)
  ·have h1 := hW.out; rw [List.drop_of_length_le (by simp_all; try omega), visW] at h1; rw [← h1]; exact visD_s 0 (some vs)
theorem vis_any (p : Pg) (q : Int) (path : List Int) (hpl : path.length ≤ 100000) : PContract Try.prog 33 [dG p, .int .i64 q, sl 1 (path.map dI)] (if validB p = true then visA p q path else visD 3 none) := by
 cases hv : validB p with
 | false => rw [if_neg (by simp)]; exact vis_bad p q path hv
 | true =>
  rw [if_pos rfl]
  unfold visA
  by_cases h1 : q < 0
  ·rw [if_neg (by omega)]; exact vis_neg p q path hv h1
  ·by_cases h2 : (p.procs.length : Int) < q
   ·rw [if_neg (by omega)]; exact vis_far p q path hv h2
   ·rw [if_pos (by omega)]
    by_cases h3 : q = (p.procs.length : Int)
    ·subst h3
     have e1 : bdT p (p.procs.length : Int) = p.main := dif_neg (by omega)
     have e2 : bdV p (p.procs.length : Int) = p.vars := dif_neg (by omega)
     rw [e1, e2]
     exact vis_main p path hv hpl
    ·obtain ⟨k, rfl⟩ := Int.eq_ofNat_of_zero_le (by omega : 0 ≤ q)
     have hk : k < p.procs.length := by omega
     have e1 : bdT p (k : Int) = p.procs[k].body := by unfold bdT; rw [dif_pos (by omega)]; rfl
     have e2 : bdV p (k : Int) = p.procs[k].params := by unfold bdV; rw [dif_pos (by omega)]; rfl
     rw [e1, e2]
     exact visV_proc p k path hv hk hpl

end Go.Proofs.Ytjikokmhknnnoaa
