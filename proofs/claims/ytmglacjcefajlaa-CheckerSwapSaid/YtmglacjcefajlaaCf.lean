/- Folding: literals. -/
import Derived.Test.YtmglacjcefajlaaAr
namespace Go.Proofs.Ytmglacjcefajlaa
open Go.RowKit

theorem ty_constfold_folded : tyOf Try.prog 101 = some { sz := 6, agg := true, flds := [(0, 4, true), (4, 1, false), (5, 1, false)], elem := none, zero := some [.int .u8 0, .int .i64 0, .str ⟨#[]⟩, .slice .nil 0 [], .int .i64 0, .bool false], bytes := 72 } := by kernel_rfl
noncomputable def fs_constfold_folded : Array Field := match Try.prog.underlying 101 with | some (.struct fs) => fs | _ => #[]
theorem st_constfold_folded : Try.prog.underlying 101 = some (.struct fs_constfold_folded) := by kernel_rfl
theorem sta_constfold_folded : (fs_constfold_folded.toList.all fun f => (Try.prog.info? f.type).isSome) = true := by kernel_rfl
theorem und_constfold_folded : Try.prog.underlying 106 = some (.slice 101) := by kernel_rfl
theorem siz_constfold_folded : Try.prog.cellsOf 101 = 6 := by kernel_rfl
noncomputable def inf_constfold_folded : TypeInfo := (Try.prog.info? 101).getD default
theorem inf_constfold_folded_eq : Try.prog.info? 101 = some inf_constfold_folded := by kernel_rfl
theorem inf_constfold_folded_size : inf_constfold_folded.size = 6 := by kernel_rfl
theorem inf_constfold_folded_bytes : inf_constfold_folded.bytes = 72 := by kernel_rfl
theorem inf_constfold_folded_zero : inf_constfold_folded.zero.isSome = true := by kernel_rfl
theorem inf_constfold_folded_zc : (inf_constfold_folded.zero.map fun z => z.cells.size) = some 6 := by kernel_rfl
theorem sl_u {α : Type} {f : α → D} {m : Nat} (h : ∀ x, (f x).under m = true) (n : Nat) (l : List α) : D.under m (sl n (l.map f)) = true := sl_under (map_under h l)
theorem sl_g (n : Nat) (l : List D) : (sl n l).good = true := rfl
def es : ByteArray := ⟨#[]⟩
def leafT (v : Int) : Tr := .mk 1 v es []
def litT (v : Int) : Tr := if 0 ≤ v then leafT v else if v = -9223372036854775808 then .mk 8 0 es [leafT 9223372036854775807, leafT 1] else .mk 6 0 es [leafT (-v)]
theorem neg_w {v : Int} (h : -9223372036854775808 < v) (h' : v < 0) : IntKind.i64.wrap (0 - v) = -v := by
 simp only [IntKind.wrap, IntKind.bits, IntKind.signed]; simp; omega
abbrev Fo := Tr × Int × Bool
def dF (x : Fo) : D := .agg [.int .u8 x.1.kind, .int .i64 x.1.num, .str x.1.name, sl 4 (x.1.kids.map dN), .int .i64 x.2.1, .bool x.2.2]
theorem dF_strip (x : Fo) : (dF x).strip = dF x := by
 unfold dF
 simp only [D.strip, D.strips, sl_strip (map_strip dN_strip _)]
theorem dF_under (m : Nat) (x : Fo) : (dF x).under m = true := by
 unfold dF
 simp only [D.under, D.unders, sl_under (map_under (dN_under m) _), Bool.and_true]
theorem dF_agg (x : Fo) : D.agg [.int .u8 x.1.kind, .int .i64 x.1.num, .str x.1.name, .slice .imm (if (x.1.kids.map dN).isEmpty = true then 0 else 4) (x.1.kids.map dN), .int .i64 x.2.1, .bool x.2.2] = dF x := rfl
theorem dF_cells (x : Fo) : (dF x).cells = [.int .u8 x.1.kind, .int .i64 x.1.num, .str x.1.name, sl 4 (x.1.kids.map dN), .int .i64 x.2.1, .bool x.2.2] := rfl
theorem dF_isAgg (x : Fo) : (dF x).isAgg = true := rfl
theorem dF_good (x : Fo) : (dF x).good = true := rfl
def valueD (k n : Int) (f : List Fo) : Int × Bool :=
 if f.all (fun x => x.2.2) = false then (0, false) else if k = 1 then (n, true) else if k = 2 ∨ k = 3 ∨ k = 4 ∨ k = 5 then (0, false)
 else if k = 6 ∨ k = 7 then (match f with | x :: _ => ((unD k x.2.1).1, (unD k x.2.1).2 == 0) | _ => (0, false))
 else (match f with | x :: y :: _ => ((apD k x.2.1 y.2.1).1, (apD k x.2.1 y.2.1).2 == 0) | _ => (0, false))
theorem vD_no {k n : Int} {f : List Fo} (h : f.all (fun x => x.2.2) = false) : valueD k n f = (0, false) := by unfold valueD; rw [if_pos h]
theorem vD_1 {k n : Int} {f : List Fo} (h : f.all (fun x => x.2.2) = true) (hk : k = 1) : valueD k n f = (n, true) := by unfold valueD; rw [if_neg (by rw [h]; simp), if_pos hk]
theorem vD_v {k n : Int} {f : List Fo} (hk : k = 2 ∨ k = 3 ∨ k = 4 ∨ k = 5) : valueD k n f = (0, false) := by
 unfold valueD
 have h1 : ¬ k = 1 := by omega
 simp only [h1, hk, if_true, if_false, ite_self]
theorem vD_u {k n : Int} {f r : List Fo} {x : Fo} (h : f.all (fun x => x.2.2) = true) (hk : k = 6 ∨ k = 7) (hf : f = x :: r) : valueD k n f = ((unD k x.2.1).1, (unD k x.2.1).2 == 0) := by
 unfold valueD; rw [if_neg (by rw [h]; simp), if_neg (by omega), if_neg (by omega), if_pos hk, hf]
theorem vD_b {k n : Int} {f r : List Fo} {x y : Fo} (h : f.all (fun x => x.2.2) = true) (hk : ¬ k = 1 ∧ ¬ k = 2 ∧ ¬ k = 3 ∧ ¬ k = 4 ∧ ¬ k = 5 ∧ ¬ k = 6 ∧ ¬ k = 7) (hf : f = x :: y :: r) : valueD k n f = ((apD k x.2.1 y.2.1).1, (apD k x.2.1 y.2.1).2 == 0) := by
 unfold valueD; rw [if_neg (by rw [h]; simp), if_neg (by omega), if_neg (by omega), if_neg (by omega), hf]
mutual
def foldT : Tr → Fo
 | .mk k n s c => if (valueD k n (foldsT c)).2 then (litT (valueD k n (foldsT c)).1, (valueD k n (foldsT c)).1, true) else (.mk k n s ((foldsT c).map (fun x => x.1)), 0, false)
def foldsT : List Tr → List Fo
 | [] => []
 | t :: r => foldT t :: foldsT r
end
theorem foldsT_map : ∀ c : List Tr, foldsT c = c.map foldT
 | [] => rfl
 | t :: r => by simp only [foldsT, zmc, foldsT_map r]
theorem foldT_eq (t : Tr) : foldT t = if (valueD t.kind t.num (t.kids.map foldT)).2 then (litT (valueD t.kind t.num (t.kids.map foldT)).1, (valueD t.kind t.num (t.kids.map foldT)).1, true) else (.mk t.kind t.num t.name ((t.kids.map foldT).map (fun x => x.1)), 0, false) := by
 cases t; simp only [foldT, foldsT_map, Tr.kind, Tr.num, Tr.name, Tr.kids]; rfl
theorem take_succ_map {α : Type} {f : α → D} {l : List α} {i : Nat} (h : i < l.length) : (l.take i).map f ++ [f l[i]] = (l.take (i + 1)).map f := by
 rw [List.take_succ_eq_append_getElem h, List.map_append]; rfl
theorem all_take_succ {α : Type} {p : α → Bool} {l : List α} {i : Nat} (h : i < l.length) (h1 : (l.take i).all p = true) (h2 : p l[i] = true) : (l.take (i + 1)).all p = true := by
 rw [List.take_succ_eq_append_getElem h, List.all_append, h1]; simp [h2]
theorem all_false_at {α : Type} {p : α → Bool} {l : List α} {i : Nat} (h : i < l.length) (h2 : p l[i] = false) : l.all p = false := by
 rw [List.all_eq_false]; exact ⟨l[i], List.getElem_mem h, by simp [h2]⟩
set_option maxRecDepth 100000 in
set_option maxHeartbeats 4000000 in
theorem lit0_fn (v : Int) (hv : 0 ≤ v) : fn EV 90 [.int .i64 v] = some (dN (leafT v)) := by
 have hg : (v ≥ 0) = True := eq_true hv
 refine fn_Xs rfl Try.func90 rfl (rfl) (rfl) ?_
 simp only [zmc, zmn, D.strip]
 simp only [enterSt, Try.ntmps90, zlc, zln, Nat.reduceAdd, Nat.reduceSub, zr1, zr0, zca, zna]
 refine X_seq ?_
 refine X_rg fun R hR => ?_
 simp only [EVP, aops, astep, awant, aeff, St.put, zmo, zbs, if_true, zs1, zs0, zln, zna, ty_api_Node]
 with_reducible refine hR _ ?_
 clear hR R
 show X _ _ _ _
 refine X_seq ?_
 refine X_block ?_
 refine X_seq ?_
 refine X_rg fun R hR => ?_
 simp only [inr_i64, Int.reduceLE, Int.reduceNeg, aops, astep, awant, aeff, aop, abin, aint, ev, ofValue, St.put, zg1, zg0, zgd, zmo, if_true, zs1, zs0, and_self, decide_true, hg]
 with_reducible refine hR _ ?_
 clear hR R
 show X _ _ _ _
 refine X_true (by simp only [ev, zg1, zg0, zgd]) ?_
 refine X_seq ?_
 refine X_rg fun R hR => ?_
 simp only [EVP, inr_u8, Int.reduceLE, aops, astep, awant, aeff, aop, afill, astore, ev, ofValue, St.put, gd_int, cl_int, gd_agg, cl_agg, zmc, zmn, zg1, zg0, zgd, zmo, if_true, zs1, zs0, zlc, zln, zd1, zd0, zt1, zt0, zca, zna, Nat.reduceAdd, Nat.reduceLeDiff, Nat.zero_add, and_self, ty_api_Node, st_api_Node, sta_api_Node]
 with_reducible refine hR _ ?_
 clear hR R
 show X _ _ _ _
 refine X_ret ?_
 show ∃ d, resD _ _ _ = some d ∧ _ ∧ _
 refine ⟨_, by simp only [resD, resAll, resOne, resTup, Try.results90, EVP, mkD, ty_api_Node, zg1, zg0, zd0, zt1, zt0, zlc, zln, Nat.reduceAdd, Nat.reduceLeDiff, Nat.zero_add, if_true, zmo]; exact rfl, ?_, ?_⟩
 ·first | (simp [D.under, D.unders]; done) | (exfalso; simp_all; done)
 ·first | (simp [D.strip, D.strips, Own.st, leafT, dN, dNs, es]; done) | (rw [litT, if_neg (by omega), if_neg (by omega)]; simp [D.strip, D.strips, Own.st, dN_strip, leafT, dN, dNs, es]; done) | (exfalso; simp_all; done)
theorem litm_fn : fn EV 90 [.int .i64 9223372036854775807] = some (dN (leafT 9223372036854775807)) := lit0_fn _ (by decide)
theorem lit1_fn : fn EV 90 [.int .i64 1] = some (dN (leafT 1)) := lit0_fn _ (by decide)
set_option maxRecDepth 100000 in
set_option maxHeartbeats 4000000 in
theorem lit_fn (v : Int) (hv1 : -9223372036854775808 ≤ v) : fn EV 90 [.int .i64 v] = some (dN (litT v)) := by
 have hrec : v < 0 → ¬ v = -9223372036854775808 → fn EV 90 [.int .i64 (IntKind.i64.wrap (0 - v))] = some (dN (leafT (-v))) := fun h1 h2 => by rw [neg_w (by omega) h1]; exact lit0_fn _ (by omega)
 refine fn_Xs rfl Try.func90 rfl (rfl) (rfl) ?_
 simp only [zmc, zmn, D.strip]
 simp only [enterSt, Try.ntmps90, zlc, zln, Nat.reduceAdd, Nat.reduceSub, zr1, zr0, zca, zna]
 refine X_seq ?_
 refine X_rg fun R hR => ?_
 simp only [EVP, aops, astep, awant, aeff, St.put, zmo, zbs, if_true, zs1, zs0, zln, zna, ty_api_Node]
 with_reducible refine hR _ ?_
 clear hR R
 show X _ _ _ _
 refine X_seq ?_
 refine X_block ?_
 refine X_seq ?_
 refine X_rg fun R hR => ?_
 simp only [inr_i64, Int.reduceLE, Int.reduceNeg, aops, astep, awant, aeff, aop, abin, aint, ev, ofValue, St.put, zg1, zg0, zgd, zmo, if_true, zs1, zs0, and_self]
 with_reducible refine hR _ ?_
 clear hR R
 show X _ _ _ _
 refine X_ite (by simp only [ev, zg1, zg0, zgd]; exact rfl) ?_ ?_
 ·intro b1
  have c1 := b1
  try simp only [decide_eq_true_eq, ge_iff_le] at c1
  refine X_seq ?_
  refine X_rg fun R hR => ?_
  simp only [EVP, inr_u8, Int.reduceLE, aops, astep, awant, aeff, aop, afill, astore, ev, ofValue, St.put, gd_int, cl_int, gd_agg, cl_agg, zmc, zmn, zg1, zg0, zgd, zmo, if_true, zs1, zs0, zlc, zln, zd1, zd0, zt1, zt0, zca, zna, Nat.reduceAdd, Nat.reduceLeDiff, Nat.zero_add, and_self, decide_true, ty_api_Node, st_api_Node, sta_api_Node, c1]
  with_reducible refine hR _ ?_
  clear hR R
  show X _ _ _ _
  refine X_ret ?_
  show ∃ d, resD _ _ _ = some d ∧ _ ∧ _
  refine ⟨_, by simp only [resD, resAll, resOne, resTup, Try.results90, EVP, mkD, ty_api_Node, zg1, zg0, zd0, zt1, zt0, zlc, zln, Nat.reduceAdd, Nat.reduceLeDiff, Nat.zero_add, if_true, zmo]; exact rfl, ?_, ?_⟩
  ·first | (simp [D.under, D.unders]; done) | (exfalso; simp_all; done)
  ·first | (simp [D.strip, D.strips, Own.st, litT, leafT, dN, dNs, es, c1]; done) | (rw [litT, if_neg (by omega), if_neg (by omega)]; simp [D.strip, D.strips, Own.st, dN_strip, leafT, dN, dNs, es]; done) | (exfalso; simp_all; done)
 ·intro b2
  have c2 := b2
  try simp only [decide_eq_false_iff_not, Int.not_le, ge_iff_le] at c2
  refine X_seq ?_
  refine X_rg fun R hR => ?_
  simp only [inr_i64, Int.reduceLE, Int.reduceNeg, aops, astep, awant, aeff, aop, abin, aint, ev, ofValue, St.put, zg1, zg0, zgd, zmo, if_true, zs1, zs0, and_self, b2]
  with_reducible refine hR _ ?_
  clear hR R
  show X _ _ _ _
  refine X_ite (by simp only [ev, zg1, zg0, zgd]; exact rfl) ?_ ?_
  ·intro b3
   have c3 := b3
   try simp only [beq_iff_eq] at c3
   refine X_seq ?_
   refine X_rg fun R hR => ?_
   simp only [EVP, inr_i64, inr_u8, Int.reduceLE, Int.reduceNeg, aops, astep, awant, aeff, aop, afill, abuild, astore, ev, ofValue, St.put, pcall, gd_int, cl_int, gd_agg, cl_agg, gd_slice, cl_slice, zmc, zmn, zg1, zg0, zgd, zmo, if_true, zs1, zs0, zlc, zln, zd1, zd0, zt1, zt0, zca, zna, Nat.reduceAdd, Nat.reduceLeDiff, Nat.reduceLT, Nat.zero_add, Bool.and_true, and_self, List.all_cons, List.all_nil, beq_self_eq_true, Nat.reduceMul, rng_2, ty_api_Node, st_api_Node, sta_api_Node, und_api_Node, inf_api_Node_eq, inf_api_Node_size, inf_api_Node_zero, any90, dN_cells, dN_good, sl, litm_fn, lit1_fn, c3]
   with_reducible refine hR _ ?_
   clear hR R
   show X _ _ _ _
   refine X_ret ?_
   show ∃ d, resD _ _ _ = some d ∧ _ ∧ _
   refine ⟨_, by simp only [resD, resAll, resOne, resTup, Try.results90, EVP, mkD, ty_api_Node, zg1, zg0, zd0, zt1, zt0, zlc, zln, Nat.reduceAdd, Nat.reduceLeDiff, Nat.zero_add, if_true, zmo]; exact rfl, ?_, ?_⟩
   ·first | (simp [D.under, D.unders, dN_under]; done) | (exfalso; simp_all; done)
   ·first | (simp [D.strip, D.strips, Own.st, litT, leafT, dN, dNs, es, c3]; done) | (rw [litT, if_neg (by omega), if_neg (by omega)]; simp [D.strip, D.strips, Own.st, dN_strip, leafT, dN, dNs, es]; done) | (exfalso; simp_all; done)
  ·intro b4
   have c4 := b4
   try simp only [ne_eq, beq_eq_false_iff_ne] at c4
   refine X_skip ?_
   show X _ _ _ _
   refine X_seq ?_
   have hr := hrec (by omega) (by omega)
   refine X_rg fun R hR => ?_
   simp only [EVP, inr_u8, Int.reduceLE, Int.reduceNeg, aops, astep, awant, aeff, aop, afill, abuild, astore, ev, ofValue, St.put, pcall, gd_int, cl_int, gd_agg, cl_agg, gd_slice, cl_slice, zmc, zmn, zg1, zg0, zgd, zmo, if_true, zs1, zs0, zlc, zln, zd1, zd0, zt1, zt0, zca, zna, Nat.reduceAdd, Nat.reduceLeDiff, Nat.reduceLT, Nat.zero_add, Bool.and_true, and_self, List.all_cons, List.all_nil, beq_self_eq_true, Nat.reduceMul, rng_1, ty_api_Node, st_api_Node, sta_api_Node, und_api_Node, inf_api_Node_eq, inf_api_Node_size, inf_api_Node_zero, any90, dN_cells, dN_good, sl, b4, hr]
   with_reducible refine hR _ ?_
   clear hR R
   show X _ _ _ _
   refine X_ret ?_
   show ∃ d, resD _ _ _ = some d ∧ _ ∧ _
   refine ⟨_, by simp only [resD, resAll, resOne, resTup, Try.results90, EVP, mkD, ty_api_Node, zg1, zg0, zd0, zt1, zt0, zlc, zln, Nat.reduceAdd, Nat.reduceLeDiff, Nat.zero_add, if_true, zmo]; exact rfl, ?_, ?_⟩
   ·first | (simp [D.under, D.unders, dN_under]; done) | (exfalso; simp_all; done)
   ·first | (simp [D.strip, D.strips, Own.st, litT, leafT, dN, dNs, es, c4]; done) | (rw [litT, if_neg (by omega), if_neg (by omega)]; simp [D.strip, D.strips, Own.st, leafT, dN, dNs, es]; done) | (exfalso; simp_all; done)
set_option maxRecDepth 100000 in
set_option maxHeartbeats 4000000 in
theorem eachNF {k : Nat} (any_k : (Try.prog.funcs[k]?).any (fun fn => fn.body.isSome && fn.name != "runtime.NumGoroutine") = true) (l : List Tr) (g : Tr → D) (hl : l.length ≤ 1000000) (hg : ∀ x ∈ l, fn EV k [dN x] = some (g x)) (hgd : ∀ x, (g x).good = true) (hgc : ∀ x, (g x).cells.length = 6) (hgs : ∀ x, (g x).strip = g x) (hgu : ∀ x, (g x).under 0 = true) : fn EV 88 [sl 4 (l.map dN), .fn k []] = some (sl 6 (l.map g)) := by
 refine fn_Xs rfl Try.func88 rfl (by simp only [plain, List.all_cons, List.all_nil, sl_u (dN_under 0), sl_g, D.under, D.unders, gd_fn, Bool.and_self]) (rfl) ?_
 simp only [zmc, zmn, D.strip, sl_strip (map_strip dN_strip l), D.strips]
 simp only [enterSt, Try.ntmps88, zlc, zln, Nat.reduceAdd, Nat.reduceSub, zr1, zr0, zca, zna]
 refine X_seq ?_
 refine X_rg fun R hR => ?_
 simp only [aops, astep, awant, aeff, aop, ev, ofValue, St.put, zgd, zmo, if_true, zs1, zs0, sl]
 with_reducible refine hR _ ?_
 clear hR R
 show X _ _ _ _
 refine X_seq ?_
 refine X_rg fun R hR => ?_
 simp only [aops, astep, awant, aeff, aop, ev, ofValue, St.put, zgd, zmo, if_true, zs1, zs0]
 with_reducible refine hR _ ?_
 clear hR R
 show X _ _ _ _
 refine X_seq ?_
 refine X_seq ?_
 refine X_rg fun R hR => ?_
 simp only [EVP, inr_i64, Int.reduceLE, Int.reduceNeg, aops, astep, awant, aeff, aop, ev, ofValue, St.put, zg1, zg0, zgd, zmo, if_true, zs1, zs0, zlm, and_self, und_api_Node]
 with_reducible refine hR _ ?_
 clear hR R
 show X _ _ _ _
 refine X_block ?_
 refine X_loop (fun m σ => ∃ (i : Nat) (r : List (List D)) (o : Own) (n : Nat) (nx : Nat) (lv : List Nat), σ = ⟨[slotOf σ 0, .fn k [], slotOf σ 2, slotOf σ 3, slotOf σ 4, .slice o n ((l.take i).map g), slotOf σ 6, slotOf σ 7, .slice .imm (if (l.map dN).isEmpty = true then 0 else 4) (l.map dN), .int .i64 l.length, .int .i64 i, slotOf σ 11, slotOf σ 12, slotOf σ 13, slotOf σ 14, slotOf σ 15, slotOf σ 16, slotOf σ 17, slotOf σ 18, slotOf σ 19, slotOf σ 20, slotOf σ 21], r, nx, lv⟩ ∧ m = l.length - i ∧ i ≤ l.length ∧ Acc 101 6 o n ((l.take i).map g) lv) ?_ (l.length) _ ?_
 rotate_left
 ·exact ⟨0, [], .nil, 0, 0, [], rfl, rfl, Nat.zero_le _, .nil _ _ _⟩
 rintro m σ ⟨i, r, o, n, nx, lv, hσ, rfl, hi, hacc⟩
 generalize slotOf σ = x at hσ
 subst hσ
 have hn : i < l.length → ((if (l.map dN).isEmpty = true then 0 else 4) = 4) = True := fun h => eq_true (sl_n (j := i) (by simpa using h))
 refine X_seq ?_
 refine X_rg fun R hR => ?_
 simp only [nat_lt, aops, astep, awant, aeff, aop, abin, aint, ev, St.put, zg1, zg0, zgd, zmo, if_true, zs1, zs0]
 with_reducible refine hR _ ?_
 clear hR R
 show X _ _ _ _
 refine X_seq ?_
 refine X_ite (by simp only [ev, zg1, zg0, zgd]; exact rfl) ?_ ?_
 ·intro b1
  have c1 := b1
  try simp only [decide_eq_true_eq] at c1
  refine X_skip ?_
  show X _ _ _ _
  refine X_seq ?_
  refine X_block ?_
  refine X_seq ?_
  have hlt : i < l.length := by first | assumption | (simpa using c1) | omega
  have hn1 := hn hlt
  have e1 : (l.map dN)[i]? = some (dN l[i]) := by simp [hlt]
  refine X_rg fun R hR => ?_
  simp only [EVP, app_get0, app_set0, nat_lt, nat_0, nat_to, aops, astep, awant, aeff, aop, astore, ev, St.put, zg1, zg0, zgd, zmo, zbs, if_true, zs1, zs0, zlm, zlc, zln, zd1, zd0, zt0, zca, zna, Nat.reduceAdd, Nat.reduceLeDiff, Nat.zero_add, and_self, decide_true, zis, ty_api_Node, und_api_Node, siz_api_Node, inf_api_Node_eq, dN_cells, dN_isAgg, dN_good, sl, c1, hn1, e1]
  with_reducible refine hR _ ?_
  clear hR R
  show X _ _ _ _
  have hgx := hg l[i] (List.getElem_mem hlt)
  have hgd1 := hgd l[i]
  have hgc1 := hgc l[i]
  have hap := fun fr bx => (hacc.more nx).app (P := Try.prog) (σ := ⟨fr, bx, nx + 1, nx :: lv⟩) (t := 106) (o2 := .own nx 101) (l2 := [g l[i]]) und_constfold_folded inf_constfold_folded_eq inf_constfold_folded_size (by omega) (by rw [inf_constfold_folded_bytes]; omega) inf_constfold_folded_zc (by simp; omega) (by simp)
  refine X_rg fun R hR => ?_
  simp only [EVP, app_get0, aops, astep, awant, aeff, aop, mkD, abuild, ev, ofValue, St.put, pcall, zmc, zmn, zg1, zg0, zgd, zmo, if_true, zs1, zs0, zlc, zln, zd0, zt1, zt0, zca, zna, Nat.reduceAdd, Nat.reduceLeDiff, Nat.reduceLT, Nat.zero_add, Bool.and_true, and_self, List.all_cons, List.all_nil, beq_self_eq_true, Nat.reduceMul, rng_1, ty_api_Node, und_constfold_folded, inf_constfold_folded_eq, inf_constfold_folded_size, inf_constfold_folded_zero, dN_agg, any_k, hgx, hgd1, hgc1, hap, take_succ_map hlt]
  with_reducible refine hR _ ?_
  clear hR R
  show X _ _ _ _
  have hbig : i < 9223372036854775807 := by omega
  refine X_rg fun R hR => ?_
  simp only [inr_i64, Int.reduceLE, Int.reduceNeg, aops, astep, awant, aeff, aop, abin, aint, ev, ofValue, St.put, zg1, zg0, zgd, zmo, if_true, zs1, zs0, and_self, nat_succ hbig]
  with_reducible refine hR _ ?_
  clear hR R
  show ∃ m, m < _ ∧ _
  exact ⟨l.length - (i + 1), by omega, i + 1, _, _, _, _, _, rfl, rfl, by omega, .own (by simp)⟩
 ·intro b2
  have c2 := b2
  try simp only [decide_eq_false_iff_not] at c2
  refine X_exit ?_
  show X _ _ _ _
  refine X_seq ?_
  refine X_rg fun R hR => ?_
  simp only [aops, astep, awant, aeff, aop, ev, St.put, zg1, zg0, zgd, zmo, if_true, zs1, zs0, decide_false, c2]
  with_reducible refine hR _ ?_
  clear hR R
  show X _ _ _ _
  refine X_ret ?_
  show ∃ d, resD _ _ _ = some d ∧ _ ∧ _
  refine ⟨_, by simp only [resD, resAll, resOne, resTup, Try.results88, EVP, zg1, zg0, D.good, if_true, zmo]; exact rfl, ?_, ?_⟩
  ·simp only [D.under, D.unders_all, List.all_eq_true]; intro d hd; obtain ⟨x, hx, rfl⟩ := List.mem_map.1 hd; exact hgu x
  ·have hil : i = l.length := by omega
   rw [hacc.strip, hil, List.take_length, List.map_map]
   have : (D.strip ∘ g) = g := funext hgs
   rw [this]; rfl
set_option maxRecDepth 100000 in
set_option maxHeartbeats 4000000 in
theorem eachFN {k : Nat} (any_k : (Try.prog.funcs[k]?).any (fun fn => fn.body.isSome && fn.name != "runtime.NumGoroutine") = true) (l : List Fo) (g : Fo → D) (hl : l.length ≤ 1000000) (hg : ∀ x ∈ l, fn EV k [dF x] = some (g x)) (hgd : ∀ x, (g x).good = true) (hgc : ∀ x, (g x).cells.length = 4) (hgs : ∀ x, (g x).strip = g x) (hgu : ∀ x, (g x).under 0 = true) : fn EV 91 [sl 6 (l.map dF), .fn k []] = some (sl 4 (l.map g)) := by
 refine fn_Xs rfl Try.func91 rfl (by simp only [plain, List.all_cons, List.all_nil, sl_u (dF_under 0), sl_g, D.under, D.unders, gd_fn, Bool.and_self]) (rfl) ?_
 simp only [zmc, zmn, D.strip, sl_strip (map_strip dF_strip l), D.strips]
 simp only [enterSt, Try.ntmps91, zlc, zln, Nat.reduceAdd, Nat.reduceSub, zr1, zr0, zca, zna]
 refine X_seq ?_
 refine X_rg fun R hR => ?_
 simp only [aops, astep, awant, aeff, aop, ev, ofValue, St.put, zgd, zmo, if_true, zs1, zs0, sl]
 with_reducible refine hR _ ?_
 clear hR R
 show X _ _ _ _
 refine X_seq ?_
 refine X_rg fun R hR => ?_
 simp only [aops, astep, awant, aeff, aop, ev, ofValue, St.put, zgd, zmo, if_true, zs1, zs0]
 with_reducible refine hR _ ?_
 clear hR R
 show X _ _ _ _
 refine X_seq ?_
 refine X_seq ?_
 refine X_rg fun R hR => ?_
 simp only [EVP, inr_i64, Int.reduceLE, Int.reduceNeg, aops, astep, awant, aeff, aop, ev, ofValue, St.put, zg1, zg0, zgd, zmo, if_true, zs1, zs0, zlm, and_self, und_constfold_folded]
 with_reducible refine hR _ ?_
 clear hR R
 show X _ _ _ _
 refine X_block ?_
 refine X_loop (fun m σ => ∃ (i : Nat) (r : List (List D)) (o : Own) (n : Nat) (nx : Nat) (lv : List Nat), σ = ⟨[slotOf σ 0, .fn k [], slotOf σ 2, slotOf σ 3, slotOf σ 4, .slice o n ((l.take i).map g), slotOf σ 6, slotOf σ 7, .slice .imm (if (l.map dF).isEmpty = true then 0 else 6) (l.map dF), .int .i64 l.length, .int .i64 i, slotOf σ 11, slotOf σ 12, slotOf σ 13, slotOf σ 14, slotOf σ 15, slotOf σ 16, slotOf σ 17, slotOf σ 18, slotOf σ 19, slotOf σ 20, slotOf σ 21], r, nx, lv⟩ ∧ m = l.length - i ∧ i ≤ l.length ∧ Acc 26 4 o n ((l.take i).map g) lv) ?_ (l.length) _ ?_
 rotate_left
 ·exact ⟨0, [], .nil, 0, 0, [], rfl, rfl, Nat.zero_le _, .nil _ _ _⟩
 rintro m σ ⟨i, r, o, n, nx, lv, hσ, rfl, hi, hacc⟩
 generalize slotOf σ = x at hσ
 subst hσ
 have hn : i < l.length → ((if (l.map dF).isEmpty = true then 0 else 6) = 6) = True := fun h => eq_true (sl_n (j := i) (by simpa using h))
 refine X_seq ?_
 refine X_rg fun R hR => ?_
 simp only [nat_lt, aops, astep, awant, aeff, aop, abin, aint, ev, St.put, zg1, zg0, zgd, zmo, if_true, zs1, zs0]
 with_reducible refine hR _ ?_
 clear hR R
 show X _ _ _ _
 refine X_seq ?_
 refine X_ite (by simp only [ev, zg1, zg0, zgd]; exact rfl) ?_ ?_
 ·intro b1
  have c1 := b1
  try simp only [decide_eq_true_eq] at c1
  refine X_skip ?_
  show X _ _ _ _
  refine X_seq ?_
  refine X_block ?_
  refine X_seq ?_
  have hlt : i < l.length := by first | assumption | (simpa using c1) | omega
  have hn1 := hn hlt
  have e1 : (l.map dF)[i]? = some (dF l[i]) := by simp [hlt]
  refine X_rg fun R hR => ?_
  simp only [EVP, app_get0, app_set0, nat_lt, nat_0, nat_to, aops, astep, awant, aeff, aop, astore, ev, St.put, zg1, zg0, zgd, zmo, zbs, if_true, zs1, zs0, zlm, zlc, zln, zd1, zd0, zt0, zca, zna, Nat.reduceAdd, Nat.reduceLeDiff, Nat.zero_add, and_self, decide_true, zis, ty_constfold_folded, und_constfold_folded, siz_constfold_folded, inf_constfold_folded_eq, sl, dF_cells, dF_isAgg, dF_good, c1, hn1, e1]
  with_reducible refine hR _ ?_
  clear hR R
  show X _ _ _ _
  have hgx := hg l[i] (List.getElem_mem hlt)
  have hgd1 := hgd l[i]
  have hgc1 := hgc l[i]
  have hap := fun fr bx => (hacc.more nx).app (P := Try.prog) (σ := ⟨fr, bx, nx + 1, nx :: lv⟩) (t := 24) (o2 := .own nx 26) (l2 := [g l[i]]) und_api_Node inf_api_Node_eq inf_api_Node_size (by omega) (by rw [inf_api_Node_bytes]; omega) inf_api_Node_zc (by simp; omega) (by simp)
  refine X_rg fun R hR => ?_
  simp only [EVP, app_get0, aops, astep, awant, aeff, aop, mkD, abuild, ev, ofValue, St.put, pcall, zmc, zmn, zg1, zg0, zgd, zmo, if_true, zs1, zs0, zlc, zln, zd0, zt1, zt0, zca, zna, Nat.reduceAdd, Nat.reduceLeDiff, Nat.reduceLT, Nat.zero_add, Bool.and_true, and_self, List.all_cons, List.all_nil, beq_self_eq_true, Nat.reduceMul, rng_1, und_api_Node, inf_api_Node_eq, inf_api_Node_size, inf_api_Node_zero, ty_constfold_folded, dF_agg, any_k, hgx, hgd1, hgc1, hap, take_succ_map hlt]
  with_reducible refine hR _ ?_
  clear hR R
  show X _ _ _ _
  have hbig : i < 9223372036854775807 := by omega
  refine X_rg fun R hR => ?_
  simp only [inr_i64, Int.reduceLE, Int.reduceNeg, aops, astep, awant, aeff, aop, abin, aint, ev, ofValue, St.put, zg1, zg0, zgd, zmo, if_true, zs1, zs0, and_self, nat_succ hbig]
  with_reducible refine hR _ ?_
  clear hR R
  show ∃ m, m < _ ∧ _
  exact ⟨l.length - (i + 1), by omega, i + 1, _, _, _, _, _, rfl, rfl, by omega, .own (by simp)⟩
 ·intro b2
  have c2 := b2
  try simp only [decide_eq_false_iff_not] at c2
  refine X_exit ?_
  show X _ _ _ _
  refine X_seq ?_
  refine X_rg fun R hR => ?_
  simp only [aops, astep, awant, aeff, aop, ev, St.put, zg1, zg0, zgd, zmo, if_true, zs1, zs0, decide_false, c2]
  with_reducible refine hR _ ?_
  clear hR R
  show X _ _ _ _
  refine X_ret ?_
  show ∃ d, resD _ _ _ = some d ∧ _ ∧ _
  refine ⟨_, by simp only [resD, resAll, resOne, resTup, Try.results91, EVP, zg1, zg0, D.good, if_true, zmo]; exact rfl, ?_, ?_⟩
  ·simp only [D.under, D.unders_all, List.all_eq_true]; intro d hd; obtain ⟨x, hx, rfl⟩ := List.mem_map.1 hd; exact hgu x
  ·have hil : i = l.length := by omega
   rw [hacc.strip, hil, List.take_length, List.map_map]
   have : (D.strip ∘ g) = g := funext hgs
   rw [this]; rfl
set_option maxRecDepth 100000 in
set_option maxHeartbeats 4000000 in
theorem fold1_fn (x : Fo) : fn EV 92 [dF x] = some (dN x.1) := by
 refine fn_Xs rfl Try.func92 rfl (by simp only [plain, List.all_cons, List.all_nil, dF_under 0 x, Bool.and_true, Bool.true_and]; rfl) (rfl) ?_
 simp only [zmc, zmn, dF_strip]
 simp only [enterSt, Try.ntmps92, zlc, zln, Nat.reduceAdd, Nat.reduceSub, zr1, zr0, zca, zna]
 refine X_seq ?_
 refine X_rg fun R hR => ?_
 simp only [EVP, aops, astep, awant, aeff, ev, St.put, gd_agg, cl_agg, zg0, zgd, zmo, zbs, if_true, zs1, zs0, zlc, zln, zca, zna, Nat.zero_add, ty_api_Node, sl, dF]
 with_reducible refine hR _ ?_
 clear hR R
 show X _ _ _ _
 refine X_seq ?_
 refine X_rg fun R hR => ?_
 simp only [EVP, aops, astep, awant, aeff, aop, mkD, astore, ev, St.put, zg1, zg0, zgd, zmo, if_true, zs1, zs0, zlc, zln, zd1, zd0, zt1, zt0, zca, zna, Nat.reduceAdd, Nat.reduceLeDiff, Nat.zero_add, Nat.add_zero, if_false, and_self, reduceCtorEq, ty_api_Node, ty_constfold_folded, dN_agg, dN_cells, dN_good, sl]
 with_reducible refine hR _ ?_
 clear hR R
 show X _ _ _ _
 refine X_ret ?_
 show ∃ d, resD _ _ _ = some d ∧ _ ∧ _
 refine ⟨_, by simp only [resD, resAll, resOne, resTup, Try.results92, EVP, mkD, ty_api_Node, zg1, zg0, zd0, zt1, zt0, zlc, zln, Nat.reduceAdd, Nat.reduceLeDiff, Nat.zero_add, if_true, zmo]; exact rfl, ?_, ?_⟩
 ·first | (simp [D.under, D.unders]; done) | (rw [dN_agg]; exact dN_under 0 _; done) | (exfalso; simp_all; done)
 ·first | (rw [dN_agg]; exact dN_strip _; done) | (exfalso; simp_all; done)
set_option maxRecDepth 100000 in
set_option maxHeartbeats 4000000 in
theorem value_fn (t : Tr) (f : List Fo) (hl : f.length ≤ 1000000) (hu1 : t.kind = 6 ∨ t.kind = 7 → ∃ x r, f = x :: r) (hu2 : ¬ t.kind = 1 → ¬ t.kind = 2 → ¬ t.kind = 3 → ¬ t.kind = 4 → ¬ t.kind = 5 → ¬ t.kind = 6 → ¬ t.kind = 7 → ∃ x y r, f = x :: y :: r) : fn EV 89 [dN t, sl 6 (f.map dF)] = some (.tup [.int .i64 (valueD t.kind t.num f).1, .bool (valueD t.kind t.num f).2]) := by
 refine fn_X rfl Try.func89 rfl (by simp only [plain, List.all_cons, List.all_nil, sl_u (dF_under 0), sl_g, dN_under, dN_good, Bool.and_self]) (rfl) (rfl) (rfl) ?_
 simp only [zmc, zmn, dN_strip, sl_strip (map_strip dF_strip f)]
 simp only [enterSt, Try.ntmps89, zlc, zln, Nat.reduceAdd, Nat.reduceSub, zr1, zr0, zca, zna]
 refine X_seq ?_
 refine X_rg fun R hR => ?_
 simp only [inr_i64, Int.reduceLE, Int.reduceNeg, aops, astep, awant, aeff, aop, ev, ofValue, St.put, zg0, zgd, zmo, if_true, zs1, zs0, zln, zna, and_self, dN_cells, dN_good, sl]
 with_reducible refine hR _ ?_
 clear hR R
 show X _ _ _ _
 refine X_seq ?_
 refine X_seq ?_
 refine X_rg fun R hR => ?_
 simp only [EVP, inr_i64, Int.reduceLE, Int.reduceNeg, aops, astep, awant, aeff, aop, ev, ofValue, St.put, zg1, zg0, zgd, zmo, if_true, zs1, zs0, zlm, and_self, und_constfold_folded]
 with_reducible refine hR _ ?_
 clear hR R
 show X _ _ _ _
 refine X_block ?_
 refine X_loop (fun m σ => ∃ (i : Nat) (r : List (List D)), σ = ⟨[slotOf σ 0, .slice .imm (if (f.map dF).isEmpty = true then 0 else 6) (f.map dF), .ptr 0 0, slotOf σ 3, slotOf σ 4, slotOf σ 5, slotOf σ 6, slotOf σ 7, slotOf σ 8, slotOf σ 9, .slice .imm (if (f.map dF).isEmpty = true then 0 else 6) (f.map dF), .int .i64 f.length, .int .i64 i, slotOf σ 13, slotOf σ 14, slotOf σ 15, slotOf σ 16, slotOf σ 17, slotOf σ 18, slotOf σ 19, slotOf σ 20, slotOf σ 21, slotOf σ 22, slotOf σ 23, slotOf σ 24, slotOf σ 25, slotOf σ 26, slotOf σ 27, slotOf σ 28, slotOf σ 29, slotOf σ 30, slotOf σ 31, slotOf σ 32, slotOf σ 33, slotOf σ 34, slotOf σ 35, slotOf σ 36, slotOf σ 37, slotOf σ 38, slotOf σ 39, slotOf σ 40, slotOf σ 41, slotOf σ 42, slotOf σ 43, slotOf σ 44, slotOf σ 45, slotOf σ 46, slotOf σ 47, slotOf σ 48, slotOf σ 49, slotOf σ 50, slotOf σ 51, slotOf σ 52, slotOf σ 53, slotOf σ 54, slotOf σ 55, slotOf σ 56, slotOf σ 57, slotOf σ 58, slotOf σ 59, slotOf σ 60], [.int .u8 t.kind, .int .i64 t.num, .str t.name, .slice .imm (if (t.kids.map dN).isEmpty = true then 0 else 4) (t.kids.map dN)] :: r, 0, []⟩ ∧ m = f.length - i ∧ i ≤ f.length ∧ Hid ((f.take i).all (fun x => x.2.2) = true)) ?_ (f.length) _ ?_
 rotate_left
 ·exact ⟨0, [], rfl, rfl, Nat.zero_le _, Lib.hid rfl⟩
 rintro m σ ⟨i, r, hσ, rfl, hi, hall⟩
 generalize slotOf σ = x at hσ
 subst hσ
 have hn : ∀ j, j < f.length → ((if (f.map dF).isEmpty = true then 0 else 6) = 6) = True := fun j h => eq_true (sl_n (j := j) (by simpa using h))
 refine X_seq ?_
 refine X_rg fun R hR => ?_
 simp only [nat_lt, aops, astep, awant, aeff, aop, abin, aint, ev, St.put, zg1, zg0, zgd, zmo, if_true, zs1, zs0]
 with_reducible refine hR _ ?_
 clear hR R
 show X _ _ _ _
 refine X_seq ?_
 refine X_ite (by simp only [ev, zg1, zg0, zgd]; exact rfl) ?_ ?_
 ·intro b1
  have c1 := b1
  try simp only [decide_eq_true_eq] at c1
  refine X_skip ?_
  show X _ _ _ _
  refine X_seq ?_
  refine X_block ?_
  refine X_seq ?_
  have hlt : i < f.length := by first | assumption | omega
  have hn1 := hn i hlt
  have e1 : (f.map dF)[i]? = some (dF f[i]) := by simp [hlt]
  refine X_rg fun R hR => ?_
  simp only [EVP, app_get0, app_set0, nat_lt, nat_0, nat_to, aops, astep, awant, aeff, aop, astore, ev, St.put, gd_agg, ia_agg, cl_agg, zg1, zg0, zgd, zmo, zbs, if_true, zs1, zs0, zlm, zlc, zln, zd1, zd0, zt0, zca, zna, Nat.reduceAdd, Nat.reduceLeDiff, Nat.zero_add, and_self, decide_true, zis, ty_constfold_folded, und_constfold_folded, siz_constfold_folded, inf_constfold_folded_eq, sl, dF, c1, hn1, e1]
  with_reducible refine hR _ ?_
  clear hR R
  show X _ _ _ _
  refine X_seq ?_
  refine X_rg fun R hR => ?_
  simp only [EVP, app_get0, aops, astep, awant, aeff, aop, mkD, ev, St.put, ia_bool, zg1, zg0, zgd, zmo, if_true, zs1, zs0, zlc, zln, zd1, zd0, zt1, zt0, Nat.reduceAdd, Nat.reduceLeDiff, Nat.zero_add, zft, if_false, reduceCtorEq, ty_bool, ty_constfold_folded]
  with_reducible refine hR _ ?_
  clear hR R
  show X _ _ _ _
  refine X_ite (by simp only [ev, zg1, zg0, zgd]; exact rfl) ?_ ?_
  ·intro b2
   have c2 := b2
   try simp only [znt] at c2
   refine X_seq ?_
   refine X_rg fun R hR => ?_
   simp only [inr_i64, Int.reduceLE, Int.reduceNeg, aops, astep, awant, aeff, aop, ev, ofValue, St.put, zgd, zmo, if_true, zs1, zs0, Bool.not_false, and_self, c2]
   with_reducible refine hR _ ?_
   clear hR R
   show X _ _ _ _
   refine X_ret ?_
   show resD _ _ _ = some _
   simp only [resD, resAll, resOne, resTup, Try.results89, EVP, zg1, zg0, D.good, if_true, zmo]
   first | (rw [vD_no (all_false_at (p := fun x : Fo => x.2.2) hlt (by simp_all))]; done) | (rw [vD_1 hA (by assumption)]; done) | (rw [vD_v (by simp [b1, c1, b2, c2])]; done) | (rw [vD_u hA (by simp [b1, c1, b2, c2]) hf0]; done) | (rw [vD_u hA (by simp [b1, c1, b2, c2]) hf0]; simp [b1, c1, b2, c2]; done) | (rw [vD_b hA (by simp [b1, c1, b2, c2]) hf0]; done) | (exfalso; simp_all; done)
  ·intro b3
   have c3 := b3
   try simp only [znf] at c3
   refine X_skip ?_
   show X _ _ _ _
   have hbig : i < 9223372036854775807 := by omega
   refine X_rg fun R hR => ?_
   simp only [inr_i64, Int.reduceLE, Int.reduceNeg, aops, astep, awant, aeff, aop, abin, aint, ev, ofValue, St.put, zg1, zg0, zgd, zmo, if_true, zs1, zs0, Bool.not_true, and_self, c3, nat_succ hbig]
   with_reducible refine hR _ ?_
   clear hR R
   show ∃ m, m < _ ∧ _
   exact ⟨f.length - (i + 1), by omega, i + 1, _, rfl, rfl, by omega, Lib.hid (all_take_succ hlt hall.out (by first | assumption | simpa using c2 | simp_all))⟩
 ·intro b4
  have c4 := b4
  try simp only [decide_eq_false_iff_not] at c4
  refine X_exit ?_
  show X _ _ _ _
  refine X_seq ?_
  have hA : f.all (fun x => x.2.2) = true := by have := hall.out; rw [List.take_of_length_le (by omega)] at this; exact this
  refine X_rg fun R hR => ?_
  simp only [inr_i64, Int.reduceLE, Int.reduceNeg, aops, astep, awant, aeff, aop, ev, ofValue, St.put, zgd, zmo, if_true, zs1, zs0, and_self, decide_false, c4]
  with_reducible refine hR _ ?_
  clear hR R
  show X _ _ _ _
  refine X_seq ?_
  refine X_rg fun R hR => ?_
  simp only [inr_i64, Int.reduceLE, Int.reduceNeg, aops, astep, awant, aeff, aop, ev, ofValue, St.put, zgd, zmo, if_true, zs1, zs0, and_self]
  with_reducible refine hR _ ?_
  clear hR R
  show X _ _ _ _
  refine X_seq ?_
  refine X_seq ?_
  refine X_rg fun R hR => ?_
  simp only [EVP, aops, astep, awant, aeff, aop, mkD, ev, St.put, ia_int, zg1, zg0, zgd, zmo, if_true, zs1, zs0, zlc, zln, zd0, zt1, zt0, Nat.reduceAdd, Nat.reduceLeDiff, Nat.zero_add, Nat.add_zero, zft, if_false, reduceCtorEq, ty_uint8, ty_api_Node]
  with_reducible refine hR _ ?_
  clear hR R
  show X _ _ _ _
  refine X_block ?_
  refine X_seq ?_
  refine X_rg fun R hR => ?_
  simp only [inr_u8, Int.reduceLE, aops, astep, awant, aeff, aop, abin, aint, ev, ofValue, St.put, zg1, zg0, zgd, zmo, if_true, zs1, zs0, and_self]
  with_reducible refine hR _ ?_
  clear hR R
  show X _ _ _ _
  refine X_ite (by simp only [ev, zg1, zg0, zgd]; exact rfl) ?_ ?_
  ·intro b5
   have c5 := b5
   try simp only [beq_iff_eq] at c5
   refine X_seq ?_
   refine X_rg fun R hR => ?_
   simp only [EVP, aops, astep, awant, aeff, aop, mkD, ev, ofValue, St.put, ia_int, zg1, zg0, zgd, zmo, if_true, zs1, zs0, zlc, zln, zd1, zd0, zt1, zt0, Nat.reduceAdd, Nat.reduceLeDiff, Nat.zero_add, zft, if_false, reduceCtorEq, beq_self_eq_true, ty_int, ty_api_Node, c5]
   with_reducible refine hR _ ?_
   clear hR R
   show X _ _ _ _
   refine X_ret ?_
   show resD _ _ _ = some _
   simp only [resD, resAll, resOne, resTup, Try.results89, EVP, zg1, zg0, D.good, if_true, zmo]
   first | (rw [vD_no (all_false_at (p := fun x : Fo => x.2.2) hlt (by simp_all))]; done) | (rw [vD_1 hA (by assumption)]; done) | (rw [vD_v (by simp [b4, c4, b5, c5])]; done) | (rw [vD_u hA (by simp [b4, c4, b5, c5]) hf0]; done) | (rw [vD_u hA (by simp [b4, c4, b5, c5]) hf0]; simp [b4, c4, b5, c5]; done) | (rw [vD_b hA (by simp [b4, c4, b5, c5]) hf0]; done) | (exfalso; simp_all; done)
  ·intro b6
   have c6 := b6
   try simp only [ne_eq, beq_eq_false_iff_ne] at c6
   refine X_seq ?_
   refine X_seq ?_
   refine X_rg fun R hR => ?_
   simp only [inr_u8, Int.reduceLE, aops, astep, awant, aeff, aop, abin, aint, ev, ofValue, St.put, zg1, zg0, zgd, zmo, if_true, zs1, zs0, and_self, b6]
   with_reducible refine hR _ ?_
   clear hR R
   show X _ _ _ _
   refine X_ite (by simp only [ev, zg1, zg0, zgd]; exact rfl) ?_ ?_
   ·intro b7
    have c7 := b7
    try simp only [beq_iff_eq] at c7
    refine X_skip ?_
    show X _ _ _ _
    refine X_true (by simp only [ev, zg1, zg0, zgd, beq_self_eq_true, c7]) ?_
    refine X_seq ?_
    refine X_rg fun R hR => ?_
    simp only [inr_i64, Int.reduceLE, Int.reduceNeg, aops, astep, awant, aeff, aop, ev, ofValue, St.put, zgd, zmo, if_true, zs1, zs0, and_self, beq_self_eq_true, c7]
    with_reducible refine hR _ ?_
    clear hR R
    show X _ _ _ _
    refine X_ret ?_
    show resD _ _ _ = some _
    simp only [resD, resAll, resOne, resTup, Try.results89, EVP, zg1, zg0, D.good, if_true, zmo]
    first | (rw [vD_no (all_false_at (p := fun x : Fo => x.2.2) hlt (by simp_all))]; done) | (rw [vD_1 hA (by assumption)]; done) | (rw [vD_v (by simp [c7])]; done) | (rw [vD_u hA (by simp [b4, c4, b6, c6, b7, c7]) hf0]; done) | (rw [vD_u hA (by simp [b4, c4, b6, c6, b7, c7]) hf0]; simp [b4, c4, b6, c6, b7, c7]; done) | (rw [vD_b hA (by simp [b4, c4, b6, c6, b7, c7]) hf0]; done) | (exfalso; simp_all; done)
   ·intro b8
    have c8 := b8
    try simp only [ne_eq, beq_eq_false_iff_ne] at c8
    refine X_seq ?_
    refine X_rg fun R hR => ?_
    simp only [inr_u8, Int.reduceLE, aops, astep, awant, aeff, aop, abin, aint, ev, ofValue, St.put, zg1, zg0, zgd, zmo, if_true, zs1, zs0, and_self, b8]
    with_reducible refine hR _ ?_
    clear hR R
    show X _ _ _ _
    refine X_ite (by simp only [ev, zg1, zg0, zgd]; exact rfl) ?_ ?_
    ·intro b9
     have c9 := b9
     try simp only [beq_iff_eq] at c9
     refine X_skip ?_
     show X _ _ _ _
     refine X_true (by simp only [ev, zg1, zg0, zgd, beq_self_eq_true, c9]) ?_
     refine X_seq ?_
     refine X_rg fun R hR => ?_
     simp only [inr_i64, Int.reduceLE, Int.reduceNeg, aops, astep, awant, aeff, aop, ev, ofValue, St.put, zgd, zmo, if_true, zs1, zs0, and_self, beq_self_eq_true, c9]
     with_reducible refine hR _ ?_
     clear hR R
     show X _ _ _ _
     refine X_ret ?_
     show resD _ _ _ = some _
     simp only [resD, resAll, resOne, resTup, Try.results89, EVP, zg1, zg0, D.good, if_true, zmo]
     first | (rw [vD_no (all_false_at (p := fun x : Fo => x.2.2) hlt (by simp_all))]; done) | (rw [vD_1 hA (by assumption)]; done) | (rw [vD_v (by simp [c9])]; done) | (rw [vD_u hA (by simp [b4, c4, b6, c6, b8, c8, b9, c9]) hf0]; done) | (rw [vD_u hA (by simp [b4, c4, b6, c6, b8, c8, b9, c9]) hf0]; simp [b4, c4, b6, c6, b8, c8, b9, c9]; done) | (rw [vD_b hA (by simp [b4, c4, b6, c6, b8, c8, b9, c9]) hf0]; done) | (exfalso; simp_all; done)
    ·intro b10
     have c10 := b10
     try simp only [ne_eq, beq_eq_false_iff_ne] at c10
     refine X_seq ?_
     refine X_rg fun R hR => ?_
     simp only [inr_u8, Int.reduceLE, aops, astep, awant, aeff, aop, abin, aint, ev, ofValue, St.put, zg1, zg0, zgd, zmo, if_true, zs1, zs0, and_self, b10]
     with_reducible refine hR _ ?_
     clear hR R
     show X _ _ _ _
     refine X_ite (by simp only [ev, zg1, zg0, zgd]; exact rfl) ?_ ?_
     ·intro b11
      have c11 := b11
      try simp only [beq_iff_eq] at c11
      refine X_skip ?_
      show X _ _ _ _
      refine X_true (by simp only [ev, zg1, zg0, zgd, beq_self_eq_true, c11]) ?_
      refine X_seq ?_
      refine X_rg fun R hR => ?_
      simp only [inr_i64, Int.reduceLE, Int.reduceNeg, aops, astep, awant, aeff, aop, ev, ofValue, St.put, zgd, zmo, if_true, zs1, zs0, and_self, beq_self_eq_true, c11]
      with_reducible refine hR _ ?_
      clear hR R
      show X _ _ _ _
      refine X_ret ?_
      show resD _ _ _ = some _
      simp only [resD, resAll, resOne, resTup, Try.results89, EVP, zg1, zg0, D.good, if_true, zmo]
      first | (rw [vD_no (all_false_at (p := fun x : Fo => x.2.2) hlt (by simp_all))]; done) | (rw [vD_1 hA (by assumption)]; done) | (rw [vD_v (by simp [c11])]; done) | (rw [vD_u hA (by simp [b4, c4, b6, c6, b8, c8, b10, c10, b11, c11]) hf0]; done) | (rw [vD_u hA (by simp [b4, c4, b6, c6, b8, c8, b10, c10, b11, c11]) hf0]; simp [b4, c4, b6, c6, b8, c8, b10, c10, b11, c11]; done) | (rw [vD_b hA (by simp [b4, c4, b6, c6, b8, c8, b10, c10, b11, c11]) hf0]; done) | (exfalso; simp_all; done)
     ·intro b12
      have c12 := b12
      try simp only [ne_eq, beq_eq_false_iff_ne] at c12
      refine X_rg fun R hR => ?_
      simp only [inr_u8, Int.reduceLE, aops, astep, awant, aeff, aop, abin, aint, ev, ofValue, St.put, zg1, zg0, zgd, zmo, if_true, zs1, zs0, and_self, b12]
      with_reducible refine hR _ ?_
      clear hR R
      show X _ _ _ _
      refine X_ite (by simp only [ev, zg1, zg0, zgd]; exact rfl) ?_ ?_
      ·intro b13
       have c13 := b13
       try simp only [beq_iff_eq] at c13
       refine X_seq ?_
       refine X_rg fun R hR => ?_
       simp only [inr_i64, Int.reduceLE, Int.reduceNeg, aops, astep, awant, aeff, aop, ev, ofValue, St.put, zgd, zmo, if_true, zs1, zs0, and_self, beq_self_eq_true, c13]
       with_reducible refine hR _ ?_
       clear hR R
       show X _ _ _ _
       refine X_ret ?_
       show resD _ _ _ = some _
       simp only [resD, resAll, resOne, resTup, Try.results89, EVP, zg1, zg0, D.good, if_true, zmo]
       first | (rw [vD_no (all_false_at (p := fun x : Fo => x.2.2) hlt (by simp_all))]; done) | (rw [vD_1 hA (by assumption)]; done) | (rw [vD_v (by simp [c13])]; done) | (rw [vD_u hA (by simp [b4, c4, b6, c6, b8, c8, b10, c10, b12, c12, b13, c13]) hf0]; done) | (rw [vD_u hA (by simp [b4, c4, b6, c6, b8, c8, b10, c10, b12, c12, b13, c13]) hf0]; simp [b4, c4, b6, c6, b8, c8, b10, c10, b12, c12, b13, c13]; done) | (rw [vD_b hA (by simp [b4, c4, b6, c6, b8, c8, b10, c10, b12, c12, b13, c13]) hf0]; done) | (exfalso; simp_all; done)
      ·intro b14
       have c14 := b14
       try simp only [ne_eq, beq_eq_false_iff_ne] at c14
       refine X_seq ?_
       refine X_seq ?_
       refine X_rg fun R hR => ?_
       simp only [inr_u8, Int.reduceLE, aops, astep, awant, aeff, aop, abin, aint, ev, ofValue, St.put, zg1, zg0, zgd, zmo, if_true, zs1, zs0, and_self, b14]
       with_reducible refine hR _ ?_
       clear hR R
       show X _ _ _ _
       refine X_ite (by simp only [ev, zg1, zg0, zgd]; exact rfl) ?_ ?_
       ·intro b15
        have c15 := b15
        try simp only [beq_iff_eq] at c15
        refine X_skip ?_
        show X _ _ _ _
        refine X_true (by simp only [ev, zg1, zg0, zgd, beq_self_eq_true, c15]) ?_
        obtain ⟨x0, r0, hf0⟩ := hu1 (by first | exact .inl (by assumption) | exact .inr (by assumption))
        have hn2 := hn 0 (by rw [hf0]; simp)
        have e2 : (f.map dF)[0]? = some (dF x0) := by rw [hf0]; rfl
        have hl0 : (0 : Int) < (f.length : Int) := by rw [hf0]; simp only [zlc]; omega
        refine X_rg fun R hR => ?_
        simp only [EVP, inr_i64, Int.reduceLE, Int.reduceNeg, aops, astep, awant, aeff, aop, mkD, ev, ofValue, St.put, pcall, ia_int, cl_int, zmc, zmn, zg1, zg0, zgd, zmo, if_true, zs1, zs0, zlm, zlc, zln, zd1, zd0, zt1, zt0, zca, zna, Nat.reduceAdd, Nat.reduceLeDiff, Nat.zero_add, Nat.add_zero, zft, if_false, and_self, reduceCtorEq, beq_self_eq_true, zis, ty_int, ty_uint8, ty_api_Node, ty_constfold_folded, und_constfold_folded, siz_constfold_folded, inf_constfold_folded_eq, any95, sl, dF, unary_fn, c15, hn2, e2, hl0, Int.reduceToNat]
        with_reducible refine hR _ ?_
        clear hR R
        show X _ _ _ _
        refine X_seq ?_
        refine X_rg fun R hR => ?_
        simp only [inr_i64, Int.reduceLE, Int.reduceNeg, aops, astep, awant, aeff, aop, abin, aint, ev, ofValue, St.put, zg1, zg0, zgd, zmo, if_true, zs1, zs0, and_self]
        with_reducible refine hR _ ?_
        clear hR R
        show X _ _ _ _
        refine X_ret ?_
        show resD _ _ _ = some _
        simp only [resD, resAll, resOne, resTup, Try.results89, EVP, zg1, zg0, D.good, if_true, zmo]
        first | (rw [vD_no (all_false_at (p := fun x : Fo => x.2.2) hlt (by simp_all))]; done) | (rw [vD_1 hA (by assumption)]; done) | (rw [vD_v (by simp [c15])]; done) | (rw [vD_u hA (by simp [c15]) hf0]; done) | (rw [vD_u hA (by simp [c15]) hf0]; simp [c15]; done) | (rw [vD_b hA (by simp [b4, c4, b6, c6, b8, c8, b10, c10, b12, c12, b14, c14, b15, c15]) hf0]; done) | (exfalso; simp_all; done)
       ·intro b16
        have c16 := b16
        try simp only [ne_eq, beq_eq_false_iff_ne] at c16
        refine X_rg fun R hR => ?_
        simp only [inr_u8, Int.reduceLE, aops, astep, awant, aeff, aop, abin, aint, ev, ofValue, St.put, zg1, zg0, zgd, zmo, if_true, zs1, zs0, and_self, b16]
        with_reducible refine hR _ ?_
        clear hR R
        show X _ _ _ _
        refine X_ite (by simp only [ev, zg1, zg0, zgd]; exact rfl) ?_ ?_
        ·intro b17
         have c17 := b17
         try simp only [beq_iff_eq] at c17
         obtain ⟨x0, r0, hf0⟩ := hu1 (by first | exact .inl (by assumption) | exact .inr (by assumption))
         have hn2 := hn 0 (by rw [hf0]; simp)
         have e2 : (f.map dF)[0]? = some (dF x0) := by rw [hf0]; rfl
         have hl0 : (0 : Int) < (f.length : Int) := by rw [hf0]; simp only [zlc]; omega
         refine X_rg fun R hR => ?_
         simp only [EVP, inr_i64, Int.reduceLE, Int.reduceNeg, aops, astep, awant, aeff, aop, mkD, ev, ofValue, St.put, pcall, ia_int, cl_int, zmc, zmn, zg1, zg0, zgd, zmo, if_true, zs1, zs0, zlm, zlc, zln, zd1, zd0, zt1, zt0, zca, zna, Nat.reduceAdd, Nat.reduceLeDiff, Nat.zero_add, Nat.add_zero, zft, if_false, and_self, reduceCtorEq, beq_self_eq_true, zis, ty_int, ty_uint8, ty_api_Node, ty_constfold_folded, und_constfold_folded, siz_constfold_folded, inf_constfold_folded_eq, any95, sl, dF, unary_fn, c17, hn2, e2, hl0, Int.reduceToNat]
         with_reducible refine hR _ ?_
         clear hR R
         show X _ _ _ _
         refine X_seq ?_
         refine X_rg fun R hR => ?_
         simp only [inr_i64, Int.reduceLE, Int.reduceNeg, aops, astep, awant, aeff, aop, abin, aint, ev, ofValue, St.put, zg1, zg0, zgd, zmo, if_true, zs1, zs0, and_self]
         with_reducible refine hR _ ?_
         clear hR R
         show X _ _ _ _
         refine X_ret ?_
         show resD _ _ _ = some _
         simp only [resD, resAll, resOne, resTup, Try.results89, EVP, zg1, zg0, D.good, if_true, zmo]
         first | (rw [vD_no (all_false_at (p := fun x : Fo => x.2.2) hlt (by simp_all))]; done) | (rw [vD_1 hA (by assumption)]; done) | (rw [vD_v (by simp [c17])]; done) | (rw [vD_u hA (by simp [c17]) hf0]; done) | (rw [vD_u hA (by simp [c17]) hf0]; simp [c17]; done) | (rw [vD_b hA (by simp [b4, c4, b6, c6, b8, c8, b10, c10, b12, c12, b14, c14, b16, c16, b17, c17]) hf0]; done) | (exfalso; simp_all; done)
        ·intro b18
         have c18 := b18
         try simp only [ne_eq, beq_eq_false_iff_ne] at c18
         obtain ⟨x0, y0, r0, hf0⟩ := hu2 (by assumption) (by assumption) (by assumption) (by assumption) (by assumption) (by assumption) (by assumption)
         have hn2 := hn 0 (by rw [hf0]; simp)
         have e2 : (f.map dF)[0]? = some (dF x0) := by rw [hf0]; rfl
         have e3 : (f.map dF)[1]? = some (dF y0) := by rw [hf0]; rfl
         have hl0 : (0 : Int) < (f.length : Int) := by rw [hf0]; simp only [zlc]; omega
         have hl1 : (1 : Int) < (f.length : Int) := by rw [hf0]; simp only [zlc]; omega
         refine X_rg fun R hR => ?_
         simp only [EVP, inr_i64, Int.reduceLE, Int.reduceNeg, aops, astep, awant, aeff, aop, mkD, ev, ofValue, St.put, pcall, ia_int, cl_int, zmc, zmn, zg1, zg0, zgd, zmo, if_true, zs1, zs0, zlm, zlc, zln, zd1, zd0, zt1, zt0, zca, zna, Nat.reduceAdd, Nat.reduceLeDiff, Nat.zero_add, Nat.add_zero, zft, if_false, and_self, reduceCtorEq, zis, ty_int, ty_uint8, ty_api_Node, ty_constfold_folded, und_constfold_folded, siz_constfold_folded, inf_constfold_folded_eq, any96, sl, dF, apply_fn, b18, hn2, e2, e3, hl0, hl1, Int.reduceToNat]
         with_reducible refine hR _ ?_
         clear hR R
         show X _ _ _ _
         refine X_seq ?_
         refine X_rg fun R hR => ?_
         simp only [inr_i64, Int.reduceLE, Int.reduceNeg, aops, astep, awant, aeff, aop, abin, aint, ev, ofValue, St.put, zg1, zg0, zgd, zmo, if_true, zs1, zs0, and_self]
         with_reducible refine hR _ ?_
         clear hR R
         show X _ _ _ _
         refine X_ret ?_
         show resD _ _ _ = some _
         simp only [resD, resAll, resOne, resTup, Try.results89, EVP, zg1, zg0, D.good, if_true, zmo]
         first | (rw [vD_no (all_false_at (p := fun x : Fo => x.2.2) hlt (by simp_all))]; done) | (rw [vD_1 hA (by assumption)]; done) | (rw [vD_v (by simp [c8, c10, c12, c14])]; done) | (rw [vD_u hA (by simp [c16, c18]) hf0]; done) | (rw [vD_u hA (by simp [c16, c18]) hf0]; simp []; done) | (rw [vD_b hA (by simp [c6, c8, c10, c12, c14, c16, c18]) hf0]; done) | (exfalso; simp_all; done)

/-- the shapes of valid expressions -/
theorem expr_cases {t : Tr} (h : exprB t = true) : (t.kind = 1 ∧ t.kids = [] ∧ 0 ≤ t.num) ∨ ((t.kind = 2 ∨ t.kind = 4 ∨ t.kind = 5) ∧ t.kids = []) ∨ (t.kind = 3 ∧ ∃ a, t.kids = [a] ∧ exprB a = true) ∨ ((t.kind = 6 ∨ t.kind = 7) ∧ ∃ a, t.kids = [a] ∧ exprB a = true) ∨ ((8 ≤ t.kind ∧ t.kind ≤ 23) ∧ ∃ a b, t.kids = [a, b] ∧ exprB a = true ∧ exprB b = true) := by
 cases t with
 | mk k n s c =>
  simp only [exprB, Tr.kind, Tr.kids, Tr.num] at h ⊢
  split at h
  ·simp only [zat, lenB, decide_eq_true_eq] at h
   refine .inl ⟨by assumption, ?_, h.1.1⟩
   have := h.2
   cases c <;> simp_all <;> omega
  split at h
  ·simp only [zat, lenB] at h
   refine .inr (.inl ⟨by assumption, ?_⟩)
   have := h.2
   cases c <;> simp_all <;> omega
  split at h
  ·simp only [zat, lenB, exprsB_all] at h
   refine .inr (.inr (.inl ⟨by assumption, ?_⟩))
   match c, h with
   | [a], h => exact ⟨a, rfl, by simpa using h.2⟩
   | [], h => simp at h
   | _ :: _ :: _, h => simp at h; omega
  split at h
  ·simp only [zat, lenB, exprsB_all] at h
   refine .inr (.inr (.inr (.inl ⟨by assumption, ?_⟩)))
   match c, h with
   | [a], h => exact ⟨a, rfl, by simpa using h.2⟩
   | [], h => simp at h
   | _ :: _ :: _, h => simp at h; omega
  split at h
  ·simp only [zat, lenB, exprsB_all] at h
   refine .inr (.inr (.inr (.inr ⟨by assumption, ?_⟩)))
   match c, h with
   | [a, b], h => exact ⟨a, b, rfl, by simpa using h.2⟩
   | [], h => simp at h
   | [_], h => simp at h
   | _ :: _ :: _ :: _, h => simp at h; omega
  ·cases h
theorem expr_kids {t : Tr} (h : exprB t = true) : ∀ x ∈ t.kids, exprB x = true := by
 rcases expr_cases h with ⟨_, h1, _⟩ | ⟨_, h1⟩ | ⟨_, a, h1, h2⟩ | ⟨_, a, h1, h2⟩ | ⟨_, a, b, h1, h2, h3⟩ <;> rw [h1] <;> simp_all
theorem tmod_lo (x y : Int) (h : -9223372036854775808 ≤ x) : -9223372036854775808 ≤ x.tmod y := by
 rcases Int.le_total 0 x with ha | ha
 ·have := Int.tmod_nonneg y ha; omega
 ·have h2 : x ≤ x.tmod y := by
   have := Int.natAbs_tmod x y
   have h3 : x.natAbs % y.natAbs ≤ x.natAbs := Nat.mod_le _ _
   omega
  omega
theorem wrap_lo (n : Int) : -9223372036854775808 ≤ IntKind.i64.wrap n := (wrap_inr .i64 n).1
theorem b01_lo (b : Bool) : -9223372036854775808 ≤ b01 b := by cases b <;> decide
theorem ite1 {c : Prop} [Decidable c] {p q : Int × Int} {A : Int} (h1 : A ≤ p.1) (h2 : A ≤ q.1) : A ≤ (if c then p else q).1 := by split <;> assumption
theorem apD_lo (k x y : Int) (h : -9223372036854775808 ≤ x) : -9223372036854775808 ≤ (apD k x y).1 := by
 unfold apD
 repeat' apply ite1
 all_goals first | exact wrap_lo _ | exact tmod_lo _ _ h | exact b01_lo _ | decide
theorem unD_lo (k x : Int) : -9223372036854775808 ≤ (unD k x).1 := by
 unfold unD
 repeat' apply ite1
 all_goals first | exact wrap_lo _ | exact b01_lo _ | decide
theorem foldT_lo (t : Tr) : exprB t = true → -9223372036854775808 ≤ (foldT t).2.1 := by
 induction t using Tr.ind with
 | h k n s c ih =>
  intro h
  have hc := expr_cases h
  obtain ⟨t, ht⟩ : ∃ t, t = Tr.mk k n s c := ⟨_, rfl⟩
  rw [← ht] at hc ⊢
  have ih' : ∀ x ∈ t.kids, exprB x = true → -9223372036854775808 ≤ (foldT x).2.1 := by rw [ht]; exact ih
  rw [foldT_eq]
  by_cases hv : (valueD t.kind t.num (t.kids.map foldT)).2 = true
  ·rw [if_pos hv]
   show -9223372036854775808 ≤ (valueD t.kind t.num (t.kids.map foldT)).1
   by_cases h0 : (t.kids.map foldT).all (fun x => x.2.2) = true
   ·rcases hc with ⟨h1, h2, h3⟩ | ⟨h1, h2⟩ | ⟨h1, a, h2, h3⟩ | ⟨h1, a, h2, h3⟩ | ⟨h1, a, b, h2, h3, h4⟩
    ·rw [vD_1 h0 h1]; exact (by omega : -9223372036854775808 ≤ t.num)
    ·rw [vD_v (by omega)]; decide
    ·rw [vD_v (by omega)]; decide
    ·rw [vD_u h0 h1 (r := []) (x := foldT a) (by rw [h2]; rfl)]; exact unD_lo _ _
    ·rw [vD_b h0 (by omega) (r := []) (x := foldT a) (y := foldT b) (by rw [h2]; rfl)]; exact apD_lo _ _ _ (ih' a (by rw [h2]; simp) h3)
   ·rw [vD_no (by simpa using h0)]; decide
  ·rw [if_neg hv]; exact (by decide : (-9223372036854775808 : Int) ≤ 0)
theorem Tr.kids_len (t : Tr) : t.kids.length < t.size := by
 cases t with
 | mk k n s c =>
  have : ∀ c : List Tr, c.length ≤ Tr.sizes c := by
   intro c
   induction c with
   | nil => simp
   | cons x r ih => cases x; simp only [zlc, Tr.sizes, Tr.size]; omega
  have := this c
  simp only [Tr.size, Tr.kids]; omega
theorem Tr.kid_size {t x : Tr} (h : x ∈ t.kids) : x.size < t.size := by
 cases t with
 | mk k n s c =>
  have := Tr.size_le_of_mem h
  simp only [Tr.size, Tr.kids] at this ⊢
  omega
set_option maxRecDepth 100000 in
set_option maxHeartbeats 4000000 in
theorem fold_at (t : Tr) (hs : t.size ≤ 1000000) (hx : exprB t = true) (ih : ∀ x ∈ t.kids, fn EV 84 [dN x] = some (dF (foldT x))) : fn EV 84 [dN t] = some (dF (foldT t)) := by
 have hkl := t.kids_len
 have hE : fn EV 88 [.slice .imm (if (t.kids.map dN).isEmpty = true then 0 else 4) (t.kids.map dN), .fn 84 []] = some (.slice .imm (if ((t.kids.map foldT).map dF).isEmpty = true then 0 else 6) ((t.kids.map foldT).map dF)) := by have := eachNF any84 t.kids (fun x => dF (foldT x)) (by omega) ih (fun _ => rfl) (fun _ => rfl) (fun x => dF_strip _) (fun x => dF_under 0 _); rw [show t.kids.map (fun x => dF (foldT x)) = (t.kids.map foldT).map dF from by rw [List.map_map]; rfl] at this; exact this
 have hc := expr_cases hx
 have hV : fn EV 89 [dN t, .slice .imm (if ((t.kids.map foldT).map dF).isEmpty = true then 0 else 6) ((t.kids.map foldT).map dF)] = some _ := value_fn t (t.kids.map foldT) (by simp; omega) (fun hk => by rcases hc with ⟨_, _, _⟩ | ⟨_, h1⟩ | ⟨_, a, h1, h2⟩ | ⟨_, a, h1, h2⟩ | ⟨_, a, b, h1, h2, h3⟩ <;> first | omega | (rw [h1]; exact ⟨_, _, rfl⟩)) (fun k1 k2 k3 k4 k5 k6 k7 => by rcases hc with ⟨_, _, _⟩ | ⟨_, h1⟩ | ⟨_, a, h1, h2⟩ | ⟨_, a, h1, h2⟩ | ⟨_, a, b, h1, h2, h3⟩ <;> first | omega | (rw [h1]; exact ⟨_, _, _, rfl⟩))
 have hL : (valueD t.kind t.num (t.kids.map foldT)).2 = true → fn EV 90 [.int .i64 (valueD t.kind t.num (t.kids.map foldT)).1] = some (dN (litT (valueD t.kind t.num (t.kids.map foldT)).1)) := fun hb => lit_fn _ (by have := foldT_lo t hx; rw [foldT_eq, if_pos hb] at this; exact this)
 have hC : fn EV 91 [.slice .imm (if ((t.kids.map foldT).map dF).isEmpty = true then 0 else 6) ((t.kids.map foldT).map dF), .fn 92 []] = some (.slice .imm (if (((t.kids.map foldT).map (fun x => x.1)).map dN).isEmpty = true then 0 else 4) (((t.kids.map foldT).map (fun x => x.1)).map dN)) := by have := eachFN any92 (t.kids.map foldT) (fun x => dN x.1) (by simp; omega) (fun x _ => fold1_fn x) (fun x => dN_good _) (fun x => by rw [dN_cells]; rfl) (fun x => dN_strip _) (fun x => dN_under 0 _); rw [show (t.kids.map foldT).map (fun x => dN x.1) = ((t.kids.map foldT).map (fun x => x.1)).map dN from by rw [List.map_map, List.map_map, List.map_map]; rfl] at this; exact this
 refine fn_Xs rfl Try.func84 rfl (by simp only [plain, List.all_cons, List.all_nil, dN_under, dN_good, Bool.and_self]) (rfl) ?_
 simp only [zmc, zmn, dN_strip]
 simp only [enterSt, Try.ntmps84, zlc, zln, Nat.reduceAdd, Nat.reduceSub, zr1, zr0, zca, zna]
 refine X_seq ?_
 refine X_rg fun R hR => ?_
 simp only [EVP, aops, astep, awant, aeff, ev, St.put, zg0, zgd, zmo, zbs, if_true, zs1, zs0, zlc, zln, zca, zna, Nat.zero_add, ty_constfold_folded, dN_cells, dN_good, sl]
 with_reducible refine hR _ ?_
 clear hR R
 show X _ _ _ _
 refine X_seq ?_
 refine X_rg fun R hR => ?_
 simp only [EVP, aops, astep, awant, aeff, aop, mkD, ev, St.put, pcall, ia_slice, zmc, zmn, zg1, zg0, zgd, zmo, if_true, zs1, zs0, zlc, zln, zd1, zd0, zt1, zt0, zca, zna, Nat.reduceAdd, Nat.reduceLeDiff, Nat.zero_add, zft, if_false, reduceCtorEq, ty_s_api_Node, ty_api_Node, any88, hE]
 with_reducible refine hR _ ?_
 clear hR R
 show X _ _ _ _
 refine X_seq ?_
 refine X_seq ?_
 refine X_rg fun R hR => ?_
 simp only [EVP, aops, astep, awant, aeff, aop, mkD, ev, St.put, pcall, zmc, zmn, zg1, zg0, zgd, zmo, if_true, zs1, zs0, zlc, zln, zd0, zt1, zt0, zca, zna, Nat.reduceAdd, Nat.reduceLeDiff, Nat.zero_add, ty_api_Node, any89, dN_agg, hV]
 with_reducible refine hR _ ?_
 clear hR R
 show X _ _ _ _
 refine X_seq ?_
 refine X_rg fun R hR => ?_
 simp only [aops, astep, awant, aeff, aop, ev, St.put, zg1, zg0, zgd, zmo, if_true, zs1, zs0]
 with_reducible refine hR _ ?_
 clear hR R
 show X _ _ _ _
 refine X_ite (by simp only [ev, zg1, zg0, zgd]; exact rfl) ?_ ?_
 ·intro b1
  have c1 := b1
  try simp only [znt, znf, decide_eq_true_eq, decide_eq_false_iff_not, beq_iff_eq, Int.not_lt, Int.not_le, ge_iff_le, gt_iff_lt, bne_iff_ne, ne_eq, bne_eq_false_iff_eq, beq_eq_false_iff_ne, zat, zof] at c1
  refine X_seq ?_
  refine X_rg fun R hR => ?_
  simp only [EVP, aops, astep, awant, aeff, aop, afill, astore, ev, ofValue, St.put, pcall, gd_bool, cl_bool, gd_int, cl_int, gd_agg, cl_agg, zmc, zmn, zg1, zg0, zgd, zmo, if_true, zs1, zs0, zlc, zln, zd1, zd0, zt1, zt0, zca, zna, Nat.reduceAdd, Nat.reduceLeDiff, Nat.zero_add, and_self, ty_constfold_folded, st_constfold_folded, sta_constfold_folded, any90, dN_cells, dN_good, sl, hL, b1]
  with_reducible refine hR _ ?_
  clear hR R
  show X _ _ _ _
  refine X_ret ?_
  show ∃ d, resD _ _ _ = some d ∧ _ ∧ _
  refine ⟨dF (litT (valueD t.kind t.num (t.kids.map foldT)).1, (valueD t.kind t.num (t.kids.map foldT)).1, true), by simp only [resD, resAll, resOne, Try.results84, EVP, mkD, zg1, zg0, D.isAgg]; rfl, dF_under 0 _, ?_⟩
  rw [dF_strip, foldT_eq, if_pos (by simp [b1])]
 ·intro b2
  have c2 := b2
  try simp only [znt, znf, decide_eq_true_eq, decide_eq_false_iff_not, beq_iff_eq, Int.not_lt, Int.not_le, ge_iff_le, gt_iff_lt, bne_iff_ne, ne_eq, bne_eq_false_iff_eq, beq_eq_false_iff_ne, zat, zof] at c2
  refine X_skip ?_
  show X _ _ _ _
  refine X_seq ?_
  refine X_rg fun R hR => ?_
  simp only [EVP, aops, astep, awant, aeff, aop, astore, ev, St.put, pcall, gd_slice, cl_slice, zmc, zmn, zg1, zg0, zgd, zmo, if_true, zs1, zs0, zlc, zln, zd1, zd0, zt1, zt0, zca, zna, Nat.reduceAdd, Nat.reduceLeDiff, Nat.zero_add, if_false, and_self, reduceCtorEq, ty_s_api_Node, ty_api_Node, any91, hC, b2]
  with_reducible refine hR _ ?_
  clear hR R
  show X _ _ _ _
  refine X_seq ?_
  refine X_rg fun R hR => ?_
  simp only [EVP, aops, astep, awant, aeff, aop, mkD, afill, astore, ev, ofValue, St.put, gd_agg, cl_agg, zmc, zmn, zg1, zg0, zgd, zmo, if_true, zs1, zs0, zlc, zln, zd1, zd0, zt1, zt0, zca, zna, Nat.reduceAdd, Nat.reduceLeDiff, Nat.zero_add, and_self, ty_api_Node, ty_constfold_folded, st_constfold_folded, sta_constfold_folded]
  with_reducible refine hR _ ?_
  clear hR R
  show X _ _ _ _
  refine X_ret ?_
  show ∃ d, resD _ _ _ = some d ∧ _ ∧ _
  refine ⟨dF (.mk t.kind t.num t.name ((t.kids.map foldT).map (fun x => x.1)), 0, false), by simp only [resD, resAll, resOne, Try.results84, EVP, mkD, zg1, zg0, D.isAgg]; rfl, dF_under 0 _, ?_⟩
  rw [dF_strip, foldT_eq, if_neg (by simp [b2])]
theorem fold_fn (t : Tr) (hs : t.size ≤ 1000000) (hx : exprB t = true) : fn EV 84 [dN t] = some (dF (foldT t)) := by
 induction t using Tr.ind with
 | h k n s c ih => exact fold_at _ hs hx (fun x hx' => ih x hx' (by have := Tr.kid_size hx'; omega) (expr_kids hx x hx'))
def constT (t : Tr) : Int × Bool := if exprB t then ((foldT t).2.1, (foldT t).2.2) else (0, false)
set_option maxRecDepth 100000 in
set_option maxHeartbeats 4000000 in
theorem const_fn (t : Tr) (hs : t.size ≤ 1000000) : fn EV 67 [dN t] = some (.tup [.int .i64 (constT t).1, .bool (constT t).2]) := by
 refine fn_X rfl Try.func67 rfl (by simp only [plain, List.all_cons, List.all_nil, dN_under, dN_good, Bool.and_self]) (rfl) (rfl) (rfl) ?_
 simp only [zmc, zmn, dN_strip]
 simp only [enterSt, Try.ntmps67, zlc, zln, Nat.reduceAdd, Nat.reduceSub, zr1, zr0, zca, zna]
 refine X_seq ?_
 refine X_rg fun R hR => ?_
 simp only [inr_i64, Int.reduceLE, Int.reduceNeg, aops, astep, awant, aeff, aop, ev, ofValue, St.put, zg0, zgd, zmo, if_true, zs1, zs0, zln, zna, and_self, dN_cells, dN_good, sl]
 with_reducible refine hR _ ?_
 clear hR R
 show X _ _ _ _
 refine X_seq ?_
 refine X_seq ?_
 refine X_rg fun R hR => ?_
 simp only [EVP, aops, astep, awant, aeff, aop, mkD, ev, St.put, pcall, zmc, zmn, zg1, zg0, zgd, zmo, if_true, zs1, zs0, zlc, zln, zd0, zt1, zt0, zca, zna, Nat.reduceAdd, Nat.reduceLeDiff, Nat.zero_add, ty_api_Node, any45, dN_agg, o_ast_IsExpr]
 with_reducible refine hR _ ?_
 clear hR R
 show X _ _ _ _
 refine X_ite (by simp only [ev, zg1, zg0, zgd]; exact rfl) ?_ ?_
 ·intro b1
  have c1 := b1
  try simp only [znt] at c1
  refine X_seq ?_
  refine X_rg fun R hR => ?_
  simp only [inr_i64, Int.reduceLE, Int.reduceNeg, aops, astep, awant, aeff, aop, ev, ofValue, St.put, zgd, zmo, if_true, zs1, zs0, Bool.not_false, and_self, c1]
  with_reducible refine hR _ ?_
  clear hR R
  show X _ _ _ _
  refine X_ret ?_
  show resD _ _ _ = some _
  simp only [resD, resAll, resOne, resTup, Try.results67, EVP, zg1, zg0, D.good, if_true, zmo]
  first | (simp_all [constT]; done) | (exfalso; simp_all; done)
 ·intro b2
  have c2 := b2
  try simp only [znf] at c2
  refine X_skip ?_
  show X _ _ _ _
  refine X_seq ?_
  have hF := fold_fn t hs (by simp_all)
  refine X_rg fun R hR => ?_
  simp only [EVP, aops, astep, awant, aeff, aop, mkD, astore, ev, St.put, pcall, zmc, zmn, zg1, zg0, zgd, zmo, zbs, if_true, zs1, zs0, zlc, zln, zd1, zd0, zt1, zt0, zca, zna, Nat.reduceAdd, Nat.reduceLeDiff, Nat.zero_add, Bool.not_true, and_self, ty_api_Node, ty_constfold_folded, any84, dN_agg, sl, dF_cells, dF_good, c2, hF]
  with_reducible refine hR _ ?_
  clear hR R
  show X _ _ _ _
  refine X_seq ?_
  refine X_rg fun R hR => ?_
  simp only [EVP, aops, astep, awant, aeff, aop, mkD, ev, St.put, ia_bool, ia_int, zg1, zg0, zgd, zmo, if_true, zs1, zs0, zlc, zln, zd1, zd0, zt1, zt0, Nat.reduceAdd, Nat.reduceLeDiff, Nat.zero_add, zft, if_false, reduceCtorEq, ty_int, ty_bool, ty_constfold_folded]
  with_reducible refine hR _ ?_
  clear hR R
  show X _ _ _ _
  refine X_ret ?_
  show resD _ _ _ = some _
  simp only [resD, resAll, resOne, resTup, Try.results67, EVP, zg1, zg0, D.good, if_true, zmo]
  first | (simp_all [constT]; done) | (exfalso; simp_all; done)

end Go.Proofs.Ytmglacjcefajlaa
