/- Programs that are the same, over data. -/
import Derived.Test.YtlpgapmbajblmaaBs
namespace Go.Proofs.Ytlpgapmbajblmaa
open Go.RowKit

def vdB (a b : Vd) : Bool := a.name.toList == b.name.toList && (a.kind == b.kind && (a.len == b.len && true))
def pairB {α : Type} (f : α → α → Bool) : List α → List α → Bool
 | [], [] => true
 | a :: r, b :: q => f a b && pairB f r q
 | _, _ => false
def prB (a b : Pr) : Bool := a.name.toList == b.name.toList && pairB vdB a.params b.params && eqB a.body b.body
def sameB (p q : Pg) : Bool := pairB vdB p.vars q.vars && pairB prB p.procs q.procs && eqB p.main q.main
section
variable {α : Type} {f : α → α → Bool}
theorem pairB_len : ∀ {l w : List α}, l.length ≠ w.length → pairB f l w = false
 | [], [], h => absurd rfl h
 | [], _ :: _, _ => rfl
 | _ :: _, [], _ => rfl
 | a :: r, b :: q, h => by
  have := pairB_len (l := r) (w := q) (by simpa using h)
  simp only [pairB, this, Bool.and_false]
theorem pairB_y {l w : List α} {i : Nat} (h : i < l.length) (h' : i < w.length) (hf : f l[i] w[i] = true) : pairB f (l.drop i) (w.drop i) = pairB f (l.drop (i + 1)) (w.drop (i + 1)) := by
 rw [List.drop_eq_getElem_cons h, List.drop_eq_getElem_cons h', pairB, hf, Bool.true_and]
theorem pairB_n {l w : List α} {i : Nat} (h : i < l.length) (h' : i < w.length) (hf : f l[i] w[i] = false) : pairB f (l.drop i) (w.drop i) = false := by
 rw [List.drop_eq_getElem_cons h, List.drop_eq_getElem_cons h', pairB, hf, Bool.false_and]
theorem pairB_e {l w : List α} {i : Nat} (h : l.length ≤ i) (h' : w.length ≤ i) : pairB f (l.drop i) (w.drop i) = true := by
 rw [List.drop_of_length_le h, List.drop_of_length_le h']; rfl
theorem pairB_refl (hf : ∀ a, f a a = true) : ∀ l : List α, pairB f l l = true
 | [] => rfl
 | a :: r => by simp only [pairB, hf, pairB_refl hf r, Bool.and_self]
end
theorem vdB_refl (a : Vd) : vdB a a = true := by simp [vdB]
theorem prB_refl (a : Pr) : prB a a = true := by simp [prB, pairB_refl vdB_refl, eqB_refl]
theorem sameB_refl (p : Pg) : sameB p p = true := by simp [sameB, pairB_refl vdB_refl, pairB_refl prB_refl, eqB_refl]
theorem vd_a : Try.prog.stoodInHeld 72 = false := by kernel_rfl
theorem vd_b : Try.prog.eqGuardType Try.prog.depth 72 = false := by kernel_rfl
set_option maxRecDepth 100000 in
theorem vd_eq (x y : Vd) : aggEq Try.prog [.str x.name, .int .u8 x.kind, .int .i64 x.len] [.str y.name, .int .u8 y.kind, .int .i64 y.len] fs_api_VarDecl.toList = some (vdB x y) := by
 have hl : fs_api_VarDecl.toList.length = 3 := by kernel_rfl
 match hq : fs_api_VarDecl.toList, hl with
 | [a, b, c], _ =>
  have a0 : fs_api_VarDecl.toList[0]? = some a := by rw [hq]; rfl
  have b0 : fs_api_VarDecl.toList[1]? = some b := by rw [hq]; rfl
  have c0 : fs_api_VarDecl.toList[2]? = some c := by rw [hq]; rfl
  have a1 : a.offset = 0 ∧ a.type = 9 ∧ a.name ≠ "_" := by
   have h : (fs_api_VarDecl.toList[0]?).map (fun f => (f.offset, f.type, f.name == "_")) = some (0, 9, false) := by kernel_rfl
   rw [a0] at h; simpa using h
  have b1 : b.offset = 1 ∧ b.type = 5 ∧ b.name ≠ "_" := by
   have h : (fs_api_VarDecl.toList[1]?).map (fun f => (f.offset, f.type, f.name == "_")) = some (1, 5, false) := by kernel_rfl
   rw [b0] at h; simpa using h
  have c1 : c.offset = 2 ∧ c.type = 3 ∧ c.name ≠ "_" := by
   have h : (fs_api_VarDecl.toList[2]?).map (fun f => (f.offset, f.type, f.name == "_")) = some (2, 3, false) := by kernel_rfl
   rw [c0] at h; simpa using h
  simp [aggEq, a1, b1, c1, scEq, Try.underlying9, Try.underlying5, Try.underlying3, vdB]
set_option maxRecDepth 100000 in
set_option maxHeartbeats 4000000 in
theorem vds_fn (l w : List Vd) (hl : l.length ≤ 1000000) : fn EV 62 [sl 3 (l.map dV), sl 3 (w.map dV)] = some (.bool (pairB vdB l w)) := by
 refine fn_X rfl Try.func62 rfl (by simp only [plain, List.all_cons, List.all_nil, sl_pl (f := dV) (fun _ _ => rfl), Bool.and_true]) (rfl) (rfl) (rfl) ?_
 simp only [zmc, zmn, sl_strip (map_strip (f := dV) (fun _ => rfl) _)]
 simp only [enterSt, Try.ntmps62, zlc, zln, Nat.reduceAdd, Nat.reduceSub, zr1, zr0, zca, zna]
 refine X_seq ?_
 refine X_rg fun R hR => ?_
 simp only [aops, astep, awant, aeff, aop, ev, ofValue, St.put, zgd, zmo, if_true, zs1, zs0, sl]
 with_reducible refine hR _ ?_
 clear hR R
 show X _ _ _ _
 refine X_seq ?_
 refine X_seq ?_
 refine X_rg fun R hR => ?_
 simp only [EVP, aops, astep, awant, aeff, aop, abin, aint, ev, St.put, zg1, zg0, zgd, zmo, if_true, zs1, zs0, zlm, und_api_VarDecl]
 with_reducible refine hR _ ?_
 clear hR R
 show X _ _ _ _
 refine X_ite (by simp only [ev, zg1, zg0, zgd]; exact rfl) ?_ ?_
 ·intro b1
  have c1 := b1
  try simp only [bne_iff_ne, ne_eq] at c1
  refine X_seq ?_
  refine X_rg fun R hR => ?_
  simp only [aops, astep, awant, aeff, aop, ev, ofValue, St.put, zgd, zmo, if_true, zs1, zs0, b1]
  with_reducible refine hR _ ?_
  clear hR R
  show X _ _ _ _
  refine X_ret ?_
  show resD _ _ _ = some _
  simp only [resD, resAll, resOne, resTup, Try.results62, EVP, zg1, zg0, D.good, if_true, zmo]
  rw [pairB_len (by first | omega | (simp at *; omega))]
 ·intro b2
  have c2 := b2
  try simp only [bne_eq_false_iff_eq] at c2
  refine X_skip ?_
  show X _ _ _ _
  refine X_seq ?_
  refine X_seq ?_
  refine X_rg fun R hR => ?_
  simp only [EVP, inr_i64, Int.reduceLE, Int.reduceNeg, aops, astep, awant, aeff, aop, ev, ofValue, St.put, zg1, zg0, zgd, zmo, if_true, zs1, zs0, zlm, and_self, und_api_VarDecl, b2]
  with_reducible refine hR _ ?_
  clear hR R
  show X _ _ _ _
  refine X_block ?_
  have hlm : l.length = w.length := by first | omega | (simp at *; omega)
  refine X_loop (fun m σ => ∃ (i : Nat), σ = ⟨[.slice .imm (if (l.map dV).isEmpty = true then 0 else 3) (l.map dV), .slice .imm (if (w.map dV).isEmpty = true then 0 else 3) (w.map dV), slotOf σ 2, slotOf σ 3, slotOf σ 4, slotOf σ 5, slotOf σ 6, slotOf σ 7, slotOf σ 8, slotOf σ 9, slotOf σ 10, slotOf σ 11, .int .i64 l.length, .int .i64 i, slotOf σ 14, slotOf σ 15, slotOf σ 16, slotOf σ 17, slotOf σ 18, slotOf σ 19, slotOf σ 20, slotOf σ 21, slotOf σ 22, slotOf σ 23, slotOf σ 24, slotOf σ 25], [], 0, []⟩ ∧ m = l.length - i ∧ i ≤ l.length ∧ Hid (pairB vdB l w = pairB vdB (l.drop i) (w.drop i))) ?_ (l.length) _ ?_
  rotate_left
  ·exact ⟨0, rfl, rfl, Nat.zero_le _, Lib.hid rfl⟩
  rintro m σ ⟨i, hσ, rfl, hi, ht⟩
  generalize slotOf σ = x at hσ
  subst hσ
  refine X_seq ?_
  refine X_rg fun R hR => ?_
  simp only [nat_lt, aops, astep, awant, aeff, aop, abin, aint, ev, St.put, zg1, zg0, zgd, zmo, if_true, zs1, zs0]
  with_reducible refine hR _ ?_
  clear hR R
  show X _ _ _ _
  refine X_seq ?_
  refine X_ite (by simp only [ev, zg1, zg0, zgd]; exact rfl) ?_ ?_
  ·intro b3
   have c3 := b3
   try simp only [decide_eq_true_eq] at c3
   refine X_skip ?_
   show X _ _ _ _
   refine X_seq ?_
   refine X_block ?_
   refine X_seq ?_
   refine X_rg fun R hR => ?_
   simp only [aops, astep, awant, aeff, aop, ev, St.put, zg1, zg0, zgd, zmo, if_true, zs1, zs0, b3]
   with_reducible refine hR _ ?_
   clear hR R
   show X _ _ _ _
   refine X_seq ?_
   have hlt : i < l.length := by first | assumption | omega
   have hlw : i < w.length := by omega
   have e1n : ((if (l.map dV).isEmpty = true then 0 else 3) = 3) = True := eq_true (sl_n (j := i) (by rw [zlm]; exact hlt))
   have e1 : (l.map dV)[i]? = some (.agg [.str l[i].name, .int .u8 l[i].kind, .int .i64 l[i].len]) := by rw [List.getElem?_map, List.getElem?_eq_getElem hlt]; rfl
   have e2n : ((if (w.map dV).isEmpty = true then 0 else 3) = 3) = True := eq_true (sl_n (j := i) (by rw [zlm]; exact hlw))
   have e2 : (w.map dV)[i]? = some (.agg [.str w[i].name, .int .u8 w[i].kind, .int .i64 w[i].len]) := by rw [List.getElem?_map, List.getElem?_eq_getElem hlw]; rfl
   refine X_rg fun R hR => ?_
   simp only [EVP, nat_lt, nat_0, nat_to, aops, astep, awant, aeff, aop, abin, ev, St.put, ia_agg, cl_agg, zg1, zg0, zgd, zmo, if_true, zs1, zs0, zlm, zlc, zln, Nat.reduceAdd, Nat.zero_add, and_self, zis, ty_api_VarDecl, st_api_VarDecl, und_api_VarDecl, siz_api_VarDecl, inf_api_VarDecl_eq, hlt, hlw, e1n, e1, e2n, e2, vd_a, vd_b, vd_eq]
   with_reducible refine hR _ ?_
   clear hR R
   show X _ _ _ _
   refine X_ite (by simp only [ev, zg1, zg0, zgd]; exact rfl) ?_ ?_
   ·intro b4
    have c4 := b4
    try simp only [znt] at c4
    refine X_seq ?_
    refine X_rg fun R hR => ?_
    simp only [aops, astep, awant, aeff, aop, ev, ofValue, St.put, zgd, zmo, if_true, zs1, zs0, b4]
    with_reducible refine hR _ ?_
    clear hR R
    show X _ _ _ _
    refine X_ret ?_
    show resD _ _ _ = some _
    simp only [resD, resAll, resOne, resTup, Try.results62, EVP, zg1, zg0, D.good, if_true, zmo]
    have hf : vdB l[i] w[i] = false := by first | assumption | (simp_all; done)
    rw [ht.out, pairB_n hlt hlw hf]
   ·intro b5
    have c5 := b5
    try simp only [znf] at c5
    refine X_skip ?_
    show X _ _ _ _
    have hbig : i < 9223372036854775807 := by omega
    refine X_rg fun R hR => ?_
    simp only [inr_i64, Int.reduceLE, Int.reduceNeg, aops, astep, awant, aeff, aop, abin, aint, ev, ofValue, St.put, zg1, zg0, zgd, zmo, if_true, zs1, zs0, and_self, b5, nat_succ hbig]
    with_reducible refine hR _ ?_
    clear hR R
    show ∃ m, m < _ ∧ _
    have hf : vdB l[i] w[i] = true := by first | assumption | (simp_all; done)
    exact ⟨l.length - (i + 1), by omega, i + 1, rfl, rfl, by omega, Lib.hid (by rw [ht.out, pairB_y hlt hlw hf])⟩
  ·intro b6
   have c6 := b6
   try simp only [decide_eq_false_iff_not] at c6
   refine X_exit ?_
   show X _ _ _ _
   refine X_seq ?_
   refine X_rg fun R hR => ?_
   simp only [aops, astep, awant, aeff, aop, ev, ofValue, St.put, zgd, zmo, if_true, zs1, zs0, b6]
   with_reducible refine hR _ ?_
   clear hR R
   show X _ _ _ _
   refine X_ret ?_
   show resD _ _ _ = some _
   simp only [resD, resAll, resOne, resTup, Try.results62, EVP, zg1, zg0, D.good, if_true, zmo]
   rw [ht.out, pairB_e (by omega) (by omega)]
set_option maxRecDepth 100000 in
set_option maxHeartbeats 4000000 in
theorem rvds_fn (l w : List Vd) (hl : l.length ≤ 1000000) : fn EV 52 [sl 3 (l.map dV), sl 3 (w.map dV)] = some (.bool (pairB vdB l w)) := by
 refine fn_X rfl Try.func52 rfl (by simp only [plain, List.all_cons, List.all_nil, sl_pl (f := dV) (fun _ _ => rfl), Bool.and_true]) (rfl) (rfl) (rfl) ?_
 simp only [zmc, zmn, sl_strip (map_strip (f := dV) (fun _ => rfl) _)]
 simp only [enterSt, Try.ntmps52, zlc, zln, Nat.reduceAdd, Nat.reduceSub, zr1, zr0, zca, zna]
 refine X_seq ?_
 refine X_rg fun R hR => ?_
 simp only [aops, astep, awant, aeff, aop, ev, ofValue, St.put, zgd, zmo, if_true, zs1, zs0, sl]
 with_reducible refine hR _ ?_
 clear hR R
 show X _ _ _ _
 refine X_seq ?_
 refine X_seq ?_
 refine X_rg fun R hR => ?_
 simp only [EVP, aops, astep, awant, aeff, aop, abin, aint, ev, St.put, zg1, zg0, zgd, zmo, if_true, zs1, zs0, zlm, und_api_VarDecl]
 with_reducible refine hR _ ?_
 clear hR R
 show X _ _ _ _
 refine X_ite (by simp only [ev, zg1, zg0, zgd]; exact rfl) ?_ ?_
 ·intro b1
  have c1 := b1
  try simp only [bne_iff_ne, ne_eq] at c1
  refine X_seq ?_
  refine X_rg fun R hR => ?_
  simp only [aops, astep, awant, aeff, aop, ev, ofValue, St.put, zgd, zmo, if_true, zs1, zs0, b1]
  with_reducible refine hR _ ?_
  clear hR R
  show X _ _ _ _
  refine X_ret ?_
  show resD _ _ _ = some _
  simp only [resD, resAll, resOne, resTup, Try.results52, EVP, zg1, zg0, D.good, if_true, zmo]
  rw [pairB_len (by first | omega | (simp at *; omega))]
 ·intro b2
  have c2 := b2
  try simp only [bne_eq_false_iff_eq] at c2
  refine X_skip ?_
  show X _ _ _ _
  refine X_seq ?_
  refine X_seq ?_
  refine X_rg fun R hR => ?_
  simp only [inr_i64, Int.reduceLE, Int.reduceNeg, aops, astep, awant, aeff, aop, ev, ofValue, St.put, zgd, zmo, if_true, zs1, zs0, and_self, b2]
  with_reducible refine hR _ ?_
  clear hR R
  show X _ _ _ _
  refine X_block ?_
  have hlm : l.length = w.length := by first | omega | (simp at *; omega)
  refine X_loop (fun m σ => ∃ (i : Nat), σ = ⟨[.slice .imm (if (l.map dV).isEmpty = true then 0 else 3) (l.map dV), .slice .imm (if (w.map dV).isEmpty = true then 0 else 3) (w.map dV), slotOf σ 2, slotOf σ 3, slotOf σ 4, .int .i64 i, slotOf σ 6, slotOf σ 7, slotOf σ 8, slotOf σ 9, slotOf σ 10, slotOf σ 11, slotOf σ 12, slotOf σ 13, slotOf σ 14, slotOf σ 15, slotOf σ 16, slotOf σ 17, slotOf σ 18, slotOf σ 19, slotOf σ 20, slotOf σ 21, slotOf σ 22, slotOf σ 23, slotOf σ 24, slotOf σ 25], [], 0, []⟩ ∧ m = l.length - i ∧ i ≤ l.length ∧ Hid (pairB vdB l w = pairB vdB (l.drop i) (w.drop i))) ?_ (l.length) _ ?_
  rotate_left
  ·exact ⟨0, rfl, rfl, Nat.zero_le _, Lib.hid rfl⟩
  rintro m σ ⟨i, hσ, rfl, hi, ht⟩
  generalize slotOf σ = x at hσ
  subst hσ
  refine X_seq ?_
  refine X_seq ?_
  refine X_rg fun R hR => ?_
  simp only [EVP, nat_lt, aops, astep, awant, aeff, aop, abin, aint, ev, St.put, zg1, zg0, zgd, zmo, if_true, zs1, zs0, zlm, und_api_VarDecl]
  with_reducible refine hR _ ?_
  clear hR R
  show X _ _ _ _
  refine X_ite (by simp only [ev, zg1, zg0, zgd]; exact rfl) ?_ ?_
  ·intro b3
   have c3 := b3
   try simp only [decide_eq_true_eq] at c3
   refine X_skip ?_
   show X _ _ _ _
   refine X_seq ?_
   refine X_block ?_
   refine X_seq ?_
   have hlt : i < l.length := by first | assumption | omega
   have hlw : i < w.length := by omega
   have e1n : ((if (l.map dV).isEmpty = true then 0 else 3) = 3) = True := eq_true (sl_n (j := i) (by rw [zlm]; exact hlt))
   have e1 : (l.map dV)[i]? = some (.agg [.str l[i].name, .int .u8 l[i].kind, .int .i64 l[i].len]) := by rw [List.getElem?_map, List.getElem?_eq_getElem hlt]; rfl
   have e2n : ((if (w.map dV).isEmpty = true then 0 else 3) = 3) = True := eq_true (sl_n (j := i) (by rw [zlm]; exact hlw))
   have e2 : (w.map dV)[i]? = some (.agg [.str w[i].name, .int .u8 w[i].kind, .int .i64 w[i].len]) := by rw [List.getElem?_map, List.getElem?_eq_getElem hlw]; rfl
   refine X_rg fun R hR => ?_
   simp only [EVP, nat_lt, nat_0, nat_to, aops, astep, awant, aeff, aop, abin, ev, St.put, ia_agg, cl_agg, zg1, zg0, zgd, zmo, if_true, zs1, zs0, zlm, zlc, zln, Nat.reduceAdd, Nat.zero_add, and_self, decide_true, zis, ty_api_VarDecl, st_api_VarDecl, und_api_VarDecl, siz_api_VarDecl, inf_api_VarDecl_eq, hlt, hlw, e1n, e1, e2n, e2, vd_a, vd_b, vd_eq]
   with_reducible refine hR _ ?_
   clear hR R
   show X _ _ _ _
   refine X_ite (by simp only [ev, zg1, zg0, zgd]; exact rfl) ?_ ?_
   ·intro b4
    have c4 := b4
    try simp only [znt] at c4
    refine X_seq ?_
    refine X_rg fun R hR => ?_
    simp only [aops, astep, awant, aeff, aop, ev, ofValue, St.put, zgd, zmo, if_true, zs1, zs0, b4]
    with_reducible refine hR _ ?_
    clear hR R
    show X _ _ _ _
    refine X_ret ?_
    show resD _ _ _ = some _
    simp only [resD, resAll, resOne, resTup, Try.results52, EVP, zg1, zg0, D.good, if_true, zmo]
    have hf : vdB l[i] w[i] = false := by first | assumption | (simp_all; done)
    rw [ht.out, pairB_n hlt hlw hf]
   ·intro b5
    have c5 := b5
    try simp only [znf] at c5
    refine X_skip ?_
    show X _ _ _ _
    have hbig : i < 9223372036854775807 := by omega
    refine X_rg fun R hR => ?_
    simp only [inr_i64, Int.reduceLE, Int.reduceNeg, aops, astep, awant, aeff, aop, abin, aint, ev, ofValue, St.put, zg1, zg0, zgd, zmo, if_true, zs1, zs0, and_self, b5, nat_succ hbig]
    with_reducible refine hR _ ?_
    clear hR R
    show ∃ m, m < _ ∧ _
    have hf : vdB l[i] w[i] = true := by first | assumption | (simp_all; done)
    exact ⟨l.length - (i + 1), by omega, i + 1, rfl, rfl, by omega, Lib.hid (by rw [ht.out, pairB_y hlt hlw hf])⟩
  ·intro b6
   have c6 := b6
   try simp only [decide_eq_false_iff_not] at c6
   refine X_exit ?_
   show X _ _ _ _
   refine X_seq ?_
   refine X_rg fun R hR => ?_
   simp only [aops, astep, awant, aeff, aop, ev, ofValue, St.put, zgd, zmo, if_true, zs1, zs0, b6]
   with_reducible refine hR _ ?_
   clear hR R
   show X _ _ _ _
   refine X_ret ?_
   show resD _ _ _ = some _
   simp only [resD, resAll, resOne, resTup, Try.results52, EVP, zg1, zg0, D.good, if_true, zmo]
   rw [ht.out, pairB_e (by omega) (by omega)]
set_option maxRecDepth 100000 in
set_option maxHeartbeats 4000000 in
theorem sproc_fn (a b : Pr) (hl : a.params.length ≤ 1000000) : fn EV 64 [dP a, dP b] = some (.bool (prB a b)) := by
 refine fn_X rfl Try.func64 rfl (by simp only [plain, List.all_cons, List.all_nil, dP_under, Bool.and_true, Bool.true_and]; rfl) (rfl) (rfl) (rfl) ?_
 simp only [zmc, zmn, dP_strip]
 simp only [enterSt, Try.ntmps64, zlc, zln, Nat.reduceAdd, Nat.reduceSub, zr1, zr0, zca, zna]
 refine X_seq ?_
 refine X_rg fun R hR => ?_
 simp only [aops, astep, awant, aeff, aop, ev, ofValue, St.put, gd_agg, cl_agg, zg1, zg0, zgd, zmo, if_true, zs1, zs0, zlc, zln, zca, zna, Nat.zero_add, sl, dP]
 with_reducible refine hR _ ?_
 clear hR R
 show X _ _ _ _
 refine X_seq ?_
 have h1 := vds_fn a.params b.params hl
 have h2 := o_ast_Equal a.body b.body
 simp only [sl] at h1
 refine X_y ?_
 refine Y_k 6 fun R hR => ?_
 simp only [EVP, aops, astep, awant, aeff, aop, abin, astr, mkD, ev, St.put, ia_str, zg1, zg0, zgd, zmo, if_true, zs1, zs0, zlc, zln, zd0, zt1, zt0, Nat.reduceAdd, Nat.reduceLeDiff, Nat.zero_add, Nat.add_zero, zft, if_false, reduceCtorEq, ty_string, ty_api_Proc]
 with_reducible refine hR _ ?_
 clear hR R
 simp only [zd1, zd0]
 refine Y_if 10 (by simp only [ev, zg1, zg0, zgd]; exact rfl) ?_ ?_
 ·intro b1
  have c1 := b1
  try simp only [beq_iff_eq] at c1
  refine Y_k 7 fun R hR => ?_
  simp only [EVP, aops, astep, awant, aeff, aop, mkD, ev, ofValue, St.put, pcall, ia_slice, zmc, zmn, zg1, zg0, zgd, zmo, zbs, if_true, zs1, zs0, zlc, zln, zd1, zd0, zt1, zt0, zca, zna, Nat.reduceAdd, Nat.reduceLeDiff, Nat.zero_add, zft, if_false, reduceCtorEq, beq_self_eq_true, ty_s_api_VarDecl, ty_api_Proc, any62, b1, h1]
  with_reducible refine hR _ ?_
  clear hR R
  simp only [zd1, zd0]
  refine Y_if 17 (by simp only [ev, zg1, zg0, zgd]; exact rfl) ?_ ?_
  ·intro b2
   have c2 := b2
   try simp only [znt, znf, decide_eq_true_eq, decide_eq_false_iff_not, beq_iff_eq, Int.not_lt, Int.not_le, ge_iff_le, gt_iff_lt, bne_iff_ne, ne_eq, bne_eq_false_iff_eq, beq_eq_false_iff_ne, zat, zof] at c2
   refine Y_end fun R hR => ?_
   simp only [EVP, aops, astep, awant, aeff, aop, mkD, ev, ofValue, St.put, pcall, zmc, zmn, zg1, zg0, zgd, zmo, zbs, if_true, zs1, zs0, zlc, zln, zd1, zd0, zt1, zt0, zca, zna, Nat.reduceAdd, Nat.reduceLeDiff, Nat.zero_add, if_false, reduceCtorEq, beq_self_eq_true, ty_api_Node, ty_api_Proc, any26, dN_agg, b2, h2]
   with_reducible refine hR _ ?_
   clear hR R
   show X _ _ _ _
   refine X_ret ?_
   show resD _ _ _ = some _
   simp only [resD, resAll, resOne, resTup, Try.results64, EVP, zg1, zg0, D.good, if_true, zmo] <;> (first | (simp_all [prB]; done) | ((simp only [prB]; simp_all); done) | (exfalso; simp_all; done))
  ·intro b3
   have c3 := b3
   try simp only [znt, znf, decide_eq_true_eq, decide_eq_false_iff_not, beq_iff_eq, Int.not_lt, Int.not_le, ge_iff_le, gt_iff_lt, bne_iff_ne, ne_eq, bne_eq_false_iff_eq, beq_eq_false_iff_ne, zat, zof] at c3
   refine Y_end fun R hR => ?_
   simp only [EVP, aops, astep, awant, aeff, aop, ev, ofValue, St.put, pcall, zmc, zmn, zg1, zg0, zgd, zmo, Option.map_none, zbs, if_true, zs1, zs0, zca, zna, Nat.zero_add, zft, if_false, reduceCtorEq, bq_ft, ty_api_Node, ty_api_Proc, any26, b3]
   with_reducible refine hR _ ?_
   clear hR R
   show X _ _ _ _
   refine X_ret ?_
   show resD _ _ _ = some _
   simp only [resD, resAll, resOne, resTup, Try.results64, EVP, zg1, zg0, D.good, if_true, zmo] <;> (first | (simp_all [prB]; done) | ((simp only [prB]; simp_all); done) | (exfalso; simp_all; done))
 ·intro b4
  have c4 := b4
  try simp only [ne_eq, beq_eq_false_iff_ne] at c4
  refine Y_end fun R hR => ?_
  simp only [EVP, aops, astep, awant, aeff, aop, ev, ofValue, St.put, pcall, zmc, zmn, zg1, zg0, zgd, zmo, Option.map_none, zbs, if_true, zs1, zs0, zca, zna, Nat.zero_add, zft, if_false, reduceCtorEq, bq_ft, ty_s_api_VarDecl, ty_api_Node, ty_api_Proc, any26, any62, b4]
  with_reducible refine hR _ ?_
  clear hR R
  show X _ _ _ _
  refine X_ret ?_
  show resD _ _ _ = some _
  simp only [resD, resAll, resOne, resTup, Try.results64, EVP, zg1, zg0, D.good, if_true, zmo] <;> (first | (simp_all [prB]; done) | ((simp only [prB]; simp_all); done) | (exfalso; simp_all; done))
set_option maxRecDepth 100000 in
set_option maxHeartbeats 4000000 in
theorem procs_fn (l w : List Pr) (hl : l.length ≤ 1000000) (hp : ∀ q ∈ l, q.params.length ≤ 1000000) : fn EV 63 [sl 6 (l.map dP), sl 6 (w.map dP), .fn 64 []] = some (.bool (pairB prB l w)) := by
 refine fn_X rfl Try.func63 rfl (by simp only [plain, List.all_cons, List.all_nil, sl_pl (f := dP) dP_under, Bool.and_true, Bool.true_and]; rfl) (rfl) (rfl) (rfl) ?_
 simp only [zmc, zmn, D.strip, sl_strip (map_strip (f := dP) dP_strip _), D.strips]
 simp only [enterSt, Try.ntmps63, zlc, zln, Nat.reduceAdd, Nat.reduceSub, zr1, zr0, zca, zna]
 refine X_seq ?_
 refine X_rg fun R hR => ?_
 simp only [aops, astep, awant, aeff, aop, ev, ofValue, St.put, zgd, zmo, if_true, zs1, zs0, sl]
 with_reducible refine hR _ ?_
 clear hR R
 show X _ _ _ _
 refine X_seq ?_
 refine X_seq ?_
 refine X_rg fun R hR => ?_
 simp only [EVP, aops, astep, awant, aeff, aop, abin, aint, ev, St.put, zg1, zg0, zgd, zmo, if_true, zs1, zs0, zlm, und_api_Proc]
 with_reducible refine hR _ ?_
 clear hR R
 show X _ _ _ _
 refine X_ite (by simp only [ev, zg1, zg0, zgd]; exact rfl) ?_ ?_
 ·intro b1
  have c1 := b1
  try simp only [bne_iff_ne, ne_eq] at c1
  refine X_seq ?_
  refine X_rg fun R hR => ?_
  simp only [aops, astep, awant, aeff, aop, ev, ofValue, St.put, zgd, zmo, if_true, zs1, zs0, b1]
  with_reducible refine hR _ ?_
  clear hR R
  show X _ _ _ _
  refine X_ret ?_
  show resD _ _ _ = some _
  simp only [resD, resAll, resOne, resTup, Try.results63, EVP, zg1, zg0, D.good, if_true, zmo]
  rw [pairB_len (by first | omega | (simp at *; omega))]
 ·intro b2
  have c2 := b2
  try simp only [bne_eq_false_iff_eq] at c2
  refine X_skip ?_
  show X _ _ _ _
  refine X_seq ?_
  refine X_seq ?_
  refine X_rg fun R hR => ?_
  simp only [EVP, inr_i64, Int.reduceLE, Int.reduceNeg, aops, astep, awant, aeff, aop, ev, ofValue, St.put, zg1, zg0, zgd, zmo, if_true, zs1, zs0, zlm, and_self, und_api_Proc, b2]
  with_reducible refine hR _ ?_
  clear hR R
  show X _ _ _ _
  refine X_block ?_
  have hlm : l.length = w.length := by first | omega | (simp at *; omega)
  refine X_loop (fun m σ => ∃ (i : Nat) (r : List (List D)), σ = ⟨[slotOf σ 0, .slice .imm (if (w.map dP).isEmpty = true then 0 else 6) (w.map dP), .fn 64 [], slotOf σ 3, slotOf σ 4, slotOf σ 5, slotOf σ 6, slotOf σ 7, slotOf σ 8, slotOf σ 9, slotOf σ 10, slotOf σ 11, slotOf σ 12, slotOf σ 13, slotOf σ 14, .slice .imm (if (l.map dP).isEmpty = true then 0 else 6) (l.map dP), .int .i64 l.length, .int .i64 i, slotOf σ 18, slotOf σ 19, slotOf σ 20, slotOf σ 21, slotOf σ 22, slotOf σ 23, slotOf σ 24, slotOf σ 25, slotOf σ 26, slotOf σ 27, slotOf σ 28, slotOf σ 29, slotOf σ 30, slotOf σ 31], r, 0, []⟩ ∧ m = l.length - i ∧ i ≤ l.length ∧ Hid (pairB prB l w = pairB prB (l.drop i) (w.drop i))) ?_ (l.length) _ ?_
  rotate_left
  ·exact ⟨0, [], rfl, rfl, Nat.zero_le _, Lib.hid rfl⟩
  rintro m σ ⟨i, r, hσ, rfl, hi, ht⟩
  generalize slotOf σ = x at hσ
  subst hσ
  refine X_seq ?_
  refine X_rg fun R hR => ?_
  simp only [nat_lt, aops, astep, awant, aeff, aop, abin, aint, ev, St.put, zg1, zg0, zgd, zmo, if_true, zs1, zs0]
  with_reducible refine hR _ ?_
  clear hR R
  show X _ _ _ _
  refine X_seq ?_
  refine X_ite (by simp only [ev, zg1, zg0, zgd]; exact rfl) ?_ ?_
  ·intro b3
   have c3 := b3
   try simp only [decide_eq_true_eq] at c3
   refine X_skip ?_
   show X _ _ _ _
   refine X_seq ?_
   refine X_block ?_
   refine X_seq ?_
   have hlt : i < l.length := by first | assumption | omega
   have hlw : i < w.length := by omega
   have e1n : ((if (l.map dP).isEmpty = true then 0 else 6) = 6) = True := eq_true (sl_n (j := i) (by rw [zlm]; exact hlt))
   have e1 : (l.map dP)[i]? = some (.agg [.str l[i].name, .slice .imm (if (l[i].params.map dV).isEmpty = true then 0 else 3) (l[i].params.map dV), .int .u8 l[i].body.kind, .int .i64 l[i].body.num, .str l[i].body.name, .slice .imm (if (l[i].body.kids.map dN).isEmpty = true then 0 else 4) (l[i].body.kids.map dN)]) := by rw [List.getElem?_map, List.getElem?_eq_getElem hlt]; rfl
   have e2n : ((if (w.map dP).isEmpty = true then 0 else 6) = 6) = True := eq_true (sl_n (j := i) (by rw [zlm]; exact hlw))
   have e2 : (w.map dP)[i]? = some (.agg [.str w[i].name, .slice .imm (if (w[i].params.map dV).isEmpty = true then 0 else 3) (w[i].params.map dV), .int .u8 w[i].body.kind, .int .i64 w[i].body.num, .str w[i].body.name, .slice .imm (if (w[i].body.kids.map dN).isEmpty = true then 0 else 4) (w[i].body.kids.map dN)]) := by rw [List.getElem?_map, List.getElem?_eq_getElem hlw]; rfl
   refine X_rg fun R hR => ?_
   simp only [EVP, app_get0, app_set0, nat_lt, nat_0, nat_to, aops, astep, awant, aeff, aop, astore, ev, St.put, gd_agg, ia_agg, cl_agg, zg1, zg0, zgd, zmo, zbs, if_true, zs1, zs0, zlm, zlc, zln, zd1, zd0, zt0, zca, zna, Nat.reduceAdd, Nat.reduceLeDiff, Nat.zero_add, and_self, decide_true, zis, ty_api_Proc, und_api_Proc, siz_api_Proc, inf_api_Proc_eq, hlt, e1n, e1, app_get0, app_set0, zg0, zs0, zlc, zln]
   with_reducible refine hR _ ?_
   clear hR R
   show X _ _ _ _
   refine X_seq ?_
   refine X_rg fun R hR => ?_
   simp only [EVP, app_get1, app_set1, nat_lt, nat_0, nat_to, aops, astep, awant, aeff, aop, astore, ev, St.put, gd_agg, ia_agg, cl_agg, zg1, zg0, zgd, zmo, zbs, if_true, zs1, zs0, zlm, zlc, zln, zd1, zd0, zt0, zca, zna, zaa, Nat.reduceAdd, Nat.reduceLeDiff, Nat.zero_add, and_self, zis, ty_api_Proc, und_api_Proc, siz_api_Proc, inf_api_Proc_eq, hlw, e2n, e2, zg0, zs0, zla, zlc, zln]
   with_reducible refine hR _ ?_
   clear hR R
   show X _ _ _ _
   refine X_seq ?_
   have hsp : fn EV 64 [.agg [.str l[i].name, .slice .imm (if (l[i].params.map dV).isEmpty = true then 0 else 3) (l[i].params.map dV), .int .u8 l[i].body.kind, .int .i64 l[i].body.num, .str l[i].body.name, .slice .imm (if (l[i].body.kids.map dN).isEmpty = true then 0 else 4) (l[i].body.kids.map dN)], .agg [.str w[i].name, .slice .imm (if (w[i].params.map dV).isEmpty = true then 0 else 3) (w[i].params.map dV), .int .u8 w[i].body.kind, .int .i64 w[i].body.num, .str w[i].body.name, .slice .imm (if (w[i].body.kids.map dN).isEmpty = true then 0 else 4) (w[i].body.kids.map dN)]] = some (.bool (prB l[i] w[i])) := sproc_fn l[i] w[i] (hp _ (List.getElem_mem hlt))
   refine X_rg fun R hR => ?_
   simp only [EVP, app_get0, app_get1, aops, astep, awant, aeff, aop, mkD, ev, St.put, pcall, zmc, zmn, zg1, zg0, zgd, zmo, if_true, zs1, zs0, zlc, zln, zd0, zt1, zt0, zca, zna, Nat.reduceAdd, Nat.reduceLeDiff, Nat.zero_add, ty_api_Proc, any64, hsp, app_get0, zg0, zs0, zlc, zln]
   with_reducible refine hR _ ?_
   clear hR R
   show X _ _ _ _
   refine X_ite (by simp only [ev, zg1, zg0, zgd]; exact rfl) ?_ ?_
   ·intro b4
    have c4 := b4
    try simp only [znt] at c4
    refine X_seq ?_
    refine X_rg fun R hR => ?_
    simp only [aops, astep, awant, aeff, aop, ev, ofValue, St.put, zgd, zmo, if_true, zs1, zs0, b4]
    with_reducible refine hR _ ?_
    clear hR R
    show X _ _ _ _
    refine X_ret ?_
    show resD _ _ _ = some _
    simp only [resD, resAll, resOne, resTup, Try.results63, EVP, zg1, zg0, D.good, if_true, zmo]
    have hf : prB l[i] w[i] = false := by first | assumption | (simp_all; done)
    rw [ht.out, pairB_n hlt hlw hf]
   ·intro b5
    have c5 := b5
    try simp only [znf] at c5
    refine X_skip ?_
    show X _ _ _ _
    have hbig : i < 9223372036854775807 := by omega
    refine X_rg fun R hR => ?_
    simp only [inr_i64, Int.reduceLE, Int.reduceNeg, aops, astep, awant, aeff, aop, abin, aint, ev, ofValue, St.put, zg1, zg0, zgd, zmo, if_true, zs1, zs0, and_self, b5, nat_succ hbig]
    with_reducible refine hR _ ?_
    clear hR R
    show ∃ m, m < _ ∧ _
    have hf : prB l[i] w[i] = true := by first | assumption | (simp_all; done)
    exact ⟨l.length - (i + 1), by omega, i + 1, _, rfl, rfl, by omega, Lib.hid (by rw [ht.out, pairB_y hlt hlw hf])⟩
  ·intro b6
   have c6 := b6
   try simp only [decide_eq_false_iff_not] at c6
   refine X_exit ?_
   show X _ _ _ _
   refine X_seq ?_
   refine X_rg fun R hR => ?_
   simp only [aops, astep, awant, aeff, aop, ev, ofValue, St.put, zgd, zmo, if_true, zs1, zs0, b6]
   with_reducible refine hR _ ?_
   clear hR R
   show X _ _ _ _
   refine X_ret ?_
   show resD _ _ _ = some _
   simp only [resD, resAll, resOne, resTup, Try.results63, EVP, zg1, zg0, D.good, if_true, zmo]
   rw [ht.out, pairB_e (by omega) (by omega)]
set_option maxRecDepth 100000 in
set_option maxHeartbeats 4000000 in
theorem same_fn (p q : Pg) (hv : p.vars.length ≤ 1000000) (hl : p.procs.length ≤ 1000000) (hp : ∀ q ∈ p.procs, q.params.length ≤ 1000000) : fn EV 36 [dG p, dG q] = some (.bool (sameB p q)) := by
 refine fn_X rfl Try.func36 rfl (by simp only [plain, List.all_cons, List.all_nil, dG_pl, Bool.and_true]) (rfl) (rfl) (rfl) ?_
 simp only [zmc, zmn, dG_strip]
 simp only [enterSt, Try.ntmps36, zlc, zln, Nat.reduceAdd, Nat.reduceSub, zr1, zr0, zca, zna]
 refine X_seq ?_
 refine X_rg fun R hR => ?_
 simp only [aops, astep, awant, aeff, aop, ev, ofValue, St.put, zg1, zg0, zgd, zmo, if_true, zs1, zs0, zlc, zln, zca, zna, Nat.zero_add, dG_cells, dG_good]
 with_reducible refine hR _ ?_
 clear hR R
 show X _ _ _ _
 refine X_seq ?_
 have h1 := vds_fn p.vars q.vars hv
 have h2 := procs_fn p.procs q.procs hl hp
 have h3 := o_ast_Equal p.main q.main
 simp only [sl] at h1 h2
 refine X_y ?_
 refine Y_k 6 fun R hR => ?_
 simp only [EVP, aops, astep, awant, aeff, aop, mkD, ev, St.put, pcall, ia_slice, zmc, zmn, zg1, zg0, zgd, zmo, if_true, zs1, zs0, zlc, zln, zd0, zt1, zt0, zca, zna, Nat.reduceAdd, Nat.reduceLeDiff, Nat.zero_add, Nat.add_zero, zft, if_false, reduceCtorEq, ty_s_api_VarDecl, ty_api_Program, any62, h1]
 with_reducible refine hR _ ?_
 clear hR R
 simp only [zd1, zd0]
 refine Y_if 10 (by simp only [ev, zg1, zg0, zgd]; exact rfl) ?_ ?_
 ·intro b1
  have c1 := b1
  try simp only [znt, znf, decide_eq_true_eq, decide_eq_false_iff_not, beq_iff_eq, Int.not_lt, Int.not_le, ge_iff_le, gt_iff_lt, bne_iff_ne, ne_eq, bne_eq_false_iff_eq, beq_eq_false_iff_ne, zat, zof] at c1
  refine Y_k 7 fun R hR => ?_
  simp only [EVP, aops, astep, awant, aeff, aop, mkD, ev, ofValue, St.put, pcall, ia_slice, zmc, zmn, zg1, zg0, zgd, zmo, zbs, if_true, zs1, zs0, zlc, zln, zd1, zd0, zt1, zt0, zca, zna, Nat.reduceAdd, Nat.reduceLeDiff, Nat.zero_add, zft, if_false, reduceCtorEq, beq_self_eq_true, ty_s_api_Proc, ty_api_Program, any63, b1, h2]
  with_reducible refine hR _ ?_
  clear hR R
  simp only [zd1, zd0]
  refine Y_if 17 (by simp only [ev, zg1, zg0, zgd]; exact rfl) ?_ ?_
  ·intro b2
   have c2 := b2
   try simp only [znt, znf, decide_eq_true_eq, decide_eq_false_iff_not, beq_iff_eq, Int.not_lt, Int.not_le, ge_iff_le, gt_iff_lt, bne_iff_ne, ne_eq, bne_eq_false_iff_eq, beq_eq_false_iff_ne, zat, zof] at c2
   refine Y_end fun R hR => ?_
   simp only [EVP, aops, astep, awant, aeff, aop, mkD, ev, ofValue, St.put, pcall, zmc, zmn, zg1, zg0, zgd, zmo, zbs, if_true, zs1, zs0, zlc, zln, zd1, zd0, zt1, zt0, zca, zna, Nat.reduceAdd, Nat.reduceLeDiff, Nat.zero_add, if_false, reduceCtorEq, beq_self_eq_true, ty_api_Node, ty_api_Program, any26, dN_agg, b2, h3]
   with_reducible refine hR _ ?_
   clear hR R
   show X _ _ _ _
   refine X_ret ?_
   show resD _ _ _ = some _
   simp only [resD, resAll, resOne, resTup, Try.results36, EVP, zg1, zg0, D.good, if_true, zmo] <;> (first | (simp_all [sameB]; done) | ((simp only [sameB]; simp_all); done) | (exfalso; simp_all; done))
  ·intro b3
   have c3 := b3
   try simp only [znt, znf, decide_eq_true_eq, decide_eq_false_iff_not, beq_iff_eq, Int.not_lt, Int.not_le, ge_iff_le, gt_iff_lt, bne_iff_ne, ne_eq, bne_eq_false_iff_eq, beq_eq_false_iff_ne, zat, zof] at c3
   refine Y_end fun R hR => ?_
   simp only [EVP, aops, astep, awant, aeff, aop, ev, ofValue, St.put, pcall, zmc, zmn, zg1, zg0, zgd, zmo, Option.map_none, zbs, if_true, zs1, zs0, zca, zna, Nat.zero_add, zft, if_false, reduceCtorEq, bq_ft, ty_api_Node, ty_api_Program, any26, b3]
   with_reducible refine hR _ ?_
   clear hR R
   show X _ _ _ _
   refine X_ret ?_
   show resD _ _ _ = some _
   simp only [resD, resAll, resOne, resTup, Try.results36, EVP, zg1, zg0, D.good, if_true, zmo] <;> (first | (simp_all [sameB]; done) | ((simp only [sameB]; simp_all); done) | (exfalso; simp_all; done))
 ·intro b4
  have c4 := b4
  try simp only [znt, znf, decide_eq_true_eq, decide_eq_false_iff_not, beq_iff_eq, Int.not_lt, Int.not_le, ge_iff_le, gt_iff_lt, bne_iff_ne, ne_eq, bne_eq_false_iff_eq, beq_eq_false_iff_ne, zat, zof] at c4
  refine Y_end fun R hR => ?_
  simp only [EVP, aops, astep, awant, aeff, aop, ev, ofValue, St.put, pcall, zmc, zmn, zg1, zg0, zgd, zmo, Option.map_none, zbs, if_true, zs1, zs0, zca, zna, Nat.zero_add, zft, if_false, reduceCtorEq, bq_ft, ty_s_api_Proc, ty_api_Node, ty_api_Program, any26, any63, b4]
  with_reducible refine hR _ ?_
  clear hR R
  show X _ _ _ _
  refine X_ret ?_
  show resD _ _ _ = some _
  simp only [resD, resAll, resOne, resTup, Try.results36, EVP, zg1, zg0, D.good, if_true, zmo] <;> (first | (simp_all [sameB]; done) | ((simp only [sameB]; simp_all); done) | (exfalso; simp_all; done))
set_option maxRecDepth 100000 in
set_option maxHeartbeats 4000000 in
theorem rsame_fn (p q : Pg) (hv : p.vars.length ≤ 1000000) (hl : p.procs.length ≤ 1000000) (hp : ∀ q ∈ p.procs, q.params.length ≤ 1000000) : fn EV 30 [dG p, dG q] = some (.bool (sameB p q)) := by
 refine fn_X rfl Try.func30 rfl (by simp only [plain, List.all_cons, List.all_nil, dG_pl, Bool.and_true]) (rfl) (rfl) (rfl) ?_
 simp only [zmc, zmn, dG_strip]
 simp only [enterSt, Try.ntmps30, zlc, zln, Nat.reduceAdd, Nat.reduceSub, zr1, zr0, zca, zna]
 refine X_seq ?_
 refine X_rg fun R hR => ?_
 simp only [aops, astep, awant, aeff, aop, ev, ofValue, St.put, zg1, zg0, zgd, zmo, if_true, zs1, zs0, zlc, zln, zca, zna, Nat.zero_add, dG_cells, dG_good]
 with_reducible refine hR _ ?_
 clear hR R
 show X _ _ _ _
 refine X_seq ?_
 refine X_seq ?_
 have h1 := rvds_fn p.vars q.vars hv
 have h3 := o_backstepref03_Equal p.main q.main
 simp only [sl] at h1
 refine X_y ?_
 refine Y_k 7 fun R hR => ?_
 simp only [EVP, aops, astep, awant, aeff, aop, mkD, ev, St.put, pcall, ia_slice, zmc, zmn, zg1, zg0, zgd, zmo, if_true, zs1, zs0, zlc, zln, zd0, zt1, zt0, zca, zna, Nat.reduceAdd, Nat.reduceLeDiff, Nat.zero_add, Nat.add_zero, zft, if_false, reduceCtorEq, ty_s_api_VarDecl, ty_api_Program, any52, h1]
 with_reducible refine hR _ ?_
 clear hR R
 simp only [zd1, zd0]
 refine Y_if 14 (by simp only [ev, zg1, zg0, zgd]; exact rfl) ?_ ?_
 ·intro b1
  have c1 := b1
  try simp only [znt] at c1
  refine Y_end fun R hR => ?_
  simp only [EVP, aops, astep, awant, aeff, aop, abin, ev, ofValue, St.put, pcall, zmc, zmn, zg1, zg0, zgd, zmo, Option.map_none, zbs, if_true, zs1, zs0, zca, zna, Nat.zero_add, zft, if_false, reduceCtorEq, bq_tf, ty_s_api_Proc, ty_api_Node, ty_api_Program, und_api_Proc, any17, b1]
  with_reducible refine hR _ ?_
  clear hR R
  show X _ _ _ _
  refine X_true (by simp only [ev, zg1, zg0, zgd]) ?_
  refine X_seq ?_
  refine X_rg fun R hR => ?_
  simp only [aops, astep, awant, aeff, aop, ev, ofValue, St.put, zgd, zmo, if_true, zs1, zs0]
  with_reducible refine hR _ ?_
  clear hR R
  show X _ _ _ _
  refine X_ret ?_
  show resD _ _ _ = some _
  simp only [resD, resAll, resOne, resTup, Try.results30, EVP, zg1, zg0, D.good, if_true, zmo] <;> (first | (simp_all [sameB]; done) | (have q9 : pairB prB p.procs q.procs = false := pairB_len (by first | omega | (simp at *; omega)); simp [sameB, q9]; done) | (exfalso; simp_all; done))
 ·intro b2
  have c2 := b2
  try simp only [znf] at c2
  refine Y_k 9 fun R hR => ?_
  simp only [EVP, aops, astep, awant, aeff, aop, abin, aint, mkD, ev, ofValue, St.put, ia_slice, zg1, zg0, zgd, zmo, zbs, if_true, zs1, zs0, zlm, zlc, zln, zd1, zd0, zt1, zt0, Nat.reduceAdd, Nat.reduceLeDiff, Nat.zero_add, zft, if_false, reduceCtorEq, beq_self_eq_true, ty_s_api_Proc, ty_api_Program, und_api_Proc, b2]
  with_reducible refine hR _ ?_
  clear hR R
  simp only [zd1, zd0]
  refine Y_if 23 (by simp only [ev, zg1, zg0, zgd]; exact rfl) ?_ ?_
  ·intro b3
   have c3 := b3
   try simp only [bne_iff_ne, ne_eq] at c3
   refine Y_end fun R hR => ?_
   simp only [EVP, aops, astep, awant, aeff, aop, ev, ofValue, St.put, pcall, zmc, zmn, zg1, zg0, zgd, zmo, Option.map_none, zbs, if_true, zs1, zs0, zca, zna, Nat.zero_add, zft, if_false, reduceCtorEq, bq_tf, ty_api_Node, ty_api_Program, any17, b3]
   with_reducible refine hR _ ?_
   clear hR R
   show X _ _ _ _
   refine X_true (by simp only [ev, zg1, zg0, zgd]) ?_
   refine X_seq ?_
   refine X_rg fun R hR => ?_
   simp only [aops, astep, awant, aeff, aop, ev, ofValue, St.put, zgd, zmo, if_true, zs1, zs0]
   with_reducible refine hR _ ?_
   clear hR R
   show X _ _ _ _
   refine X_ret ?_
   show resD _ _ _ = some _
   simp only [resD, resAll, resOne, resTup, Try.results30, EVP, zg1, zg0, D.good, if_true, zmo] <;> (first | (simp_all [sameB]; done) | (have q9 : pairB prB p.procs q.procs = false := pairB_len (by first | omega | (simp at *; omega)); simp [sameB, q9]; done) | (exfalso; simp_all; done))
  ·intro b4
   have c4 := b4
   try simp only [bne_eq_false_iff_eq] at c4
   refine Y_end fun R hR => ?_
   simp only [EVP, aops, astep, awant, aeff, aop, mkD, ev, ofValue, St.put, pcall, zmc, zmn, zg1, zg0, zgd, zmo, zbs, if_true, zs1, zs0, zlc, zln, zd1, zd0, zt1, zt0, zca, zna, Nat.reduceAdd, Nat.reduceLeDiff, Nat.zero_add, zft, if_false, reduceCtorEq, beq_self_eq_true, ty_api_Node, ty_api_Program, any17, dN_agg, b4, h3]
   with_reducible refine hR _ ?_
   clear hR R
   show X _ _ _ _
   refine X_ite (by simp only [ev, zg1, zg0, zgd]; exact rfl) ?_ ?_
   ·intro b5
    have c5 := b5
    try simp only [znt] at c5
    refine X_seq ?_
    refine X_rg fun R hR => ?_
    simp only [aops, astep, awant, aeff, aop, ev, ofValue, St.put, zgd, zmo, if_true, zs1, zs0, b5]
    with_reducible refine hR _ ?_
    clear hR R
    show X _ _ _ _
    refine X_ret ?_
    show resD _ _ _ = some _
    simp only [resD, resAll, resOne, resTup, Try.results30, EVP, zg1, zg0, D.good, if_true, zmo] <;> (first | (simp_all [sameB]; done) | (have q9 : pairB prB p.procs q.procs = false := pairB_len (by first | omega | (simp at *; omega)); simp [sameB, q9]; done) | (exfalso; simp_all; done))
   ·intro b6
    have c6 := b6
    try simp only [znf] at c6
    refine X_skip ?_
    show X _ _ _ _
    refine X_seq ?_
    refine X_seq ?_
    refine X_rg fun R hR => ?_
    simp only [inr_i64, Int.reduceLE, Int.reduceNeg, aops, astep, awant, aeff, aop, ev, ofValue, St.put, zgd, zmo, if_true, zs1, zs0, and_self, b6]
    with_reducible refine hR _ ?_
    clear hR R
    show X _ _ _ _
    refine X_block ?_
    have g1 : pairB vdB p.vars q.vars = true := by first | assumption | (simp_all; done)
    have hlm : p.procs.length = q.procs.length := by first | omega | (simp at *; omega)
    have g3 : eqB p.main q.main = true := by first | assumption | (simp_all; done)
    refine X_loop (fun m σ => ∃ (i : Nat) (r : List (List D)), σ = ⟨[slotOf σ 0, slotOf σ 1, .ptr 0 0, .ptr 1 0, slotOf σ 4, .int .i64 i, slotOf σ 6, slotOf σ 7, slotOf σ 8, slotOf σ 9, slotOf σ 10, slotOf σ 11, slotOf σ 12, slotOf σ 13, slotOf σ 14, slotOf σ 15, slotOf σ 16, slotOf σ 17, slotOf σ 18, slotOf σ 19, slotOf σ 20, slotOf σ 21, slotOf σ 22, slotOf σ 23, slotOf σ 24, slotOf σ 25, slotOf σ 26, slotOf σ 27, slotOf σ 28, slotOf σ 29, slotOf σ 30, slotOf σ 31, slotOf σ 32, slotOf σ 33, slotOf σ 34, slotOf σ 35, slotOf σ 36, slotOf σ 37, slotOf σ 38, slotOf σ 39, slotOf σ 40, slotOf σ 41, slotOf σ 42, slotOf σ 43, slotOf σ 44, slotOf σ 45, slotOf σ 46, slotOf σ 47, slotOf σ 48, slotOf σ 49, slotOf σ 50, slotOf σ 51, slotOf σ 52, slotOf σ 53, slotOf σ 54, slotOf σ 55, slotOf σ 56, slotOf σ 57, slotOf σ 58, slotOf σ 59, slotOf σ 60, slotOf σ 61, slotOf σ 62, slotOf σ 63, slotOf σ 64, slotOf σ 65, slotOf σ 66, slotOf σ 67, slotOf σ 68], [.slice .imm (if (p.vars.map dV).isEmpty = true then 0 else 3) (p.vars.map dV), .slice .imm (if (p.procs.map dP).isEmpty = true then 0 else 6) (p.procs.map dP), .int .u8 p.main.kind, .int .i64 p.main.num, .str p.main.name, .slice .imm (if (p.main.kids.map dN).isEmpty = true then 0 else 4) (p.main.kids.map dN)] :: [.slice .imm (if (q.vars.map dV).isEmpty = true then 0 else 3) (q.vars.map dV), .slice .imm (if (q.procs.map dP).isEmpty = true then 0 else 6) (q.procs.map dP), .int .u8 q.main.kind, .int .i64 q.main.num, .str q.main.name, .slice .imm (if (q.main.kids.map dN).isEmpty = true then 0 else 4) (q.main.kids.map dN)] :: r, 0, []⟩ ∧ m = p.procs.length - i ∧ i ≤ p.procs.length ∧ Hid (pairB prB p.procs q.procs = pairB prB (p.procs.drop i) (q.procs.drop i))) ?_ (p.procs.length) _ ?_
    rotate_left
    ·exact ⟨0, [], rfl, rfl, Nat.zero_le _, Lib.hid rfl⟩
    rintro m σ ⟨i, r, hσ, rfl, hi, ht⟩
    generalize slotOf σ = x at hσ
    subst hσ
    refine X_seq ?_
    refine X_seq ?_
    refine X_rg fun R hR => ?_
    simp only [EVP, nat_lt, aops, astep, awant, aeff, aop, abin, aint, mkD, ev, St.put, ia_slice, zg1, zg0, zgd, zmo, if_true, zs1, zs0, zlm, zlc, zln, zd1, zd0, zt1, zt0, Nat.reduceAdd, Nat.reduceLeDiff, Nat.zero_add, zft, if_false, reduceCtorEq, ty_s_api_Proc, ty_api_Program, und_api_Proc]
    with_reducible refine hR _ ?_
    clear hR R
    show X _ _ _ _
    refine X_ite (by simp only [ev, zg1, zg0, zgd]; exact rfl) ?_ ?_
    ·intro b7
     have c7 := b7
     try simp only [decide_eq_true_eq] at c7
     refine X_skip ?_
     show X _ _ _ _
     refine X_seq ?_
     refine X_block ?_
     refine X_seq ?_
     have hlt : i < p.procs.length := by first | assumption | omega
     have hlw : i < q.procs.length := by omega
     have e1n : ((if (p.procs.map dP).isEmpty = true then 0 else 6) = 6) = True := eq_true (sl_n (j := i) (by rw [zlm]; exact hlt))
     have e1 : (p.procs.map dP)[i]? = some (.agg [.str p.procs[i].name, .slice .imm (if (p.procs[i].params.map dV).isEmpty = true then 0 else 3) (p.procs[i].params.map dV), .int .u8 p.procs[i].body.kind, .int .i64 p.procs[i].body.num, .str p.procs[i].body.name, .slice .imm (if (p.procs[i].body.kids.map dN).isEmpty = true then 0 else 4) (p.procs[i].body.kids.map dN)]) := by rw [List.getElem?_map, List.getElem?_eq_getElem hlt]; rfl
     have e2n : ((if (q.procs.map dP).isEmpty = true then 0 else 6) = 6) = True := eq_true (sl_n (j := i) (by rw [zlm]; exact hlw))
     have e2 : (q.procs.map dP)[i]? = some (.agg [.str q.procs[i].name, .slice .imm (if (q.procs[i].params.map dV).isEmpty = true then 0 else 3) (q.procs[i].params.map dV), .int .u8 q.procs[i].body.kind, .int .i64 q.procs[i].body.num, .str q.procs[i].body.name, .slice .imm (if (q.procs[i].body.kids.map dN).isEmpty = true then 0 else 4) (q.procs[i].body.kids.map dN)]) := by rw [List.getElem?_map, List.getElem?_eq_getElem hlw]; rfl
     refine X_rg fun R hR => ?_
     simp only [EVP, app_get0, app_get1, app_set0, app_set1, nat_lt, nat_0, nat_to, aops, astep, awant, aeff, aop, mkD, astore, ev, St.put, gd_agg, ia_agg, cl_agg, ia_slice, zg1, zg0, zgd, zmo, zbs, if_true, zs1, zs0, zlm, zlc, zln, zd1, zd0, zt1, zt0, zca, zna, zaa, Nat.reduceAdd, Nat.reduceLeDiff, Nat.zero_add, zft, if_false, and_self, reduceCtorEq, decide_true, zis, ty_s_api_Proc, ty_api_Proc, ty_api_Program, und_api_Proc, siz_api_Proc, inf_api_Proc_eq, hlt, hlw, e1n, e1, e2n, e2, app_get0, app_set0, app_get1, app_set1, zg0, zs0, zg1, zs1, zla, zlc, zln]
     with_reducible refine hR _ ?_
     clear hR R
     show X _ _ _ _
     refine X_seq ?_
     have h5 := rvds_fn p.procs[i].params q.procs[i].params (hp _ (List.getElem_mem hlt))
     have h6 := o_backstepref03_Equal p.procs[i].body q.procs[i].body
     simp only [sl] at h5
     refine X_y ?_
     refine Y_k 6 fun R hR => ?_
     simp only [EVP, app_get0, app_get1, aops, astep, awant, aeff, aop, abin, astr, mkD, ev, St.put, ia_str, zg1, zg0, zgd, zmo, if_true, zs1, zs0, zlc, zln, zd0, zt1, zt0, Nat.reduceAdd, Nat.reduceLeDiff, Nat.zero_add, Nat.add_zero, zft, if_false, reduceCtorEq, ty_string, ty_api_Proc, app_get0, app_get1, zg0, zs0, zg1, zs1, zlc, zln]
     with_reducible refine hR _ ?_
     clear hR R
     simp only [zd1, zd0]
     refine Y_if 53 (by simp only [ev, zg1, zg0, zgd]; exact rfl) ?_ ?_
     ·intro b8
      have c8 := b8
      try simp only [znt, ne_eq, beq_eq_false_iff_ne] at c8
      refine Y_end fun R hR => ?_
      simp only [EVP, aops, astep, awant, aeff, aop, ev, ofValue, St.put, pcall, zmc, zmn, zg1, zg0, zgd, zmo, Option.map_none, zbs, if_true, zs1, zs0, zca, zna, Nat.zero_add, zft, if_false, reduceCtorEq, bq_tf, ty_s_api_VarDecl, ty_api_Node, ty_api_Proc, any17, any52, b8, zg0, zs0, zg1, zs1]
      with_reducible refine hR _ ?_
      clear hR R
      show X _ _ _ _
      refine X_true (by simp only [ev, zg1, zg0, zgd]) ?_
      refine X_seq ?_
      refine X_rg fun R hR => ?_
      simp only [aops, astep, awant, aeff, aop, ev, ofValue, St.put, zgd, zmo, if_true, zs1, zs0]
      with_reducible refine hR _ ?_
      clear hR R
      show X _ _ _ _
      refine X_ret ?_
      show resD _ _ _ = some _
      simp only [resD, resAll, resOne, resTup, Try.results30, EVP, zg1, zg0, D.good, if_true, zmo]
      have hf : prB p.procs[i] q.procs[i] = false := by first | (simp_all [prB]; done) | (simp only [prB]; simp_all; done)
      rw [sameB, ht.out, pairB_n hlt hlw hf, Bool.and_false, Bool.false_and]
     ·intro b9
      have c9 := b9
      try simp only [znf, beq_iff_eq] at c9
      refine Y_k 8 fun R hR => ?_
      simp only [EVP, app_get0, app_get1, aops, astep, awant, aeff, aop, mkD, ev, ofValue, St.put, pcall, ia_slice, zmc, zmn, zg1, zg0, zgd, zmo, zbs, if_true, zs1, zs0, zlc, zln, zd1, zd0, zt1, zt0, zca, zna, Nat.reduceAdd, Nat.reduceLeDiff, Nat.zero_add, zft, if_false, reduceCtorEq, beq_self_eq_true, ty_s_api_VarDecl, ty_api_Proc, any52, b9, h5, app_get0, app_get1, zg0, zs0, zg1, zs1, zlc, zln]
      with_reducible refine hR _ ?_
      clear hR R
      simp only [zd1, zd0]
      refine Y_if 61 (by simp only [ev, zg1, zg0, zgd]; exact rfl) ?_ ?_
      ·intro b10
       have c10 := b10
       try simp only [znt] at c10
       refine Y_end fun R hR => ?_
       simp only [EVP, aops, astep, awant, aeff, aop, ev, ofValue, St.put, pcall, zmc, zmn, zg1, zg0, zgd, zmo, Option.map_none, zbs, if_true, zs1, zs0, zca, zna, Nat.zero_add, zft, if_false, reduceCtorEq, bq_tf, ty_api_Node, ty_api_Proc, any17, b10, zg0, zs0, zg1, zs1]
       with_reducible refine hR _ ?_
       clear hR R
       show X _ _ _ _
       refine X_true (by simp only [ev, zg1, zg0, zgd]) ?_
       refine X_seq ?_
       refine X_rg fun R hR => ?_
       simp only [aops, astep, awant, aeff, aop, ev, ofValue, St.put, zgd, zmo, if_true, zs1, zs0]
       with_reducible refine hR _ ?_
       clear hR R
       show X _ _ _ _
       refine X_ret ?_
       show resD _ _ _ = some _
       simp only [resD, resAll, resOne, resTup, Try.results30, EVP, zg1, zg0, D.good, if_true, zmo]
       have hf : prB p.procs[i] q.procs[i] = false := by first | (simp_all [prB]; done) | (simp only [prB]; simp_all; done)
       rw [sameB, ht.out, pairB_n hlt hlw hf, Bool.and_false, Bool.false_and]
      ·intro b11
       have c11 := b11
       try simp only [znf] at c11
       refine Y_end fun R hR => ?_
       simp only [EVP, app_get0, app_get1, aops, astep, awant, aeff, aop, mkD, ev, ofValue, St.put, pcall, zmc, zmn, zg1, zg0, zgd, zmo, zbs, if_true, zs1, zs0, zlc, zln, zd1, zd0, zt1, zt0, zca, zna, Nat.reduceAdd, Nat.reduceLeDiff, Nat.zero_add, zft, if_false, reduceCtorEq, beq_self_eq_true, ty_api_Node, ty_api_Proc, any17, dN_agg, b11, h6, app_get0, app_get1, zg0, zs0, zg1, zs1, zlc, zln]
       with_reducible refine hR _ ?_
       clear hR R
       show X _ _ _ _
       refine X_ite (by simp only [ev, zg1, zg0, zgd]; exact rfl) ?_ ?_
       ·intro b12
        have c12 := b12
        try simp only [znt] at c12
        refine X_seq ?_
        refine X_rg fun R hR => ?_
        simp only [aops, astep, awant, aeff, aop, ev, ofValue, St.put, zgd, zmo, if_true, zs1, zs0, b12]
        with_reducible refine hR _ ?_
        clear hR R
        show X _ _ _ _
        refine X_ret ?_
        show resD _ _ _ = some _
        simp only [resD, resAll, resOne, resTup, Try.results30, EVP, zg1, zg0, D.good, if_true, zmo]
        have hf : prB p.procs[i] q.procs[i] = false := by first | (simp_all [prB]; done) | (simp only [prB]; simp_all; done)
        rw [sameB, ht.out, pairB_n hlt hlw hf, Bool.and_false, Bool.false_and]
       ·intro b13
        have c13 := b13
        try simp only [znf] at c13
        refine X_skip ?_
        show X _ _ _ _
        have hbig : i < 9223372036854775807 := by omega
        refine X_rg fun R hR => ?_
        simp only [inr_i64, Int.reduceLE, Int.reduceNeg, aops, astep, awant, aeff, aop, abin, aint, ev, ofValue, St.put, zg1, zg0, zgd, zmo, if_true, zs1, zs0, and_self, b13, nat_succ hbig]
        with_reducible refine hR _ ?_
        clear hR R
        show ∃ m, m < _ ∧ _
        have hf : prB p.procs[i] q.procs[i] = true := by first | (simp_all [prB]; done) | (simp only [prB]; simp_all; done)
        exact ⟨p.procs.length - (i + 1), by omega, i + 1, _, rfl, rfl, by omega, Lib.hid (by rw [ht.out, pairB_y hlt hlw hf])⟩
    ·intro b14
     have c14 := b14
     try simp only [decide_eq_false_iff_not] at c14
     refine X_exit ?_
     show X _ _ _ _
     refine X_seq ?_
     refine X_rg fun R hR => ?_
     simp only [aops, astep, awant, aeff, aop, ev, ofValue, St.put, zgd, zmo, if_true, zs1, zs0, b14]
     with_reducible refine hR _ ?_
     clear hR R
     show X _ _ _ _
     refine X_ret ?_
     show resD _ _ _ = some _
     simp only [resD, resAll, resOne, resTup, Try.results30, EVP, zg1, zg0, D.good, if_true, zmo]
     rw [sameB, g1, g3, ht.out, pairB_e (by omega) (by omega)]; rfl

end Go.Proofs.Ytlpgapmbajblmaa
